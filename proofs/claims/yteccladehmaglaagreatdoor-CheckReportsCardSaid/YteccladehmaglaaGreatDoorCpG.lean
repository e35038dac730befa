/- Texts of mine for checkReports_card, part 7. -/
import Derived.Test.YteccladehmaglaaGreatDoorCpF
set_option linter.unusedSimpArgs false
set_option linter.unusedVariables false
set_option linter.unusedSectionVars false
namespace Go.Proofs.YteccladehmaglaaGreatDoor
set_option maxRecDepth 100000
section
open Go Go.RowKit
def TP.f (_k:Nat) (a0:Int):Option (Int×Int×Ah):=some (2,a0,(⟨#[]⟩:Ah))
theorem TP.ok {k:Nat} {a0:Int} {r:Int×Int×Ah} (h:TP.f k a0=some r): Ct Tryz.prog 107 #[I a0] [] [] (λe l1=>e=.returned (.agg #[I r.1,I r.2.1,D r.2.2])/\l1=[]):=by
 refine BJ Tryz.func107 V (AV V) ?_;intro A X hh_;unfold TP.f at h;refine ksr (knp #[I 0,I 0,D noS] 43 λb1=>(AY (M 2 (AC 0 3 #[I 2,I a0,D noS] (G (Ba ?_))))));obtain rfl:=Ao h;exact Dw 0 3 V [] (Ar (B2 ⟨V,V⟩))
def TQ.f (_k:Nat) (a0:Ah):Option (Int×Int×Ah):=some (3,0,a0)
theorem TQ.ok {k:Nat} {a0:Ah} {r:Int×Int×Ah} (h:TQ.f k a0=some r): Ct Tryz.prog 108 #[D a0] [] [] (λe l1=>e=.returned (.agg #[I r.1,I r.2.1,D r.2.2])/\l1=[]):=by
 refine BJ Tryz.func108 V (AV V) ?_;intro A X hh_;unfold TQ.f at h;refine ksr (knp #[I 0,I 0,D noS] 43 λb1=>(AY (M 2 (AC 0 3 #[I 3,I 0,D a0] (G (Ba ?_))))));obtain rfl:=Ao h;exact Dw 0 3 V [] (Ar (B2 ⟨V,V⟩))
def Ki.f (_k:Nat) (a0:Ah):Option (Bool):=(cond (a0.toList == (⟨#[116,97,98,108,101]⟩:Ah).toList) (some true) (some (a0.toList == (⟨#[117,116,102,56]⟩:Ah).toList)):Option Bool).bind λq1=>some (q1)
theorem Ki.ok {k:Nat} {a0:Ah} {r:Bool} (h:Ki.f k a0=some r): Ct Tryz.prog 103 #[D a0] [] [] (λe l1=>e=.returned (bv r)/\l1=[]):=by
 refine BJ Tryz.func103 V (AV V) ?_;intro A X hh_;unfold Ki.f at h;refine ksr (M 1 (G (bnd h λq1 hq1 h=>?_)));refine CH [(2,bv q1)] (X) ?_ ?_;clear hq1;refine Ba ?_;obtain rfl:=Ao h;exact kdn V;have h:=hq1;clear hq1;refine AO (M 3 (B3 5 h (λh=>?_) λh=>?_));exact M 4 (G (AX ⟨gb (Ao h),Aj⟩));exact M 4 (G (AX ⟨gb (Ao h),Aj⟩))
def Gt.l0:Nat->(a0:List Ah)->(a1:Ah)->(J1:(Unit->Option (Bool)))->(x2:Int)->Option (Bool)
 | 0,_,_,_,_=>none
 | m3+1,a0,a1,J1,x2=>cond (decide (x2 < ((a0.length:Nat):Int))) ((B7 a0 x2).bind λx5=>cond (x5.toList == a1.toList) (some (true)) (Gt.l0 m3 a0 a1 J1 (Au (x2+1)))) (J1 ())
def Gt.f (k:Nat) (a0:List Ah) (a1:Ah):Option (Bool):=AM (λ(_:Unit)=>some (false)) (λJ1=>Gt.l0 k a0 a1 J1 0)
theorem Gt.ok {k Fw:Nat} {a0:Av} {a1:Ah} {FN:N} {Fu:AG} {r:Bool} (h:Gt.f k a0 a1=some r) (JN:AZ encS 1 FN (W Fu a0 Fw) a0): Ct Tryz.prog 109 #[W Fu a0 Fw,D a1] [] [FN] (λe l1=>e=.returned (bv r)/\l1=[]):=by
 refine BJ Tryz.func109 V (AV V) ?_;intro A X hh_;obtain ⟨JW,_⟩:=hh_;unfold Gt.f at h;refine ksr (M 1 (G ?_));obtain ⟨J1,hJ1,h⟩:=BF h;refine BG (τ:=Unit) (λt=>[]) (λt=>X) (λt=>J1 ()=some r) ?_ ?_;rintro ⟨⟩ h;subst hJ1;refine ksr (M 1 (G (Ba ?_)));obtain rfl:=Ao h;exact kdn V;refine ksr (M 1 (G (B4 (Dd (τ:=Int) (λt=>[(0,W Fu a0 Fw),(1,D a1),(5,I t)]) (λt=>X) (λm t=>Gt.l0 m a0 a1 J1 t=some r) k 0 h sb V ?_))));clear h;rintro m3 x2 h;rcases m3 with _ | m3;simp [Gt.l0] at h;simp only [Gt.l0] at h;refine AU (ksr (M 4 (G (Az h (λh=>?_) λh=>?_))));refine AK (At (AU (B4 (ksr (M 2 (bnd h λx5 hx5 h=>(Jv (T:=9) (kd:=.i64) E8 V hx5 JN λp6 e7 y8=>?_)))))));have e7:Elem _ p6 [D x5]:=e7;refine Gj V (by kernel_rfl) (by kernel_rfl) (by kernel_rfl) (by kernel_rfl) e7 JW (M 2 (G (Az h (λh=>?_) λh=>?_)));refine ksr (M 1 (G (Ba (B_ (Bm (Bm (B_ (Bm ?_))))))));obtain rfl:=Ao h;exact kdn V;exact AK (Bf (At (AO (M 3 (G (CD m3 (Au (x2+1)) (Nat.lt_succ_self _) h sb V))))));exact CX (BL (BL (CY (At (AF () h trivial V)))))
def G6.f (_k:Nat) (Be:Int) (BC:Int) (a1:Int) (a2:Int):Option (Int×Int):=cond (Be == 0) (some (a1,a2)) (some (Be,BC))
theorem G6.ok {k b0:Nat} {Be BC a1 a2:Int} {Lc E2 Ld DM:Value} {r:Int×Int} (h:G6.f k Be BC a1 a2=some r): Ct Tryz.prog 72 #[pt b0,I a1,I a2] [bk b0 #[Lc,E2,Ld,DM,I Be,I BC] 67] [] (λe l1=>e=.returned (.tuple #[])/\l1=[bk b0 #[Lc,E2,Ld,DM,I r.1,I r.2] 67]):=by
 refine BJ Tryz.func72 V (AV V) ?_;intro A X hh_;unfold G6.f at h;refine ksr (M 4 (kld 0 4 V (M 1 (G (Az h (λh=>?_) λh=>?_)))));refine AO (M 6 (AC 4 2 #[Lc,E2,Ld,DM,I a1,I a2] (knl (Dv ?_))));obtain rfl:=Ao h;exact kdn V;refine AK (Dv ?_);obtain rfl:=Ao h;exact kdn V
def Ez.f (k:Nat) (Be:Int) (BC:Int) (AI:Int) (AJ:Ah) (AD:Int) (AP:Int) (Aw:List Tree) (a2:Int) (a3:Int):Option (Int×Int):=cond (decide (a2 > a3)) ((G6.f k Be BC 6 AP).bind λr3=>some (r3.1,r3.2)) (some (Be,BC))
theorem Ez.ok {k b0 Bj:Nat} {Be BC AI AD AP a2 a3:Int} {AJ:Ah} {Aw:List Tree} {Lc E2 Ld DM:Value} {D3:N} {Bi:AG} {r:Int×Int} (h:Ez.f k Be BC AI AJ AD AP Aw a2 a3=some r) (BD:RdR (AQ 61) D3 (W Bi Aw Bj) Aw): Ct Tryz.prog 68 #[pt b0,.agg #[I AI,D AJ,I AD,I AP,W Bi Aw Bj],I a2,I a3] [bk b0 #[Lc,E2,Ld,DM,I Be,I BC] 67] [D3] (λe l1=>e=.returned (.tuple #[])/\l1=[bk b0 #[Lc,E2,Ld,DM,I r.1,I r.2] 67]):=by
 refine BJ Tryz.func68 V (AV V) ?_;intro A X hh_;obtain ⟨CC,_⟩:=hh_;unfold Ez.f at h;refine ksr (knp #[I AI,D AJ,I AD,I AP,W Bi Aw Bj] 61 λb1=>(AY (M 3 (G (Az h (λh=>?_) λh=>?_)))));refine AO (M 2 (kld 0 3 V (Ar (bnd h λr3 hr3 h=>(Bc (G6.ok hr3) V trivial (knl (Dv ?_)))))));obtain rfl:=Ao h;exact kdn V;refine AK (Dv ?_);obtain rfl:=Ao h;exact Ar (kdn V)
def Mn.f (k:Nat) (Ak:List Ah) (a1:Ah):Option (List Ah):=(Gt.f k Ak a1).bind λr1=>cond (!r1) ((apd 16 Ak [a1]).bind λl4=>some (l4)) (some (Ak))
theorem Mn.ok {k b0 Bv:Nat} {Ak r:Av} {a1:Ah} {Lc Ld DM Uq Ur:Value} {B9:N} {Bt:AG} (h:Mn.f k Ak a1=some r) (BV:AL encS 9 1 B9 (W Bt Ak Bv) Ak): Ct Tryz.prog 104 #[pt b0,D a1] [bk b0 #[Lc,W Bt Ak Bv,Ld,DM,Uq,Ur] 67,B9] [] (λe l1=>∃ (H0_:N) (A0_:AG) (c0_:Nat),AL encS 9 1 H0_ (W A0_ r c0_) r/\e=.returned (.tuple #[])/\l1=[bk b0 #[Lc,W A0_ r c0_,Ld,DM,Uq,Ur] 67,H0_]):=by
 refine BJ Tryz.func104 V (AV V) ?_;intro A X hh_;unfold Mn.f at h;refine ksr (M 4 (kld 0 1 V (M 1 (bnd h λr1 hr1 h=>(CI (Gt.ok hr1 (AL.rd BV)) ⟨(.tail _ (.head _)),Aj⟩ (M 1 (G (Az h (λh=>?_) λh=>?_))))))));refine AO (M 5 (kld 0 1 V (M 1 (Cy #[D a1] 9 1 λb3=>(Ay (bnd h λl4 hl4 h=>(Mg (ys:=[a1]) E8 V OL hl4 BV (Ms (n:=1) E8 [a1] (by kernel_rfl) V (by decide) 1 V) λh5 A6 k7 o8=>(Al (Ar (M 3 (Al (AC 1 1 #[Lc,W A6 l4 k7,Ld,DM,Uq,Ur] (knl (Dv ?_))))))))))))));obtain rfl:=Ao h;exact kdv (.tuple #[]) [bk b0 #[Lc,W A6 l4 k7,Ld,DM,Uq,Ur] 67,h5] (B2 ⟨h5,A6,k7,o8,V,V⟩);refine AK (Dv ?_);obtain rfl:=Ao h;exact kdv (.tuple #[]) [bk b0 #[Lc,W Bt Ak Bv,Ld,DM,Uq,Ur] 67,B9] (B2 ⟨B9,Bt,Bv,BV,V,V⟩)
def DL:Gf (Ah×Int×Int×Int×List (Int×Int×Ah)):=rS1 4 (λx=>[.string x.1,.int .i64 x.2.1,.int .i64 x.2.2.1,.int .i64 x.2.2.2.1]) (λ_=>⟨rfl,rfl⟩) e43 43 3 (λx=>x.2.2.2.2)
theorem Aa9 {x:Ah×Int×Int×Int×Cg} {H:N} {A:AG} {c:Nat} (h:AL e43 43 3 H (.slice A (x.2.2.2.2).length c) (x.2.2.2.2)):DL.own x H [D x.1,I x.2.1,I x.2.2.1,I x.2.2.2.1,.slice A (x.2.2.2.2).length c]:=⟨A,c,rfl,h⟩
theorem Ud {x:Ah×Int×Int×Int×Cg} {H:N} {cs:List Value} (h:DL.rd x H cs):∃ A c,cs=[D x.1,I x.2.1,I x.2.2.1,I x.2.2.2.1,.slice A (x.2.2.2.2).length c]/\AZ e43 3 H (.slice A (x.2.2.2.2).length c) (x.2.2.2.2):=h
def Nk.f (k:Nat) (Ai:Bg) (Ax:Int) (Be:Int) (BC:Int) (AI:Int) (AJ:Ah) (AD:Int) (AP:Int) (Aw:List Tree) (a2:Av):Option (Bg×Int×Int):=AM (λ(x2:Int) (x3:Int)=>(B7 Ai Ax).bind λx5=>cond (decide (((a2.length:Nat):Int) > x5.2.2.2.1)) ((B7 Ai Ax).bind λx18=>(Hh Ai Ax (x18.1,x18.2.1,x18.2.2.1,((a2.length:Nat):Int),x18.2.2.2.2)).bind λF_=>some (F_,x2,x3)) (some (Ai,x2,x3))) (λJ4=>cond (decide (((a2.length:Nat):Int) > 60)) ((G6.f k Be BC 6 AP).bind λEC=>J4 EC.1 EC.2) (J4 Be BC))
theorem Nk.ok {k b0 An Bj CN:Nat} {Ai:Bg} {Ax Be BC AI AD AP:Int} {AJ:Ah} {Aw:List Tree} {a2:Av} {AH D3 K6:N} {Am Bi CM:AG} {E2 DM:Value} {r:Bg×Int×Int} (h:Nk.f k Ai Ax Be BC AI AJ AD AP Aw a2=some r) (As:AN DL 68 AH (W Am Ai An) Ai) (BD:RdR (AQ 61) D3 (W Bi Aw Bj) Aw) (Do:AZ encS 1 K6 (W CM a2 CN) a2): Ct Tryz.prog 105 #[pt b0,.agg #[I AI,D AJ,I AD,I AP,W Bi Aw Bj],W CM a2 CN] [bk b0 #[W Am Ai An,E2,I Ax,DM,I Be,I BC] 67,AH] [D3,K6] (λe l1=>∃ (H0_:N) (A0_:AG) (c0_:Nat),AN DL 68 H0_ (W A0_ r.1 c0_) r.1/\e=.returned (.tuple #[])/\l1=[bk b0 #[W A0_ r.1 c0_,E2,I Ax,DM,I r.2.1,I r.2.2] 67,H0_]):=by
 refine BJ Tryz.func105 V (AV V) ?_;intro A X hh_;obtain ⟨CC,QF,_⟩:=hh_;unfold Nk.f at h;refine ksr (knp #[I AI,D AJ,I AD,I AP,W Bi Aw Bj] 61 λb1=>(G ?_));obtain ⟨J4,hJ4,h⟩:=BF h;refine BG (τ:=Int×Int) (λt=>[(0,pt b0),(2,W CM a2 CN)]) (λt=>bk b0 #[W Am Ai An,E2,I Ax,DM,I t.1,I t.2] 67 :: AH :: X) (λt=>J4 t.1 t.2=some r) ?_ ?_;rintro ⟨x2,x3⟩ h;subst hJ4;refine AU (kpr [(0,0),(1,0),(2,0),(3,0),(4,0),(5,0),(6,3),(7,0),(8,0),(9,0),(10,3)] [0] (AA 6 (Bl 0 0 V (AA 3 (Bl 0 2 V (BA (bnd h λx5 hx5 h=>(EX (T:=68) (kd:=.i64) (R:=DL) V hx5 (AN.rd As) λp6 u9 q10 e7 y8=>?_))))))));obtain ⟨K3,k12,rfl,MX⟩:=Ud q10;refine HI (off:=3) V e7 y8 λp14 e15 y16=>?_;have e15:Elem _ p14 [I x5.2.2.2.1,W K3 x5.2.2.2.2 k12]:=e15;refine Gj V (by kernel_rfl) (by kernel_rfl) (by kernel_rfl) (by kernel_rfl) e15 (.tail _ (.head _)) (M 1 (G (Az h (λh=>?_) λh=>?_)));refine kpr [(0,0),(1,0),(2,0),(3,0),(4,3),(5,0),(6,0),(7,0),(8,3),(9,0),(10,0)] [0] (AA 4 (Bl 0 0 V (AA 3 (Bl 0 2 V (AA 2 (BA (bnd h λx18 QH h=>(EX (T:=68) (kd:=.i64) (R:=DL) V QH (AN.rd As) λp19 u22 q23 e20 y21=>?_))))))));obtain ⟨Gw,k25,rfl,Kg⟩:=Ud q23;refine HI (off:=3) V e20 y21 λp27 e28 y29=>?_;have e28:Elem _ p27 [I x18.2.2.2.1,W Gw x18.2.2.2.2 k25]:=e28;refine Al (bnd h λF_ QD h=>(Bib (R:=DL) (off:=3) (v:=I ((a2.length:Nat):Int)) (x':=(x18.1,x18.2.1,x18.2.2.1,((a2.length:Nat):Int),x18.2.2.2.2)) V (by kernel_rfl) (by kernel_rfl) (by kernel_rfl) (by kernel_rfl) (by kernel_rfl) (by kernel_rfl) y29 As QH QD (by rintro Hx _ ⟨A,c,rfl,hO⟩;exact ⟨A,c,V,hO⟩) λh31 o32=>?_));have g33:=VM QD;refine K.weak (env':=[(38,I ((a2.length:Nat):Int))]) ?_ ⟨gr,Aj⟩;refine K.eq (l':=h31 :: bk b0 #[W Am F_ An,E2,I Ax,DM,I x2,I x3] 67 :: X) rfl (by first | rfl | (unfold W;rw [g33];first | done | rfl)) (knl (Dv ?_))
 obtain rfl:=Ao h;exact kdv (.tuple #[]) [bk b0 #[W Am F_ An,E2,I Ax,DM,I x2,I x3] 67,h31] (Al (B2 ⟨h31,Am,An,o32,V,V⟩));refine AK (Dv ?_);obtain rfl:=Ao h;exact kdv (.tuple #[]) [bk b0 #[W Am Ai An,E2,I Ax,DM,I x2,I x3] 67,AH] (B2 ⟨AH,Am,An,As,V,V⟩);refine ksr (M 3 (G (Az h (λh=>?_) λh=>?_)));exact AO (M 2 (kld 0 3 V (Ar (bnd h λEC Lv h=>(Bc (G6.ok Lv) V trivial (G (AF (EC.1,EC.2) h sb V)))))));exact AK (At (Ar (AF (Be,BC) h sb V)))
def Ei.l1:Nat->(a4:Int)->(J13:Av->Option (Av×Bg×Int×Int))->(L6:Av)->(x90:Int)->Option (Av×Bg×Int×Int)
 | 0,_,_,_,_=>none
 | Tu+1,a4,J13,L6,x90=>cond (decide (x90 < a4)) ((apd 16 L6 [(⟨#[]⟩:Ah)]).bind λZ4=>Ei.l1 Tu a4 J13 Z4 (Au (x90+1))) (J13 L6)
def Ei.l0:Nat->(a3:List Tree)->(J21:Av->Int->Int->Option (Av×Bg×Int×Int))->(l27:Av)->(x32:Int)->(x33:Int)->(x34:Int)->Option (Av×Bg×Int×Int)
 | 0,_,_,_,_,_,_=>none
 | m35+1,a3,J21,l27,x32,x33,x34=>cond (decide (x32 < ((a3.length:Nat):Int))) (AM (λ(x37:Int) (x38:Int)=>(B7 a3 x32).bind λx40=>(apd 16 l27 [x40.text]).bind λl53=>Ei.l0 m35 a3 J21 l53 (Au (x32+1)) x37 x38) (λJ39=>(B7 a3 x32).bind λx58=>(Ki.f m35 x58.text).bind λCG=>cond CG ((B7 a3 x32).bind λx72=>(G6.f m35 x33 x34 5 x72.at_).bind λCw=>J39 Cw.1 Cw.2) (J39 x33 x34))) (J21 l27 x33 x34)
def Ei.f (k:Nat) (Ai:Bg) (Ax:Int) (Be:Int) (BC:Int) (AI:Int) (AJ:Ah) (AD:Int) (AP:Int) (Aw:List Tree) (a2:Av) (a3:List Tree) (a4:Int):Option (Av×Bg×Int×Int):=(apd 16 [] a2).bind λl3=>AM (λ(l8:Av)=>AM (λ(Gk:Av) (x19:Int) (x20:Int)=>(Nk.f k Ai Ax x19 x20 AI AJ AD AP Aw Gk).bind λr22=>some (Gk,r22.1,r22.2.1,r22.2.2)) (λJ21=>Ei.l0 k a3 J21 l8 0 Be BC)) (λJ13=>Ei.l1 k a4 J13 l3 0)
theorem Ei.ok {k b0 An Bj CN Q0:Nat} {Ai:Bg} {Ax Be BC AI AD AP a4:Int} {AJ:Ah} {Aw a3:List Tree} {a2:Av} {AH D3 K6 Ae2:N} {Am Bi CM Qo:AG} {E2 DM:Value} {r:Av×Bg×Int×Int} (h:Ei.f k Ai Ax Be BC AI AJ AD AP Aw a2 a3 a4=some r) (As:AN DL 68 AH (W Am Ai An) Ai) (BD:RdR (AQ 61) D3 (W Bi Aw Bj) Aw) (Do:AZ encS 1 K6 (W CM a2 CN) a2) (W_:RdR (AQ 61) Ae2 (W Qo a3 Q0) a3): Ct Tryz.prog 70 #[pt b0,.agg #[I AI,D AJ,I AD,I AP,W Bi Aw Bj],W CM a2 CN,W Qo a3 Q0,I a4] [bk b0 #[W Am Ai An,E2,I Ax,DM,I Be,I BC] 67,AH] [D3,K6,Ae2] (λe l1=>∃ (H0_:N) (A0_:AG) (c0_:Nat) (H1_:N) (DC:AG) (DD:Nat),AL encS 9 1 H0_ (W A0_ r.1 c0_) r.1/\AN DL 68 H1_ (W DC r.2.1 DD) r.2.1/\e=.returned (W A0_ r.1 c0_)/\l1=[H0_,bk b0 #[W DC r.2.1 DD,E2,I Ax,DM,I r.2.2.1,I r.2.2.2] 67,H1_]):=by
 refine BJ Tryz.func70 V (AV V) ?_;intro A X hh_;obtain ⟨CC,QF,Yk,_⟩:=hh_;unfold Ei.f at h;refine ksr (knp #[I AI,D AJ,I AD,I AP,W Bi Aw Bj] 61 λb1=>(M 1 (AY (Cy #[] 9 0 λb2=>(M 1 (bnd h λl3 hl3 h=>(Mg (ys:=a2) E8 V OL hl3 (AL.blk 9 E8 b2 [] #[] 0 (by kernel_rfl) V (by decide)) (Atn Do (t4 QF)) λh4 A5 k6 o7=>(M 1 (G ?_)))))))));obtain ⟨J13,XL,h⟩:=BF h;refine BG (τ:=Av×N×AG×Nat) (c4 λa _ c d=>[(0,pt b0),(3,W Qo a3 Q0),(6,pt b1),(11,W c a d)]) (λt=>bk b1 #[I AI,D AJ,I AD,I AP,W Bi Aw Bj] 61 :: bk b0 #[W Am Ai An,E2,I Ax,DM,I Be,I BC] 67 :: AH :: t.2.1 :: X) (c4 λa b c d=>J13 a=some r/\AL encS 9 1 b (W c a d) a) ?_ ?_;rintro ⟨l8,h9,FX,k11⟩ ⟨h,Ia⟩;subst XL;obtain ⟨J21,XO,h⟩:=BF h;refine BG (τ:=Av×Int×Int×N×AG×Nat) (c6 λa _ _ _ e f=>[(0,pt b0),(6,pt b1),(11,W e a f)]) (c6 λ_ b c d _ _=>bk b1 #[I AI,D AJ,I AD,I AP,W Bi Aw Bj] 61 :: bk b0 #[W Am Ai An,E2,I Ax,DM,I b,I c] 67 :: AH :: d :: X) (c6 λa b c d e f=>J21 a b c=some r/\AL encS 9 1 d (W e a f) a) ?_ ?_;rintro ⟨Gk,x19,x20,h15,LU,k17⟩ ⟨h,Gp⟩;subst XO;refine ksr (M 1 (BW 0 0 5 V (Ar (M 1 (Al (Al (bnd h λr22 SC h=>(Ch (Nk.ok SC As BD (AL.rd Gp)) V ⟨(.tail _ CC),(.head _),Aj⟩ ?_))))))));rintro _ _ ⟨h23,Gw,k25,Kg,rfl,rfl⟩;refine BH (AY (M 2 (G (Ba ?_))));obtain rfl:=Ao h;exact kdv (W LU Gk k17) [h15,bk b0 #[W Gw r22.1 k25,E2,I Ax,DM,I r22.2.1,I r22.2.2] 67,h23] (Al (Al (Ay (B2 ⟨h15,LU,k17,h23,Gw,k25,Gp,Kg,V,V⟩))));refine ksr (M 1 (G (B4 (Dd (τ:=Av×Int×Int×Int×N×AG×Nat) (c7 λa b _ _ _ f g=>[(0,pt b0),(3,W Qo a3 Q0),(6,pt b1),(11,W f a g),(13,I b)]) (c7 λ_ _ c d e _ _=>bk b1 #[I AI,D AJ,I AD,I AP,W Bi Aw Bj] 61 :: bk b0 #[W Am Ai An,E2,I Ax,DM,I c,I d] 67 :: AH :: e :: X) (λm=>c7 λa b c d e f g=>Ei.l0 m a3 J21 a b c d=some r/\AL encS 9 1 e (W f a g) a) k (l8,0,Be,BC,h9,FX,k11) ⟨h,Ia⟩ sb V ?_))));clear h;rintro m35 ⟨l27,x32,x33,x34,h28,A29,k30⟩ ⟨h,I_⟩;rcases m35 with _ | m35;simp [Ei.l0] at h;simp only [Ei.l0] at h;refine AU (ksr (M 4 (G (Az h (λh=>?_) λh=>?_))));refine AK (At (AU (B4 ?_)));obtain ⟨J39,hJ39,h⟩:=BF h;refine BG (τ:=Int×Int) (λt=>[(0,pt b0),(3,W Qo a3 Q0),(6,pt b1),(11,W A29 l27 k30),(13,I x32)]) (λt=>bk b1 #[I AI,D AJ,I AD,I AP,W Bi Aw Bj] 61 :: bk b0 #[W Am Ai An,E2,I Ax,DM,I t.1,I t.2] 67 :: AH :: h28 :: X) (λt=>J39 t.1 t.2=some r) ?_ ?_;rintro ⟨x37,x38⟩ h;subst hJ39;refine AO (M 3 (bnd h λx40 Bfh h=>(EX (T:=61) (kd:=.i64) (R:=(AQ 61)) V Bfh W_ λp41 u44 Ng e42 y43=>?_)));obtain ⟨O0,k47,rfl,KW⟩:=Eo 61 Ng;refine HI (off:=1) V e42 y43 λp49 e50 y51=>?_;have e50:Elem _ p49 [D x40.text,I x40.n,I x40.at_,W O0 x40.kids k47]:=e50;exact Gj V (by kernel_rfl) (by kernel_rfl) (by kernel_rfl) (by kernel_rfl) e50 (t4 Yk) (Cy #[D x40.text] 9 1 λb52=>(Bb (bnd h λl53 Yd h=>(Mg (ys:=[x40.text]) E8 V OL Yd I_ (Ms (n:=1) E8 [x40.text] (by kernel_rfl) V (by decide) 1 V) λh54 Qm QL TF=>(Al (Ar (M 1 (knl (Bf (At (AO (M 3 (G (Ap (Ap (Ap (CD m35 (l53,Au (x32+1),x37,x38,h54,Qm,QL) (Nat.lt_succ_self _) ⟨h,TF⟩ sb V)))))))))))))))));refine ksr (M 2 (bnd h λx58 Bfn h=>(EX (T:=61) (kd:=.i64) (R:=(AQ 61)) V Bfn W_ λp59 u62 q63 e60 y61=>?_)));obtain ⟨A64,k65,rfl,o66⟩:=Eo 61 q63;refine HI (off:=1) V e60 y61 λp67 e68 y69=>?_;have e68:Elem _ p67 [D x58.text,I x58.n,I x58.at_,W A64 x58.kids k65]:=e68;refine Gj V (by kernel_rfl) (by kernel_rfl) (by kernel_rfl) (by kernel_rfl) e68 (t4 Yk) (bnd h λCG MN h=>(CI (Ki.ok MN) trivial (G (Az h (λh=>?_) λh=>?_))));refine AO (M 3 (bnd h λx72 Bfr h=>(EX (T:=61) (kd:=.i64) (R:=(AQ 61)) V Bfr W_ λp73 u76 q77 e74 y75=>?_)));obtain ⟨A78,k79,rfl,o80⟩:=Eo 61 q77;refine HI (off:=3) V e74 y75 λp81 E7 y83=>?_;have E7:Elem _ p81 [I x72.at_,W A78 x72.kids k79]:=E7;exact Gj V (by kernel_rfl) (by kernel_rfl) (by kernel_rfl) (by kernel_rfl) E7 (t4 Yk) (Al (bnd h λCw Pp h=>(Bc (G6.ok Pp) V trivial (G (Ap (Ap (Ay (Ap (AF (Cw.1,Cw.2) h sb V)))))))));exact AK (At (AF (x33,x34) h sb V));exact CX (BL (BL (CY (At (AF (l27,x33,x34,h28,A29,k30) ⟨h,I_⟩ sb V)))));refine ksr (M 1 (G (B4 (Ap (Ap (Ap (Dd (τ:=Av×Int×N×AG×Nat) (c5 λa b _ d e=>[(0,pt b0),(3,W Qo a3 Q0),(4,I a4),(6,pt b1),(11,W d a e),(12,I b)]) (λt=>bk b1 #[I AI,D AJ,I AD,I AP,W Bi Aw Bj] 61 :: bk b0 #[W Am Ai An,E2,I Ax,DM,I Be,I BC] 67 :: AH :: t.2.2.1 :: X) (λm=>c5 λa b c d e=>Ei.l1 m a4 J13 a b=some r/\AL encS 9 1 c (W d a e) a) k (l3,0,h4,A5,k6) ⟨h,o7⟩ sb V ?_)))))));clear h;rintro Tu ⟨L6,x90,h86,Sm,k88⟩ ⟨h,Ml⟩;rcases Tu with _ | Tu;simp [Ei.l1] at h;simp only [Ei.l1] at h;refine AU (ksr (M 3 (G (Az h (λh=>?_) λh=>?_))));exact AK (At (AU (B4 (AO (M 1 (Cy #[D noS] 9 1 λb93=>(Bb (bnd h λZ4 Bbl h=>(Mg (ys:=[(⟨#[]⟩:Ah)]) E8 V OL Bbl Ml (Ms (n:=1) E8 [(⟨#[]⟩:Ah)] (by kernel_rfl) V (by decide) 1 V) λh95 A96 k97 o98=>(Al (Ar (M 1 (knl (Bf (At (AO (M 3 (G (Ap (Ap (Ap (CD Tu (Z4,Au (x90+1),h95,A96,k97) (Nat.lt_succ_self _) ⟨h,o98⟩ sb V))))))))))))))))))))));exact CX (BL (BL (CY (At (AF (L6,h86,Sm,k88) ⟨h,Ml⟩ sb V)))))
def GV.l0:Nat->(Ai:Bg)->(Be:Int)->(BC:Int)->(ED:Int)->(EF:Int)->(EG:Ah)->(x3:Ah×Int×Int×Int×Cg)->(J12:(Unit->Option (Bg×Int×Int)))->(x48:Int)->Option (Bg×Int×Int)
 | 0,_,_,_,_,_,_,_,_,_=>none
 | m49+1,Ai,Be,BC,ED,EF,EG,x3,J12,x48=>cond (decide (x48 < ((x3.2.2.2.2.length:Nat):Int))) ((B7 x3.2.2.2.2 x48).bind λx57=>cond ((x57.1 == ED) && ((x57.2.1 == EF) && ((x57.2.2.toList == EG.toList) && true))) (some (Ai,Be,BC)) (GV.l0 m49 Ai Be BC ED EF EG x3 J12 (Au (x48+1)))) (J12 ())
def GV.f (k:Nat) (Ai:Bg) (Ax:Int) (Be:Int) (BC:Int) (AI:Int) (AJ:Ah) (AD:Int) (AP:Int) (Aw:List Tree) (ED:Int) (EF:Int) (EG:Ah):Option (Bg×Int×Int):=(B7 Ai Ax).bind λx3=>AM (λ(_:Unit)=>(apd 32 x3.2.2.2.2 [(ED,EF,EG)]).bind λHJ=>(Hh Ai Ax (x3.1,x3.2.1,x3.2.2.1,x3.2.2.2.1,HJ)).bind λl34=>(Ez.f k Be BC AI AJ AD AP Aw ((HJ.length:Nat):Int) 250).bind λr47=>some (l34,r47.1,r47.2)) (λJ12=>GV.l0 k Ai Be BC ED EF EG x3 J12 0)
theorem GV.ok {k b0 An Bj:Nat} {Ai:Bg} {Ax Be BC AI AD AP ED EF:Int} {AJ EG:Ah} {Aw:List Tree} {AH D3:N} {Am Bi:AG} {E2 DM:Value} {r:Bg×Int×Int} (h:GV.f k Ai Ax Be BC AI AJ AD AP Aw ED EF EG=some r) (As:AN DL 68 AH (W Am Ai An) Ai) (BD:RdR (AQ 61) D3 (W Bi Aw Bj) Aw): Ct Tryz.prog 106 #[pt b0,.agg #[I AI,D AJ,I AD,I AP,W Bi Aw Bj],.agg #[I ED,I EF,D EG]] [bk b0 #[W Am Ai An,E2,I Ax,DM,I Be,I BC] 67,AH] [D3] (λe l1=>∃ (H0_:N) (A0_:AG) (c0_:Nat),AN DL 68 H0_ (W A0_ r.1 c0_) r.1/\e=.returned (.tuple #[])/\l1=[bk b0 #[W A0_ r.1 c0_,E2,I Ax,DM,I r.2.1,I r.2.2] 67,H0_]):=by
 refine BJ Tryz.func106 V (AV V) ?_;intro A X hh_;obtain ⟨CC,_⟩:=hh_;unfold GV.f at h;refine ksr (knp #[I AI,D AJ,I AD,I AP,W Bi Aw Bj] 61 λb1=>(knp #[I ED,I EF,D EG] 43 λb2=>(G (AU (kpr [(0,0),(1,0),(2,0),(3,0),(4,3),(5,0),(6,0),(7,0),(8,3)] [2] (AA 4 (Bl 0 0 V (AA 3 (Bl 0 2 V (BA (bnd h λx3 hx3 h=>(EX (T:=68) (kd:=.i64) (R:=DL) V hx3 (AN.rd As) λp4 u7 q8 e5 y6=>?_))))))))))));obtain ⟨A9,k10,rfl,H_⟩:=Ud q8;refine M 1 (G ?_);obtain ⟨J12,Lr,h⟩:=BF h;refine BG (τ:=Unit) (λt=>[(0,pt b0),(4,pt b1),(5,pt b2),(6,p4)]) (λt=>bk b2 #[I ED,I EF,D EG] 43 :: bk b1 #[I AI,D AJ,I AD,I AP,W Bi Aw Bj] 61 :: bk b0 #[W Am Ai An,E2,I Ax,DM,I Be,I BC] 67 :: AH :: X) (λt=>J12 ()=some r) ?_ ?_;rintro ⟨⟩ h;subst Lr;refine Ap (Am2 (R:=DL) As (NU hx3).2.2 λh13 h14 c15 _ _ o16 e17=>?_);obtain ⟨Ix,k19,rfl,o20⟩:=o16;have e21:Elem h14 p4 [D x3.1,I x3.2.1,I x3.2.2.1,I x3.2.2.2.1,W Ix x3.2.2.2.2 k19]:=LY.elem e17 y6;refine AU (kpr [(0,0),(1,0),(2,0),(3,0),(4,3),(5,3),(6,1)] [1,2] (AA 2 (Zy V (by kernel_rfl) (by kernel_rfl) (by kernel_rfl) e21 (MS (off:=4) V e21 y6 λp22 e23 y24=>?_))));have e23:Elem _ p22 [W Ix x3.2.2.2.2 k19]:=e23;refine L5 V (by kernel_rfl) (by kernel_rfl) (by kernel_rfl) (by kernel_rfl) e23 (λw h_=>h_.mem _ (.head _)) (Ew 1 0 3 V (kpt (Gb #[I ED,I EF,D EG] 43 1 λb25=>(Cr [2,3] V (BA (Al (bnd h λHJ Vq h=>(Mg (ys:=[(ED,EF,EG)]) NC V Ahc Vq o20 (Ms (n:=1) NC [(ED,EF,EG)] (by kernel_rfl) V (by decide) 1 V) λh27 A28 k29 LA=>(Al (Ar (Ay (Ar (Anh V (by kernel_rfl) (by kernel_rfl) (by kernel_rfl) e21 (HI (off:=4) V e21 y6 λp31 e32 y33=>?_))))))))))))));have e32:Elem _ p31 [W Ix x3.2.2.2.2 k19]:=e32;refine Al (bnd h λl34 OX h=>(Bii (R:=DL) (off:=4) (v:=W A28 HJ k29) (x':=(x3.1,x3.2.1,x3.2.2.1,x3.2.2.2.1,HJ)) V (by kernel_rfl) (by kernel_rfl) (by kernel_rfl) (by kernel_rfl) (by kernel_rfl) (by kernel_rfl) y33 OX e17 (Aa9 (x:=(x3.1,x3.2.1,x3.2.2.1,x3.2.2.2.1,HJ)) LA) λh35 LB=>?_));obtain ⟨u38,q39,e40⟩:=AN.elem LB (Biy OX) y6;obtain ⟨JI,k42,rfl,GO⟩:=Ud q39;have e40:Elem h35 p4 [D x3.1,I x3.2.1,I x3.2.2.1,I x3.2.2.2.1,W JI HJ k42]:=e40;have g37:=VM OX;refine K.weak (env':=[(0,pt b0),(4,pt b1),(6,p4),(43,W A28 HJ k29)]) ?_ ⟨gr,gr,gr,(by first | rfl | (unfold W;rw [g37];rfl)),Aj⟩
 refine K.eq (l':=h35 :: bk b1 #[I AI,D AJ,I AD,I AP,W Bi Aw Bj] 61 :: bk b0 #[W Am l34 An,E2,I Ax,DM,I Be,I BC] 67 :: X) rfl (by first | rfl | (unfold W;rw [g37];first | done | rfl)) (G (kpr [(0,0),(1,3),(2,0),(3,0),(4,0),(5,3),(6,0)] [0,1] (AA 1 (Ew 1 0 5 rfl (AA 1 (Zy rfl (by kernel_rfl) (by kernel_rfl) (by kernel_rfl) e40 (MS (off:=4) rfl e40 y6 λp44 e45 y46=>?_)))))))
 have e45:Elem _ p44 [W JI HJ k42]:=e45;refine L5 V (by kernel_rfl) (by kernel_rfl) (by kernel_rfl) (by kernel_rfl) e45 (λw h_=>h_.mem _ (.head _)) (AA 1 (BA (Ay (bnd h λr47 hr47 h=>(Bc (Ez.ok hr47 BD) V ⟨(t2 CC),Aj⟩ (Ay (Ar (knl (Dv ?_)))))))));obtain rfl:=Ao h;exact kdv (.tuple #[]) [bk b0 #[W Am l34 An,E2,I Ax,DM,I r47.1,I r47.2] 67,h35] (B2 ⟨h35,Am,An,LB,V,V⟩);refine ksr (M 1 (G (B4 (Dd (τ:=Int) (λt=>[(0,pt b0),(4,pt b1),(5,pt b2),(6,p4),(7,I t)]) (λt=>bk b2 #[I ED,I EF,D EG] 43 :: bk b1 #[I AI,D AJ,I AD,I AP,W Bi Aw Bj] 61 :: bk b0 #[W Am Ai An,E2,I Ax,DM,I Be,I BC] 67 :: AH :: X) (λm t=>GV.l0 m Ai Be BC ED EF EG x3 J12 t=some r) k 0 h sb V ?_))));clear h;rintro m49 x48 h;rcases m49 with _ | m49;simp [GV.l0] at h;simp only [GV.l0] at h;refine AU (ksr (M 2 (Anh V (by kernel_rfl) (by kernel_rfl) (by kernel_rfl) e5 (HI (off:=4) V e5 y6 λp50 e51 y52=>?_))));have e51:Elem _ p50 [W A9 x3.2.2.2.2 k10]:=e51;refine Gj V (by kernel_rfl) (by kernel_rfl) (by kernel_rfl) (by kernel_rfl) e51 (.tail _ (.tail _ (.tail _ (.head _)))) (M 2 (G (Az h (λh=>?_) λh=>?_)));refine AK (At (AU (B4 (AU (KO [(0,0),(1,0),(2,0),(3,3),(4,0),(5,0),(6,3),(7,3)] [bk b2 #[I ED,I EF,D EG] 43,bk b1 #[I AI,D AJ,I AD,I AP,W Bi Aw Bj] 61,bk b0 #[W Am Ai An,E2,I Ax,DM,I Be,I BC] 67,AH,D3] (λw h_=>⟨h_.sat.on _ (.head _),h_.sat.on _ (.tail _ (.head _)),h_.sat.on _ (.tail _ (.tail _ (.head _))),h_.sat.on _ (.tail _ (.tail _ (.tail _ (.head _)))),h_.sat.on _ (t4 CC),Aj⟩) (AA 1 (Zy V (by kernel_rfl) (by kernel_rfl) (by kernel_rfl) e5 (MS (off:=4) V e5 y6 λp54 e55 y56=>?_))))))));have e55:Elem _ p54 [W A9 x3.2.2.2.2 k10]:=e55;refine L5 V (by kernel_rfl) (by kernel_rfl) (by kernel_rfl) (by kernel_rfl) e55 (λw h_=>h_.mem _ (.tail _ (.tail _ (.tail _ (.head _))))) (AA 1 (bnd h λx57 SW h=>(KM (T:=43) (kd:=.i64) NC V SW H_ λp58 e59 y60=>?_)));have e59:Elem _ p58 [I x57.1,I x57.2.1,D x57.2.2]:=e59;refine I3 V e59 (λw h_=>h_.mem _ (.tail _ (.tail _ (.tail _ (.head _))))) (Ew 0 0 3 V (BA (QX (r:=((x57.1 == ED) && ((x57.2.1 == EF) && ((x57.2.2.toList == EG.toList) && true)))) (xs:=#[I x57.1,I x57.2.1,D x57.2.2]) (ys:=#[I ED,I EF,D EG]) false (by kernel_rfl) V (by kernel_rfl) (by kernel_rfl) (by kernel_rfl) (by kernel_rfl) (by kernel_rfl) (by kernel_rfl) (by kernel_rfl) (G (Az h (λh=>?_) λh=>?_)))));refine Ba (B_ (Bm (Bm (B_ (Bm ?_)))));obtain rfl:=Ao h;exact kdv (.tuple #[]) [bk b0 #[W Am Ai An,E2,I Ax,DM,I Be,I BC] 67,AH] (Ar (Ar (B2 ⟨AH,Am,An,As,V,V⟩)));exact AK (Bf (At (AO (M 3 (G (CD m49 (Au (x48+1)) (Nat.lt_succ_self _) h sb V))))));exact CX (BL (BL (CY (At (AF () h sb V)))))
theorem A3a:FC Tryz.prog 31 68 5 64 Tryz.t68 (.agg #[D noS,I 0,I 0,I 0,nS]):=⟨by kernel_rfl,by kernel_rfl,by kernel_rfl,by kernel_rfl,by kernel_rfl,by kernel_rfl,by decide⟩
structure RC where
 De:Bg->Av->Int->Av->Int->Int->Int->Ah->Int->Int->List Tree->Av->Bool->Option (Bg×Av×Int×Av×Int×Int)
 Df:Bg->Av->Int->Av->Int->Int->Int->Ah->Int->Int->List Tree->Av->Bool->Option (Av×Bg×Av×Int×Av×Int×Int)
 Im:Bg->Av->Int->Av->Int->Int->Int->Ah->Int->Int->List Tree->Av->Option (Bg×Av×Int×Av×Int×Int)
 DA:Bg->Av->Int->Av->Int->Int->List Tree->Av->Option (Bg×Av×Int×Int)
 FT:Bg->Av->Int->Av->Int->Int->Int->Ah->Int->Int->List Tree->Av->Bool->Option (Bg×Av×Int×Int)
def De.C (fC:Bg->Av->Int->Av->Int->Int->Int->Ah->Int->Int->List Tree->Av->Bool->Option (Bg×Av×Int×Av×Int×Int)):Prop:=∀ {Ai:Bg} {Ak Br a2:Av} {Ax Be BC AI AD AP:Int} {AJ:Ah} {Aw:List Tree} {a3:Bool} {HP_ AH B9:N} {b0 An Bv Dp Bj CN:Nat} {Am Bt Dn Bi CM:AG} {r:Bg×Av×Int×Av×Int×Int} (h:fC Ai Ak Ax Br Be BC AI AJ AD AP Aw a2 a3=some r) (As:AN DL 68 AH (W Am Ai An) Ai) (BV:AL encS 9 1 B9 (W Bt Ak Bv) Ak) (Ed:AZ encS 1 HP_ (W Dn Br Dp) Br) (BD:RdR (AQ 61) HP_ (W Bi Aw Bj) Aw) (Do:AZ encS 1 HP_ (W CM a2 CN) a2),Ct Tryz.prog 16 #[pt b0,.agg #[I AI,D AJ,I AD,I AP,W Bi Aw Bj],W CM a2 CN,bv a3] [bk b0 #[W Am Ai An,W Bt Ak Bv,I Ax,W Dn Br Dp,I Be,I BC] 67,AH,B9,HP_] [] (λe l1=>∃ (HP':N) (H0_:N) (A0_:AG) (c0_:Nat) (H1_:N) (DC:AG) (DD:Nat) (Sn:AG) (Sy:Nat),HP_.In HP'/\AN DL 68 H0_ (W A0_ r.1 c0_) r.1/\AL encS 9 1 H1_ (W DC r.2.1 DD) r.2.1/\AZ encS 1 HP' (W Sn r.2.2.2.1 Sy) r.2.2.2.1/\e=.returned (.tuple #[])/\l1=[bk b0 #[W A0_ r.1 c0_,W DC r.2.1 DD,I r.2.2.1,W Sn r.2.2.2.1 Sy,I r.2.2.2.2.1,I r.2.2.2.2.2] 67,H0_,H1_,HP'])
def Df.C (fC:Bg->Av->Int->Av->Int->Int->Int->Ah->Int->Int->List Tree->Av->Bool->Option (Av×Bg×Av×Int×Av×Int×Int)):Prop:=∀ {Ai:Bg} {Ak Br a2:Av} {Ax Be BC AI AD AP:Int} {AJ:Ah} {Aw:List Tree} {a3:Bool} {HP_ AH B9:N} {b0 An Bv Dp Bj CN:Nat} {Am Bt Dn Bi CM:AG} {r:Av×Bg×Av×Int×Av×Int×Int} (h:fC Ai Ak Ax Br Be BC AI AJ AD AP Aw a2 a3=some r) (As:AN DL 68 AH (W Am Ai An) Ai) (BV:AL encS 9 1 B9 (W Bt Ak Bv) Ak) (Ed:AZ encS 1 HP_ (W Dn Br Dp) Br) (BD:RdR (AQ 61) HP_ (W Bi Aw Bj) Aw) (Do:AZ encS 1 HP_ (W CM a2 CN) a2),Ct Tryz.prog 35 #[pt b0,.agg #[I AI,D AJ,I AD,I AP,W Bi Aw Bj],W CM a2 CN,bv a3] [bk b0 #[W Am Ai An,W Bt Ak Bv,I Ax,W Dn Br Dp,I Be,I BC] 67,AH,B9,HP_] [] (λe l1=>∃ (HP':N) (Ael:AG) (Agi:Nat) (H0_:N) (A0_:AG) (c0_:Nat) (H1_:N) (DC:AG) (DD:Nat) (Aem:AG) (Agk:Nat),HP_.In HP'/\AZ encS 1 HP' (W Ael r.1 Agi) r.1/\AN DL 68 H0_ (W A0_ r.2.1 c0_) r.2.1/\AL encS 9 1 H1_ (W DC r.2.2.1 DD) r.2.2.1/\AZ encS 1 HP' (W Aem r.2.2.2.2.1 Agk) r.2.2.2.2.1/\e=.returned (W Ael r.1 Agi)/\l1=[bk b0 #[W A0_ r.2.1 c0_,W DC r.2.2.1 DD,I r.2.2.2.1,W Aem r.2.2.2.2.1 Agk,I r.2.2.2.2.2.1,I r.2.2.2.2.2.2] 67,H0_,H1_,HP'])
def Im.C (fC:Bg->Av->Int->Av->Int->Int->Int->Ah->Int->Int->List Tree->Av->Option (Bg×Av×Int×Av×Int×Int)):Prop:=∀ {Ai:Bg} {Ak Br a2:Av} {Ax Be BC AI AD AP:Int} {AJ:Ah} {Aw:List Tree} {HP_ AH B9:N} {b0 An Bv Dp Bj CN:Nat} {Am Bt Dn Bi CM:AG} {r:Bg×Av×Int×Av×Int×Int} (h:fC Ai Ak Ax Br Be BC AI AJ AD AP Aw a2=some r) (As:AN DL 68 AH (W Am Ai An) Ai) (BV:AL encS 9 1 B9 (W Bt Ak Bv) Ak) (Ed:AZ encS 1 HP_ (W Dn Br Dp) Br) (BD:RdR (AQ 61) HP_ (W Bi Aw Bj) Aw) (Do:AZ encS 1 HP_ (W CM a2 CN) a2),Ct Tryz.prog 67 #[pt b0,.agg #[I AI,D AJ,I AD,I AP,W Bi Aw Bj],W CM a2 CN] [bk b0 #[W Am Ai An,W Bt Ak Bv,I Ax,W Dn Br Dp,I Be,I BC] 67,AH,B9,HP_] [] (λe l1=>∃ (HP':N) (H0_:N) (A0_:AG) (c0_:Nat) (H1_:N) (DC:AG) (DD:Nat) (Sn:AG) (Sy:Nat),HP_.In HP'/\AN DL 68 H0_ (W A0_ r.1 c0_) r.1/\AL encS 9 1 H1_ (W DC r.2.1 DD) r.2.1/\AZ encS 1 HP' (W Sn r.2.2.2.1 Sy) r.2.2.2.1/\e=.returned (.tuple #[])/\l1=[bk b0 #[W A0_ r.1 c0_,W DC r.2.1 DD,I r.2.2.1,W Sn r.2.2.2.1 Sy,I r.2.2.2.2.1,I r.2.2.2.2.2] 67,H0_,H1_,HP'])
def DA.C (fC:Bg->Av->Int->Av->Int->Int->List Tree->Av->Option (Bg×Av×Int×Int)):Prop:=∀ {Ai:Bg} {Ak Br a2:Av} {Ax Be BC:Int} {a1:List Tree} {HP_ AH B9:N} {b0 An Bv Dp Hd CN:Nat} {Am Bt Dn Hc CM:AG} {r:Bg×Av×Int×Int} (h:fC Ai Ak Ax Br Be BC a1 a2=some r) (As:AN DL 68 AH (W Am Ai An) Ai) (BV:AL encS 9 1 B9 (W Bt Ak Bv) Ak) (Ed:AZ encS 1 HP_ (W Dn Br Dp) Br) (M3:RdR (AQ 61) HP_ (W Hc a1 Hd) a1) (Do:AZ encS 1 HP_ (W CM a2 CN) a2),Ct Tryz.prog 69 #[pt b0,W Hc a1 Hd,W CM a2 CN] [bk b0 #[W Am Ai An,W Bt Ak Bv,I Ax,W Dn Br Dp,I Be,I BC] 67,AH,B9,HP_] [] (λe l1=>∃ (HP':N) (H0_:N) (A0_:AG) (c0_:Nat) (H1_:N) (DC:AG) (DD:Nat),HP_.In HP'/\AN DL 68 H0_ (W A0_ r.1 c0_) r.1/\AL encS 9 1 H1_ (W DC r.2.1 DD) r.2.1/\e=.returned (.tuple #[])/\l1=[bk b0 #[W A0_ r.1 c0_,W DC r.2.1 DD,I Ax,W Dn Br Dp,I r.2.2.1,I r.2.2.2] 67,H0_,H1_,HP'])
def FT.C (fC:Bg->Av->Int->Av->Int->Int->Int->Ah->Int->Int->List Tree->Av->Bool->Option (Bg×Av×Int×Int)):Prop:=∀ {Ai:Bg} {Ak Br a2:Av} {Ax Be BC AI AD AP:Int} {AJ:Ah} {Aw:List Tree} {a3:Bool} {HP_ AH B9:N} {b0 An Bv Dp Bj CN:Nat} {Am Bt Dn Bi CM:AG} {r:Bg×Av×Int×Int} (h:fC Ai Ak Ax Br Be BC AI AJ AD AP Aw a2 a3=some r) (As:AN DL 68 AH (W Am Ai An) Ai) (BV:AL encS 9 1 B9 (W Bt Ak Bv) Ak) (Ed:AZ encS 1 HP_ (W Dn Br Dp) Br) (BD:RdR (AQ 61) HP_ (W Bi Aw Bj) Aw) (Do:AZ encS 1 HP_ (W CM a2 CN) a2),Ct Tryz.prog 71 #[pt b0,.agg #[I AI,D AJ,I AD,I AP,W Bi Aw Bj],W CM a2 CN,bv a3] [bk b0 #[W Am Ai An,W Bt Ak Bv,I Ax,W Dn Br Dp,I Be,I BC] 67,AH,B9,HP_] [] (λe l1=>∃ (HP':N) (H0_:N) (A0_:AG) (c0_:Nat) (H1_:N) (DC:AG) (DD:Nat),HP_.In HP'/\AN DL 68 H0_ (W A0_ r.1 c0_) r.1/\AL encS 9 1 H1_ (W DC r.2.1 DD) r.2.1/\e=.returned (.tuple #[])/\l1=[bk b0 #[W A0_ r.1 c0_,W DC r.2.1 DD,I Ax,W Dn Br Dp,I r.2.2.1,I r.2.2.2] 67,H0_,H1_,HP'])
structure RC.Good (R:RC):Prop where
 De:De.C R.De
 Df:Df.C R.Df
 Im:Im.C R.Im
 DA:DA.C R.DA
 FT:FT.C R.FT
def De.l0:Nat->(Rc:RC)->(Aw:List Tree)->(a3:Bool)->(l4:Av)->(x9:Int)->(l10:Bg)->(l15:Av)->(x20:Int)->(l21:Av)->(x26:Int)->(x27:Int)->Option (Bg×Av×Int×Av×Int×Int)
 | 0,_,_,_,_,_,_,_,_,_,_,_=>none
 | m29+1,Rc,Aw,a3,l4,x9,l10,l15,x20,l21,x26,x27=>(cond (decide (x9 < ((Aw.length:Nat):Int))) (some (x26 == 0)) (some false):Option Bool).bind λq30=>cond q30 ((B7 Aw x9).bind λx32=>(Rc.Df l10 l15 x20 l21 x26 x27 x32.kind x32.text x32.n x32.at_ x32.kids l4 a3).bind λE0=>De.l0 m29 Rc Aw a3 E0.1 (Au (x9+1)) E0.2.1 E0.2.2.1 E0.2.2.2.1 E0.2.2.2.2.1 E0.2.2.2.2.2.1 E0.2.2.2.2.2.2) (some (l10,l15,x20,l21,x26,x27))
def De.g (Rc:RC) (k:Nat) (Ai:Bg) (Ak:Av) (Ax:Int) (Br:Av) (Be:Int) (BC:Int) (AI:Int) (AJ:Ah) (AD:Int) (AP:Int) (Aw:List Tree) (a2:Av) (a3:Bool):Option (Bg×Av×Int×Av×Int×Int):=De.l0 k Rc Aw a3 a2 0 Ai Ak Ax Br Be BC
theorem De.Cj {Rc:RC} (hR:Rc.Good) {k:Nat}:De.C (De.g Rc k):=by
 intro Ai Ak Br a2 Ax Be BC AI AD AP AJ Aw a3 HP_ AH B9 b0 An Bv Dp Bj CN Am Bt Dn Bi CM r h As BV Ed BD Do;refine BJ Tryz.func16 V (AV V) ?_;intro A X hh_;unfold De.g at h;refine ksr (knp #[I AI,D AJ,I AD,I AP,W Bi Aw Bj] 61 λb1=>(AY (M 1 (G (B4 (Ap (Ap (Bb (Bb (Bb (Dd (τ:=Av×Int×Bg×Av×Int×Av×Int×Int×N×AG×Nat×N×AG×Nat×N×AG×Nat×AG×Nat) (c19 λa b _ _ _ _ _ _ _ l n _ _ _ _ _ _ _ _=>[(0,pt b0),(2,W l a n),(3,bv a3),(5,pt b1),(8,I b)]) (c19 λ_ _ c d e f g i j _ _ o p q s u v w x=>bk b1 #[I AI,D AJ,I AD,I AP,W Bi Aw Bj] 61 :: bk b0 #[W p c q,W u d v,I e,W w f x,I g,I i] 67 :: j :: o :: s :: X) (λm=>c19 λa b c d e f g i j l n o p q s u v w x=>De.l0 m Rc Aw a3 a b c d e f g i=some r/\HP_.In j/\AZ encS 1 j (W l a n) a/\AN DL 68 o (W p c q) c/\AL encS 9 1 s (W u d v) d/\AZ encS 1 j (W w f x) f/\RdR (AQ 61) j (W Bi Aw Bj) Aw) k (a2,0,Ai,Ak,Ax,Br,Be,BC,HP_,CM,CN,AH,Am,An,B9,Bt,Bv,Dn,Dp) ⟨h,(N.In.refl HP_),Do,As,BV,Ed,BD⟩ sb V ?_)))))))))));clear h;rintro m29 ⟨l4,x9,l10,l15,x20,l21,x26,x27,h2,A6,k7,h11,A12,k13,h16,Ej,k18,A23,k24⟩ ⟨h,o3,o8,IY,o19,KU,IZ⟩;rcases m29 with _ | m29;simp [De.l0] at h;simp only [De.l0] at h;refine AU (bnd h λq30 Pb h=>?_);refine CH [(0,pt b0),(2,W A6 l4 k7),(3,bv a3),(5,pt b1),(8,I x9),(21,bv q30)] (bk b1 #[I AI,D AJ,I AD,I AP,W Bi Aw Bj] 61 :: bk b0 #[W A12 l10 k13,W Ej l15 k18,I x20,W A23 l21 k24,I x26,I x27] 67 :: h2 :: h11 :: h16 :: X) ?_ ?_;clear Pb;refine Az h (λh=>?_) λh=>?_;refine AK (At (AU (B4 (AO (M 2 (kld 0 4 V (M 1 (bnd h λx32 hx32 h=>(EX (T:=61) (kd:=.i64) (R:=(AQ 61)) V hx32 IZ λp33 u36 q37 e34 y35=>?_)))))))));obtain ⟨Si,k39,rfl,Mj⟩:=Eo 61 q37;refine HA V e34 (.tail _ (.tail _ (.head _))) (M 2 (Ay (Bb (Bb (Bb (bnd h λE0 Pk h=>(Ch (hR.Df Pk IY o19 KU Mj o8) V trivial ?_)))))));rintro _ _ ⟨h42,WQ,Zl,h48,A49,NI,h52,WR,k54,N0,k58,GO,MY,MZ,PA,o59,rfl,rfl⟩;refine GJ ?_;have o60:=AZ.mono o8 GO;have Rw:=RdR.mono Mj GO;have Rx:=RdR.mono IZ GO;have o63:=N.In.trans o3 GO;exact M 1 (knl (Bf (At (AO (M 3 (G (Ay (Ay (Ap (Ap (Bb (CD m29 (E0.1,Au (x9+1),E0.2.1,E0.2.2.1,E0.2.2.2.1,E0.2.2.2.2.1,E0.2.2.2.2.2.1,E0.2.2.2.2.2.2,h42,WQ,Zl,h48,A49,NI,h52,WR,k54,N0,k58) (Nat.lt_succ_self _) ⟨h,o63,MY,MZ,PA,o59,Rx⟩ sb V))))))))))));refine CX (BL (BL (CY (Dv ?_))));obtain rfl:=Ao h;exact kdv (.tuple #[]) [bk b0 #[W A12 l10 k13,W Ej l15 k18,I x20,W A23 l21 k24,I x26,I x27] 67,h11,h16,h2] (Ar (Al (Ap (Ap (Ap (B2 ⟨h2,h11,A12,k13,h16,Ej,k18,A23,k24,o3,IY,o19,KU,V,V⟩))))));have h:=Pb;clear Pb;refine AO (M 2 (kld 0 4 V (M 3 (B3 14 h (λh=>?_) λh=>?_))));exact M 4 (kld 1 4 V (M 2 (G (AX ⟨gr,gr,gr,gr,gr,gb (Ao h),Aj⟩))));exact M 7 (G (AX ⟨gr,gr,gr,gr,gr,gb (Ao h),Aj⟩))
def Df.l1:Nat->(Rc:RC)->(Aw:List Tree)->(a2:Av)->(a3:Bool)->(FE:Bg->Av->Int->Av->Int->Int->Option (Av×Bg×Av×Int×Av×Int×Int))->(x152:Int)->(Rb:Bg)->(Re:Av)->(Ox:Int)->(NS:Av)->(RX:Int)->(RY:Int)->Option (Av×Bg×Av×Int×Av×Int×Int)
 | 0,_,_,_,_,_,_,_,_,_,_,_,_=>none
 | Tr+1,Rc,Aw,a2,a3,FE,x152,Rb,Re,Ox,NS,RX,RY=>cond (decide (x152 < ((Aw.length:Nat):Int))) (AM (λ(Z1:Bg) (Z2:Av) (Adb:Int) (Z3:Av) (Ade:Int) (Adf:Int)=>Df.l1 Tr Rc Aw a2 a3 FE (Au (x152+1)) Z1 Z2 Adb Z3 Ade Adf) (λUC=>(B7 Aw x152).bind λQk=>cond (Qk.kind == 20) ((B7 Aw x152).bind λRZ=>(Rc.De Rb Re Ox NS RX RY RZ.kind RZ.text RZ.n RZ.at_ RZ.kids a2 a3).bind λKk=>UC Kk.1 Kk.2.1 Kk.2.2.1 Kk.2.2.2.1 Kk.2.2.2.2.1 Kk.2.2.2.2.2) ((B7 Aw x152).bind λSa=>(Rc.FT Rb Re Ox NS RX RY Sa.kind Sa.text Sa.n Sa.at_ Sa.kids a2 false).bind λNl=>UC Nl.1 Nl.2.1 Ox NS Nl.2.2.1 Nl.2.2.2))) (FE Rb Re Ox NS RX RY)
def Df.l0:Nat->(Rc:RC)->(Ax:Int)->(Br:Av)->(AD:Int)->(Aw:List Tree)->(a2:Av)->(FE:Bg->Av->Int->Av->Int->Int->Option (Av×Bg×Av×Int×Av×Int×Int))->(x90:Int)->(Tl:Bg)->(l96:Av)->(x101:Int)->(x102:Int)->Option (Av×Bg×Av×Int×Av×Int×Int)
 | 0,_,_,_,_,_,_,_,_,_,_,_,_=>none
 | Tp+1,Rc,Ax,Br,AD,Aw,a2,FE,x90,Tl,l96,x101,x102=>cond (decide (x90 < ((Aw.length:Nat):Int))) ((B7 Aw x90).bind λRR=>(Rc.FT Tl l96 Ax Br x101 x102 RR.kind RR.text RR.n RR.at_ RR.kids a2 (decide (x90 < AD))).bind λNj=>Df.l0 Tp Rc Ax Br AD Aw a2 FE (Au (x90+1)) Nj.1 Nj.2.1 Nj.2.2.1 Nj.2.2.2) (FE Tl l96 Ax Br x101 x102)
def Df.g (Rc:RC) (k:Nat) (Ai:Bg) (Ak:Av) (Ax:Int) (Br:Av) (Be:Int) (BC:Int) (AI:Int) (AJ:Ah) (AD:Int) (AP:Int) (Aw:List Tree) (a2:Av) (a3:Bool):Option (Av×Bg×Av×Int×Av×Int×Int):=AM (λ(l4:Bg) (l9:Av) (x14:Int) (l15:Av) (x20:Int) (x21:Int)=>some (a2,l4,l9,x14,l15,x20,x21)) (λFE=>cond (AI == 31) ((Rc.Im Ai Ak Ax Br Be BC AI AJ AD AP Aw a2).bind λr25=>FE r25.1 r25.2.1 r25.2.2.1 r25.2.2.2.1 r25.2.2.2.2.1 r25.2.2.2.2.2) (cond (AI == 21) ((Ez.f k Be BC AI AJ AD AP Aw AD 50).bind λr44=>(Ez.f k r44.1 r44.2 AI AJ AD AP Aw (Au (((Aw.length:Nat):Int) - AD)) 50).bind λr45=>(Fi Aw AD ((Aw.length:Nat):Int)).bind λl46=>(Rc.DA Ai Ak Ax Br r45.1 r45.2 l46 a2).bind λr50=>(Fi Aw 0 AD).bind λNT=>(Ei.f k r50.1 Ax r50.2.2.1 r50.2.2.2 AI AJ AD AP Aw a2 NT 0).bind λCG=>some (CG.1,CG.2.1,r50.2.1,Ax,Br,CG.2.2.1,CG.2.2.2)) (cond (AI == 22) ((Ez.f k Be BC AI AJ AD AP Aw AD 50).bind λr86=>(Ez.f k r86.1 r86.2 AI AJ AD AP Aw (Au (((Aw.length:Nat):Int) - AD)) 50).bind λr87=>Df.l0 k Rc Ax Br AD Aw a2 FE 0 Ai Ak r87.1 r87.2) (cond (AI == 23) ((Rc.DA Ai Ak Ax Br Be BC Aw a2).bind λFA=>FE FA.1 FA.2.1 Ax Br FA.2.2.1 FA.2.2.2) (cond (AI == 24) (Df.l1 k Rc Aw a2 a3 FE 0 Ai Ak Ax Br Be BC) (cond (AI == 25) ((B7 Aw 0).bind λSb=>(Rc.FT Ai Ak Ax Br Be BC Sb.kind Sb.text Sb.n Sb.at_ Sb.kids a2 false).bind λTV=>(B7 Aw 1).bind λSe=>(Rc.De TV.1 TV.2.1 Ax Br TV.2.2.1 TV.2.2.2 Se.kind Se.text Se.n Se.at_ Se.kids a2 true).bind λKn=>FE Kn.1 Kn.2.1 Kn.2.2.1 Kn.2.2.2.1 Kn.2.2.2.2.1 Kn.2.2.2.2.2) (cond (AI == 26) ((Fi Aw 1 (Au (((Aw.length:Nat):Int) - 1))).bind λAn4=>(Rc.DA Ai Ak Ax Br Be BC An4 a2).bind λOe=>(B7 Aw (Au (((Aw.length:Nat):Int) - 1))).bind λSf=>(Fi Aw 0 1).bind λAn6=>(Ei.f k Oe.1 Ax Oe.2.2.1 Oe.2.2.2 AI AJ AD AP Aw a2 An6 3).bind λOf=>(Rc.De Of.2.1 Oe.2.1 Ax Br Of.2.2.1 Of.2.2.2 Sf.kind Sf.text Sf.n Sf.at_ Sf.kids Of.1 true).bind λKq=>FE Kq.1 Kq.2.1 Kq.2.2.1 Kq.2.2.2.1 Kq.2.2.2.2.1 Kq.2.2.2.2.2) (cond (AI == 27) ((Ez.f k Be BC AI AJ AD AP Aw AD 50).bind λAax=>(Ez.f k Aax.1 Aax.2 AI AJ AD AP Aw (Au ((Au (((Aw.length:Nat):Int) - 1)) - AD)) 50).bind λAay=>(Fi Aw AD (Au (((Aw.length:Nat):Int) - 1))).bind λAn7=>(Rc.DA Ai Ak Ax Br Aay.1 Aay.2 An7 a2).bind λOg=>(B7 Aw (Au (((Aw.length:Nat):Int) - 1))).bind λSg=>(Fi Aw 0 AD).bind λAn8=>(Ei.f k Og.1 Ax Og.2.2.1 Og.2.2.2 AI AJ AD AP Aw a2 An8 3).bind λOh=>(Rc.De Oh.2.1 Og.2.1 Ax Br Oh.2.2.1 Oh.2.2.2 Sg.kind Sg.text Sg.n Sg.at_ Sg.kids Oh.1 true).bind λKr=>FE Kr.1 Kr.2.1 Kr.2.2.1 Kr.2.2.2.1 Kr.2.2.2.2.1 Kr.2.2.2.2.2) (cond (AI == 28) ((B7 Aw 0).bind λSh=>(Rc.De Ai Ak Ax Br Be BC Sh.kind Sh.text Sh.n Sh.at_ Sh.kids a2 a3).bind λKt=>FE Kt.1 Kt.2.1 Kt.2.2.1 Kt.2.2.2.1 Kt.2.2.2.2.1 Kt.2.2.2.2.2) (cond (AI == 29) (cond (!a3) ((G6.f k Be BC 5 AP).bind λTW=>FE Ai Ak Ax Br TW.1 TW.2) (FE Ai Ak Ax Br Be BC)) (cond (AI == 30) ((Ez.f k Be BC AI AJ AD AP Aw ((Aw.length:Nat):Int) 50).bind λAaz=>(Rc.DA Ai Ak Ax Br Aaz.1 Aaz.2 Aw a2).bind λNm=>FE Nm.1 Nm.2.1 Ax Br Nm.2.2.1 Nm.2.2.2) (FE Ai Ak Ax Br Be BC))))))))))))
theorem Df.Cj {Rc:RC} (hR:Rc.Good) {k:Nat}:Df.C (Df.g Rc k):=by
 intro Ai Ak Br a2 Ax Be BC AI AD AP AJ Aw a3 HP_ AH B9 b0 An Bv Dp Bj CN Am Bt Dn Bi CM r h As BV Ed BD Do;refine BJ Tryz.func35 V (AV V) ?_;intro A X hh_;unfold Df.g at h;refine ksr (knp #[I AI,D AJ,I AD,I AP,W Bi Aw Bj] 61 λb1=>(M 1 (AY (M 1 (kld 0 4 V (M 3 (G ?_)))))));obtain ⟨FE,A7p,h⟩:=BF h;refine BG (τ:=Bg×Av×Int×Av×Int×Int×N×N×AG×Nat×N×AG×Nat×AG×Nat) (λt=>[(2,W CM a2 CN)]) (c15 λa b c d e f g i j l n o p q s=>bk b0 #[W j a l,W o b p,I c,W q d s,I e,I f] 67 :: g :: i :: n :: X) (c15 λa b c d e f g i j l n o p q s=>FE a b c d e f=some r/\HP_.In g/\AN DL 68 i (W j a l) a/\AL encS 9 1 n (W o b p) b/\AZ encS 1 g (W q d s) d/\AZ encS 1 g (W CM a2 CN) a2) ?_ ?_;rintro ⟨l4,l9,x14,l15,x20,x21,h2,h5,A6,k7,h10,K3,k12,Ej,k18⟩ ⟨h,o3,o8,MX,o19,I9⟩;subst A7p;refine ksr (M 2 (G (Ba ?_)));obtain rfl:=Ao h;exact kdv (W CM a2 CN) [bk b0 #[W A6 l4 k7,W K3 l9 k12,I x14,W Ej l15 k18,I x20,I x21] 67,h5,h10,h2] (Al (Ap (Ap (Ap (B2 ⟨h2,CM,CN,h5,A6,k7,h10,K3,k12,Ej,k18,o3,I9,o8,MX,o19,V,V⟩)))));refine ksr (M 1 (kld 0 0 V (G (B4 (ksr (M 2 (G (Az h (λh=>?_) λh=>?_))))))));refine AO (M 1 (BW 0 0 5 V (Ar (M 1 (Ap (Ap (Ap (Ap (bnd h λr25 H7 h=>(Ch (hR.Im H7 As BV Ed BD Do) V trivial ?_))))))))));rintro _ _ ⟨h26,h28,A29,k30,h32,A33,k34,A37,k38,L9,I_,ZY,o39,rfl,rfl⟩;refine GJ ?_;have Mj:=AZ.mono Do L9;have o41:=RdR.mono BD L9;have Ob:=N.In.trans (N.In.refl HP_) L9;exact knl (Bf (At (Ay (Ay (Ap (Ap (AF (r25.1,r25.2.1,r25.2.2.1,r25.2.2.2.1,r25.2.2.2.2.1,r25.2.2.2.2.2,h26,h28,A29,k30,h32,A33,k34,A37,k38) ⟨h,Ob,I_,ZY,o39,Mj⟩ sb V)))))));refine ksr (M 2 (G (Az h (λh=>?_) λh=>?_)));refine ksr (M 1 (BW 0 0 5 V (M 1 (kld 0 2 V (Al (bnd h λr44 MK h=>(Bc (Ez.ok MK BD) V ⟨(.tail _ (.tail _ (.tail _ (.head _)))),Aj⟩ (AY (M 1 (BW 1 0 5 V (M 1 (kld 1 4 V (M 2 (kld 1 2 V (M 1 (bnd h λr45 YC h=>(Bc (Ez.ok YC BD) V ⟨(.tail _ (.tail _ (.tail _ (.head _)))),Aj⟩ (AY (M 2 (kld 1 4 V (M 1 (kld 1 2 V (bnd h λl46 Ba1 h=>(QY (T:=61) (R:=(AQ 61)) (xs:=Aw) AD ((Aw.length:Nat):Int) V (by kernel_rfl) (by kernel_rfl) (by kernel_rfl) (.inr ⟨_,.i64,V,(by kernel_rfl)⟩) (.inl ⟨V,V⟩) (by kernel_rfl) (by kernel_rfl) Ba1 BD λA47 k48 o49=>(M 1 (Bb (Bb (Bb (Ap (bnd h λr50 SG h=>(Ch (hR.DA SG As BV Ed o49 Do) V trivial ?_)))))))))))))))))))))))))))))));rintro _ _ ⟨h51,h53,Nz,NK,h57,GD,k59,IC,Rv,o60,rfl,rfl⟩;refine GJ ?_;have Rw:=AZ.mono Do IC;have Rx:=RdR.mono o49 IC;have o63:=AZ.mono Ed IC;have M_:=RdR.mono BD IC;have Ry:=N.In.trans (N.In.refl HP_) IC;refine G (AU (kpr [(0,0),(1,3),(2,0),(3,0),(4,3),(5,0),(6,3),(7,0)] [4] (AA 1 (Ew 0 0 5 V (AA 2 (Bl 0 4 V (AA 1 (Bl 0 2 V (bnd h λNT Ye h=>(NQ (T:=61) (R:=(AQ 61)) (xs:=Aw) 0 AD V (by kernel_rfl) (by kernel_rfl) (by kernel_rfl) (.inl ⟨V,V⟩) (.inr ⟨_,.i64,V,(by kernel_rfl)⟩) (by kernel_rfl) (by kernel_rfl) Ye M_ λA67 k68 o69=>(BA (Al (Al (bnd h λCG MN h=>(Ch (Ei.ok MN Rv M_ Rw o69) V ⟨(.tail _ (.head _)),(.tail _ (.head _)),(.tail _ (.head _)),Aj⟩ ?_)))))))))))))));rintro _ _ ⟨h71,LW,Mf,h75,My,MR,Na,o78,rfl,rfl⟩;refine KT (AR (Ar (M 1 (G (Ba (B_ (Bm (Bb (Al (Ta λh79 o80 R0=>?_))))))))));have TG:=AZ.mono (AL.rd Na) o80;have o83:=AZ.mono o63 R0;have o84:=N.In.trans Ry R0;obtain rfl:=Ao h;exact kdv (W LW CG.1 Mf) [bk b0 #[W My CG.2.1 MR,W GD r50.2.1 k59,I Ax,W Dn Br Dp,I CG.2.2.1,I CG.2.2.2] 67,h75,h57,h79] (Ap (Ap (Ap (B2 ⟨h79,LW,Mf,h75,My,MR,h57,GD,k59,Dn,Dp,o84,TG,o78,o60,o83,V,V⟩))));refine ksr (M 2 (G (Az h (λh=>?_) λh=>?_)));refine ksr (M 1 (BW 0 0 5 V (M 1 (kld 0 2 V (Al (bnd h λr86 Bdx h=>(Bc (Ez.ok Bdx BD) V ⟨(.tail _ (.tail _ (.tail _ (.head _)))),Aj⟩ (AY (M 1 (BW 1 0 5 V (M 1 (kld 1 4 V (M 2 (kld 1 2 V (M 1 (bnd h λr87 SP h=>(Bc (Ez.ok SP BD) V ⟨(.tail _ (.tail _ (.tail _ (.head _)))),Aj⟩ (AY (M 1 (G (B4 (Ap (Ap (Bb (Bb (Bb (Dd (τ:=Int×Bg×Av×Int×Int×N×N×AG×Nat×N×AG×Nat) (λt=>[(0,pt b0),(2,W CM a2 CN),(5,pt b1),(10,I t.1)]) (c12 λ_ b c d e f g i j l n o=>bk b0 #[W i b j,W n c o,I Ax,W Dn Br Dp,I d,I e] 67 :: bk b1 #[I AI,D AJ,I AD,I AP,W Bi Aw Bj] 61 :: f :: g :: l :: X) (λm=>c12 λa b c d e f g i j l n o=>Df.l0 m Rc Ax Br AD Aw a2 FE a b c d e=some r/\HP_.In f/\AN DL 68 g (W i b j) b/\AL encS 9 1 l (W n c o) c/\AZ encS 1 f (W CM a2 CN) a2/\AZ encS 1 f (W Dn Br Dp) Br/\RdR (AQ 61) f (W Bi Aw Bj) Aw) k (0,Ai,Ak,r87.1,r87.2,HP_,AH,Am,An,B9,Bt,Bv) ⟨h,(N.In.refl HP_),As,BV,Do,Ed,BD⟩ sb V ?_)))))))))))))))))))))))))));clear h;rintro Tp ⟨x90,Tl,l96,x101,x102,h88,MD,Qn,QM,h97,A98,k99⟩ ⟨h,Ml,o95,P7,Tz,T0,T2⟩;rcases Tp with _ | Tp;simp [Df.l0] at h;simp only [Df.l0] at h;refine AU (ksr (M 2 (kld 1 4 V (M 2 (G (Az h (λh=>?_) λh=>?_))))));refine AK (At (AU (B4 (kpr [(0,0),(1,0),(2,3),(3,0),(4,0),(5,3),(6,0),(7,0),(8,0),(9,3),(10,0)] [1,2] (AA 2 (Bl 0 4 V (AA 1 (bnd h λRR Bes h=>(KN (T:=61) (kd:=.i64) (R:=(AQ 61)) V Bes T2 λB1y B2w Bq5 A06 B3k=>?_)))))))));obtain ⟨WI,Ze,rfl,Ru⟩:=Eo 61 Bq5;refine I3 V A06 (λw h_=>h_.mem _ (.tail _ (.head _))) (AA 3 (Bl 0 2 V (AA 1 (BA (Ay (Bb (Bb (Ap (bnd h λNj Bb4 h=>(Ch (hR.FT Bb4 o95 P7 T0 Ru Tz) V trivial ?_))))))))));rintro _ _ ⟨XH,A5h,WK,Zg,A5i,Awu,Bf7,Oa,VT,ZN,rfl,rfl⟩;refine GJ ?_;have ZO:=AZ.mono Tz Oa;have B04:=RdR.mono Ru Oa;have Bkk:=AZ.mono T0 Oa;have ZP:=RdR.mono T2 Oa;have T3:=N.In.trans Ml Oa;exact knl (Bf (At (AO (M 3 (G (Ay (Ay (Ap (Bb (Bb (CD Tp (Au (x90+1),Nj.1,Nj.2.1,Nj.2.2.1,Nj.2.2.2,XH,A5h,WK,Zg,A5i,Awu,Bf7) (Nat.lt_succ_self _) ⟨h,T3,VT,ZN,ZO,Bkk,ZP⟩ sb V)))))))))));exact CX (BL (BL (CY (Bf (At (Al (Ar (AF (Tl,l96,Ax,Br,x101,x102,h88,MD,Qn,QM,h97,A98,k99,Dn,Dp) ⟨h,Ml,o95,P7,T0,Tz⟩ sb V))))))));refine ksr (M 2 (G (Az h (λh=>?_) λh=>?_)));refine AO (M 2 (kld 0 4 V (Ar (M 1 (Ap (Ap (Ap (Ap (bnd h λFA Y8 h=>(Ch (hR.DA Y8 As BV Ed BD Do) V trivial ?_))))))))));rintro _ _ ⟨Vk,A5m,Awx,Bga,A5o,Awy,Bgb,P8,Bkp,Bkr,rfl,rfl⟩;refine GJ ?_;have Bkt:=AZ.mono Do P8;have Apr:=RdR.mono BD P8;have Bku:=AZ.mono Ed P8;have Bkw:=N.In.trans (N.In.refl HP_) P8;exact knl (Bf (At (Ay (Ay (Ap (Ap (AF (FA.1,FA.2.1,Ax,Br,FA.2.2.1,FA.2.2.2,Vk,A5m,Awx,Bga,A5o,Awy,Bgb,Dn,Dp) ⟨h,Bkw,Bkp,Bkr,Bku,Bkt⟩ sb V)))))));refine ksr (M 2 (G (Az h (λh=>?_) λh=>?_)));refine ksr (M 1 (G (B4 (Ap (Ap (Bb (Bb (Bb (Dd (τ:=Int×Bg×Av×Int×Av×Int×Int×N×N×AG×Nat×N×AG×Nat×AG×Nat) (λt=>[(0,pt b0),(2,W CM a2 CN),(3,bv a3),(5,pt b1),(11,I t.1)]) (c16 λ_ b c d e f g i j l n o p q s u=>bk b1 #[I AI,D AJ,I AD,I AP,W Bi Aw Bj] 61 :: bk b0 #[W l b n,W p c q,I d,W s e u,I f,I g] 67 :: i :: j :: o :: X) (λm=>c16 λa b c d e f g i j l n o p q s u=>Df.l1 m Rc Aw a2 a3 FE a b c d e f g=some r/\HP_.In i/\AN DL 68 j (W l b n) b/\AL encS 9 1 o (W p c q) c/\AZ encS 1 i (W s e u) e/\AZ encS 1 i (W CM a2 CN) a2/\RdR (AQ 61) i (W Bi Aw Bj) Aw) k (0,Ai,Ak,Ax,Br,Be,BC,HP_,AH,Am,An,B9,Bt,Bv,Dn,Dp) ⟨h,(N.In.refl HP_),As,BV,Ed,Do,BD⟩ sb V ?_)))))))));clear h;rintro Tr ⟨x152,Rb,Re,Ox,NS,RX,RY,A5p,A5r,Awz,Bgc,A5v,Aw0,Bge,Adq,Alj⟩ ⟨h,ZQ,ZR,ZS,VU,T4,T5⟩;rcases Tr with _ | Tr;simp [Df.l1] at h;simp only [Df.l1] at h;refine AU (ksr (M 2 (kld 0 4 V (M 2 (G (Az h (λh=>?_) λh=>?_))))));refine AK (At ?_);obtain ⟨UC,A7m,h⟩:=BF h;refine BG (τ:=Bg×Av×Int×Av×Int×Int×N×N×AG×Nat×N×AG×Nat×AG×Nat) (λt=>[(0,pt b0),(2,W CM a2 CN),(3,bv a3),(5,pt b1),(11,I x152)]) (c15 λa b c d e f g i j l n o p q s=>bk b1 #[I AI,D AJ,I AD,I AP,W Bi Aw Bj] 61 :: bk b0 #[W j a l,W o b p,I c,W q d s,I e,I f] 67 :: g :: i :: n :: X) (c15 λa b c d e f g i j l n o p q s=>UC a b c d e f=some r/\HP_.In g/\AN DL 68 i (W j a l) a/\AL encS 9 1 n (W o b p) b/\AZ encS 1 g (W q d s) d/\AZ encS 1 g (W CM a2 CN) a2/\RdR (AQ 61) g (W Bi Aw Bj) Aw) ?_ ?_;rintro ⟨Z1,Z2,Adb,Z3,Ade,Adf,A5w,A5y,Aw1,Bgg,A5z,Aw2,Bgh,Aw3,Bgj⟩ ⟨h,Bk6,Bk8,Blj,Blm,Blo,ZT⟩;subst A7m;exact AO (M 3 (G (CD Tr (Au (x152+1),Z1,Z2,Adb,Z3,Ade,Adf,A5w,A5y,Aw1,Bgg,A5z,Aw2,Bgh,Aw3,Bgj) (Nat.lt_succ_self _) ⟨h,Bk6,Bk8,Blj,Blm,Blo,ZT⟩ sb V)));refine B4 (ksr (M 1 (kld 0 4 V (M 1 (bnd h λQk Be0 h=>(EX (T:=61) (kd:=.i64) (R:=(AQ 61)) V Be0 T5 λB18 B23 Brm A1d Bvi=>?_))))));obtain ⟨Adz,Als,rfl,Aps⟩:=Eo 61 Brm;refine HI (off:=0) V A1d Bvi λBp1 e208 B3t=>?_;have e208:Elem _ Bp1 [I Qk.kind,D Qk.text,I Qk.n,I Qk.at_,W Adz Qk.kids Als]:=e208;refine Gj V (by kernel_rfl) (by kernel_rfl) (by kernel_rfl) (by kernel_rfl) e208 (.tail _ (.tail _ (.head _))) (M 1 (G (Az h (λh=>?_) λh=>?_)));refine AO (M 2 (kld 0 4 V (M 1 (bnd h λRZ Be6 h=>(EX (T:=61) (kd:=.i64) (R:=(AQ 61)) V Be6 T5 λB2a B25 Brn e213 B3u=>?_)))));obtain ⟨Bv6,Bzx,rfl,Apt⟩:=Eo 61 Brn;refine HA V e213 (.tail _ (.tail _ (.head _))) (M 2 (Ay (Bb (Bb (Bb (bnd h λKk Bce h=>(Ch (hR.De Bce ZR ZS VU Apt T4) V trivial ?_)))))));rintro _ _ ⟨A6a,A6b,Aw4,Bgk,A6c,Aw5,Bgm,Aw6,Bgn,VV,Blx,Bl0,Bl4,rfl,rfl⟩;refine GJ ?_;have Bl6:=AZ.mono T4 VV;have B05:=RdR.mono Apt VV;have ZU:=RdR.mono T5 VV;have Bl7:=N.In.trans ZQ VV;exact knl (Bf (At (Ay (Ay (Ap (Ap (Bb (AF (Kk.1,Kk.2.1,Kk.2.2.1,Kk.2.2.2.1,Kk.2.2.2.2.1,Kk.2.2.2.2.2,A6a,A6b,Aw4,Bgk,A6c,Aw5,Bgm,Aw6,Bgn) ⟨h,Bl7,Blx,Bl0,Bl4,Bl6,ZU⟩ sb V))))))));refine AO (M 2 (kld 0 4 V (M 1 (bnd h λSa Bfa h=>(EX (T:=61) (kd:=.i64) (R:=(AQ 61)) V Bfa T5 λB2e B27 Brr e241 B30=>?_)))));obtain ⟨Bv9,Bz1,rfl,Apu⟩:=Eo 61 Brr;refine HA V e241 (.tail _ (.tail _ (.head _))) (M 1 (Ay (Bb (Bb (Bb (bnd h λNl Bch h=>(Ch (hR.FT Bch ZR ZS VU Apu T4) V trivial ?_)))))));rintro _ _ ⟨h249,A6e,Ad7,Al5,A6f,Aw7,Bgp,T6,ZV,Bmc,rfl,rfl⟩;refine GJ ?_;have Bmd:=AZ.mono T4 T6;have Apv:=RdR.mono Apu T6;have Bme:=AZ.mono VU T6;have Bmh:=RdR.mono T5 T6;have Bmj:=N.In.trans ZQ T6;exact knl (Bf (At (Ay (Ay (Ap (Ap (Bb (AF (Nl.1,Nl.2.1,Ox,NS,Nl.2.2.1,Nl.2.2.2,h249,A6e,Ad7,Al5,A6f,Aw7,Bgp,Adq,Alj) ⟨h,Bmj,ZV,Bmc,Bme,Bmd,Bmh⟩ sb V))))))));exact CX (BL (BL (CY (Bf (At (Ar (AF (Rb,Re,Ox,NS,RX,RY,A5p,A5r,Awz,Bgc,A5v,Aw0,Bge,Adq,Alj) ⟨h,ZQ,ZR,ZS,VU,T4⟩ sb V)))))));refine ksr (M 2 (G (Az h (λh=>?_) λh=>?_)));refine ksr (M 2 (kld 0 4 V (bnd h λSb Bfb h=>(EX (T:=61) (kd:=.i64) (R:=(AQ 61)) V Bfb BD λB2i B3a Brs e267 B31=>?_))));obtain ⟨Bwi,Bz6,rfl,Apw⟩:=Eo 61 Brs;refine HA V e267 (.tail _ (.tail _ (.tail _ (.tail _ (.head _))))) (M 1 (Bb (Bb (Bb (Bb (bnd h λTV Bcn h=>(Ch (hR.FT Bcn As BV Ed Apw Do) V trivial ?_)))))));rintro _ _ ⟨Bx2,Bx4,Bwl,B0b,Bx6,Bwm,B0c,P9,Bmt,Bmu,rfl,rfl⟩;refine GJ ?_;have VW:=AZ.mono Do P9;have B1b:=RdR.mono Apw P9;have Bmv:=AZ.mono Ed P9;have Bmw:=RdR.mono BD P9;have Bmx:=N.In.trans (N.In.refl HP_) P9;refine Eu (M 2 (kld 4 4 V (Bb (Ar (bnd h λSe Bfe h=>(EX (T:=61) (kd:=.i64) (R:=(AQ 61)) V Bfe Bmw λB2m B3d Brv A1h B36=>?_))))));obtain ⟨Bwq,B0e,rfl,Apy⟩:=Eo 61 Brv;refine HA V A1h (.tail _ (.tail _ (.tail _ (.head _)))) (M 1 (Ap (Ap (Ap (Ap (bnd h λKn Bcr h=>(Ch (hR.De Bcr Bmt Bmu Bmv Apy VW) V trivial ?_)))))));rintro _ _ ⟨Vl,A6k,Aw8,Bgr,A6o,Axc,Bgs,U3,Vy,ZW,Bm7,Bm8,ZX,rfl,rfl⟩;refine GJ ?_;have Bm9:=AZ.mono VW ZW;have B1c:=RdR.mono Apy ZW;have Bna:=N.In.trans Bmx ZW;exact knl (Bf (At (Ay (Ay (Ap (Ap (AF (Kn.1,Kn.2.1,Kn.2.2.1,Kn.2.2.2.1,Kn.2.2.2.2.1,Kn.2.2.2.2.2,Vl,A6k,Aw8,Bgr,A6o,Axc,Bgs,U3,Vy) ⟨h,Bna,Bm7,Bm8,ZX,Bm9⟩ sb V)))))));refine ksr (M 2 (G (Az h (λh=>?_) λh=>?_)));refine ksr (M 2 (kld 0 4 V (M 1 (bnd h λAn4 Bap h=>(QY (T:=61) (R:=(AQ 61)) (xs:=Aw) 1 (Au (((Aw.length:Nat):Int) - 1)) V (by kernel_rfl) (by kernel_rfl) (by kernel_rfl) (.inr ⟨_,.i64,V,(by kernel_rfl)⟩) (.inr ⟨_,.i64,V,(by kernel_rfl)⟩) (by kernel_rfl) (by kernel_rfl) Bap BD λWP Zk VX=>(M 1 (Bb (Bb (Bb (Bb (bnd h λOe Bcz h=>(Ch (hR.DA Bcz As BV Ed VX Do) V trivial ?_))))))))))));rintro _ _ ⟨Vm,Bx7,Axg,Bgt,Bx8,Bwr,B0f,T7,Bne,Bnh,rfl,rfl⟩;refine GJ ?_;have Apz:=AZ.mono Do T7;have B1d:=RdR.mono VX T7;have Bnk:=AZ.mono Ed T7;have VY:=RdR.mono BD T7;have Bnl:=N.In.trans (N.In.refl HP_) T7;refine G (Px [(0,0),(1,0),(2,3),(3,0),(4,0),(5,3),(6,0),(7,3),(8,0),(9,0),(10,3),(11,0),(12,1)] (λw=>∃ (Ir:Value),∃ (Is:Value),∃ (v2_:Value),E6 [Vm,bk b1 #[I AI,D AJ,I AD,I AP,W Bi Aw Bj] 61] w) (by kernel_rfl) (by kernel_rfl) (λ_ _ d _ _ h=>by cases d <;> exact h) (λw h_=>⟨W Axg Oe.1 Bgt,I Oe.2.2.1,I Oe.2.2.2,h_.sat.on _ (.tail _ (.tail _ (.tail _ (.head _)))),h_.sat.on _ (.tail _ (.tail _ (.tail _ (.tail _ (.head _))))),Aj⟩) ?_);simp only [DJ,List.filterMap_cons,List.filterMap_nil,List.getElem?_toArray,List.getElem?_cons_zero,List.getElem?_cons_succ,Option.map_some,List.drop_succ_cons,List.drop_zero,AW,Bp];refine AA 2 (KL (v:=W Bi Aw Bj) [.val (W Bi Aw Bj)] [.ld ⟨b1,4,none⟩ (W Bi Aw Bj)] (by kernel_rfl) (by kernel_rfl) (by kernel_rfl) (λ_ h_=>h_.elim λIr h_=>h_.elim λIs h_=>h_.elim λv2_ h_=>⟨[Vm,bk b1 #[I AI,D AJ,I AD,I AP,W Bi Aw Bj] 61],h_,⟨⟨1,_,_,_,V,V,V⟩,Aj⟩⟩) (AA 1 (bnd h λSf Bfg h=>(KN (T:=61) (kd:=.i64) (R:=(AQ 61)) V Bfg VY λp339 B3e Brx A1i B37=>?_))));obtain ⟨Bws,B0h,rfl,Bnm⟩:=Eo 61 Brx;refine I3 V A1i (λw h_=>h_.elim λIr h_=>h_.elim λIs h_=>h_.elim λv2_ h_=>h_.mem _ (.head _)) (AA 1 (KL (v:=.agg #[I AI,D AJ,I AD,I AP,W Bi Aw Bj]) [.val (I AI),.val (D AJ),.val (I AD),.val (I AP),.val (W Bi Aw Bj)] [.ld ⟨b1,0,none⟩ (I AI),.ld ⟨b1,1,none⟩ (D AJ),.ld ⟨b1,2,none⟩ (I AD),.ld ⟨b1,3,none⟩ (I AP),.ld ⟨b1,4,none⟩ (W Bi Aw Bj)] (by kernel_rfl) (by kernel_rfl) (by kernel_rfl) (λ_ h_=>h_.elim λIr h_=>h_.elim λIs h_=>h_.elim λv2_ h_=>⟨[Vm,bk b1 #[I AI,D AJ,I AD,I AP,W Bi Aw Bj] 61],h_,⟨⟨1,_,_,_,V,V,V⟩,⟨1,_,_,_,V,V,V⟩,⟨1,_,_,_,V,V,V⟩,⟨1,_,_,_,V,V,V⟩,⟨1,_,_,_,V,V,V⟩,Aj⟩⟩) (AA 2 (KL (v:=W Bi Aw Bj) [.val (W Bi Aw Bj)] [.ld ⟨b1,4,none⟩ (W Bi Aw Bj)] (by kernel_rfl) (by kernel_rfl) (by kernel_rfl) (λ_ h_=>h_.elim λIr h_=>h_.elim λIs h_=>h_.elim λv2_ h_=>⟨[Vm,bk b1 #[I AI,D AJ,I AD,I AP,W Bi Aw Bj] 61],h_,⟨⟨1,_,_,_,V,V,V⟩,Aj⟩⟩) (bnd h λAn6 Bat h=>(NQ (T:=61) (R:=(AQ 61)) (xs:=Aw) 0 1 V (by kernel_rfl) (by kernel_rfl) (by kernel_rfl) (.inl ⟨V,V⟩) (.inr ⟨_,.i64,V,(by kernel_rfl)⟩) (by kernel_rfl) (by kernel_rfl) Bat VY λBwt B0i Bnp=>(kpt (Al (Al (bnd h λOf Bc0 h=>(Jy (Ei.ok Bc0 Bne VY Apz Bnp) V ⟨(.tail _ (.head _)),(.tail _ (.head _)),(.tail _ (.head _)),Aj⟩ ?_)))))))))));rintro _ _ ⟨Bx9,Bwu,B0j,Byb,Axi,Bgu,Bns,Bnt,rfl,rfl⟩;refine KT (L4 (λw h_=>⟨W Axi Of.2.1 Bgu,I Of.2.2.1,I Of.2.2.2,h_.sat.on _ (.tail _ (.tail _ (.tail _ (.tail _ (.head _))))),h_.sat.on _ (.tail _ (.tail _ (.tail _ (.tail _ (.tail _ (.head _)))))),Aj⟩) (BA (Bb (Al (Ta λBye Bnv T8=>?_)))));have Ap0:=AZ.mono (AL.rd Bns) Bnv;have Bnx:=AZ.mono Apz T8;have Ap2:=RdR.mono Bnm T8;have Bny:=AZ.mono Bnk T8;have Bn0:=RdR.mono VY T8;have Bn1:=N.In.trans Bnl T8;refine Ap (Ap (Ap (bnd h λKq Bc2 h=>(Ch (hR.De Bc2 Bnt Bnh Bny Ap2 Ap0) V trivial ?_))));rintro _ _ ⟨A6r,A6t,Axj,Bgv,A6u,Axl,Bgy,Axm,Bg2,T9,Bn2,Bn3,Bn5,rfl,rfl⟩;refine GJ ?_;have Bn6:=AZ.mono Bnx T9;have B1h:=RdR.mono Ap2 T9;have B1i:=AZ.mono Ap0 T9;have B1k:=RdR.mono Bn0 T9;have Bn7:=N.In.trans Bn1 T9;exact Bb (Ar (knl (Bf (At (Ay (Ay (Ap (Ap (AF (Kq.1,Kq.2.1,Kq.2.2.1,Kq.2.2.2.1,Kq.2.2.2.2.1,Kq.2.2.2.2.2,A6r,A6t,Axj,Bgv,A6u,Axl,Bgy,Axm,Bg2) ⟨h,Bn7,Bn2,Bn3,Bn5,Bn6⟩ sb V)))))))));refine ksr (M 2 (G (Az h (λh=>?_) λh=>?_)));refine ksr (M 1 (BW 0 0 5 V (M 1 (kld 0 2 V (Al (bnd h λAax Bc3 h=>(Bc (Ez.ok Bc3 BD) V ⟨(.tail _ (.tail _ (.tail _ (.head _)))),Aj⟩ (AY (M 1 (BW 1 0 5 V (M 2 (kld 1 2 V (M 1 (bnd h λAay Bc5 h=>(Bc (Ez.ok Bc5 BD) V ⟨(.tail _ (.tail _ (.tail _ (.head _)))),Aj⟩ (AY (M 2 (kld 1 4 V (M 1 (kld 1 2 V (M 1 (bnd h λAn7 Bax h=>(QY (T:=61) (R:=(AQ 61)) (xs:=Aw) AD (Au (((Aw.length:Nat):Int) - 1)) V (by kernel_rfl) (by kernel_rfl) (by kernel_rfl) (.inr ⟨_,.i64,V,(by kernel_rfl)⟩) (.inr ⟨_,.i64,V,(by kernel_rfl)⟩) (by kernel_rfl) (by kernel_rfl) Bax BD λBww B0n Ap3=>(M 1 (Bb (Bb (Bb (Ap (bnd h λOg Bc6 h=>(Ch (hR.DA Bc6 As BV Ed Ap3 Do) V trivial ?_))))))))))))))))))))))))))))));rintro _ _ ⟨S8,Byh,Axo,Bg4,Byi,Bwy,B0o,TA,Bn9,Bob,rfl,rfl⟩;refine GJ ?_;have Ap6:=AZ.mono Do TA;have B1l:=RdR.mono Ap3 TA;have Boc:=AZ.mono Ed TA;have V_:=RdR.mono BD TA;have Boe:=N.In.trans (N.In.refl HP_) TA;refine G (Px [(0,0),(1,0),(2,3),(3,0),(4,0),(5,3),(6,0),(7,3),(8,0),(9,0),(10,3),(11,0),(12,3),(13,0),(14,1)] (λw=>∃ (Ir:Value),∃ (Is:Value),∃ (v2_:Value),E6 [S8,bk b1 #[I AI,D AJ,I AD,I AP,W Bi Aw Bj] 61] w) (by kernel_rfl) (by kernel_rfl) (λ_ _ d _ _ h=>by cases d <;> exact h) (λw h_=>⟨W Axo Og.1 Bg4,I Og.2.2.1,I Og.2.2.2,h_.sat.on _ (.tail _ (.tail _ (.tail _ (.head _)))),h_.sat.on _ (.tail _ (.tail _ (.tail _ (.tail _ (.head _))))),Aj⟩) ?_);simp only [DJ,List.filterMap_cons,List.filterMap_nil,List.getElem?_toArray,List.getElem?_cons_zero,List.getElem?_cons_succ,Option.map_some,List.drop_succ_cons,List.drop_zero,AW,Bp];refine AA 2 (KL (v:=W Bi Aw Bj) [.val (W Bi Aw Bj)] [.ld ⟨b1,4,none⟩ (W Bi Aw Bj)] (by kernel_rfl) (by kernel_rfl) (by kernel_rfl) (λ_ h_=>h_.elim λIr h_=>h_.elim λIs h_=>h_.elim λv2_ h_=>⟨[S8,bk b1 #[I AI,D AJ,I AD,I AP,W Bi Aw Bj] 61],h_,⟨⟨1,_,_,_,V,V,V⟩,Aj⟩⟩) (AA 1 (bnd h λSg Bfi h=>(KN (T:=61) (kd:=.i64) (R:=(AQ 61)) V Bfi V_ λB2o B3f Bry A1l B4a=>?_))));obtain ⟨Bwz,B0r,rfl,Boj⟩:=Eo 61 Bry;refine I3 V A1l (λw h_=>h_.elim λIr h_=>h_.elim λIs h_=>h_.elim λv2_ h_=>h_.mem _ (.head _)) (AA 1 (KL (v:=.agg #[I AI,D AJ,I AD,I AP,W Bi Aw Bj]) [.val (I AI),.val (D AJ),.val (I AD),.val (I AP),.val (W Bi Aw Bj)] [.ld ⟨b1,0,none⟩ (I AI),.ld ⟨b1,1,none⟩ (D AJ),.ld ⟨b1,2,none⟩ (I AD),.ld ⟨b1,3,none⟩ (I AP),.ld ⟨b1,4,none⟩ (W Bi Aw Bj)] (by kernel_rfl) (by kernel_rfl) (by kernel_rfl) (λ_ h_=>h_.elim λIr h_=>h_.elim λIs h_=>h_.elim λv2_ h_=>⟨[S8,bk b1 #[I AI,D AJ,I AD,I AP,W Bi Aw Bj] 61],h_,⟨⟨1,_,_,_,V,V,V⟩,⟨1,_,_,_,V,V,V⟩,⟨1,_,_,_,V,V,V⟩,⟨1,_,_,_,V,V,V⟩,⟨1,_,_,_,V,V,V⟩,Aj⟩⟩) (AA 2 (KL (v:=W Bi Aw Bj) [.val (W Bi Aw Bj)] [.ld ⟨b1,4,none⟩ (W Bi Aw Bj)] (by kernel_rfl) (by kernel_rfl) (by kernel_rfl) (λ_ h_=>h_.elim λIr h_=>h_.elim λIs h_=>h_.elim λv2_ h_=>⟨[S8,bk b1 #[I AI,D AJ,I AD,I AP,W Bi Aw Bj] 61],h_,⟨⟨1,_,_,_,V,V,V⟩,Aj⟩⟩) (AA 1 (KL (v:=I AD) [.val (I AD)] [.ld ⟨b1,2,none⟩ (I AD)] (by kernel_rfl) (by kernel_rfl) (by kernel_rfl) (λ_ h_=>h_.elim λIr h_=>h_.elim λIs h_=>h_.elim λv2_ h_=>⟨[S8,bk b1 #[I AI,D AJ,I AD,I AP,W Bi Aw Bj] 61],h_,⟨⟨1,_,_,_,V,V,V⟩,Aj⟩⟩) (bnd h λAn8 Ba0 h=>(NQ (T:=61) (R:=(AQ 61)) (xs:=Aw) 0 AD V (by kernel_rfl) (by kernel_rfl) (by kernel_rfl) (.inl ⟨V,V⟩) (.inr ⟨_,.i64,V,(by kernel_rfl)⟩) (by kernel_rfl) (by kernel_rfl) Ba0 V_ λBw1 B0s Bok=>(kpt (Al (Al (bnd h λOh Bdc h=>(Jy (Ei.ok Bdc Bn9 V_ Ap6 Bok) V ⟨(.tail _ (.head _)),(.tail _ (.head _)),(.tail _ (.head _)),Aj⟩ ?_)))))))))))));rintro _ _ ⟨Byl,Bw2,B0t,Bym,Axp,Bg7,Bol,Bom,rfl,rfl⟩;refine KT (L4 (λw h_=>⟨W Axp Oh.2.1 Bg7,I Oh.2.2.1,I Oh.2.2.2,h_.sat.on _ (.tail _ (.tail _ (.tail _ (.tail _ (.head _))))),h_.sat.on _ (.tail _ (.tail _ (.tail _ (.tail _ (.tail _ (.head _)))))),Aj⟩) (BA (Bb (Al (Ta λByo Boo TC=>?_)))));have Ap7:=AZ.mono (AL.rd Bol) Boo;have Bop:=AZ.mono Ap6 TC;have Ap8:=RdR.mono Boj TC;have Boq:=AZ.mono Boc TC;have Bos:=RdR.mono V_ TC;have Bot:=N.In.trans Boe TC;refine Ap (Ap (Ap (bnd h λKr Bde h=>(Ch (hR.De Bde Bom Bob Boq Ap8 Ap7) V trivial ?_))));rintro _ _ ⟨A6v,A6w,Axq,Bg8,A6x,Axr,Bha,Axs,Bhb,TD,Bou,Boy,Boz,rfl,rfl⟩;refine GJ ?_;have Bo0:=AZ.mono Bop TD;have B1p:=RdR.mono Ap8 TD;have B1q:=AZ.mono Ap7 TD;have B1r:=RdR.mono Bos TD;have Bo2:=N.In.trans Bot TD;exact Bb (Ar (knl (Bf (At (Ay (Ay (Ap (Ap (AF (Kr.1,Kr.2.1,Kr.2.2.1,Kr.2.2.2.1,Kr.2.2.2.2.1,Kr.2.2.2.2.2,A6v,A6w,Axq,Bg8,A6x,Axr,Bha,Axs,Bhb) ⟨h,Bo2,Bou,Boy,Boz,Bo0⟩ sb V)))))))));refine ksr (M 2 (G (Az h (λh=>?_) λh=>?_)));refine AO (M 2 (kld 0 4 V (Ar (bnd h λSh Bfl h=>(EX (T:=61) (kd:=.i64) (R:=(AQ 61)) V Bfl BD λB2q B3i Brz A1n B4c=>?_)))));obtain ⟨Bw4,B0v,rfl,Ap9⟩:=Eo 61 Brz;refine HA V A1n (.tail _ (.tail _ (.tail _ (.head _)))) (M 2 (Ap (Ap (Ap (Ap (bnd h λKt Bdf h=>(Ch (hR.De Bdf As BV Ed Ap9 Do) V trivial ?_)))))));rintro _ _ ⟨A6y,A7b,Axt,Bhc,A7c,Axw,Bhe,Axx,Bhh,ZZ,Bo3,Bo6,Bo7,rfl,rfl⟩;refine GJ ?_;have Bo9:=AZ.mono Do ZZ;have B1s:=RdR.mono Ap9 ZZ;have Bpa:=N.In.trans (N.In.refl HP_) ZZ;exact knl (Bf (At (Ay (Ay (Ap (Ap (AF (Kt.1,Kt.2.1,Kt.2.2.1,Kt.2.2.2.1,Kt.2.2.2.2.1,Kt.2.2.2.2.2,A6y,A7b,Axt,Bhc,A7c,Axw,Bhe,Axx,Bhh) ⟨h,Bpa,Bo3,Bo6,Bo7,Bo9⟩ sb V)))))));refine ksr (M 2 (G (Az h (λh=>?_) λh=>?_)));refine ksr (M 2 (G (Az h (λh=>?_) λh=>?_)));exact AO (M 2 (kld 0 3 V (Ar (bnd h λTW Bdi h=>(Bc (G6.ok Bdi) V trivial (knl (Bf (At (Ay (Ay (Ap (Ap (AF (Ai,Ak,Ax,Br,TW.1,TW.2,HP_,AH,Am,An,B9,Bt,Bv,Dn,Dp) ⟨h,(N.In.refl HP_),As,BV,Ed,Do⟩ sb V)))))))))))));exact AK (Bf (At (Ar (Ay (Ay (Ap (Ap (AF (Ai,Ak,Ax,Br,Be,BC,HP_,AH,Am,An,B9,Bt,Bv,Dn,Dp) ⟨h,(N.In.refl HP_),As,BV,Ed,Do⟩ sb V))))))));refine ksr (M 2 (G (Az h (λh=>?_) λh=>?_)));refine ksr (M 1 (BW 0 0 5 V (M 1 (kld 0 4 V (M 1 (Al (bnd h λAaz Bdj h=>(Bc (Ez.ok Bdj BD) V ⟨(.tail _ (.tail _ (.tail _ (.head _)))),Aj⟩ (Eu (M 2 (kld 1 4 V (Al (Ar (M 1 (Ap (Ap (Ap (Ap (bnd h λNm Bdk h=>(Ch (hR.DA Bdk As BV Ed BD Do) V trivial ?_))))))))))))))))))));rintro _ _ ⟨A7f,A7i,Axz,Bhl,A7j,Ax2,Bhm,Wa,Bpc,Bpd,rfl,rfl⟩;refine GJ ?_;have Bpe:=AZ.mono Do Wa;have B1w:=RdR.mono BD Wa;have Bpi:=AZ.mono Ed Wa;have Bpk:=N.In.trans (N.In.refl HP_) Wa;exact knl (Bf (At (Ay (Ay (Ap (Ap (AF (Nm.1,Nm.2.1,Ax,Br,Nm.2.2.1,Nm.2.2.2,A7f,A7i,Axz,Bhl,A7j,Ax2,Bhm,Dn,Dp) ⟨h,Bpk,Bpc,Bpd,Bpi,Bpe⟩ sb V)))))));exact AK (Bf (At (Ar (Ay (Ay (Ap (Ap (AF (Ai,Ak,Ax,Br,Be,BC,HP_,AH,Am,An,B9,Bt,Bv,Dn,Dp) ⟨h,(N.In.refl HP_),As,BV,Ed,Do⟩ sb V))))))))
def Im.g (Rc:RC) (k:Nat) (Ai:Bg) (Ak:Av) (Ax:Int) (Br:Av) (Be:Int) (BC:Int) (AI:Int) (AJ:Ah) (AD:Int) (AP:Int) (Aw:List Tree) (a2:Av):Option (Bg×Av×Int×Av×Int×Int):=(Ez.f k Be BC AI AJ AD AP Aw ((Ai.length:Nat):Int) 100).bind λr2=>AM (λ(x3:Int) (x4:Int)=>(Ez.f k x3 x4 AI AJ AD AP Aw AD 50).bind λr6=>(Mn.f k Ak AJ).bind λr7=>(apd 64 Ai [(AJ,AP,AD,0,[])]).bind λl15=>(B7 Aw AD).bind λx20=>(Fi Aw 0 AD).bind λl29=>(Ei.f k l15 ((Ai.length:Nat):Int) r6.1 r6.2 AI AJ AD AP Aw ([]) l29 0).bind λr33=>(Rc.De r33.2.1 r7 ((Ai.length:Nat):Int) a2 r33.2.2.1 r33.2.2.2 x20.kind x20.text x20.n x20.at_ x20.kids r33.1 false).bind λr50=>some (r50.1,r50.2.1,0,[],r50.2.2.2.2.1,r50.2.2.2.2.2)) (λJ5=>(Ki.f k AJ).bind λr69=>cond r69 ((G6.f k r2.1 r2.2 5 AP).bind λr71=>J5 r71.1 r71.2) (J5 r2.1 r2.2))
theorem Im.Cj {Rc:RC} (hR:Rc.Good) {k:Nat}:Im.C (Im.g Rc k):=by
 intro Ai Ak Br a2 Ax Be BC AI AD AP AJ Aw HP_ AH B9 b0 An Bv Dp Bj CN Am Bt Dn Bi CM r h As BV Ed BD Do;refine BJ Tryz.func67 V (AV V) ?_;intro A X hh_;unfold Im.g at h;refine ksr (knp #[I AI,D AJ,I AD,I AP,W Bi Aw Bj] 61 λb1=>(G (AU (kpr [(0,0),(1,3),(2,0),(3,0),(4,0),(5,0),(6,3),(7,0)] [0,1] (AA 1 (Ew 0 0 5 V (AA 4 (Bl 1 0 V (AA 1 (BA (Al (bnd h λr2 hr2 h=>(Bc (Ez.ok hr2 BD) V ⟨(.tail _ (.tail _ (.tail _ (.head _)))),Aj⟩ (G ?_))))))))))))));obtain ⟨J5,hJ5,h⟩:=BF h;refine BG (τ:=Int×Int) (λt=>[(0,pt b0),(2,W CM a2 CN),(4,pt b1)]) (λt=>bk b0 #[W Am Ai An,W Bt Ak Bv,I Ax,W Dn Br Dp,I t.1,I t.2] 67 :: bk b1 #[I AI,D AJ,I AD,I AP,W Bi Aw Bj] 61 :: AH :: B9 :: HP_ :: X) (λt=>J5 t.1 t.2=some r) ?_ ?_;rintro ⟨x3,x4⟩ h;subst hJ5;refine ksr (M 1 (BW 1 0 5 V (M 1 (kld 1 2 V (bnd h λr6 Ly h=>(Bc (Ez.ok Ly BD) V ⟨(.tail _ (.tail _ (.tail _ (.head _)))),Aj⟩ (AY (M 2 (kld 1 1 V (Ap (Al (bnd h λr7 hr7 h=>(Ch (Mn.ok hr7 BV) V trivial ?_)))))))))))));rintro _ _ ⟨h8,A9,k10,H_,rfl,rfl⟩;refine BH (AY (M 4 (AC 3 1 #[W Am Ai An,W A9 r7 k10,I Ax,W CM a2 CN,I r6.1,I r6.2] (AY (M 5 (kld 0 0 V (M 3 (AC 2 1 #[W Am Ai An,W A9 r7 k10,I ((Ai.length:Nat):Int),W CM a2 CN,I r6.1,I r6.2] (G (AU (kpr [(0,0),(1,0),(2,0),(3,0),(4,0),(5,3),(6,0),(7,3),(8,0),(9,3),(10,0),(11,3),(12,0),(13,1)] [0,2] (AA 5 (Bl 0 0 V (AA 1 (Bl 1 1 V (AA 1 (Bl 1 3 V (AA 1 (Bl 1 2 V (AA 1 (kpt (Gb #[D AJ,I AP,I AD,I 0,nS] 68 1 λb12=>(Cr [1,3] V (BA (C5 (Al (Cq (T:=68) (n:=1) (xs:=[(AJ,AP,AD,0,[])]) (B6.one (Aa9 (x:=(AJ,AP,AD,0,[])) (AL.nil e43 43 3 none_))) V V (AV V) λh13 IY=>(Bb (bnd h λl15 Bae h=>(Dr V A3a V Bae As IY λh16 Ej k18 o19=>(M 3 (Al (AC 0 1 #[W Ej l15 k18,W A9 r7 k10,I ((Ai.length:Nat):Int),W CM a2 CN,I r6.1,I r6.2] (G (AU (Px [(0,0),(1,0),(2,3),(3,0),(4,3),(5,0),(6,3),(7,0),(8,3),(9,0),(10,3),(11,0),(12,3),(13,0),(14,1)] (λw=>∃ (Ir:Value),∃ (Is:Value),∃ (v2_:Value),E6 [bk b1 #[I AI,D AJ,I AD,I AP,W Bi Aw Bj] 61,HP_] w) (by kernel_rfl) (by kernel_rfl) (λ_ _ d _ _ h=>by cases d <;> exact h) (λw h_=>⟨W Ej l15 k18,I r6.1,I r6.2,h_.sat.on _ (.tail _ (.tail _ (.tail _ (.head _)))),h_.sat.on _ (.tail _ (.tail _ (.tail _ (.tail _ (.head _))))),Aj⟩) ?_))))))))))))))))))))))))))))))))))));simp only [DJ,List.filterMap_cons,List.filterMap_nil,List.getElem?_toArray,List.getElem?_cons_zero,List.getElem?_cons_succ,Option.map_some,List.drop_succ_cons,List.drop_zero,AW,Bp];refine AA 2 (KL (v:=W Bi Aw Bj) [.val (W Bi Aw Bj)] [.ld ⟨b1,4,none⟩ (W Bi Aw Bj)] (by kernel_rfl) (by kernel_rfl) (by kernel_rfl) (λ_ h_=>h_.elim λIr h_=>h_.elim λIs h_=>h_.elim λv2_ h_=>⟨[bk b1 #[I AI,D AJ,I AD,I AP,W Bi Aw Bj] 61,HP_],h_,⟨⟨0,_,_,_,V,V,V⟩,Aj⟩⟩) (AA 1 (KL (v:=I AD) [.val (I AD)] [.ld ⟨b1,2,none⟩ (I AD)] (by kernel_rfl) (by kernel_rfl) (by kernel_rfl) (λ_ h_=>h_.elim λIr h_=>h_.elim λIs h_=>h_.elim λv2_ h_=>⟨[bk b1 #[I AI,D AJ,I AD,I AP,W Bi Aw Bj] 61,HP_],h_,⟨⟨0,_,_,_,V,V,V⟩,Aj⟩⟩) (bnd h λx20 Be1 h=>(KN (T:=61) (kd:=.i64) (R:=(AQ 61)) V Be1 BD λp21 u24 q25 e22 y23=>?_)))));obtain ⟨A26,k27,rfl,IZ⟩:=Eo 61 q25;refine I3 V e22 (λw h_=>h_.elim λIr h_=>h_.elim λIs h_=>h_.elim λv2_ h_=>h_.mem _ (.tail _ (.head _))) (AA 1 (KL (v:=.agg #[I AI,D AJ,I AD,I AP,W Bi Aw Bj]) [.val (I AI),.val (D AJ),.val (I AD),.val (I AP),.val (W Bi Aw Bj)] [.ld ⟨b1,0,none⟩ (I AI),.ld ⟨b1,1,none⟩ (D AJ),.ld ⟨b1,2,none⟩ (I AD),.ld ⟨b1,3,none⟩ (I AP),.ld ⟨b1,4,none⟩ (W Bi Aw Bj)] (by kernel_rfl) (by kernel_rfl) (by kernel_rfl) (λ_ h_=>h_.elim λIr h_=>h_.elim λIs h_=>h_.elim λv2_ h_=>⟨[bk b1 #[I AI,D AJ,I AD,I AP,W Bi Aw Bj] 61,HP_],h_,⟨⟨0,_,_,_,V,V,V⟩,⟨0,_,_,_,V,V,V⟩,⟨0,_,_,_,V,V,V⟩,⟨0,_,_,_,V,V,V⟩,⟨0,_,_,_,V,V,V⟩,Aj⟩⟩) (AA 1 (KL (v:=W Bi Aw Bj) [.val (W Bi Aw Bj)] [.ld ⟨b1,4,none⟩ (W Bi Aw Bj)] (by kernel_rfl) (by kernel_rfl) (by kernel_rfl) (λ_ h_=>h_.elim λIr h_=>h_.elim λIs h_=>h_.elim λv2_ h_=>⟨[bk b1 #[I AI,D AJ,I AD,I AP,W Bi Aw Bj] 61,HP_],h_,⟨⟨0,_,_,_,V,V,V⟩,Aj⟩⟩) (AA 1 (KL (v:=I AD) [.val (I AD)] [.ld ⟨b1,2,none⟩ (I AD)] (by kernel_rfl) (by kernel_rfl) (by kernel_rfl) (λ_ h_=>h_.elim λIr h_=>h_.elim λIs h_=>h_.elim λv2_ h_=>⟨[bk b1 #[I AI,D AJ,I AD,I AP,W Bi Aw Bj] 61,HP_],h_,⟨⟨0,_,_,_,V,V,V⟩,Aj⟩⟩) (bnd h λl29 Yc h=>(NQ (T:=61) (R:=(AQ 61)) (xs:=Aw) 0 AD V (by kernel_rfl) (by kernel_rfl) (by kernel_rfl) (.inl ⟨V,V⟩) (.inr ⟨_,.i64,V,(by kernel_rfl)⟩) (by kernel_rfl) (by kernel_rfl) Yc BD λFM k31 o32=>(kpt (C5 (Ay (Ay (bnd h λr33 SE h=>(Jy (Ei.ok SE o19 BD (AZ.nil encS 1 none_) o32) V ⟨(.tail _ (.tail _ (.tail _ (.head _)))),(.head _),(.tail _ (.tail _ (.tail _ (.head _)))),Aj⟩ ?_))))))))))))));rintro _ _ ⟨h34,A35,Ju,h38,A39,IW,GN,o41,rfl,rfl⟩;refine KT (L4 (λw h_=>⟨W A39 r33.2.1 IW,I r33.2.2.1,I r33.2.2.2,h_.sat.on _ (.tail _ (.tail _ (.tail _ (.tail _ (.tail _ (.head _)))))),h_.sat.on _ (.tail _ (.tail _ (.tail _ (.tail _ (.tail _ (.tail _ (.head _))))))),Aj⟩) (BA (BI (Al (Ta λh42 GO KV=>?_)))));have IB:=AZ.mono (AL.rd GN) GO;have LC:=RdR.mono IZ KV;have MY:=AZ.mono Do KV;have KW:=RdR.mono BD KV;have o49:=N.In.trans (N.In.refl HP_) KV;refine Bb (Ap (Ap (bnd h λr50 SG h=>(Ch (hR.De SG o41 H_ MY LC IB) V trivial ?_))));rintro _ _ ⟨h51,h53,Nz,NK,h57,GD,k59,Sk,k63,IC,Rv,o60,M_,rfl,rfl⟩;refine GJ ?_;have Ry:=RdR.mono LC IC;have o66:=AZ.mono IB IC;have o67:=RdR.mono KW IC;have PB:=N.In.trans o49 IC;refine Bb (Ar (Bb (Ar (Eu (M 4 (AC 2 1 #[W Nz r50.1 NK,W GD r50.2.1 k59,I 0,W Sk r50.2.2.2.1 k63,I r50.2.2.2.2.1,I r50.2.2.2.2.2] (M 2 (AC 3 1 #[W Nz r50.1 NK,W GD r50.2.1 k59,I 0,nS,I r50.2.2.2.2.1,I r50.2.2.2.2.2] (knl (Dv ?_))))))))));obtain rfl:=Ao h;exact kdv (.tuple #[]) [bk b0 #[W Nz r50.1 NK,W GD r50.2.1 k59,I 0,nS,I r50.2.2.2.2.1,I r50.2.2.2.2.2] 67,h53,h57,h51] (B2 ⟨h51,h53,Nz,NK,h57,GD,k59,none,0,PB,Rv,o60,(AZ.nil encS 1 h51),V,V⟩);refine ksr (M 1 (kld 1 1 V (bnd h λr69 hr69 h=>(CI (Ki.ok hr69) trivial (G (Az h (λh=>?_) λh=>?_))))));exact AO (M 2 (kld 1 3 V (bnd h λr71 SL h=>(Bc (G6.ok SL) V trivial (G (AF (r71.1,r71.2) h sb V))))));exact AK (At (AF (r2.1,r2.2) h sb V))
def DA.l0:Nat->(Rc:RC)->(Ax:Int)->(Br:Av)->(a1:List Tree)->(a2:Av)->(x3:Int)->(l4:Bg)->(l9:Av)->(x14:Int)->(x15:Int)->Option (Bg×Av×Int×Int)
 | 0,_,_,_,_,_,_,_,_,_,_=>none
 | m19+1,Rc,Ax,Br,a1,a2,x3,l4,l9,x14,x15=>cond (decide (x3 < ((a1.length:Nat):Int))) ((B7 a1 x3).bind λx21=>(Rc.FT l4 l9 Ax Br x14 x15 x21.kind x21.text x21.n x21.at_ x21.kids a2 false).bind λDj=>DA.l0 m19 Rc Ax Br a1 a2 (Au (x3+1)) Dj.1 Dj.2.1 Dj.2.2.1 Dj.2.2.2) (some (l4,l9,x14,x15))
def DA.g (Rc:RC) (k:Nat) (Ai:Bg) (Ak:Av) (Ax:Int) (Br:Av) (Be:Int) (BC:Int) (a1:List Tree) (a2:Av):Option (Bg×Av×Int×Int):=DA.l0 k Rc Ax Br a1 a2 0 Ai Ak Be BC
theorem DA.Cj {Rc:RC} (hR:Rc.Good) {k:Nat}:DA.C (DA.g Rc k):=by
 intro Ai Ak Br a2 Ax Be BC a1 HP_ AH B9 b0 An Bv Dp Hd CN Am Bt Dn Hc CM r h As BV Ed M3 Do;refine BJ Tryz.func69 V (AV V) ?_;intro A X hh_;unfold DA.g at h;refine ksr (M 1 (G (B4 (Ay (Ay (Ap (Ap (Dd (τ:=Int×Bg×Av×Int×Int×N×N×AG×Nat×N×AG×Nat) (λt=>[(0,pt b0),(1,W Hc a1 Hd),(2,W CM a2 CN),(6,I t.1)]) (λt=>bk b0 #[W t.2.2.2.2.2.2.2.1 t.2.1 t.2.2.2.2.2.2.2.2.1,W t.2.2.2.2.2.2.2.2.2.2.1 t.2.2.1 t.2.2.2.2.2.2.2.2.2.2.2,I Ax,W Dn Br Dp,I t.2.2.2.1,I t.2.2.2.2.1] 67 :: t.2.2.2.2.2.1 :: t.2.2.2.2.2.2.1 :: t.2.2.2.2.2.2.2.2.2.1 :: X) (λm t=>DA.l0 m Rc Ax Br a1 a2 t.1 t.2.1 t.2.2.1 t.2.2.2.1 t.2.2.2.2.1=some r/\HP_.In t.2.2.2.2.2.1/\AN DL 68 t.2.2.2.2.2.2.1 (W t.2.2.2.2.2.2.2.1 t.2.1 t.2.2.2.2.2.2.2.2.1) t.2.1/\AL encS 9 1 t.2.2.2.2.2.2.2.2.2.1 (W t.2.2.2.2.2.2.2.2.2.2.1 t.2.2.1 t.2.2.2.2.2.2.2.2.2.2.2) t.2.2.1/\RdR (AQ 61) t.2.2.2.2.2.1 (W Hc a1 Hd) a1/\AZ encS 1 t.2.2.2.2.2.1 (W CM a2 CN) a2/\AZ encS 1 t.2.2.2.2.2.1 (W Dn Br Dp) Br) k (0,Ai,Ak,Be,BC,HP_,AH,Am,An,B9,Bt,Bv) ⟨h,(N.In.refl HP_),As,BV,M3,Do,Ed⟩ sb V ?_))))))));clear h;rintro m19 ⟨x3,l4,l9,x14,x15,h1,h5,A6,k7,h10,K3,k12⟩ ⟨h,o2,o8,MX,o16,o17,Gp⟩;rcases m19 with _ | m19;simp [DA.l0] at h;simp only [DA.l0] at h;refine AU (ksr (M 4 (G (Az h (λh=>?_) λh=>?_))));refine AK (At (AU (B4 (AO (M 3 (bnd h λx21 Be4 h=>(EX (T:=61) (kd:=.i64) (R:=(AQ 61)) V Be4 o16 λp22 u25 q26 e23 y24=>?_)))))));obtain ⟨A27,k28,rfl,o29⟩:=Eo 61 q26;refine HA V e23 (.tail _ (.head _)) (M 1 (Al (Ap (Ap (Ap (bnd h λDj SD h=>(Ch (hR.FT SD o8 MX Gp o29 o17) V trivial ?_)))))));rintro _ _ ⟨h31,h33,A34,MQ,h37,Si,k39,o32,LB,Mj,rfl,rfl⟩;refine GJ ?_;have o41:=RdR.mono o16 o32;have Ob:=AZ.mono o17 o32;have GO:=RdR.mono o29 o32;have KV:=AZ.mono Gp o32;have IB:=N.In.trans o2 o32;exact knl (Bf (At (AO (M 3 (G (Ay (Ay (Ap (Ap (CD m19 (Au (x3+1),Dj.1,Dj.2.1,Dj.2.2.1,Dj.2.2.2,h31,h33,A34,MQ,h37,Si,k39) (Nat.lt_succ_self _) ⟨h,IB,LB,Mj,o41,Ob,KV⟩ sb V))))))))));refine CX (BL (BL (CY (Dv ?_))));obtain rfl:=Ao h;exact kdv (.tuple #[]) [bk b0 #[W A6 l4 k7,W K3 l9 k12,I Ax,W Dn Br Dp,I x14,I x15] 67,h5,h10,h1] (Al (Ap (Ap (Ap (B2 ⟨h1,h5,A6,k7,h10,K3,k12,o2,o8,MX,V,V⟩)))))
def FT.g (Rc:RC) (k:Nat) (Ai:Bg) (Ak:Av) (Ax:Int) (Br:Av) (Be:Int) (BC:Int) (AI:Int) (AJ:Ah) (AD:Int) (AP:Int) (Aw:List Tree) (a2:Av) (a3:Bool):Option (Bg×Av×Int×Int):=cond (Be != 0) (some (Ai,Ak,Be,BC)) (AM (λ(l3:Bg) (l8:Av) (CV:Int) (x14:Int)=>(Rc.DA l3 l8 Ax Br CV x14 Aw a2).bind λr16=>some (r16.1,r16.2.1,r16.2.2.1,r16.2.2.2)) (λJ15=>cond (AI == 8) ((Ez.f k Be BC AI AJ AD AP Aw (Au (((Aw.length:Nat):Int) - 1)) 50).bind λr32=>J15 Ai Ak r32.1 r32.2) (cond (AI == 12) ((Ez.f k Be BC AI AJ AD AP Aw ((Aw.length:Nat):Int) 200).bind λr34=>J15 Ai Ak r34.1 r34.2) (cond (AI == 4) ((TP.f k AD).bind λr36=>(GV.f k Ai Ax Be BC AI AJ AD AP Aw r36.1 r36.2.1 r36.2.2).bind λDQ=>J15 DQ.1 Ak DQ.2.1 DQ.2.2) (cond (AI == 5) ((TQ.f k AJ).bind λDR=>(GV.f k Ai Ax Be BC AI AJ AD AP Aw DR.1 DR.2.1 DR.2.2).bind λr44=>J15 r44.1 Ak r44.2.1 r44.2.2) (cond (AI == 6) (((Ki.f k AJ).bind λr60=>cond r60 (some true) ((Gt.f k a2 AJ).bind λr62=>cond (!r62) ((Gt.f k Br AJ).bind λr64=>some r64) (some false)):Option Bool).bind λq50=>cond q50 ((G6.f k Be BC 5 AP).bind λr52=>J15 Ai Ak r52.1 r52.2) ((Gt.f k a2 AJ).bind λr53=>cond (!r53) ((Mn.f k Ak AJ).bind λr55=>J15 Ai r55 Be BC) (J15 Ai Ak Be BC))) (cond (AI == 7) (((B7 Aw 0).bind λx115=>cond (x115.kind == 6) ((B7 Aw 0).bind λRT=>(Ki.f k RT.text).bind λAra=>some Ara) (some false):Option Bool).bind λq66=>cond q66 (AM (λ(x68:Int) (x69:Int)=>some (Ai,Ak,x68,x69)) (λUF=>(cond a3 (some true) ((B7 Aw 1).bind λx75=>cond (x75.kind != 5) (some true) ((B7 Aw 0).bind λx88=>(Oj x88.text (⟨#[46]⟩:Ah)).bind λAs1:Ah=>(B7 Aw 1).bind λx101=>(Oj As1 x101.text).bind λAs3:Ah=>(IF.f k As3).bind λAq8=>some (Aq8 == 0))):Option Bool).bind λq71=>cond q71 ((G6.f k Be BC 5 AP).bind λr73=>UF r73.1 r73.2) (UF Be BC))) (J15 Ai Ak Be BC)) (J15 Ai Ak Be BC))))))))
theorem FT.Cj {Rc:RC} (hR:Rc.Good) {k:Nat}:FT.C (FT.g Rc k):=by
 intro Ai Ak Br a2 Ax Be BC AI AD AP AJ Aw a3 HP_ AH B9 b0 An Bv Dp Bj CN Am Bt Dn Bi CM r h As BV Ed BD Do;refine BJ Tryz.func71 V (AV V) ?_;intro A X hh_;unfold FT.g at h;refine ksr (knp #[I AI,D AJ,I AD,I AP,W Bi Aw Bj] 61 λb1=>(G (AU (ksr (M 4 (kld 1 4 V (M 1 (G (Az h (λh=>?_) λh=>?_)))))))));refine Ba (Bm ?_);obtain rfl:=Ao h;exact kdv (.tuple #[]) [bk b0 #[W Am Ai An,W Bt Ak Bv,I Ax,W Dn Br Dp,I Be,I BC] 67,AH,B9,HP_] (Ar (B2 ⟨HP_,AH,Am,An,B9,Bt,Bv,(N.In.refl HP_),As,BV,V,V⟩));refine AK (At ?_);obtain ⟨J15,XM,h⟩:=BF h;refine BG (τ:=Bg×Av×Int×Int×N×AG×Nat×N×AG×Nat) (λt=>[(0,pt b0),(2,W CM a2 CN),(5,pt b1)]) (c10 λa b c d e f g i j l=>bk b1 #[I AI,D AJ,I AD,I AP,W Bi Aw Bj] 61 :: bk b0 #[W f a g,W j b l,I Ax,W Dn Br Dp,I c,I d] 67 :: HP_ :: e :: i :: X) (c10 λa b c d e f g i j l=>J15 a b c d=some r/\AN DL 68 e (W f a g) a/\AL encS 9 1 i (W j b l) b) ?_ ?_;rintro ⟨l3,l8,CV,x14,h4,A5,k6,h9,FX,k11⟩ ⟨h,o7,Ia⟩;subst XM;refine AO (M 2 (kld 0 4 V (Ar (M 1 (Al (Ap (Ap (Ap (bnd h λr16 Lu h=>(Ch (hR.DA Lu o7 Ia Ed BD Do) V trivial ?_))))))))));rintro _ _ ⟨h17,h19,A20,k21,h23,Gw,k25,Gp,I9,Kg,rfl,rfl⟩;refine GJ ?_;have L9:=RdR.mono BD Gp;have IZ:=AZ.mono Do Gp;have o29:=AZ.mono Ed Gp;have LA:=N.In.trans (N.In.refl HP_) Gp;refine knl (Dv ?_);obtain rfl:=Ao h;exact kdv (.tuple #[]) [bk b0 #[W A20 r16.1 k21,W Gw r16.2.1 k25,I Ax,W Dn Br Dp,I r16.2.2.1,I r16.2.2.2] 67,h19,h23,h17] (B2 ⟨h17,h19,A20,k21,h23,Gw,k25,LA,I9,Kg,V,V⟩);refine ksr (M 1 (kld 0 0 V (G (B4 (ksr (M 2 (G (Az h (λh=>?_) λh=>?_))))))));exact AO (M 1 (BW 0 0 5 V (M 1 (kld 0 4 V (M 2 (Al (bnd h λr32 Ph h=>(Bc (Ez.ok Ph BD) V ⟨(.tail _ (.tail _ (.tail _ (.head _)))),Aj⟩ (knl (Bf (At (Ap (Ap (Bb (Ap (Bb (AF (Ai,Ak,r32.1,r32.2,AH,Am,An,B9,Bt,Bv) ⟨h,As,BV⟩ sb V)))))))))))))))));refine ksr (M 2 (G (Az h (λh=>?_) λh=>?_)));exact AO (M 1 (BW 0 0 5 V (M 1 (kld 0 4 V (M 1 (Al (bnd h λr34 YA h=>(Bc (Ez.ok YA BD) V ⟨(.tail _ (.tail _ (.tail _ (.head _)))),Aj⟩ (knl (Bf (At (Ap (Ap (Bb (Ap (Bb (AF (Ai,Ak,r34.1,r34.2,AH,Am,An,B9,Bt,Bv) ⟨h,As,BV⟩ sb V)))))))))))))))));refine ksr (M 2 (G (Az h (λh=>?_) λh=>?_)));refine kpr [(0,0),(1,3),(2,0),(3,3),(4,1)] [0] (AA 1 (Ew 0 0 5 V (AA 1 (Bl 0 2 V (kpt (bnd h λr36 GG h=>(ocv (TP.ok GG) trivial (Cr [0] V (BA (Ay (Ay (bnd h λDQ Lw h=>(Ch (GV.ok Lw As BD) V ⟨(.tail _ (.tail _ (.head _))),Aj⟩ ?_)))))))))))));rintro _ _ ⟨h38,A39,IW,o41,rfl,rfl⟩;exact BH (knl (Bf (At (Ap (Ay (Bb (Ap (Bb (AF (DQ.1,Ak,DQ.2.1,DQ.2.2,h38,A39,IW,B9,Bt,Bv) ⟨h,o41,BV⟩ sb V)))))))));refine ksr (M 2 (G (Az h (λh=>?_) λh=>?_)));refine kpr [(0,0),(1,3),(2,0),(3,3),(4,1)] [0] (AA 1 (Ew 0 0 5 V (AA 1 (Bl 0 1 V (kpt (bnd h λDR SF h=>(ocv (TQ.ok SF) trivial (Cr [0] V (BA (Ay (Ay (bnd h λr44 MK h=>(Ch (GV.ok MK As BD) V ⟨(.tail _ (.tail _ (.head _))),Aj⟩ ?_)))))))))))));rintro _ _ ⟨h45,O0,k47,KW,rfl,rfl⟩;exact BH (knl (Bf (At (Ap (Ay (Bb (Ap (Bb (AF (r44.1,Ak,r44.2.1,r44.2.2,h45,O0,k47,B9,Bt,Bv) ⟨h,KW,BV⟩ sb V)))))))));refine ksr (M 2 (G (Az h (λh=>?_) λh=>?_)));refine bnd h λq50 Yy h=>?_;refine CH [(0,pt b0),(2,W CM a2 CN),(5,pt b1),(69,bv q50)] (bk b1 #[I AI,D AJ,I AD,I AP,W Bi Aw Bj] 61 :: bk b0 #[W Am Ai An,W Bt Ak Bv,I Ax,W Dn Br Dp,I Be,I BC] 67 :: AH :: B9 :: HP_ :: X) ?_ ?_;clear Yy;refine Az h (λh=>?_) λh=>?_;exact AO (M 2 (kld 0 3 V (Al (bnd h λr52 ML h=>(Bc (G6.ok ML) V trivial (knl (Bf (At (Ap (Ap (Bb (Ap (Bb (AF (Ai,Ak,r52.1,r52.2,AH,Am,An,B9,Bt,Bv) ⟨h,As,BV⟩ sb V))))))))))))));refine ksr (M 2 (kld 0 1 V (bnd h λr53 YG h=>(CI (Gt.ok YG Do) ⟨(.tail _ (.tail _ (.tail _ (.tail _ (.head _))))),Aj⟩ (M 1 (G (Az h (λh=>?_) λh=>?_)))))));refine AO (M 2 (kld 0 1 V (Ap (Ay (bnd h λr55 Pm h=>(Ch (Mn.ok Pm BV) V trivial ?_))))));rintro _ _ ⟨NG,N0,k58,o59,rfl,rfl⟩;exact BH (knl (Bf (At (Al (Ap (Bb (Ap (Bb (AF (Ai,r55,Be,BC,AH,Am,An,NG,N0,k58) ⟨h,As,o59⟩ sb V)))))))));exact AK (Bf (At (Ap (Ap (Bb (Bb (Bb (AF (Ai,Ak,Be,BC,AH,Am,An,B9,Bt,Bv) ⟨h,As,BV⟩ sb V))))))));have h:=Yy;clear Yy;refine kpr [(0,0),(1,3),(2,1),(3,0),(4,0),(5,0),(6,3),(7,1),(8,0),(9,0),(10,0),(11,0),(12,0),(13,3),(14,0),(15,3)] [0,1] (AA 1 (Bl 0 1 V (kpt (bnd h λr60 MM h=>(ocv (Ki.ok MM) trivial (Cr [0,1] V (AA 1 (B3 54 h (λh=>?_) λh=>?_))))))));exact AA 2 (Eg (by kernel_rfl) (by kernel_rfl) (Biw (by kernel_rfl) (by kernel_rfl) (Cr [0,1] V (AA 5 (Eg (by kernel_rfl) (by kernel_rfl) (AA 1 (Eg (by kernel_rfl) (by kernel_rfl) (BA (M 3 (G (AX ⟨gr,gr,gr,gb (Ao h),Aj⟩)))))))))));refine AA 2 (Bl 0 1 V (kpt (bnd h λr62 YJ h=>(ocv (Gt.ok YJ Do) ⟨(.tail _ (.tail _ (.tail _ (.tail _ (.head _))))),Aj⟩ (Cr [0,1] V (AA 2 (B3 60 h (λh=>?_) λh=>?_)))))));exact AA 3 (Bl 1 3 V (AA 1 (Bl 0 1 V (BA (bnd h λr64 Pn h=>(CI (Gt.ok Pn Ed) ⟨(.tail _ (.tail _ (.tail _ (.tail _ (.head _))))),Aj⟩ (M 2 (G (AX ⟨gr,gr,gr,gb (Ao h),Aj⟩)))))))));exact AA 3 (Eg (by kernel_rfl) (by kernel_rfl) (AA 1 (Eg (by kernel_rfl) (by kernel_rfl) (BA (M 3 (G (AX ⟨gr,gr,gr,gb (Ao h),Aj⟩)))))));refine ksr (M 2 (G (Az h (λh=>?_) λh=>?_)));refine bnd h λq66 Y1 h=>?_;refine CH [(0,pt b0),(2,W CM a2 CN),(3,bv a3),(5,pt b1),(98,bv q66)] (bk b1 #[I AI,D AJ,I AD,I AP,W Bi Aw Bj] 61 :: bk b0 #[W Am Ai An,W Bt Ak Bv,I Ax,W Dn Br Dp,I Be,I BC] 67 :: AH :: B9 :: HP_ :: X) ?_ ?_;clear Y1;refine Az h (λh=>?_) λh=>?_;obtain ⟨UF,A7z,h⟩:=BF h;refine BG (τ:=Int×Int) (λt=>[]) (λt=>bk b0 #[W Am Ai An,W Bt Ak Bv,I Ax,W Dn Br Dp,I t.1,I t.2] 67 :: AH :: B9 :: HP_ :: X) (λt=>UF t.1 t.2=some r) ?_ ?_;rintro ⟨x68,x69⟩ h;subst A7z;refine Ba (B_ (Bm ?_));obtain rfl:=Ao h;exact kdv (.tuple #[]) [bk b0 #[W Am Ai An,W Bt Ak Bv,I Ax,W Dn Br Dp,I x68,I x69] 67,AH,B9,HP_] (B2 ⟨HP_,AH,Am,An,B9,Bt,Bv,(N.In.refl HP_),As,BV,V,V⟩);refine bnd h λq71 Y2 h=>?_;refine CH [(0,pt b0),(5,pt b1),(123,bv q71)] (bk b1 #[I AI,D AJ,I AD,I AP,W Bi Aw Bj] 61 :: bk b0 #[W Am Ai An,W Bt Ak Bv,I Ax,W Dn Br Dp,I Be,I BC] 67 :: AH :: B9 :: HP_ :: X) ?_ ?_;clear Y2;refine Az h (λh=>?_) λh=>?_;exact AO (M 2 (kld 0 3 V (Ar (bnd h λr73 SM h=>(Bc (G6.ok SM) V trivial (G (AF (r73.1,r73.2) h trivial V)))))));exact AK (At (Ar (AF (Be,BC) h trivial V)));have h:=Y2;clear Y2;refine kpr [(0,0),(1,0),(2,0),(3,3),(4,0),(5,0),(6,3),(7,0),(8,0),(9,0),(10,0),(11,3),(12,0),(13,0),(14,3),(15,0),(16,0),(17,3),(18,0),(19,0),(20,3)] [0,4] (AA 2 (B3 100 h (λh=>?_) λh=>?_));exact AA 1 (Eg (by kernel_rfl) (by kernel_rfl) (AA 2 (Eg (by kernel_rfl) (by kernel_rfl) (AA 4 (Eg (by kernel_rfl) (by kernel_rfl) (AA 2 (Eg (by kernel_rfl) (by kernel_rfl) (AA 2 (Eg (by kernel_rfl) (by kernel_rfl) (AA 2 (Eg (by kernel_rfl) (by kernel_rfl) (BA (M 4 (G (AX ⟨gr,gr,gb (Ao h),Aj⟩)))))))))))))));refine AA 1 (Bl 0 4 V (bnd h λx75 Y_ h=>(KN (T:=61) (kd:=.i64) (R:=(AQ 61)) V Y_ BD λp76 u79 q80 e77 y78=>?_)));obtain ⟨WV,k82,rfl,o83⟩:=Eo 61 q80;refine MS (off:=0) V e77 y78 λp84 e85 y86=>?_;have e85:Elem _ p84 [I x75.kind,D x75.text,I x75.n,I x75.at_,W WV x75.kids k82]:=e85;refine L5 V (by kernel_rfl) (by kernel_rfl) (by kernel_rfl) (by kernel_rfl) e85 (λw h_=>h_.mem _ (.tail _ (.head _))) (AA 3 (B3 108 h (λh=>?_) λh=>?_));exact AA 1 (Eg (by kernel_rfl) (by kernel_rfl) (AA 2 (Eg (by kernel_rfl) (by kernel_rfl) (AA 2 (Eg (by kernel_rfl) (by kernel_rfl) (AA 2 (Eg (by kernel_rfl) (by kernel_rfl) (BA (M 4 (G (AX ⟨gr,gr,gb (Ao h),Aj⟩)))))))))));refine AA 1 (Bl 0 4 V (bnd h λx88 Bfs h=>(KN (T:=61) (kd:=.i64) (R:=(AQ 61)) V Bfs BD λp89 u92 q93 e90 y91=>?_)));obtain ⟨U5,V2,rfl,o96⟩:=Eo 61 q93;refine MS (off:=1) V e90 y91 λp97 Xz y99=>?_;have Xz:Elem _ p97 [D x88.text,I x88.n,I x88.at_,W U5 x88.kids V2]:=Xz;refine L5 V (by kernel_rfl) (by kernel_rfl) (by kernel_rfl) (by kernel_rfl) Xz (λw h_=>h_.mem _ (.tail _ (.head _))) (bnd h λAs1 Bea h=>(Bij V (by kernel_rfl) (by kernel_rfl) (by kernel_rfl) (by kernel_rfl) Bea (AA 1 (Bl 0 4 V (bnd h λx101 hx101 h=>(KN (T:=61) (kd:=.i64) (R:=(AQ 61)) V hx101 BD λB1x u105 Bq1 A01 y104=>?_))))));obtain ⟨Awp,Bf5,rfl,B02⟩:=Eo 61 Bq1;refine MS (off:=1) V A01 y104 λAqk S1 y112=>?_;have S1:Elem _ Aqk [D x101.text,I x101.n,I x101.at_,W Awp x101.kids Bf5]:=S1;exact L5 V (by kernel_rfl) (by kernel_rfl) (by kernel_rfl) (by kernel_rfl) S1 (λw h_=>h_.mem _ (.tail _ (.head _))) (BA (bnd h λAs3 Beb h=>(Zu V (by kernel_rfl) (by kernel_rfl) (by kernel_rfl) (by kernel_rfl) Beb (bnd h λAq8 Bb1 h=>(CI (IF.ok Bb1) trivial (M 2 (G (AX ⟨gr,gr,gb (Ao h),Aj⟩))))))));exact AK (Bf (At (Ap (Ap (Bb (Bb (Bb (AF (Ai,Ak,Be,BC,AH,Am,An,B9,Bt,Bv) ⟨h,As,BV⟩ sb V))))))));have h:=Y1;clear Y1;refine AO (M 1 (kld 0 4 V (bnd h λx115 hx115 h=>(EX (T:=61) (kd:=.i64) (R:=(AQ 61)) V hx115 BD λB1z u119 Bq8 e117 Bvg=>?_))));obtain ⟨WK,Zg,rfl,VT⟩:=Eo 61 Bq8;refine HI (off:=0) V e117 Bvg λBpy e125 B3l=>?_;have e125:Elem _ Bpy [I x115.kind,D x115.text,I x115.n,I x115.at_,W WK x115.kids Zg]:=e125;refine Gj V (by kernel_rfl) (by kernel_rfl) (by kernel_rfl) (by kernel_rfl) e125 (.tail _ (.tail _ (.tail _ (.tail _ (.head _))))) (M 2 (B3 91 h (λh=>?_) λh=>?_));refine M 1 (kld 0 4 V (bnd h λRT hx128 h=>(EX (T:=61) (kd:=.i64) (R:=(AQ 61)) V hx128 BD λB12 B20 Brb A08 Bvh=>?_)));obtain ⟨WO,Zj,rfl,P8⟩:=Eo 61 Brb;refine HI (off:=1) V A08 Bvh λBpz e138 B3o=>?_;have e138:Elem _ Bpz [D RT.text,I RT.n,I RT.at_,W WO RT.kids Zj]:=e138;exact Gj V (by kernel_rfl) (by kernel_rfl) (by kernel_rfl) (by kernel_rfl) e138 (.tail _ (.tail _ (.tail _ (.tail _ (.head _))))) (bnd h λAra Bca h=>(CI (Ki.ok Bca) trivial (M 1 (G (AX ⟨gr,gr,gr,gr,gb (Ao h),Aj⟩)))));exact M 7 (G (AX ⟨gr,gr,gr,gr,gb (Ao h),Aj⟩));exact AK (Bf (At (Ap (Ap (Bb (Bb (Bb (AF (Ai,Ak,Be,BC,AH,Am,An,B9,Bt,Bv) ⟨h,As,BV⟩ sb V))))))))
def RC.at:Nat->RC
 | 0=>⟨λ_ _ _ _ _ _ _ _ _ _ _ _ _=>none,λ_ _ _ _ _ _ _ _ _ _ _ _ _=>none,λ_ _ _ _ _ _ _ _ _ _ _ _=>none,λ_ _ _ _ _ _ _ _=>none,λ_ _ _ _ _ _ _ _ _ _ _ _ _=>none⟩
 | k+1=>⟨De.g (RC.at k) k,Df.g (RC.at k) k,Im.g (RC.at k) k,DA.g (RC.at k) k,FT.g (RC.at k) k⟩
theorem RC.good:∀ k,(RC.at k).Good
 | 0=>⟨(by unfold De.C;intros;rename_i h _ _ _ _ _;cases (show (none:Option _)=some _ from h)),(by unfold Df.C;intros;rename_i h _ _ _ _ _;cases (show (none:Option _)=some _ from h)),(by unfold Im.C;intros;rename_i h _ _ _ _ _;cases (show (none:Option _)=some _ from h)),(by unfold DA.C;intros;rename_i h _ _ _ _ _;cases (show (none:Option _)=some _ from h)),(by unfold FT.C;intros;rename_i h _ _ _ _ _;cases (show (none:Option _)=some _ from h))⟩
 | k+1=>⟨De.Cj (k:=k) (RC.good k),Df.Cj (k:=k) (RC.good k),Im.Cj (k:=k) (RC.good k),DA.Cj (k:=k) (RC.good k),FT.Cj (k:=k) (RC.good k)⟩
def De.f (k:Nat):=De.g (RC.at k) k
theorem De.ok {k:Nat}:De.C (De.f k):=De.Cj (k:=k) (RC.good k)
def PW.f (k:Nat) (a0:Ah):Option (Bg×Av×Int×Int):=(PU.f k a0).bind λr4=>cond (r4.2.2.2.2.2.1 != 0) (some ([],[],r4.2.2.2.2.2.1,r4.2.2.2.2.2.2)) ((DV.f k r4.1 r4.2.1 r4.2.2.1 r4.2.2.2.1 r4.2.2.2.2.1).bind λr12=>cond (decide (r12 > 100)) (some ([],[],6,r4.2.2.2.1)) ((De.f k ([((⟨#[]⟩:Ah),r4.2.2.2.1,0,0,[])]) ([]) 0 ([]) 0 0 r4.1 r4.2.1 r4.2.2.1 r4.2.2.2.1 r4.2.2.2.2.1 ([]) false).bind λr22=>cond (r22.2.2.2.2.1 != 0) (some ([],[],r22.2.2.2.2.1,r22.2.2.2.2.2)) (some (r22.1,r22.2.1,0,0))))
theorem PW.ok {k:Nat} {a0:Ah} {r:Bg×Av×Int×Int} (h:PW.f k a0=some r): Ct Tryz.prog 6 #[D a0] [] [] (λe l1=>∃ (H0_:N) (A0_:AG) (c0_:Nat) (H1_:N) (DC:AG) (DD:Nat),AN DL 68 H0_ (W A0_ r.1 c0_) r.1/\AL encS 9 1 H1_ (W DC r.2.1 DD) r.2.1/\e=.returned (.tuple #[.agg #[W A0_ r.1 c0_,W DC r.2.1 DD],.agg #[I r.2.2.1,I r.2.2.2]])/\l1=[H0_,H1_]):=by
 refine BJ Tryz.func6 V (AV V) ?_;intro A X hh_;unfold PW.f at h;refine Bho λh1=>(ksr (knp #[nS,nS] 33 λb2=>(knp #[I 0,I 0] 28 λb3=>(AY (M 1 (bnd h λr4 hr4 h=>(Ch (PU.ok hr4) V trivial ?_)))))));rintro _ _ ⟨h5,A6,k7,o8,rfl,rfl⟩;refine Ex (M 3 (knp #[I 0,D noS,I 0,I 0,nS] 61 λb9=>(knp #[I 0,I 0] 28 λb10=>(Al (AC 0 5 #[I r4.1,D r4.2.1,I r4.2.2.1,I r4.2.2.2.1,W A6 r4.2.2.2.2.1 k7] (Al (AC 0 2 #[I r4.2.2.2.2.2.1,I r4.2.2.2.2.2.2] (G (AU (ksr (M 1 (kld 0 0 V (M 1 (G (Az h (λh=>?_) λh=>?_)))))))))))))));refine AU (kpr [(0,0),(1,3),(2,1)] [0] (AA 1 (Ew 0 0 2 V (kpt (Bb (ost 0 2 #[nS,nS] (Cr [1] V (BA (Bb (AC 0 2 #[I r4.2.2.2.2.2.1,I r4.2.2.2.2.2.2] (Ay (Ar (Ay (Ar (Ay (Ar (G (Ba (Bm ?_)))))))))))))))))));obtain rfl:=Ao h;exact FZ (v:=.tuple #[.agg #[nS,nS],.agg #[I r4.2.2.2.2.2.1,I r4.2.2.2.2.2.2]]) [.val (nS),.val (nS),.val (I r4.2.2.2.2.2.1),.val (I r4.2.2.2.2.2.2)] [.ld ⟨b2,0,none⟩ (nS),.ld ⟨b2,1,none⟩ (nS),.ld ⟨b3,0,none⟩ (I r4.2.2.2.2.2.1),.ld ⟨b3,1,none⟩ (I r4.2.2.2.2.2.2)] [none_,none_] (by kernel_rfl) (by kernel_rfl) ⟨⟨1,_,_,_,V,V,V⟩,⟨1,_,_,_,V,V,V⟩,⟨0,_,_,_,V,V,V⟩,⟨0,_,_,_,V,V,V⟩,Aj⟩ (C5 (C5 (Ay (Ar (Ay (Ar (Ay (Ar (B2 ⟨none_,none,0,none_,none,0,(AN.nil DL 68 none_),(AL.nil encS 9 1 none_),V,V⟩)))))))));refine AK (At (AU (ksr (BW 1 0 5 V (Ar (bnd h λr12 JX h=>(CI (DV.ok JX (AN.rd o8)) ⟨(.tail _ (.head _)),Aj⟩ (M 1 (G (Az h (λh=>?_) λh=>?_))))))))));refine AU (kpr [(0,0),(1,0),(2,3),(3,0),(4,1)] [0] (AA 2 (Bl 0 3 V (AA 1 (kpt (Ap (ost 0 2 #[nS,nS] (Cr [1] V (BA (Ap (AC 0 2 #[I 6,I r4.2.2.2.1] (Ay (Ar (Ay (Ar (G (Ba (Bm ?_))))))))))))))))));obtain rfl:=Ao h;exact FZ (v:=.tuple #[.agg #[nS,nS],.agg #[I 6,I r4.2.2.2.1]]) [.val (nS),.val (nS),.val (I 6),.val (I r4.2.2.2.1)] [.ld ⟨b2,0,none⟩ (nS),.ld ⟨b2,1,none⟩ (nS),.ld ⟨b3,0,none⟩ (I 6),.ld ⟨b3,1,none⟩ (I r4.2.2.2.1)] [none_,none_] (by kernel_rfl) (by kernel_rfl) ⟨⟨1,_,_,_,V,V,V⟩,⟨1,_,_,_,V,V,V⟩,⟨0,_,_,_,V,V,V⟩,⟨0,_,_,_,V,V,V⟩,Aj⟩ (C5 (C5 (Ay (Ar (Ay (Ar (Ay (Ar (B2 ⟨none_,none,0,none_,none,0,(AN.nil DL 68 none_),(AL.nil encS 9 1 none_),V,V⟩)))))))));refine AK (At (ksr (M 1 (knp #[nS,nS,I 0,nS,I 0,I 0] 67 λb14=>(M 1 (AY (M 2 (kld 1 3 V (M 1 (Cy #[D noS,I r4.2.2.2.1,I 0,I 0,nS] 68 1 λb15=>(M 3 (Al (AC 0 1 #[.slice (some ⟨b15,0,none⟩) 1 1,nS,I 0,nS,I 0,I 0] (AY (M 1 (BW 2 0 5 V (Ay (Ar (AR (Ap (Ta λh16 o17 Gp=>?_)))))))))))))))))))));have o19:=RdR.mono (AN.rd o8) o17;refine C5 (Ap (Cq (T:=68) (n:=1) (xs:=[((⟨#[]⟩:Ah),r4.2.2.2.1,0,0,[])]) (B6.one (Aa9 (x:=((⟨#[]⟩:Ah),r4.2.2.2.1,0,0,[])) (AL.nil e43 43 3 none_))) V V (AV V) λh20 o21=>(C5 (Ay (Al (Ay (Ap (bnd h λr22 SC h=>(Ch (De.ok SC o21 (AL.nil encS 9 1 none_) (AZ.nil encS 1 h16) o19 (AZ.nil encS 1 h16)) V trivial ?_)))))))));rintro _ _ ⟨h23,h25,A26,k27,h29,FM,k31,A34,MQ,GK,IZ,o32,LB,rfl,rfl⟩;refine GJ ?_;have GN:=RdR.mono o19 GK;refine G (AU (ksr (M 4 (kld 0 4 V (M 1 (G (Az h (λh=>?_) λh=>?_)))))));refine AU (kpr [(0,0),(1,0),(2,0),(3,0),(4,3),(5,1)] [0] (AA 4 (Ew 0 4 2 V (kpt (AR (ost 0 2 #[nS,nS] (Cr [1] V (BA (AR (AC 0 2 #[I r22.2.2.2.2.1,I r22.2.2.2.2.2] (Ay (Ar (Ay (Ar (Ay (Ar (G (Ba (Bm ?_)))))))))))))))))));obtain rfl:=Ao h;exact FZ (v:=.tuple #[.agg #[nS,nS],.agg #[I r22.2.2.2.2.1,I r22.2.2.2.2.2]]) [.val (nS),.val (nS),.val (I r22.2.2.2.2.1),.val (I r22.2.2.2.2.2)] [.ld ⟨b2,0,none⟩ (nS),.ld ⟨b2,1,none⟩ (nS),.ld ⟨b3,0,none⟩ (I r22.2.2.2.2.1),.ld ⟨b3,1,none⟩ (I r22.2.2.2.2.2)] [none_,none_] (by kernel_rfl) (by kernel_rfl) ⟨⟨1,_,_,_,V,V,V⟩,⟨1,_,_,_,V,V,V⟩,⟨0,_,_,_,V,V,V⟩,⟨0,_,_,_,V,V,V⟩,Aj⟩ (C5 (C5 (Ay (Ar (Ay (Ar (Ay (Ar (B2 ⟨none_,none,0,none_,none,0,(AN.nil DL 68 none_),(AL.nil encS 9 1 none_),V,V⟩)))))))));refine AK (At (ksr (M 3 (BW 0 0 2 V (Ar (M 1 (Bb (AC 0 2 #[W A26 r22.1 k27,W FM r22.2.1 k31] (Bb (AC 0 2 #[I 0,I 0] (G (Ba ?_))))))))))));obtain rfl:=Ao h;exact FZ (v:=.tuple #[.agg #[W A26 r22.1 k27,W FM r22.2.1 k31],.agg #[I 0,I 0]]) [.val (W A26 r22.1 k27),.val (W FM r22.2.1 k31),.val (I 0),.val (I 0)] [.ld ⟨b2,0,none⟩ (W A26 r22.1 k27),.ld ⟨b2,1,none⟩ (W FM r22.2.1 k31),.ld ⟨b3,0,none⟩ (I 0),.ld ⟨b3,1,none⟩ (I 0)] [h25,h29] (by kernel_rfl) (by kernel_rfl) ⟨⟨1,_,_,_,V,V,V⟩,⟨1,_,_,_,V,V,V⟩,⟨0,_,_,_,V,V,V⟩,⟨0,_,_,_,V,V,V⟩,Aj⟩ (Ar (Ar (Ay (Ar (B2 ⟨h25,A26,k27,h29,FM,k31,IZ,o32,V,V⟩)))))
abbrev Tk:=Int×Ah×Int×Int
inductive PV (α:Type) where
 | ok (a:α) (r:List Tk)
 | bad (at_:Int)
def PV.bind {α β:Type} (x:Option (PV α)) (f:α->List Tk->Option (PV β)):Option (PV β) :=
 match x with
 | none=>none
 | some (.ok a r)=>f a r
 | some (.bad i)=>some (.bad i)
def hd (ts:List Tk):Tk:=ts.headD (6,⟨#[]⟩,0,0)
def isT (w:Ah) (t:Tk):Bool:=(t.1 == 2 || t.1 == 5) && t.2.1.toList == w.toList
def AB (w:Ah) (ts:List Tk):Bool:=isT w (hd ts)
def FG (w:Ah) (ts:List Tk):Option (PV Unit):=if AB w ts then some (.ok () ts.tail) else some (.bad (hd ts).2.2.2)
abbrev Hg:Ah:=⟨#[59]⟩
abbrev Et:Ah:=⟨#[44]⟩
abbrev EK:Ah:=⟨#[61]⟩
abbrev Pw:Ah:=⟨#[40]⟩
abbrev Gi:Ah:=⟨#[41]⟩
abbrev V5:Ah:=⟨#[91]⟩
abbrev kRb:Ah:=⟨#[93]⟩
abbrev kLc:Ah:=⟨#[123]⟩
abbrev NP:Ah:=⟨#[125]⟩
abbrev Ami:Ah:=⟨#[46]⟩
abbrev NN:Ah:=⟨#[35]⟩
abbrev Kc:Ah:=⟨#[45]⟩
abbrev Zp:Ah:=⟨#[114,101,116,117,114,110]⟩
abbrev NM:Ah:=⟨#[102,117,110,99,116,105,111,110]⟩
abbrev GI:Ah:=⟨#[101,110,100]⟩
abbrev NL:Ah:=⟨#[101,108,115,101]⟩
abbrev Pv:Ah:=⟨#[101,108,115,101,105,102]⟩
abbrev S_:Ah:=⟨#[100,111]⟩
abbrev Amw:Ah:=⟨#[119,104,105,108,101]⟩
abbrev kIf:Ah:=⟨#[105,102]⟩
abbrev Amt:Ah:=⟨#[116,104,101,110]⟩
abbrev Aml:Ah:=⟨#[102,111,114]⟩
abbrev V4:Ah:=⟨#[105,110]⟩
abbrev Amo:Ah:=⟨#[108,111,99,97,108]⟩
abbrev Amh:Ah:=⟨#[98,114,101,97,107]⟩
abbrev Amq:Ah:=⟨#[110,105,108]⟩
abbrev Amv:Ah:=⟨#[116,114,117,101]⟩
abbrev Amj:Ah:=⟨#[102,97,108,115,101]⟩
abbrev NO:Ah:=⟨#[110,111,116]⟩
abbrev kOr:Ah:=⟨#[111,114]⟩
abbrev QN:Ah:=⟨#[97,110,100]⟩
abbrev QQ:Ah:=⟨#[60]⟩
abbrev kGt:Ah:=⟨#[62]⟩
abbrev kLe:Ah:=⟨#[60,61]⟩
abbrev kGe:Ah:=⟨#[62,61]⟩
abbrev QR:Ah:=⟨#[126,61]⟩
abbrev QP:Ah:=⟨#[61,61]⟩
abbrev QO:Ah:=⟨#[46,46]⟩
abbrev QT:Ah:=⟨#[43]⟩
abbrev QV:Ah:=⟨#[42]⟩
abbrev QU:Ah:=⟨#[47,47]⟩
abbrev QS:Ah:=⟨#[37]⟩
abbrev noB:Ah:=⟨#[]⟩
def Ja (kind:Int) (ts:List Tk):Option (PV Tree) :=
 if (hd ts).1=1 then some (.ok (.mk kind (hd ts).2.1 0 (hd ts).2.2.2 []) ts.tail) else some (.bad (hd ts).2.2.2)
def Gq:Nat->List Tree->List Tk->Option (PV (List Tree))
 | 0,_,_=>none
 | f+1,acc,ts=>if AB Et ts then PV.bind (Ja 6 ts.tail) λn r=>Gq f (acc++[n]) r else some (.ok acc ts)
def Nd (f:Nat) (ts:List Tk):Option (PV (List Tree)):=PV.bind (Ja 6 ts) λn r=>Gq f [n] r
def CQ (ts:List Tk):Int :=
 if AB kOr ts then 1 else if AB QN ts then 2
 else if AB QQ ts || AB kGt ts || AB kLe ts || AB kGe ts || AB QR ts || AB QP ts then 3
 else if AB QO ts then 4 else if AB QT ts || AB Kc ts then 5 else if AB QV ts || AB QU ts || AB QS ts then 6 else 0
def JS (ts:List Tk):Bool:=(hd ts).1 == 6 || AB GI ts || AB NL ts || AB Pv ts
mutual
def Dz:Nat->Int->List Tk->Option (PV Tree)
 | 0,_,_=>none
 | f+1,least,ts=>PV.bind (Fc f ts) λn r=>Fl f least n r
def Fl:Nat->Int->Tree->List Tk->Option (PV Tree)
 | 0,_,_,_=>none
 | f+1,least,n,ts =>
  if CQ ts<=least then some (.ok n ts)
  else PV.bind (Dz f (if CQ ts=4 then 3 else CQ ts) ts.tail) λm r=>Fl f least (.mk 11 (hd ts).2.1 0 n.at_ [n,m]) r
def Fc:Nat->List Tk->Option (PV Tree)
 | 0,_=>none
 | f+1,ts =>
  if (hd ts).1=3 then some (.ok (.mk 4 noB (hd ts).2.2.1 (hd ts).2.2.2 []) ts.tail)
  else if (hd ts).1=4 then some (.ok (.mk 5 (hd ts).2.1 0 (hd ts).2.2.2 []) ts.tail)
  else if AB Amq ts then some (.ok (.mk 1 noB 0 (hd ts).2.2.2 []) ts.tail)
  else if AB Amv ts then some (.ok (.mk 2 noB 0 (hd ts).2.2.2 []) ts.tail)
  else if AB Amj ts then some (.ok (.mk 3 noB 0 (hd ts).2.2.2 []) ts.tail)
  else if AB NO ts || AB NN ts || AB Kc ts then PV.bind (Dz f 7 ts.tail) λm r=>some (.ok (.mk 10 (hd ts).2.1 0 (hd ts).2.2.2 [m]) r)
  else if AB kLc ts then PV.bind (Fb f [] ts.tail) λl r=>some (.ok (.mk 12 noB 0 (hd ts).2.2.2 l) r)
  else EO f ts
def Fb:Nat->List Tree->List Tk->Option (PV (List Tree))
 | 0,_,_=>none
 | f+1,acc,ts =>
  if AB NP ts then some (.ok acc ts.tail)
  else PV.bind (F1 f ts) λx r =>
   if AB Et r then Fb f (acc++[x]) r.tail
   else if AB Hg r then Fb f (acc++[x]) r.tail
   else PV.bind (FG NP r) λ_ r=>some (.ok (acc++[x]) r)
def F1:Nat->List Tk->Option (PV Tree)
 | 0,_=>none
 | f+1,ts =>
  if AB V5 ts then
   PV.bind (Dz f 0 ts.tail) λk r=>PV.bind (FG kRb r) λ_ r=>PV.bind (FG EK r) λ_ r=>PV.bind (Dz f 0 r) λv r=>some (.ok (.mk 14 noB 0 (hd ts).2.2.2 [k,v]) r)
  else if (hd ts).1=1/\(hd ts.tail).1=5/\(hd ts.tail).2.1.toList=EK.toList then
   PV.bind (Dz f 0 ts.tail.tail) λv r=>some (.ok (.mk 14 noB 0 (hd ts).2.2.2 [.mk 5 (hd ts).2.1 0 (hd ts).2.2.2 [],v]) r)
  else PV.bind (Dz f 0 ts) λv r=>some (.ok (.mk 13 noB 0 (hd ts).2.2.2 [v]) r)
def EO:Nat->List Tk->Option (PV Tree)
 | 0,_=>none
 | f+1,ts =>
  if AB Pw ts then PV.bind (Dz f 0 ts.tail) λe r=>PV.bind (FG Gi r) λ_ r=>EN f (hd ts).2.2.2 (.mk 9 noB 0 (hd ts).2.2.2 [e]) r
  else PV.bind (Ja 6 ts) λn r=>EN f (hd ts).2.2.2 n r
def EN:Nat->Int->Tree->List Tk->Option (PV Tree)
 | 0,_,_,_=>none
 | f+1,at_,n,ts =>
  if AB V5 ts then PV.bind (Dz f 0 ts.tail) λe r=>PV.bind (FG kRb r) λ_ r=>EN f at_ (.mk 7 noB 0 at_ [n,e]) r
  else if AB Ami ts then PV.bind (Ja 5 ts.tail) λe r=>EN f at_ (.mk 7 noB 0 at_ [n,e]) r
  else if AB Pw ts then
   PV.bind (if AB Gi ts.tail then some (.ok [] ts.tail) else EM f ts.tail) λl r=>PV.bind (FG Gi r) λ_ r=>EN f at_ (.mk 8 noB 0 at_ (n :: l)) r
  else some (.ok n ts)
def EM:Nat->List Tk->Option (PV (List Tree))
 | 0,_=>none
 | f+1,ts=>PV.bind (Dz f 0 ts) λe r=>Fk f [e] r
def Fk:Nat->List Tree->List Tk->Option (PV (List Tree))
 | 0,_,_=>none
 | f+1,acc,ts=>if AB Et ts then PV.bind (Dz f 0 ts.tail) λe r=>Fk f (acc++[e]) r else some (.ok acc ts)
end
mutual
def EA:Nat->Bool->List Tk->Option (PV Tree)
 | 0,_,_=>none
 | f+1,chunk,ts=>EL f chunk (hd ts).2.2.2 [] ts
def EL:Nat->Bool->Int->List Tree->List Tk->Option (PV Tree)
 | 0,_,_,_,_=>none
 | f+1,chunk,at_,acc,ts =>
  if AB Hg ts then EL f chunk at_ acc ts.tail
  else if AB Zp ts then
   PV.bind (if JS ts.tail || AB Hg ts.tail then some (.ok [] ts.tail) else EM f ts.tail) λl r =>
    some (.ok (.mk 20 noB 0 at_ (acc++[.mk 30 noB 0 (hd ts).2.2.2 l])) (if AB Hg r then r.tail else r))
  else if chunk && AB NM ts then PV.bind (F3 f ts) λx r=>EL f chunk at_ (acc++[x]) r
  else if JS ts then some (.ok (.mk 20 noB 0 at_ acc) ts)
  else PV.bind (F5 f ts) λx r=>EL f chunk at_ (acc++[x]) r
def F3:Nat->List Tk->Option (PV Tree)
 | 0,_=>none
 | f+1,ts =>
  PV.bind (Ja 6 ts.tail) λnm r=>PV.bind (FG Pw r) λ_ r =>
   PV.bind (if AB Gi r then some (.ok [] r) else Nd f r) λps r=>PV.bind (FG Gi r) λ_ r =>
    PV.bind (EA f false r) λb r=>PV.bind (FG GI r) λ_ r=>some (.ok (.mk 31 nm.text ps.length (hd ts).2.2.2 (ps++[b])) r)
/-- do, a block, end. -/
def EY:Nat->List Tk->Option (PV Tree)
 | 0,_=>none
 | f+1,ts=>PV.bind (FG S_ ts) λ_ r=>PV.bind (EA f false r) λb r=>PV.bind (FG GI r) λ_ r=>some (.ok b r)
def F5:Nat->List Tk->Option (PV Tree)
 | 0,_=>none
 | f+1,ts =>
  if AB S_ ts then PV.bind (EY f ts) λb r=>some (.ok (.mk 28 noB 0 (hd ts).2.2.2 [b]) r)
  else if AB Amw ts then PV.bind (Dz f 0 ts.tail) λe r=>PV.bind (EY f r) λb r=>some (.ok (.mk 25 noB 0 (hd ts).2.2.2 [e,b]) r)
  else if AB kIf ts then PV.bind (Fj f [] ts.tail) λl r=>some (.ok (.mk 24 noB 0 (hd ts).2.2.2 l) r)
  else if AB Aml ts then F2 f (hd ts).2.2.2 ts.tail
  else if AB Amo ts then
   PV.bind (Nd f ts.tail) λl r=>PV.bind (if AB EK r then EM f r.tail else some (.ok [] r)) λes r=>some (.ok (.mk 21 noB l.length (hd ts).2.2.2 (l++es)) r)
  else if AB Amh ts then some (.ok (.mk 29 noB 0 (hd ts).2.2.2 []) ts.tail)
  else F4 f ts
def Fj:Nat->List Tree->List Tk->Option (PV (List Tree))
 | 0,_,_=>none
 | f+1,acc,ts =>
  PV.bind (Dz f 0 ts) λe r=>PV.bind (FG Amt r) λ_ r=>PV.bind (EA f false r) λb r =>
   if AB Pv r then Fj f (acc++[e]++[b]) r.tail
   else if AB NL r then PV.bind (EA f false r.tail) λc r=>PV.bind (FG GI r) λ_ r=>some (.ok (acc++[e]++[b]++[c]) r)
   else PV.bind (FG GI r) λ_ r=>some (.ok (acc++[e]++[b]) r)
def F2:Nat->Int->List Tk->Option (PV Tree)
 | 0,_,_=>none
 | f+1,at_,ts =>
  PV.bind (Ja 6 ts) λn r =>
   if AB EK r then
    PV.bind (Dz f 0 r.tail) λa r=>PV.bind (FG Et r) λ_ r=>PV.bind (Dz f 0 r) λb r =>
     PV.bind (if AB Et r then PV.bind (Dz f 0 r.tail) λc r=>some (.ok [c] r) else some (.ok [] r)) λcs r=>PV.bind (EY f r) λbd r =>
      some (.ok (.mk 26 noB 0 at_ ([n]++[a]++[b]++cs++[bd])) r)
   else
    PV.bind (Gq f [n] r) λl r=>PV.bind (FG V4 r) λ_ r=>PV.bind (EM f r) λes r=>PV.bind (EY f r) λbd r =>
     some (.ok (.mk 27 noB l.length at_ (l++es++[bd])) r)
def F4:Nat->List Tk->Option (PV Tree)
 | 0,_=>none
 | f+1,ts =>
  PV.bind (EO f ts) λe r =>
   if AB EK r || AB Et r then
    PV.bind (Fm f [] e r) λl r=>PV.bind (FG EK r) λ_ r=>PV.bind (EM f r) λes r=>some (.ok (.mk 22 noB l.length e.at_ (l++es)) r)
   else if e.kind=8 then some (.ok (.mk 23 noB 0 e.at_ [e]) r) else some (.bad (hd r).2.2.2)
/-- The targets of an assignment, from e on. -/
def Fm:Nat->List Tree->Tree->List Tk->Option (PV (List Tree))
 | 0,_,_,_=>none
 | f+1,acc,e,ts =>
  if e.kind=6\/e.kind=7 then
   if AB Et ts then PV.bind (EO f ts.tail) λe' r=>Fm f (acc++[e]) e' r else some (.ok (acc++[e]) ts)
  else some (.bad e.at_)
end
def Good:List Tk->Prop
 | []=>False
 | [t]=>t.1=6
 | t :: u :: ts=>t.1≠6/\Good (u :: ts)
theorem Good.tail {ts:List Tk} (h:Good ts) (h6:(hd ts).1≠6):Good ts.tail/\ts.tail.length+1=ts.length/\ts.tail <:+ ts:=by
 cases ts with
 | nil=>exact h.elim
 | cons t ts =>
  cases ts with
  | nil=>exact absurd h h6
  | cons u ts=>exact ⟨h.2,rfl,List.suffix_cons t _⟩
theorem AT {w:Ah} {ts:List Tk} (h:AB w ts=true):(hd ts).1≠6:=by
 unfold AB isT at h;intro h6;rw [h6] at h;simp at h
def Fwd {α:Type} (n:Nat) (ts:List Tk):PV α->Prop
 | .ok _ r=>Good r/\r.length+n<=ts.length/\r <:+ ts
 | .bad _=>True
def Step {α:Type} (n:Nat) (ts:List Tk) (x:Option (PV α)):Prop:=Good ts->∀ v,x=some v->Fwd n ts v
section
variable {α β:Type} {n m:Nat} {ts:List Tk} {x:Option (PV α)} {f:α->List Tk->Option (PV β)}
theorem bind_some {v:PV β} (h:PV.bind x f=some v):(∃ i,x=some (.bad i)/\v=.bad i)\/∃ a r,x=some (.ok a r)/\f a r=some v:=by
 unfold PV.bind at h;split at h;cases h;exact .inr ⟨_,_,rfl,h⟩;exact .inl ⟨_,rfl,(Ao h).symm⟩
theorem C2 (h1:Step n ts x) (h2:∀ a r,Step m r (f a r)):Step (n+m) ts (PV.bind x f):=λhg v hv=>by
 rcases bind_some hv with ⟨i,_,rfl⟩ | ⟨a,r,hx,hf⟩;trivial;obtain ⟨g1,g2,g3⟩:=h1 hg _ hx;have:=h2 a r g1 v hf;cases v with
 | bad=>trivial
 | ok b s =>
  obtain ⟨g4,g5,g6⟩:=this;exact ⟨g4,by omega,g6.trans g3⟩
theorem Dl (h:Step n ts x) (hm:m<=n):Step m ts x:=λhg v hv=>by
 have:=h hg v hv;cases v with
 | bad=>trivial
 | ok b s=>exact ⟨this.1,by have:=this.2.1;omega,this.2.2⟩
theorem step_none:Step n ts (none:Option (PV α)):=λ_ _ h=>by cases h
theorem step_bad {i:Int}:Step n ts (some (.bad i):Option (PV α)):=λ_ _ h=>by cases h;trivial
theorem step_ok {a:α}:Step 0 ts (some (.ok a ts)):=λhg _ h=>by cases h;exact ⟨hg,Nat.le_refl _,List.suffix_refl _⟩
theorem D7 (h6:(hd ts).1≠6) (h:Step m ts.tail x):Step (m+1) ts x:=λhg v hv=>by
 obtain ⟨g1,g2,g3⟩:=hg.tail h6;have:=h g1 v hv;cases v with
 | bad=>trivial
 | ok b s=>exact ⟨this.1,by have:=this.2.1;omega,this.2.2.trans g3⟩
theorem Dg {c:Prop} [Decidable c] {y z:Option (PV α)} (h1:c->Step n ts y) (h2:¬ c->Step n ts z):Step n ts (if c then y else z):=by
 by_cases h:c;rw [if_pos h];exact h1 h;rw [if_neg h];exact h2 h
theorem DX (w:Ah) (ts:List Tk):Step 1 ts (FG w ts):=Dg (λh=>D7 (AT h) step_ok) λ_=>step_bad
theorem JB (k:Int) (ts:List Tk):Step 1 ts (Ja k ts):=Dg (λh=>D7 (by omega) step_ok) λ_=>step_bad
theorem Uj:∀ (f:Nat) (acc:List Tree) (ts:List Tk),Step 0 ts (Gq f acc ts)
 | 0,_,_=>step_none
 | f+1,acc,ts=>by
  unfold Gq;exact Dg (λh=>Dl (D7 (AT h) (C2 (JB 6 _) λ_ _=>Uj f _ _)) (Nat.zero_le _)) λ_=>step_ok
theorem W6 (f:Nat) (ts:List Tk):Step 1 ts (Nd f ts):=C2 (JB 6 ts) λ_ _=>Uj f _ _
end
structure Ayi (f:Nat):Prop where
 exp:∀ least ts,Step 1 ts (Dz f least ts)
 loop:∀ least n ts,Step 0 ts (Fl f least n ts)
 operand:∀ ts,Step 1 ts (Fc f ts)
 fields:∀ acc ts,Step 1 ts (Fb f acc ts)
 field:∀ ts,Step 1 ts (F1 f ts)
 Ec:∀ ts,Step 1 ts (EO f ts)
 DB:∀ at_ n ts,Step 0 ts (EN f at_ n ts)
 CW:∀ ts,Step 1 ts (EM f ts)
 Gh:∀ acc ts,Step 0 ts (Fk f acc ts)
theorem LZ {ts:List Tk} (h:CQ ts≠0):(hd ts).1≠6:=by
 intro h6;have hf:∀ w,AB w ts=false:=λw=>by
  cases hw:AB w ts with
  | false=>rfl
  | true=>exact absurd h6 (AT hw)
 exact h (by simp [CQ,hf])
theorem Xm (ts:List Tk):0<=CQ ts/\CQ ts<=6:=by
 unfold CQ
 repeat' split
 all_goals omega
theorem Mt:∀ f,Ayi f
 | 0=>by constructor <;> intros <;> (first | unfold Dz | unfold Fl | unfold Fc | unfold Fb | unfold F1 | unfold EO | unfold EN | unfold EM | unfold Fk) <;> exact step_none
 | f+1=>by
  have ih:=Mt f;constructor;intro least ts;unfold Dz;exact C2 (ih.operand ts) λ_ _=>ih.loop _ _ _;intro least n ts;unfold Fl;refine Dg (λ_=>step_ok) λh=>?_;by_cases h0:CQ ts=0
  -- a least below 0 is never asked for; then nothing is eaten
  intro hg v hv;by_cases h6:(hd ts).1=6;rcases bind_some hv with ⟨i,_,rfl⟩ | ⟨a,r,hx,hf⟩;trivial;exfalso;cases ts with
  | nil=>exact hg
  | cons t ts =>
   cases ts with
   | nil =>
    have hx':Dz f (if CQ [t]=4 then 3 else CQ [t]) []=some (.ok a r):=hx;clear hx hf hv;cases f with
    | zero=>unfold Dz at hx';cases hx'
    | succ f =>
     unfold Dz at hx';rcases bind_some hx' with ⟨i,_,he⟩ | ⟨a',r',hx,hf⟩;cases he;cases f with
     | zero=>unfold Fc at hx;cases hx
     | succ f =>
      unfold Fc at hx;simp only [hd,List.headD_nil,AB,isT] at hx;cases f with
      | zero=>unfold EO at hx;simp at hx
      | succ f=>unfold EO at hx;simp [AB,isT,hd,Ja,PV.bind] at hx
   | cons u ts=>exact hg.1 h6
  exact (Dl (D7 h6 (C2 (ih.exp _ _) λ_ _=>ih.loop _ _ _)) (Nat.zero_le _)) hg v hv;exact Dl (D7 (LZ h0) (C2 (ih.exp _ _) λ_ _=>ih.loop _ _ _)) (Nat.zero_le _);intro ts;unfold Fc;refine Dg (λh=>D7 (by omega) step_ok) λ_=>?_;refine Dg (λh=>D7 (by omega) step_ok) λ_=>?_;refine Dg (λh=>D7 (AT h) step_ok) λ_=>?_;refine Dg (λh=>D7 (AT h) step_ok) λ_=>?_;refine Dg (λh=>D7 (AT h) step_ok) λ_=>?_;refine Dg (λh=>?_) λ_=>?_;have h6:(hd ts).1≠6:=by
   simp only [Bool.or_eq_true] at h;rcases h with (h | h) | h <;> exact AT h
  exact Dl (D7 h6 (C2 (ih.exp _ _) λ_ _=>step_ok)) (by omega);refine Dg (λh=>?_) λ_=>?_;exact Dl (D7 (AT h) (C2 (ih.fields _ _) λ_ _=>step_ok)) (by omega);exact ih.Ec ts;intro acc ts;unfold Fb;refine Dg (λh=>D7 (AT h) step_ok) λ_=>?_;refine Dl (C2 (m:=0) (ih.field ts) λx r=>?_) (by omega);refine Dg (λh=>Dl (D7 (AT h) (ih.fields _ _)) (by omega)) λ_=>?_;refine Dg (λh=>Dl (D7 (AT h) (ih.fields _ _)) (by omega)) λ_=>?_;exact Dl (C2 (DX _ _) λ_ _=>step_ok) (by omega);intro ts;unfold F1;refine Dg (λh=>?_) λ_=>?_;exact Dl (D7 (AT h) (C2 (ih.exp _ _) λ_ _=>C2 (DX _ _) λ_ _=>C2 (DX _ _) λ_ _=>C2 (ih.exp _ _) λ_ _=>step_ok)) (by omega);refine Dg (λh=>?_) λ_=>?_;obtain ⟨h1,h2,_⟩:=h;exact Dl (D7 (by omega) (D7 (by omega) (C2 (ih.exp _ _) λ_ _=>step_ok))) (by omega);exact C2 (ih.exp _ _) λ_ _=>step_ok;intro ts;unfold EO;refine Dg (λh=>?_) λ_=>?_;exact Dl (D7 (AT h) (C2 (ih.exp _ _) λ_ _=>C2 (DX _ _) λ_ _=>ih.DB _ _ _)) (by omega);exact C2 (JB _ _) λ_ _=>ih.DB _ _ _;intro at_ n ts;unfold EN;refine Dg (λh=>?_) λ_=>?_;exact Dl (D7 (AT h) (C2 (ih.exp _ _) λ_ _=>C2 (DX _ _) λ_ _=>ih.DB _ _ _)) (by omega);refine Dg (λh=>?_) λ_=>?_;exact Dl (D7 (AT h) (C2 (JB _ _) λ_ _=>ih.DB _ _ _)) (by omega);refine Dg (λh=>?_) λ_=>step_ok;refine Dl (D7 (AT h) (C2 (n:=0) ?_ λ_ _=>C2 (DX _ _) λ_ _=>ih.DB _ _ _)) (by omega);exact Dg (λ_=>step_ok) λ_=>Dl (ih.CW _) (by omega);intro ts;unfold EM;exact C2 (ih.exp _ _) λ_ _=>ih.Gh _ _;intro acc ts;unfold Fk;exact Dg (λh=>Dl (D7 (AT h) (C2 (ih.exp _ _) λ_ _=>ih.Gh _ _)) (by omega)) λ_=>step_ok
structure Ayk (f:Nat):Prop where
 block:∀ c ts,Step 0 ts (EA f c ts)
 Ek:∀ c at_ acc ts,Step 0 ts (EL f c at_ acc ts)
 function:∀ ts,(hd ts).1≠6->Step 1 ts (F3 f ts)
 body:∀ ts,Step 1 ts (EY f ts)
 stat:∀ ts,Step 1 ts (F5 f ts)
 branches:∀ acc ts,Step 1 ts (Fj f acc ts)
 for_:∀ at_ ts,Step 1 ts (F2 f at_ ts)
 plain:∀ ts,Step 1 ts (F4 f ts)
 targets:∀ acc e ts,Step 0 ts (Fm f acc e ts)
theorem stepS:∀ f,Ayk f
 | 0=>by constructor <;> intros <;> (first | unfold EA | unfold EL | unfold F3 | unfold EY | unfold F5 | unfold Fj | unfold F2 | unfold F4 | unfold Fm) <;> exact step_none
 | f+1=>by
  have ih:=stepS f;have ie:=Mt f;constructor;intro c ts;unfold EA;exact ih.Ek _ _ _ _;intro c at_ acc ts;unfold EL;refine Dg (λh=>Dl (D7 (AT h) (ih.Ek _ _ _ _)) (by omega)) λ_=>?_;refine Dg (λh=>?_) λ_=>?_;refine Dl (D7 (AT h) (C2 (n:=0) (m:=0) ?_ λl r=>?_)) (by omega);exact Dg (λ_=>step_ok) λ_=>Dl (ie.CW _) (by omega);by_cases h:AB Hg r=true;rw [if_pos h];exact Dl (D7 (AT h) step_ok) (by omega);rw [if_neg h];exact step_ok;refine Dg (λh=>?_) λ_=>?_;simp only [Bool.and_eq_true] at h;exact Dl (C2 (ih.function _ (AT h.2)) λ_ _=>ih.Ek _ _ _ _) (by omega);refine Dg (λ_=>step_ok) λ_=>?_;exact Dl (C2 (ih.stat _) λ_ _=>ih.Ek _ _ _ _) (by omega);intro ts h6;unfold F3;refine Dl (D7 h6 (C2 (JB _ _) λ_ _=>C2 (DX _ _) λ_ r=>C2 (n:=0) ?_ λ_ _=>C2 (DX _ _) λ_ _=>C2 (ih.block _ _) λ_ _=>C2 (DX _ _) λ_ _=>step_ok)) (by omega);exact Dg (λ_=>step_ok) λ_=>Dl (W6 f r) (by omega);intro ts;unfold EY;exact Dl (C2 (DX _ _) λ_ _=>C2 (ih.block _ _) λ_ _=>C2 (DX _ _) λ_ _=>step_ok) (by omega);intro ts;unfold F5;refine Dg (λh=>C2 (ih.body _) λ_ _=>step_ok) λ_=>?_;refine Dg (λh=>Dl (D7 (AT h) (C2 (ie.exp _ _) λ_ _=>C2 (ih.body _) λ_ _=>step_ok)) (by omega)) λ_=>?_;refine Dg (λh=>Dl (D7 (AT h) (C2 (ih.branches _ _) λ_ _=>step_ok)) (by omega)) λ_=>?_;refine Dg (λh=>Dl (D7 (AT h) (ih.for_ _ _)) (by omega)) λ_=>?_;refine Dg (λh=>?_) λ_=>?_;refine Dl (D7 (AT h) (C2 (W6 f _) λ_ r=>C2 (n:=0) ?_ λ_ _=>step_ok)) (by omega);exact Dg (λh=>Dl (D7 (AT h) (ie.CW _)) (by omega)) λ_=>step_ok;refine Dg (λh=>D7 (AT h) step_ok) λ_=>ih.plain _;intro acc ts;unfold Fj;refine Dl (C2 (ie.exp _ _) λ_ _=>C2 (DX _ _) λ_ _=>C2 (m:=0) (ih.block _ _) λ_ r=>?_) (by omega);refine Dg (λh=>Dl (D7 (AT h) (ih.branches _ _)) (by omega)) λ_=>?_;refine Dg (λh=>Dl (D7 (AT h) (C2 (ih.block _ _) λ_ _=>C2 (DX _ _) λ_ _=>step_ok)) (by omega)) λ_=>?_;exact Dl (C2 (DX _ _) λ_ _=>step_ok) (by omega);intro at_ ts;unfold F2;refine Dl (C2 (m:=0) (JB _ _) λn r=>?_) (by omega);refine Dg (λh=>?_) λ_=>?_;refine Dl (D7 (AT h) (C2 (ie.exp _ _) λ_ _=>C2 (DX _ _) λ_ _=>C2 (ie.exp _ _) λ_ r=>C2 (n:=0) ?_ λ_ _=>C2 (ih.body _) λ_ _=>step_ok)) (by omega);exact Dg (λh=>Dl (D7 (AT h) (C2 (ie.exp _ _) λ_ _=>step_ok)) (by omega)) λ_=>step_ok;exact Dl (C2 (Uj _ _ _) λ_ _=>C2 (DX _ _) λ_ _=>C2 (ie.CW _) λ_ _=>C2 (ih.body _) λ_ _=>step_ok) (by omega);intro ts;unfold F4;refine Dl (C2 (m:=0) (ie.Ec _) λe r=>?_) (by omega);refine Dg (λh=>?_) λ_=>?_;exact Dl (C2 (ih.targets _ _ _) λ_ _=>C2 (DX _ _) λ_ _=>C2 (ie.CW _) λ_ _=>step_ok) (by omega);exact Dg (λ_=>step_ok) λ_=>step_bad;intro acc e ts;unfold Fm;refine Dg (λ_=>?_) λ_=>step_bad;exact Dg (λh=>Dl (D7 (AT h) (C2 (ie.Ec _) λ_ _=>ih.targets _ _ _)) (by omega)) λ_=>step_ok
theorem C3 {α β:Type} {n:Nat} {ts:List Tk} {x:Option (PV α)} {f:α->List Tk->Option (PV β)} (hg:Good ts) (h1:∃ v,x=some v) (hs:Step n ts x) (h2:∀ a r,Good r->r.length+n<=ts.length->∃ v,f a r=some v):∃ v,PV.bind x f=some v:=by
 obtain ⟨v,rfl⟩:=h1;cases v with
 | bad i=>exact ⟨_,rfl⟩
 | ok a r =>
  obtain ⟨g1,g2,_⟩:=hs hg _ rfl;exact h2 a r g1 g2
theorem Dx {α:Type} {c:Prop} [Decidable c] {y z:Option (PV α)} (h1:c->∃ v,y=some v) (h2:¬ c->∃ v,z=some v):∃ v,(if c then y else z)=some v:=by
 by_cases h:c;rw [if_pos h];exact h1 h;rw [if_neg h];exact h2 h
theorem Ip (w:Ah) (ts:List Tk):∃ v,FG w ts=some v:=Dx (λ_=>⟨_,rfl⟩) λ_=>⟨_,rfl⟩
theorem Qc (k:Int) (ts:List Tk):∃ v,Ja k ts=some v:=Dx (λ_=>⟨_,rfl⟩) λ_=>⟨_,rfl⟩
theorem RK:∀ (f:Nat) (acc:List Tree) (ts:List Tk),Good ts->16 * ts.length+1<=f->∃ v,Gq f acc ts=some v
 | 0,_,_,_,h=>by omega
 | f+1,acc,ts,hg,h=>by
  unfold Gq;refine Dx (λhc=>?_) λ_=>⟨_,rfl⟩;obtain ⟨g1,g2,_⟩:=hg.tail (AT hc);exact C3 g1 (Qc _ _) (JB _ _) λa r hr hl=>RK f _ r hr (by omega)
structure Ayl (f:Nat):Prop where
 exp:∀ least ts,0<=least->Good ts->16 * ts.length+5<=f->∃ v,Dz f least ts=some v
 loop:∀ least n ts,0<=least->Good ts->16 * ts.length+1<=f->∃ v,Fl f least n ts=some v
 operand:∀ ts,Good ts->16 * ts.length+4<=f->∃ v,Fc f ts=some v
 fields:∀ acc ts,Good ts->16 * ts.length+7<=f->∃ v,Fb f acc ts=some v
 field:∀ ts,Good ts->16 * ts.length+6<=f->∃ v,F1 f ts=some v
 Ec:∀ ts,Good ts->16 * ts.length+3<=f->∃ v,EO f ts=some v
 DB:∀ at_ n ts,Good ts->16 * ts.length+1<=f->∃ v,EN f at_ n ts=some v
 CW:∀ ts,Good ts->16 * ts.length+6<=f->∃ v,EM f ts=some v
 Gh:∀ acc ts,Good ts->16 * ts.length+1<=f->∃ v,Fk f acc ts=some v
theorem G8:∀ f,Ayl f
 | 0=>by constructor <;> intros <;> omega
 | f+1=>by
  have ih:=G8 f;have st:=Mt f;constructor;intro least ts hl hg h;unfold Dz;exact C3 hg (ih.operand _ hg (by omega)) (st.operand _) λa r hr hn=>ih.loop _ _ _ hl hr (by omega);intro least n ts hl hg h;unfold Fl;refine Dx (λ_=>⟨_,rfl⟩) λhb=>?_;obtain ⟨g1,g2,_⟩:=hg.tail (LZ (by omega));exact C3 g1 (ih.exp _ _ (by split <;> omega) g1 (by omega)) (st.exp _ _) λa r hr hn=>ih.loop _ _ _ hl hr (by omega);intro ts hg h;unfold Fc;refine Dx (λ_=>⟨_,rfl⟩) λ_=>Dx (λ_=>⟨_,rfl⟩) λ_=>Dx (λ_=>⟨_,rfl⟩) λ_=>Dx (λ_=>⟨_,rfl⟩) λ_=>Dx (λ_=>⟨_,rfl⟩) λ_=>Dx (λhc=>?_) λ_=>Dx (λhc=>?_) λ_=>ih.Ec _ hg (by omega);have h6:(hd ts).1≠6:=by
   simp only [Bool.or_eq_true] at hc;rcases hc with (h | h) | h <;> exact AT h
  obtain ⟨g1,g2,_⟩:=hg.tail h6;exact C3 g1 (ih.exp _ _ (by omega) g1 (by omega)) (st.exp _ _) λa r _ _=>⟨_,rfl⟩;obtain ⟨g1,g2,_⟩:=hg.tail (AT hc);exact C3 g1 (ih.fields _ _ g1 (by omega)) (st.fields _ _) λa r _ _=>⟨_,rfl⟩;intro acc ts hg h;unfold Fb;refine Dx (λ_=>⟨_,rfl⟩) λ_=>C3 hg (ih.field _ hg (by omega)) (st.field _) λx r hr hn=>?_;refine Dx (λhc=>?_) λ_=>Dx (λhc=>?_) λ_=>C3 hr (Ip _ _) (DX _ _) λ_ _ _ _=>⟨_,rfl⟩;obtain ⟨g1,g2,_⟩:=hr.tail (AT hc);exact ih.fields _ _ g1 (by omega);obtain ⟨g1,g2,_⟩:=hr.tail (AT hc);exact ih.fields _ _ g1 (by omega);intro ts hg h;unfold F1;refine Dx (λhc=>?_) λ_=>Dx (λhc=>?_) λ_=>C3 hg (ih.exp _ _ (by omega) hg (by omega)) (st.exp _ _) λ_ _ _ _=>⟨_,rfl⟩;obtain ⟨g1,g2,_⟩:=hg.tail (AT hc);exact C3 g1 (ih.exp _ _ (by omega) g1 (by omega)) (st.exp _ _) λ_ r hr hn=>C3 hr (Ip _ _) (DX _ _) λ_ r2 hr2 hn2=>C3 hr2 (Ip _ _) (DX _ _) λ_ r3 hr3 hn3=>C3 hr3 (ih.exp _ _ (by omega) hr3 (by omega)) (st.exp _ _) λ_ _ _ _=>⟨_,rfl⟩;obtain ⟨h1,h2,_⟩:=hc;obtain ⟨g1,g2,_⟩:=hg.tail (by omega);obtain ⟨g3,g4,_⟩:=g1.tail (by omega);exact C3 g3 (ih.exp _ _ (by omega) g3 (by omega)) (st.exp _ _) λ_ _ _ _=>⟨_,rfl⟩;intro ts hg h;unfold EO;refine Dx (λhc=>?_) λ_=>C3 hg (Qc _ _) (JB _ _) λ_ r hr hn=>ih.DB _ _ _ hr (by omega);obtain ⟨g1,g2,_⟩:=hg.tail (AT hc);exact C3 g1 (ih.exp _ _ (by omega) g1 (by omega)) (st.exp _ _) λ_ r hr hn=>C3 hr (Ip _ _) (DX _ _) λ_ r2 hr2 hn2=>ih.DB _ _ _ hr2 (by omega);intro at_ n ts hg h;unfold EN;refine Dx (λhc=>?_) λ_=>Dx (λhc=>?_) λ_=>Dx (λhc=>?_) λ_=>⟨_,rfl⟩;obtain ⟨g1,g2,_⟩:=hg.tail (AT hc);exact C3 g1 (ih.exp _ _ (by omega) g1 (by omega)) (st.exp _ _) λ_ r hr hn=>C3 hr (Ip _ _) (DX _ _) λ_ r2 hr2 hn2=>ih.DB _ _ _ hr2 (by omega);obtain ⟨g1,g2,_⟩:=hg.tail (AT hc);exact C3 g1 (Qc _ _) (JB _ _) λ_ r hr hn=>ih.DB _ _ _ hr (by omega);obtain ⟨g1,g2,_⟩:=hg.tail (AT hc);exact C3 (n:=0) g1 (Dx (λ_=>⟨_,rfl⟩) λ_=>ih.CW _ g1 (by omega)) (Dg (λ_=>step_ok) λ_=>Dl (st.CW _) (by omega)) λ_ r hr hn=>C3 hr (Ip _ _) (DX _ _) λ_ r2 hr2 hn2=>ih.DB _ _ _ hr2 (by omega);intro ts hg h;unfold EM;exact C3 hg (ih.exp _ _ (by omega) hg (by omega)) (st.exp _ _) λ_ r hr hn=>ih.Gh _ _ hr (by omega);intro acc ts hg h;unfold Fk;refine Dx (λhc=>?_) λ_=>⟨_,rfl⟩;obtain ⟨g1,g2,_⟩:=hg.tail (AT hc);exact C3 g1 (ih.exp _ _ (by omega) g1 (by omega)) (st.exp _ _) λ_ r hr hn=>ih.Gh _ _ hr (by omega)
structure Aym (f:Nat):Prop where
 block:∀ c ts,Good ts->16 * ts.length+9<=f->∃ v,EA f c ts=some v
 Ek:∀ c at_ acc ts,Good ts->16 * ts.length+8<=f->∃ v,EL f c at_ acc ts=some v
 function:∀ ts,(hd ts).1≠6->Good ts->16 * ts.length+7<=f->∃ v,F3 f ts=some v
 body:∀ ts,Good ts->16 * ts.length+6<=f->∃ v,EY f ts=some v
 stat:∀ ts,Good ts->16 * ts.length+7<=f->∃ v,F5 f ts=some v
 branches:∀ acc ts,Good ts->16 * ts.length+6<=f->∃ v,Fj f acc ts=some v
 for_:∀ at_ ts,Good ts->16 * ts.length+1<=f->∃ v,F2 f at_ ts=some v
 plain:∀ ts,Good ts->16 * ts.length+6<=f->∃ v,F4 f ts=some v
 targets:∀ acc e ts,Good ts->16 * ts.length+1<=f->∃ v,Fm f acc e ts=some v
theorem GY:∀ f,Aym f
 | 0=>by constructor <;> intros <;> omega
 | f+1=>by
  have ih:=GY f;have ie:=G8 f;have se:=Mt f;have ss:=stepS f;constructor;intro c ts hg h;unfold EA;exact ih.Ek _ _ _ _ hg (by omega);intro c at_ acc ts hg h;unfold EL;refine Dx (λhc=>?_) λ_=>Dx (λhc=>?_) λ_=>Dx (λhc=>?_) λ_=>Dx (λ_=>⟨_,rfl⟩) λ_=>?_;obtain ⟨g1,g2,_⟩:=hg.tail (AT hc);exact ih.Ek _ _ _ _ g1 (by omega);obtain ⟨g1,g2,_⟩:=hg.tail (AT hc);exact C3 (n:=0) g1 (Dx (λ_=>⟨_,rfl⟩) λ_=>ie.CW _ g1 (by omega)) (Dg (λ_=>step_ok) λ_=>Dl (se.CW _) (by omega)) λ_ r hr hn=>⟨_,rfl⟩;simp only [Bool.and_eq_true] at hc;exact C3 hg (ih.function _ (AT hc.2) hg (by omega)) (ss.function _ (AT hc.2)) λ_ r hr hn=>ih.Ek _ _ _ _ hr (by omega);exact C3 hg (ih.stat _ hg (by omega)) (ss.stat _) λ_ r hr hn=>ih.Ek _ _ _ _ hr (by omega);intro ts h6 hg h;unfold F3;obtain ⟨g1,g2,_⟩:=hg.tail h6;exact C3 g1 (Qc _ _) (JB _ _) λ_ r hr hn=>C3 hr (Ip _ _) (DX _ _) λ_ r2 hr2 hn2 =>
   C3 (n:=0) hr2 (Dx (λ_=>⟨_,rfl⟩) λ_=>C3 hr2 (Qc _ _) (JB _ _) λ_ r hr hn=>RK _ _ _ hr (by omega)) (Dg (λ_=>step_ok) λ_=>Dl (W6 f r2) (by omega)) λ_ r3 hr3 hn3 =>
    C3 hr3 (Ip _ _) (DX _ _) λ_ r4 hr4 hn4=>C3 hr4 (ih.block _ _ hr4 (by omega)) (ss.block _ _) λ_ r5 hr5 hn5=>C3 hr5 (Ip _ _) (DX _ _) λ_ _ _ _=>⟨_,rfl⟩
  intro ts hg h;unfold EY;exact C3 hg (Ip _ _) (DX _ _) λ_ r hr hn=>C3 hr (ih.block _ _ hr (by omega)) (ss.block _ _) λ_ r5 hr5 hn5=>C3 hr5 (Ip _ _) (DX _ _) λ_ _ _ _=>⟨_,rfl⟩;intro ts hg h;unfold F5;refine Dx (λhc=>?_) λ_=>Dx (λhc=>?_) λ_=>Dx (λhc=>?_) λ_=>Dx (λhc=>?_) λ_=>Dx (λhc=>?_) λ_=>Dx (λhc=>⟨_,rfl⟩) λ_=>ih.plain _ hg (by omega);exact C3 hg (ih.body _ hg (by omega)) (ss.body _) λ_ _ _ _=>⟨_,rfl⟩;obtain ⟨g1,g2,_⟩:=hg.tail (AT hc);exact C3 g1 (ie.exp _ _ (by omega) g1 (by omega)) (se.exp _ _) λ_ r hr hn=>C3 hr (ih.body _ hr (by omega)) (ss.body _) λ_ _ _ _=>⟨_,rfl⟩;obtain ⟨g1,g2,_⟩:=hg.tail (AT hc);exact C3 g1 (ih.branches _ _ g1 (by omega)) (ss.branches _ _) λ_ _ _ _=>⟨_,rfl⟩;obtain ⟨g1,g2,_⟩:=hg.tail (AT hc);exact ih.for_ _ _ g1 (by omega);obtain ⟨g1,g2,_⟩:=hg.tail (AT hc);refine C3 g1 (C3 g1 (Qc _ _) (JB _ _) λ_ r hr hn=>RK _ _ _ hr (by omega)) (W6 f _) λ_ r hr hn=>?_;refine C3 (n:=0) hr (Dx (λhc=>?_) λ_=>⟨_,rfl⟩) (Dg (λh=>Dl (D7 (AT h) (se.CW _)) (by omega)) λ_=>step_ok) λ_ _ _ _=>⟨_,rfl⟩;obtain ⟨g3,g4,_⟩:=hr.tail (AT hc);exact ie.CW _ g3 (by omega);intro acc ts hg h;unfold Fj;refine C3 hg (ie.exp _ _ (by omega) hg (by omega)) (se.exp _ _) λ_ r hr hn=>C3 hr (Ip _ _) (DX _ _) λ_ r2 hr2 hn2=>C3 hr2 (ih.block _ _ hr2 (by omega)) (ss.block _ _) λ_ r3 hr3 hn3=>?_;refine Dx (λhc=>?_) λ_=>Dx (λhc=>?_) λ_=>C3 hr3 (Ip _ _) (DX _ _) λ_ _ _ _=>⟨_,rfl⟩;obtain ⟨g1,g2,_⟩:=hr3.tail (AT hc);exact ih.branches _ _ g1 (by omega);obtain ⟨g1,g2,_⟩:=hr3.tail (AT hc);exact C3 g1 (ih.block _ _ g1 (by omega)) (ss.block _ _) λ_ r4 hr4 hn4=>C3 hr4 (Ip _ _) (DX _ _) λ_ _ _ _=>⟨_,rfl⟩;intro at_ ts hg h;unfold F2;refine C3 hg (Qc _ _) (JB _ _) λn r hr hn=>Dx (λhc=>?_) λ_=>?_;obtain ⟨g1,g2,_⟩:=hr.tail (AT hc);refine C3 g1 (ie.exp _ _ (by omega) g1 (by omega)) (se.exp _ _) λ_ r2 hr2 hn2=>C3 hr2 (Ip _ _) (DX _ _) λ_ r3 hr3 hn3=>C3 hr3 (ie.exp _ _ (by omega) hr3 (by omega)) (se.exp _ _) λ_ r4 hr4 hn4=>?_;refine C3 (n:=0) hr4 (Dx (λhc=>?_) λ_=>⟨_,rfl⟩) (Dg (λh=>Dl (D7 (AT h) (C2 (se.exp _ _) λ_ _=>step_ok)) (by omega)) λ_=>step_ok) λ_ r5 hr5 hn5=>C3 hr5 (ih.body _ hr5 (by omega)) (ss.body _) λ_ _ _ _=>⟨_,rfl⟩;obtain ⟨g3,g4,_⟩:=hr4.tail (AT hc);exact C3 g3 (ie.exp _ _ (by omega) g3 (by omega)) (se.exp _ _) λ_ _ _ _=>⟨_,rfl⟩;exact C3 hr (RK _ _ _ hr (by omega)) (Uj _ _ _) λ_ r2 hr2 hn2=>C3 hr2 (Ip _ _) (DX _ _) λ_ r3 hr3 hn3=>C3 hr3 (ie.CW _ hr3 (by omega)) (se.CW _) λ_ r4 hr4 hn4=>C3 hr4 (ih.body _ hr4 (by omega)) (ss.body _) λ_ _ _ _=>⟨_,rfl⟩;intro ts hg h;unfold F4;refine C3 hg (ie.Ec _ hg (by omega)) (se.Ec _) λe r hr hn=>Dx (λhc=>?_) λ_=>Dx (λ_=>⟨_,rfl⟩) λ_=>⟨_,rfl⟩;exact C3 hr (ih.targets _ _ _ hr (by omega)) (ss.targets _ _ _) λ_ r2 hr2 hn2=>C3 hr2 (Ip _ _) (DX _ _) λ_ r3 hr3 hn3=>C3 hr3 (ie.CW _ hr3 (by omega)) (se.CW _) λ_ _ _ _=>⟨_,rfl⟩;intro acc e ts hg h;unfold Fm;refine Dx (λ_=>Dx (λhc=>?_) λ_=>⟨_,rfl⟩) λ_=>⟨_,rfl⟩;obtain ⟨g1,g2,_⟩:=hg.tail (AT hc);exact C3 g1 (ie.Ec _ g1 (by omega)) (se.Ec _) λ_ r hr hn=>ih.targets _ _ _ hr (by omega)
def Le {α:Type} (x y:Option α):Prop:=∀ v,x=some v->y=some v
section
variable {α β:Type}
theorem Le.refl (x:Option α):Le x x:=λ_ h=>h
theorem Le.none (x:Option α):Le none x:=λ_ h=>by cases h
theorem Le.trans {x y z:Option α} (h1:Le x y) (h2:Le y z):Le x z:=λv h=>h2 v (h1 v h)
theorem Le.bind {x y:Option (PV α)} {f g:α->List Tk->Option (PV β)} (h:Le x y) (hf:∀ a r,Le (f a r) (g a r)):Le (PV.bind x f) (PV.bind y g):=λv hv=>by
 rcases bind_some hv with ⟨i,hx,rfl⟩ | ⟨a,r,hx,h2⟩;rw [h _ hx];rfl;rw [h _ hx];exact hf a r _ h2
theorem Le.ite {c:Prop} [Decidable c] {x y x' y':Option α} (h1:Le x x') (h2:Le y y'):Le (if c then x else y) (if c then x' else y'):=by
 by_cases h:c;rw [if_pos h,if_pos h];exact h1;rw [if_neg h,if_neg h];exact h2
end
theorem VN:∀ (f:Nat) (acc:List Tree) (ts:List Tk),Le (Gq f acc ts) (Gq (f+1) acc ts)
 | 0,_,_=>Le.none _
 | f+1,acc,ts=>by
  rw [Gq,Gq];exact Le.ite (Le.bind (Le.refl _) λ_ _=>VN f _ _) (Le.refl _)
theorem Aoe (f:Nat) (ts:List Tk):Le (Nd f ts) (Nd (f+1) ts):=Le.bind (Le.refl _) λ_ _=>VN f _ _
structure LeE (f:Nat):Prop where
 exp:∀ least ts,Le (Dz f least ts) (Dz (f+1) least ts)
 loop:∀ least n ts,Le (Fl f least n ts) (Fl (f+1) least n ts)
 operand:∀ ts,Le (Fc f ts) (Fc (f+1) ts)
 fields:∀ acc ts,Le (Fb f acc ts) (Fb (f+1) acc ts)
 field:∀ ts,Le (F1 f ts) (F1 (f+1) ts)
 Ec:∀ ts,Le (EO f ts) (EO (f+1) ts)
 DB:∀ at_ n ts,Le (EN f at_ n ts) (EN (f+1) at_ n ts)
 CW:∀ ts,Le (EM f ts) (EM (f+1) ts)
 Gh:∀ acc ts,Le (Fk f acc ts) (Fk (f+1) acc ts)
theorem L7:∀ f,LeE f
 | 0=>by constructor <;> intros <;> (first | rw [Dz] | rw [Fl] | rw [Fc] | rw [Fb] | rw [F1] | rw [EO] | rw [EN] | rw [EM] | rw [Fk]) <;> exact Le.none _
 | f+1=>by
  have ih:=L7 f;constructor;intro least ts;rw [Dz,Dz];exact Le.bind (ih.operand _) λ_ _=>ih.loop _ _ _;intro least n ts;rw [Fl,Fl];exact Le.ite (Le.refl _) (Le.bind (ih.exp _ _) λ_ _=>ih.loop _ _ _);intro ts;rw [Fc,Fc];exact Le.ite (Le.refl _) (Le.ite (Le.refl _) (Le.ite (Le.refl _) (Le.ite (Le.refl _) (Le.ite (Le.refl _) (Le.ite (Le.bind (ih.exp _ _) λ_ _=>Le.refl _) (Le.ite (Le.bind (ih.fields _ _) λ_ _=>Le.refl _) (ih.Ec _)))))));intro acc ts;rw [Fb,Fb];exact Le.ite (Le.refl _) (Le.bind (ih.field _) λ_ _=>Le.ite (ih.fields _ _) (Le.ite (ih.fields _ _) (Le.refl _)));intro ts;rw [F1,F1];exact Le.ite (Le.bind (ih.exp _ _) λ_ _=>Le.bind (Le.refl _) λ_ _=>Le.bind (Le.refl _) λ_ _=>Le.bind (ih.exp _ _) λ_ _=>Le.refl _) (Le.ite (Le.bind (ih.exp _ _) λ_ _=>Le.refl _) (Le.bind (ih.exp _ _) λ_ _=>Le.refl _));intro ts;rw [EO,EO];exact Le.ite (Le.bind (ih.exp _ _) λ_ _=>Le.bind (Le.refl _) λ_ _=>ih.DB _ _ _) (Le.bind (Le.refl _) λ_ _=>ih.DB _ _ _);intro at_ n ts;rw [EN,EN];exact Le.ite (Le.bind (ih.exp _ _) λ_ _=>Le.bind (Le.refl _) λ_ _=>ih.DB _ _ _) (Le.ite (Le.bind (Le.refl _) λ_ _=>ih.DB _ _ _) (Le.ite (Le.bind (Le.ite (Le.refl _) (ih.CW _)) λ_ _=>Le.bind (Le.refl _) λ_ _=>ih.DB _ _ _) (Le.refl _)));intro ts;rw [EM,EM];exact Le.bind (ih.exp _ _) λ_ _=>ih.Gh _ _;intro acc ts;rw [Fk,Fk];exact Le.ite (Le.bind (ih.exp _ _) λ_ _=>ih.Gh _ _) (Le.refl _)
structure LeS (f:Nat):Prop where
 block:∀ c ts,Le (EA f c ts) (EA (f+1) c ts)
 Ek:∀ c at_ acc ts,Le (EL f c at_ acc ts) (EL (f+1) c at_ acc ts)
 function:∀ ts,Le (F3 f ts) (F3 (f+1) ts)
 body:∀ ts,Le (EY f ts) (EY (f+1) ts)
 stat:∀ ts,Le (F5 f ts) (F5 (f+1) ts)
 branches:∀ acc ts,Le (Fj f acc ts) (Fj (f+1) acc ts)
 for_:∀ at_ ts,Le (F2 f at_ ts) (F2 (f+1) at_ ts)
 plain:∀ ts,Le (F4 f ts) (F4 (f+1) ts)
 targets:∀ acc e ts,Le (Fm f acc e ts) (Fm (f+1) acc e ts)
theorem leS:∀ f,LeS f
 | 0=>by constructor <;> intros <;> (first | rw [EA] | rw [EL] | rw [F3] | rw [EY] | rw [F5] | rw [Fj] | rw [F2] | rw [F4] | rw [Fm]) <;> exact Le.none _
 | f+1=>by
  have ih:=leS f;have ie:=L7 f;constructor;intro c ts;rw [EA,EA];exact ih.Ek _ _ _ _;intro c at_ acc ts;rw [EL,EL];exact Le.ite (ih.Ek _ _ _ _) (Le.ite (Le.bind (Le.ite (Le.refl _) (ie.CW _)) λ_ _=>Le.refl _) (Le.ite (Le.bind (ih.function _) λ_ _=>ih.Ek _ _ _ _) (Le.ite (Le.refl _) (Le.bind (ih.stat _) λ_ _=>ih.Ek _ _ _ _))));intro ts;rw [F3,F3];exact Le.bind (Le.refl _) λ_ _=>Le.bind (Le.refl _) λ_ _=>Le.bind (Le.ite (Le.refl _) (Aoe _ _)) λ_ _=>Le.bind (Le.refl _) λ_ _=>Le.bind (ih.block _ _) λ_ _=>Le.refl _;intro ts;rw [EY,EY];exact Le.bind (Le.refl _) λ_ _=>Le.bind (ih.block _ _) λ_ _=>Le.refl _;intro ts;rw [F5,F5];exact Le.ite (Le.bind (ih.body _) λ_ _=>Le.refl _) (Le.ite (Le.bind (ie.exp _ _) λ_ _=>Le.bind (ih.body _) λ_ _=>Le.refl _) (Le.ite (Le.bind (ih.branches _ _) λ_ _=>Le.refl _) (Le.ite (ih.for_ _ _) (Le.ite (Le.bind (Aoe _ _) λ_ _=>Le.bind (Le.ite (ie.CW _) (Le.refl _)) λ_ _=>Le.refl _) (Le.ite (Le.refl _) (ih.plain _))))));intro acc ts;rw [Fj,Fj];exact Le.bind (ie.exp _ _) λ_ _=>Le.bind (Le.refl _) λ_ _=>Le.bind (ih.block _ _) λ_ _=>Le.ite (ih.branches _ _) (Le.ite (Le.bind (ih.block _ _) λ_ _=>Le.refl _) (Le.refl _));intro at_ ts;rw [F2,F2];exact Le.bind (Le.refl _) λ_ _=>Le.ite (Le.bind (ie.exp _ _) λ_ _=>Le.bind (Le.refl _) λ_ _=>Le.bind (ie.exp _ _) λ_ _=>Le.bind (Le.ite (Le.bind (ie.exp _ _) λ_ _=>Le.refl _) (Le.refl _)) λ_ _=>Le.bind (ih.body _) λ_ _=>Le.refl _) (Le.bind (VN _ _ _) λ_ _=>Le.bind (Le.refl _) λ_ _=>Le.bind (ie.CW _) λ_ _=>Le.bind (ih.body _) λ_ _=>Le.refl _);intro ts;rw [F4,F4];exact Le.bind (ie.Ec _) λ_ _=>Le.ite (Le.bind (ih.targets _ _ _) λ_ _=>Le.bind (Le.refl _) λ_ _=>Le.bind (ie.CW _) λ_ _=>Le.refl _) (Le.refl _);intro acc e ts;rw [Fm,Fm];exact Le.ite (Le.ite (Le.bind (ie.Ec _) λ_ _=>ih.targets _ _ _) (Le.refl _)) (Le.refl _)
theorem Aoj {α:Type} {p:Nat->Option α} (h:∀ f,Le (p f) (p (f+1))) {f f':Nat} (h0:f<=f'):Le (p f) (p f'):=by
 induction f' with
 | zero=>rw [Nat.le_zero.1 h0];exact Le.refl _
 | succ f' ih =>
  rcases Nat.lt_or_ge f (f'+1) with h1 | h1;exact (ih (by omega)).trans (h f');rw [show f=f'+1 by omega];exact Le.refl _
def val {α:Type} (x:Option (PV α)):PV α:=x.getD (.bad 0)
def fu (ts:List Tk):Nat:=16 * ts.length+16
theorem GZ {α:Type} {p:Nat->Option (PV α)} (h:∀ f,Le (p f) (p (f+1))) {f f0:Nat} (h1:∃ v,p f=some v) (h2:∃ v,p f0=some v):p f=some (val (p f0)):=by
 obtain ⟨v,hv⟩:=h1;obtain ⟨v0,hv0⟩:=h2;rcases Nat.le_total f f0 with h' | h';have:=Aoj h h' v hv;rw [hv,this];rfl;have:=Aoj h h' v0 hv0;rw [this,hv0];rfl
def Kx (acc:List Tree) (ts:List Tk):PV (List Tree):=val (Gq (fu ts) acc ts)
def DZ (least:Int) (ts:List Tk):PV Tree:=val (Dz (fu ts) least ts)
def JC (least:Int) (n:Tree) (ts:List Tk):PV Tree:=val (Fl (fu ts) least n ts)
def Ky (ts:List Tk):PV Tree:=val (Fc (fu ts) ts)
def Lf (acc:List Tree) (ts:List Tk):PV (List Tree):=val (Fb (fu ts) acc ts)
def Ou (ts:List Tk):PV Tree:=val (F1 (fu ts) ts)
def Jj (ts:List Tk):PV Tree:=val (EO (fu ts) ts)
def Kz (at_:Int) (n:Tree) (ts:List Tk):PV Tree:=val (EN (fu ts) at_ n ts)
def FV (ts:List Tk):PV (List Tree):=val (EM (fu ts) ts)
def Qf (acc:List Tree) (ts:List Tk):PV (List Tree):=val (Fk (fu ts) acc ts)
def FB (c:Bool) (ts:List Tk):PV Tree:=val (EA (fu ts) c ts)
def Kw (c:Bool) (at_:Int) (acc:List Tree) (ts:List Tk):PV Tree:=val (EL (fu ts) c at_ acc ts)
def RL (ts:List Tk):PV Tree:=val (F3 (fu ts) ts)
def Ji (ts:List Tk):PV Tree:=val (EY (fu ts) ts)
def Nw (ts:List Tk):PV Tree:=val (F5 (fu ts) ts)
def Nv (acc:List Tree) (ts:List Tk):PV (List Tree):=val (Fj (fu ts) acc ts)
def Qg (at_:Int) (ts:List Tk):PV Tree:=val (F2 (fu ts) at_ ts)
def Qh (ts:List Tk):PV Tree:=val (F4 (fu ts) ts)
def Qi (acc:List Tree) (e:Tree) (ts:List Tk):PV (List Tree):=val (Fm (fu ts) acc e ts)
def Db (w:Ah) (ts:List Tk):PV Unit:=if AB w ts then .ok () ts.tail else .bad (hd ts).2.2.2
def G9 (kind:Int) (ts:List Tk):PV Tree:=if (hd ts).1=1 then .ok (.mk kind (hd ts).2.1 0 (hd ts).2.2.2 []) ts.tail else .bad (hd ts).2.2.2
section
variable {ts:List Tk} {f:Nat}
theorem Hl (w:Ah) (ts:List Tk):FG w ts=some (Db w ts):=by unfold FG Db;split <;> rfl
theorem PJ (k:Int) (ts:List Tk):Ja k ts=some (G9 k ts):=by unfold Ja G9;split <;> rfl
theorem TL (acc:List Tree) (hg:Good ts) (hf:16 * ts.length+1<=f):Gq f acc ts=some (Kx acc ts):=GZ (p:=λf=>Gq f acc ts) (λf=>VN f acc ts) (RK _ _ _ hg hf) (RK _ _ _ hg (by unfold fu;omega))
theorem Ib {least:Int} (hl:0<=least) (hg:Good ts) (hf:16 * ts.length+5<=f):Dz f least ts=some (DZ least ts):=GZ (p:=λf=>Dz f least ts) (λf=>(L7 f).exp _ _) ((G8 _).exp _ _ hl hg hf) ((G8 _).exp _ _ hl hg (by unfold fu;omega))
theorem Aai {least:Int} (n:Tree) (hl:0<=least) (hg:Good ts) (hf:16 * ts.length+1<=f):Fl f least n ts=some (JC least n ts):=GZ (p:=λf=>Fl f least n ts) (λf=>(L7 f).loop _ _ _) ((G8 _).loop _ _ _ hl hg hf) ((G8 _).loop _ _ _ hl hg (by unfold fu;omega))
theorem Aal (hg:Good ts) (hf:16 * ts.length+4<=f):Fc f ts=some (Ky ts):=GZ (p:=λf=>Fc f ts) (λf=>(L7 f).operand _) ((G8 _).operand _ hg hf) ((G8 _).operand _ hg (by unfold fu;omega))
theorem TK (acc:List Tree) (hg:Good ts) (hf:16 * ts.length+7<=f):Fb f acc ts=some (Lf acc ts):=GZ (p:=λf=>Fb f acc ts) (λf=>(L7 f).fields _ _) ((G8 _).fields _ _ hg hf) ((G8 _).fields _ _ hg (by unfold fu;omega))
theorem Aag (hg:Good ts) (hf:16 * ts.length+6<=f):F1 f ts=some (Ou ts):=GZ (p:=λf=>F1 f ts) (λf=>(L7 f).field _) ((G8 _).field _ hg hf) ((G8 _).field _ hg (by unfold fu;omega))
theorem TM (hg:Good ts) (hf:16 * ts.length+3<=f):EO f ts=some (Jj ts):=GZ (p:=λf=>EO f ts) (λf=>(L7 f).Ec _) ((G8 _).Ec _ hg hf) ((G8 _).Ec _ hg (by unfold fu;omega))
theorem R5 (at_:Int) (n:Tree) (hg:Good ts) (hf:16 * ts.length+1<=f):EN f at_ n ts=some (Kz at_ n ts):=GZ (p:=λf=>EN f at_ n ts) (λf=>(L7 f).DB _ _ _) ((G8 _).DB _ _ _ hg hf) ((G8 _).DB _ _ _ hg (by unfold fu;omega))
theorem PI (hg:Good ts) (hf:16 * ts.length+6<=f):EM f ts=some (FV ts):=GZ (p:=λf=>EM f ts) (λf=>(L7 f).CW _) ((G8 _).CW _ hg hf) ((G8 _).CW _ hg (by unfold fu;omega))
theorem Aaf (acc:List Tree) (hg:Good ts) (hf:16 * ts.length+1<=f):Fk f acc ts=some (Qf acc ts):=GZ (p:=λf=>Fk f acc ts) (λf=>(L7 f).Gh _ _) ((G8 _).Gh _ _ hg hf) ((G8 _).Gh _ _ hg (by unfold fu;omega))
theorem PH (c:Bool) (hg:Good ts) (hf:16 * ts.length+9<=f):EA f c ts=some (FB c ts):=GZ (p:=λf=>EA f c ts) (λf=>(leS f).block _ _) ((GY _).block _ _ hg hf) ((GY _).block _ _ hg (by unfold fu;omega))
theorem TJ (c:Bool) (at_:Int) (acc:List Tree) (hg:Good ts) (hf:16 * ts.length+8<=f):EL f c at_ acc ts=some (Kw c at_ acc ts):=GZ (p:=λf=>EL f c at_ acc ts) (λf=>(leS f).Ek _ _ _ _) ((GY _).Ek _ _ _ _ hg hf) ((GY _).Ek _ _ _ _ hg (by unfold fu;omega))
theorem Aah (h6:(hd ts).1≠6) (hg:Good ts) (hf:16 * ts.length+7<=f):F3 f ts=some (RL ts):=GZ (p:=λf=>F3 f ts) (λf=>(leS f).function _) ((GY _).function _ h6 hg hf) ((GY _).function _ h6 hg (by unfold fu;omega))
theorem R4 (hg:Good ts) (hf:16 * ts.length+6<=f):EY f ts=some (Ji ts):=GZ (p:=λf=>EY f ts) (λf=>(leS f).body _) ((GY _).body _ hg hf) ((GY _).body _ hg (by unfold fu;omega))
theorem Aam (hg:Good ts) (hf:16 * ts.length+7<=f):F5 f ts=some (Nw ts):=GZ (p:=λf=>F5 f ts) (λf=>(leS f).stat _) ((GY _).stat _ hg hf) ((GY _).stat _ hg (by unfold fu;omega))
theorem Wh (acc:List Tree) (hg:Good ts) (hf:16 * ts.length+6<=f):Fj f acc ts=some (Nv acc ts):=GZ (p:=λf=>Fj f acc ts) (λf=>(leS f).branches _ _) ((GY _).branches _ _ hg hf) ((GY _).branches _ _ hg (by unfold fu;omega))
theorem Aql (at_:Int) (hg:Good ts) (hf:16 * ts.length+1<=f):F2 f at_ ts=some (Qg at_ ts):=GZ (p:=λf=>F2 f at_ ts) (λf=>(leS f).for_ _ _) ((GY _).for_ _ _ hg hf) ((GY _).for_ _ _ hg (by unfold fu;omega))
theorem Aqs (hg:Good ts) (hf:16 * ts.length+6<=f):F4 f ts=some (Qh ts):=GZ (p:=λf=>F4 f ts) (λf=>(leS f).plain _) ((GY _).plain _ hg hf) ((GY _).plain _ hg (by unfold fu;omega))
theorem Wi (acc:List Tree) (e:Tree) (hg:Good ts) (hf:16 * ts.length+1<=f):Fm f acc e ts=some (Qi acc e ts):=GZ (p:=λf=>Fm f acc e ts) (λf=>(leS f).targets _ _ _) ((GY _).targets _ _ _ hg hf) ((GY _).targets _ _ _ hg (by unfold fu;omega))
theorem CO (w:Ah) (hg:Good ts):Fwd 1 ts (Db w ts):=DX w ts hg _ (Hl w ts)
theorem fName (k:Int) (hg:Good ts):Fwd 1 ts (G9 k ts):=JB k ts hg _ (PJ k ts)
theorem Ahz (acc:List Tree) (hg:Good ts):Fwd 0 ts (Kx acc ts):=Uj _ _ ts hg _ (TL acc hg (by unfold fu;omega:_<=fu ts))
theorem Da {least:Int} (hl:0<=least) (hg:Good ts):Fwd 1 ts (DZ least ts):=(Mt _).exp _ _ hg _ (Ib hl hg (by unfold fu;omega:_<=fu ts))
theorem S2 (hg:Good ts):Fwd 1 ts (Ky ts):=(Mt _).operand _ hg _ (Aal hg (by unfold fu;omega:_<=fu ts))
theorem Ahx (acc:List Tree) (hg:Good ts):Fwd 1 ts (Lf acc ts):=(Mt _).fields _ _ hg _ (TK acc hg (by unfold fu;omega:_<=fu ts))
theorem X7 (hg:Good ts):Fwd 1 ts (Ou ts):=(Mt _).field _ hg _ (Aag hg (by unfold fu;omega:_<=fu ts))
theorem OO (hg:Good ts):Fwd 1 ts (Jj ts):=(Mt _).Ec _ hg _ (TM hg (by unfold fu;omega:_<=fu ts))
theorem JT (hg:Good ts):Fwd 1 ts (FV ts):=(Mt _).CW _ hg _ (PI hg (by unfold fu;omega:_<=fu ts))
theorem IS (c:Bool) (hg:Good ts):Fwd 0 ts (FB c ts):=(stepS _).block _ _ hg _ (PH c hg (by unfold fu;omega:_<=fu ts))
theorem Ahy (h6:(hd ts).1≠6) (hg:Good ts):Fwd 1 ts (RL ts):=(stepS _).function _ h6 hg _ (Aah h6 hg (by unfold fu;omega:_<=fu ts))
theorem OM (hg:Good ts):Fwd 1 ts (Ji ts):=(stepS _).body _ hg _ (R4 hg (by unfold fu;omega:_<=fu ts))
theorem X8 (hg:Good ts):Fwd 1 ts (Nw ts):=(stepS _).stat _ hg _ (Aam hg (by unfold fu;omega:_<=fu ts))
theorem Ahw (acc:List Tree) (hg:Good ts):Fwd 1 ts (Nv acc ts):=(stepS _).branches _ _ hg _ (Wh acc hg (by unfold fu;omega:_<=fu ts))
theorem A3o (acc:List Tree) (e:Tree) (hg:Good ts):Fwd 0 ts (Qi acc e ts):=(stepS _).targets _ _ _ hg _ (Wi acc e hg (by unfold fu;omega:_<=fu ts))
end
def PV.then {α β:Type}:PV α->(α->List Tk->PV β)->PV β
 | .ok a r,f=>f a r
 | .bad i,_=>.bad i
section
variable {α β:Type} {n:Nat} {ts:List Tk}
theorem C4 {x:Option (PV α)} {vx:PV α} {f:α->List Tk->Option (PV β)} {g:α->List Tk->PV β} (hx:x=some vx) (hw:Fwd n ts vx) (hf:∀ a r,Good r->r.length+n<=ts.length->f a r=some (g a r)):PV.bind x f=some (vx.then g):=by
 subst hx;cases vx with
 | bad i=>rfl
 | ok a r=>exact hf a r hw.1 hw.2.1
theorem D1 {c:Prop} [Decidable c] {y z:Option α} {y' z':α} (h1:c->y=some y') (h2:¬ c->z=some z'):(if c then y else z)=some (if c then y' else z'):=by
 by_cases h:c;rw [if_pos h,if_pos h];exact h1 h;rw [if_neg h,if_neg h];exact h2 h
theorem S6 {c:Prop} [Decidable c] {y z:PV α} (h1:c->Fwd n ts y) (h2:¬ c->Fwd n ts z):Fwd n ts (if c then y else z):=by
 by_cases h:c;rw [if_pos h];exact h1 h;rw [if_neg h];exact h2 h
theorem S7 {m:Nat} {x:PV α} (h:Fwd n ts x) (hm:m<=n):Fwd m ts x:=by
 cases x with
 | bad=>trivial
 | ok a r=>exact ⟨h.1,by have:=h.2.1;omega,h.2.2⟩
theorem Q7 {a:α} (hg:Good ts):Fwd 0 ts (.ok a ts):=⟨hg,Nat.le_refl _,List.suffix_refl _⟩
theorem Aip {x:PV α} (hg:Good ts) (h6:(hd ts).1≠6) (h:Fwd n ts.tail x):Fwd (n+1) ts x:=by
 obtain ⟨g1,g2,g3⟩:=hg.tail h6;cases x with
 | bad=>trivial
 | ok a r=>exact ⟨h.1,by have:=h.2.1;omega,h.2.2.trans g3⟩
theorem Aiq {m:Nat} {x:PV α} {f:α->List Tk->PV β} (h1:Fwd n ts x) (h2:∀ a r,Good r->r.length+n<=ts.length->Fwd m r (f a r)):Fwd (n+m) ts (x.then f):=by
 cases x with
 | bad=>trivial
 | ok a r =>
  obtain ⟨g1,g2,g3⟩:=h1;have:=h2 a r g1 g2;show Fwd (n+m) ts (f a r);cases hf:f a r with
  | bad=>trivial
  | ok b s =>
   rw [hf] at this;exact ⟨this.1,by have:=this.2.1;omega,this.2.2.trans g3⟩
end
section
variable {ts:List Tk}
theorem or3 {a b c:Bool} {ts:List Tk} {x y z:Ah} (ha:a=AB x ts) (hb:b=AB y ts) (hc:c=AB z ts) (h:(a || b || c)=true):(hd ts).1≠6:=by
 subst ha hb hc;simp only [Bool.or_eq_true] at h;rcases h with (h | h) | h <;> exact AT h
theorem Ov (acc:List Tree) (hg:Good ts):Kx acc ts=if AB Et ts then (G9 6 ts.tail).then λn r=>Kx (acc++[n]) r else .ok acc ts:=by
 have h:=TL acc hg (f:=fu ts+1) (by unfold fu;omega);rw [Gq] at h;refine Ao (h.symm.trans (D1 (λhc=>?_) λ_=>rfl));obtain ⟨g1,g2,_⟩:=hg.tail (AT hc);exact C4 (PJ _ _) (fName 6 g1) λa r hr hn=>TL _ hr (by unfold fu;omega)
def JD (ts:List Tk):PV (List Tree):=(G9 6 ts).then λn r=>Kx [n] r
theorem Aqq {f:Nat} (hg:Good ts) (hf:16 * ts.length+1<=f):Nd f ts=some (JD ts):=C4 (PJ _ _) (fName 6 hg) λa r hr hn=>TL _ hr (by omega)
theorem ON (hg:Good ts):Fwd 1 ts (JD ts):=Aiq (fName 6 hg) λ_ _ hr _=>Ahz _ hr
theorem Us {least:Int} (hl:0<=least) (hg:Good ts):DZ least ts=(Ky ts).then λn r=>JC least n r:=by
 have h:=Ib hl hg (f:=fu ts+1) (by unfold fu;omega);rw [Dz] at h;exact Ao (h.symm.trans (C4 (Aal hg (by unfold fu;omega)) (S2 hg) λa r hr hn=>Aai _ hl hr (by unfold fu;omega)))
theorem RM {least:Int} (n:Tree) (hl:0<=least) (hg:Good ts):JC least n ts=if CQ ts<=least then .ok n ts else (DZ (if CQ ts=4 then 3 else CQ ts) ts.tail).then λm r=>JC least (.mk 11 (hd ts).2.1 0 n.at_ [n,m]) r:=by
 have h:=Aai n hl hg (f:=fu ts+1) (by unfold fu;omega);rw [Fl] at h;refine Ao (h.symm.trans (D1 (λ_=>rfl) λhb=>?_));obtain ⟨g1,g2,_⟩:=hg.tail (LZ (by omega));have hq:(0:Int)<=(if CQ ts=4 then 3 else CQ ts):=by split <;> omega
 exact C4 (Ib hq g1 (by unfold fu;omega)) (Da hq g1) λa r hr hn=>Aai _ hl hr (by unfold fu;omega)
theorem Avi (hg:Good ts):Ky ts =
  if (hd ts).1=3 then .ok (.mk 4 noB (hd ts).2.2.1 (hd ts).2.2.2 []) ts.tail
  else if (hd ts).1=4 then .ok (.mk 5 (hd ts).2.1 0 (hd ts).2.2.2 []) ts.tail
  else if AB Amq ts then .ok (.mk 1 noB 0 (hd ts).2.2.2 []) ts.tail
  else if AB Amv ts then .ok (.mk 2 noB 0 (hd ts).2.2.2 []) ts.tail
  else if AB Amj ts then .ok (.mk 3 noB 0 (hd ts).2.2.2 []) ts.tail
  else if AB NO ts || AB NN ts || AB Kc ts then (DZ 7 ts.tail).then λm r=>.ok (.mk 10 (hd ts).2.1 0 (hd ts).2.2.2 [m]) r
  else if AB kLc ts then (Lf [] ts.tail).then λl r=>.ok (.mk 12 noB 0 (hd ts).2.2.2 l) r
  else Jj ts:=by
 have h:=Aal hg (f:=fu ts+1) (by unfold fu;omega);rw [Fc] at h;refine Ao (h.symm.trans (D1 (λ_=>rfl) λ_=>D1 (λ_=>rfl) λ_=>D1 (λ_=>rfl) λ_=>D1 (λ_=>rfl) λ_=>D1 (λ_=>rfl) λ_=>D1 (λhc=>?_) λ_=>D1 (λhc=>?_) λ_=>TM hg (by unfold fu;omega)));obtain ⟨g1,g2,_⟩:=hg.tail (or3 rfl rfl rfl hc);exact C4 (Ib (by omega) g1 (by unfold fu;omega)) (Da (by omega) g1) λ_ _ _ _=>rfl;obtain ⟨g1,g2,_⟩:=hg.tail (AT hc);exact C4 (TK _ g1 (by unfold fu;omega)) (Ahx _ g1) λ_ _ _ _=>rfl
theorem Au6 (acc:List Tree) (hg:Good ts):Lf acc ts =
  if AB NP ts then .ok acc ts.tail
  else (Ou ts).then λx r =>
   if AB Et r then Lf (acc++[x]) r.tail
   else if AB Hg r then Lf (acc++[x]) r.tail
   else (Db NP r).then λ_ r=>.ok (acc++[x]) r:=by
 have h:=TK acc hg (f:=fu ts+1) (by unfold fu;omega);rw [Fb] at h;refine Ao (h.symm.trans (D1 (λ_=>rfl) λ_=>C4 (Aag hg (by unfold fu;omega)) (X7 hg) λx r hr hn=>D1 (λhc=>?_) λ_=>D1 (λhc=>?_) λ_=>C4 (Hl _ _) (CO _ hr) λ_ _ _ _=>rfl));obtain ⟨g1,g2,_⟩:=hr.tail (AT hc);exact TK _ g1 (by unfold fu;omega);obtain ⟨g1,g2,_⟩:=hr.tail (AT hc);exact TK _ g1 (by unfold fu;omega)
theorem Au4 (hg:Good ts):Ou ts =
  if AB V5 ts then
   (DZ 0 ts.tail).then λk r=>(Db kRb r).then λ_ r=>(Db EK r).then λ_ r=>(DZ 0 r).then λv r=>.ok (.mk 14 noB 0 (hd ts).2.2.2 [k,v]) r
  else if (hd ts).1=1/\(hd ts.tail).1=5/\(hd ts.tail).2.1.toList=EK.toList then
   (DZ 0 ts.tail.tail).then λv r=>.ok (.mk 14 noB 0 (hd ts).2.2.2 [.mk 5 (hd ts).2.1 0 (hd ts).2.2.2 [],v]) r
  else (DZ 0 ts).then λv r=>.ok (.mk 13 noB 0 (hd ts).2.2.2 [v]) r:=by
 have h:=Aag hg (f:=fu ts+1) (by unfold fu;omega);rw [F1] at h;refine Ao (h.symm.trans (D1 (λhc=>?_) λ_=>D1 (λhc=>?_) λ_=>C4 (Ib (by omega) hg (by unfold fu;omega)) (Da (by omega) hg) λ_ _ _ _=>rfl));obtain ⟨g1,g2,_⟩:=hg.tail (AT hc);exact C4 (Ib (by omega) g1 (by unfold fu;omega)) (Da (by omega) g1) λ_ r hr hn=>C4 (Hl _ _) (CO _ hr) λ_ r2 hr2 hn2=>C4 (Hl _ _) (CO _ hr2) λ_ r3 hr3 hn3=>C4 (Ib (by omega) hr3 (by unfold fu;omega)) (Da (by omega) hr3) λ_ _ _ _=>rfl;obtain ⟨h1,h2,_⟩:=hc;obtain ⟨g1,g2,_⟩:=hg.tail (by omega);obtain ⟨g3,g4,_⟩:=g1.tail (by omega);exact C4 (Ib (by omega) g3 (by unfold fu;omega)) (Da (by omega) g3) λ_ _ _ _=>rfl
theorem Acx (hg:Good ts):Jj ts =
  if AB Pw ts then (DZ 0 ts.tail).then λe r=>(Db Gi r).then λ_ r=>Kz (hd ts).2.2.2 (.mk 9 noB 0 (hd ts).2.2.2 [e]) r
  else (G9 6 ts).then λn r=>Kz (hd ts).2.2.2 n r:=by
 have h:=TM hg (f:=fu ts+1) (by unfold fu;omega);rw [EO] at h;refine Ao (h.symm.trans (D1 (λhc=>?_) λ_=>C4 (PJ _ _) (fName _ hg) λ_ r hr hn=>R5 _ _ hr (by unfold fu;omega)));obtain ⟨g1,g2,_⟩:=hg.tail (AT hc);exact C4 (Ib (by omega) g1 (by unfold fu;omega)) (Da (by omega) g1) λ_ r hr hn=>C4 (Hl _ _) (CO _ hr) λ_ r2 hr2 hn2=>R5 _ _ hr2 (by unfold fu;omega)
def WB (ts:List Tk):PV (List Tree):=if AB Gi ts then .ok [] ts else FV ts
theorem fArgs (hg:Good ts):Fwd 0 ts (WB ts):=S6 (λ_=>Q7 hg) λ_=>S7 (JT hg) (by omega)
theorem Acv (at_:Int) (n:Tree) (hg:Good ts):Kz at_ n ts =
  if AB V5 ts then (DZ 0 ts.tail).then λe r=>(Db kRb r).then λ_ r=>Kz at_ (.mk 7 noB 0 at_ [n,e]) r
  else if AB Ami ts then (G9 5 ts.tail).then λe r=>Kz at_ (.mk 7 noB 0 at_ [n,e]) r
  else if AB Pw ts then (WB ts.tail).then λl r=>(Db Gi r).then λ_ r=>Kz at_ (.mk 8 noB 0 at_ (n :: l)) r
  else .ok n ts:=by
 have h:=R5 at_ n hg (f:=fu ts+1) (by unfold fu;omega);rw [EN] at h;refine Ao (h.symm.trans (D1 (λhc=>?_) λ_=>D1 (λhc=>?_) λ_=>D1 (λhc=>?_) λ_=>rfl));obtain ⟨g1,g2,_⟩:=hg.tail (AT hc);exact C4 (Ib (by omega) g1 (by unfold fu;omega)) (Da (by omega) g1) λ_ r hr hn=>C4 (Hl _ _) (CO _ hr) λ_ r2 hr2 hn2=>R5 _ _ hr2 (by unfold fu;omega);obtain ⟨g1,g2,_⟩:=hg.tail (AT hc);exact C4 (PJ _ _) (fName _ g1) λ_ r hr hn=>R5 _ _ hr (by unfold fu;omega);obtain ⟨g1,g2,_⟩:=hg.tail (AT hc);exact C4 (D1 (λ_=>rfl) λ_=>PI g1 (by unfold fu;omega)) (fArgs g1) λ_ r hr hn=>C4 (Hl _ _) (CO _ hr) λ_ r2 hr2 hn2=>R5 _ _ hr2 (by unfold fu;omega)
theorem Acu (hg:Good ts):FV ts=(DZ 0 ts).then λe r=>Qf [e] r:=by
 have h:=PI hg (f:=fu ts+1) (by unfold fu;omega);rw [EM] at h;exact Ao (h.symm.trans (C4 (Ib (by omega) hg (by unfold fu;omega)) (Da (by omega) hg) λa r hr hn=>Aaf _ hr (by unfold fu;omega)))
theorem Acs (acc:List Tree) (hg:Good ts):Qf acc ts=if AB Et ts then (DZ 0 ts.tail).then λe r=>Qf (acc++[e]) r else .ok acc ts:=by
 have h:=Aaf acc hg (f:=fu ts+1) (by unfold fu;omega);rw [Fk] at h;refine Ao (h.symm.trans (D1 (λhc=>?_) λ_=>rfl));obtain ⟨g1,g2,_⟩:=hg.tail (AT hc);exact C4 (Ib (by omega) g1 (by unfold fu;omega)) (Da (by omega) g1) λa r hr hn=>Aaf _ hr (by unfold fu;omega)
theorem Auy (c:Bool) (hg:Good ts):FB c ts=Kw c (hd ts).2.2.2 [] ts:=by
 have h:=PH c hg (f:=fu ts+1) (by unfold fu;omega);rw [EA] at h;exact Ao (h.symm.trans (TJ _ _ _ hg (by unfold fu;omega)))
def WC (ts:List Tk):PV (List Tree):=if JS ts || AB Hg ts then .ok [] ts else FV ts
theorem A3l (hg:Good ts):Fwd 0 ts (WC ts):=S6 (λ_=>Q7 hg) λ_=>S7 (JT hg) (by omega)
theorem Auw (c:Bool) (at_:Int) (acc:List Tree) (hg:Good ts):Kw c at_ acc ts =
  if AB Hg ts then Kw c at_ acc ts.tail
  else if AB Zp ts then (WC ts.tail).then λl r=>.ok (.mk 20 noB 0 at_ (acc++[.mk 30 noB 0 (hd ts).2.2.2 l])) (if AB Hg r then r.tail else r)
  else if c && AB NM ts then (RL ts).then λx r=>Kw c at_ (acc++[x]) r
  else if JS ts then .ok (.mk 20 noB 0 at_ acc) ts
  else (Nw ts).then λx r=>Kw c at_ (acc++[x]) r:=by
 have h:=TJ c at_ acc hg (f:=fu ts+1) (by unfold fu;omega);rw [EL] at h;refine Ao (h.symm.trans (D1 (λhc=>?_) λ_=>D1 (λhc=>?_) λ_=>D1 (λhc=>?_) λ_=>D1 (λ_=>rfl) λ_=>?_));obtain ⟨g1,g2,_⟩:=hg.tail (AT hc);exact TJ _ _ _ g1 (by unfold fu;omega);obtain ⟨g1,g2,_⟩:=hg.tail (AT hc);exact C4 (D1 (λ_=>rfl) λ_=>PI g1 (by unfold fu;omega)) (A3l g1) λ_ r hr hn=>rfl;simp only [Bool.and_eq_true] at hc;exact C4 (Aah (AT hc.2) hg (by unfold fu;omega)) (Ahy (AT hc.2) hg) λ_ r hr hn=>TJ _ _ _ hr (by unfold fu;omega);exact C4 (Aam hg (by unfold fu;omega)) (X8 hg) λ_ r hr hn=>TJ _ _ _ hr (by unfold fu;omega)
def Uu (ts:List Tk):PV (List Tree):=if AB Gi ts then .ok [] ts else JD ts
theorem A3k (hg:Good ts):Fwd 0 ts (Uu ts):=S6 (λ_=>Q7 hg) λ_=>S7 (ON hg) (by omega)
theorem Ava (h6:(hd ts).1≠6) (hg:Good ts):RL ts =
  (G9 6 ts.tail).then λnm r=>(Db Pw r).then λ_ r=>(Uu r).then λps r=>(Db Gi r).then λ_ r=>(FB false r).then λb r=>(Db GI r).then λ_ r=>.ok (.mk 31 nm.text ps.length (hd ts).2.2.2 (ps++[b])) r:=by
 have h:=Aah h6 hg (f:=fu ts+1) (by unfold fu;omega);rw [F3] at h;obtain ⟨g1,g2,_⟩:=hg.tail h6;exact Ao (h.symm.trans (C4 (PJ _ _) (fName _ g1) λ_ r hr hn=>C4 (Hl _ _) (CO _ hr) λ_ r2 hr2 hn2=>C4 (D1 (λ_=>rfl) λ_=>Aqq hr2 (by unfold fu;omega)) (A3k hr2) λ_ r3 hr3 hn3=>C4 (Hl _ _) (CO _ hr3) λ_ r4 hr4 hn4=>C4 (PH _ hr4 (by unfold fu;omega)) (IS _ hr4) λ_ r5 hr5 hn5=>C4 (Hl _ _) (CO _ hr5) λ_ _ _ _=>rfl))
theorem Acn (hg:Good ts):Ji ts=(Db S_ ts).then λ_ r=>(FB false r).then λb r=>(Db GI r).then λ_ r=>.ok b r:=by
 have h:=R4 hg (f:=fu ts+1) (by unfold fu;omega);rw [EY] at h;exact Ao (h.symm.trans (C4 (Hl _ _) (CO _ hg) λ_ r2 hr2 hn2=>C4 (PH _ hr2 (by unfold fu;omega)) (IS _ hr2) λ_ r5 hr5 hn5=>C4 (Hl _ _) (CO _ hr5) λ_ _ _ _=>rfl))
def Ut (ts:List Tk):PV (List Tree):=if AB EK ts then FV ts.tail else .ok [] ts
theorem A3i (hg:Good ts):Fwd 0 ts (Ut ts):=S6 (λhc=>S7 (Aip hg (AT hc) (JT (hg.tail (AT hc)).1)) (by omega)) λ_=>Q7 hg
theorem Avl (hg:Good ts):Nw ts =
  if AB S_ ts then (Ji ts).then λb r=>.ok (.mk 28 noB 0 (hd ts).2.2.2 [b]) r
  else if AB Amw ts then (DZ 0 ts.tail).then λe r=>(Ji r).then λb r=>.ok (.mk 25 noB 0 (hd ts).2.2.2 [e,b]) r
  else if AB kIf ts then (Nv [] ts.tail).then λl r=>.ok (.mk 24 noB 0 (hd ts).2.2.2 l) r
  else if AB Aml ts then Qg (hd ts).2.2.2 ts.tail
  else if AB Amo ts then (JD ts.tail).then λl r=>(Ut r).then λes r=>.ok (.mk 21 noB l.length (hd ts).2.2.2 (l++es)) r
  else if AB Amh ts then .ok (.mk 29 noB 0 (hd ts).2.2.2 []) ts.tail
  else Qh ts:=by
 have h:=Aam hg (f:=fu ts+1) (by unfold fu;omega);rw [F5] at h;refine Ao (h.symm.trans (D1 (λhc=>?_) λ_=>D1 (λhc=>?_) λ_=>D1 (λhc=>?_) λ_=>D1 (λhc=>?_) λ_=>D1 (λhc=>?_) λ_=>D1 (λhc=>rfl) λ_=>Aqs hg (by unfold fu;omega)));exact C4 (R4 hg (by unfold fu;omega)) (OM hg) λ_ _ _ _=>rfl;obtain ⟨g1,g2,_⟩:=hg.tail (AT hc);exact C4 (Ib (by omega) g1 (by unfold fu;omega)) (Da (by omega) g1) λ_ r hr hn=>C4 (R4 hr (by unfold fu;omega)) (OM hr) λ_ _ _ _=>rfl;obtain ⟨g1,g2,_⟩:=hg.tail (AT hc);exact C4 (Wh _ g1 (by unfold fu;omega)) (Ahw _ g1) λ_ _ _ _=>rfl;obtain ⟨g1,g2,_⟩:=hg.tail (AT hc);exact Aql _ g1 (by unfold fu;omega);obtain ⟨g1,g2,_⟩:=hg.tail (AT hc);refine C4 (Aqq g1 (by unfold fu;omega)) (ON g1) λ_ r hr hn=>C4 (D1 (λhc=>?_) λ_=>rfl) (A3i hr) λ_ _ _ _=>rfl;obtain ⟨g3,g4,_⟩:=hr.tail (AT hc);exact PI g3 (by unfold fu;omega)
theorem Au0 (acc:List Tree) (hg:Good ts):Nv acc ts =
  (DZ 0 ts).then λe r=>(Db Amt r).then λ_ r=>(FB false r).then λb r =>
   if AB Pv r then Nv (acc++[e]++[b]) r.tail
   else if AB NL r then (FB false r.tail).then λc r=>(Db GI r).then λ_ r=>.ok (acc++[e]++[b]++[c]) r
   else (Db GI r).then λ_ r=>.ok (acc++[e]++[b]) r:=by
 have h:=Wh acc hg (f:=fu ts+1) (by unfold fu;omega);rw [Fj] at h;refine Ao (h.symm.trans (C4 (Ib (by omega) hg (by unfold fu;omega)) (Da (by omega) hg) λ_ r hr hn=>C4 (Hl _ _) (CO _ hr) λ_ r2 hr2 hn2=>C4 (PH _ hr2 (by unfold fu;omega)) (IS _ hr2) λ_ r3 hr3 hn3=>D1 (λhc=>?_) λ_=>D1 (λhc=>?_) λ_=>C4 (Hl _ _) (CO _ hr3) λ_ _ _ _=>rfl));obtain ⟨g1,g2,_⟩:=hr3.tail (AT hc);exact Wh _ g1 (by unfold fu;omega);obtain ⟨g1,g2,_⟩:=hr3.tail (AT hc);exact C4 (PH _ g1 (by unfold fu;omega)) (IS _ g1) λ_ r4 hr4 hn4=>C4 (Hl _ _) (CO _ hr4) λ_ _ _ _=>rfl
def Uv (ts:List Tk):PV (List Tree):=if AB Et ts then (DZ 0 ts.tail).then λc r=>.ok [c] r else .ok [] ts
theorem A3m (hg:Good ts):Fwd 0 ts (Uv ts):=S6 (λhc=>S7 (Aip hg (AT hc) (Aiq (Da (by omega) (hg.tail (AT hc)).1) λ_ _ hr _=>Q7 hr)) (by omega)) λ_=>Q7 hg
theorem Au9 (at_:Int) (hg:Good ts):Qg at_ ts =
  (G9 6 ts).then λn r =>
   if AB EK r then
    (DZ 0 r.tail).then λa r=>(Db Et r).then λ_ r=>(DZ 0 r).then λb r=>(Uv r).then λcs r=>(Ji r).then λbd r=>.ok (.mk 26 noB 0 at_ ([n]++[a]++[b]++cs++[bd])) r
   else
    (Kx [n] r).then λl r=>(Db V4 r).then λ_ r=>(FV r).then λes r=>(Ji r).then λbd r=>.ok (.mk 27 noB l.length at_ (l++es++[bd])) r:=by
 have h:=Aql at_ hg (f:=fu ts+1) (by unfold fu;omega);rw [F2] at h;refine Ao (h.symm.trans (C4 (PJ _ _) (fName _ hg) λn r hr hn=>D1 (λhc=>?_) λ_=>?_));obtain ⟨g1,g2,_⟩:=hr.tail (AT hc);refine C4 (Ib (by omega) g1 (by unfold fu;omega)) (Da (by omega) g1) λ_ r2 hr2 hn2=>C4 (Hl _ _) (CO _ hr2) λ_ r3 hr3 hn3=>C4 (Ib (by omega) hr3 (by unfold fu;omega)) (Da (by omega) hr3) λ_ r4 hr4 hn4=>C4 (vx:=Uv r4) (D1 (λhc=>?_) λ_=>rfl) (A3m hr4) λ_ r5 hr5 hn5=>C4 (R4 hr5 (by unfold fu;omega)) (OM hr5) λ_ _ _ _=>rfl;obtain ⟨g3,g4,_⟩:=hr4.tail (AT hc);exact C4 (Ib (by omega) g3 (by unfold fu;omega)) (Da (by omega) g3) λ_ _ _ _=>rfl;exact C4 (TL _ hr (by unfold fu;omega)) (Ahz _ hr) λ_ r2 hr2 hn2=>C4 (Hl _ _) (CO _ hr2) λ_ r3 hr3 hn3=>C4 (PI hr3 (by unfold fu;omega)) (JT hr3) λ_ r4 hr4 hn4=>C4 (R4 hr4 (by unfold fu;omega)) (OM hr4) λ_ _ _ _=>rfl
theorem Avj (hg:Good ts):Qh ts =
  (Jj ts).then λe r =>
   if AB EK r || AB Et r then (Qi [] e r).then λl r=>(Db EK r).then λ_ r=>(FV r).then λes r=>.ok (.mk 22 noB l.length e.at_ (l++es)) r
   else if e.kind=8 then .ok (.mk 23 noB 0 e.at_ [e]) r else .bad (hd r).2.2.2:=by
 have h:=Aqs hg (f:=fu ts+1) (by unfold fu;omega);rw [F4] at h;refine Ao (h.symm.trans (C4 (TM hg (by unfold fu;omega)) (OO hg) λe r hr hn=>D1 (λhc=>?_) λ_=>D1 (λ_=>rfl) λ_=>rfl));exact C4 (Wi _ _ hr (by unfold fu;omega)) (A3o _ _ hr) λ_ r2 hr2 hn2=>C4 (Hl _ _) (CO _ hr2) λ_ r3 hr3 hn3=>C4 (PI hr3 (by unfold fu;omega)) (JT hr3) λ_ _ _ _=>rfl
theorem Avq (acc:List Tree) (e:Tree) (hg:Good ts):Qi acc e ts =
  if e.kind=6\/e.kind=7 then
   if AB Et ts then (Jj ts.tail).then λe' r=>Qi (acc++[e]) e' r else .ok (acc++[e]) ts
  else .bad e.at_:=by
 have h:=Wi acc e hg (f:=fu ts+1) (by unfold fu;omega);rw [Fm] at h;refine Ao (h.symm.trans (D1 (λ_=>D1 (λhc=>?_) λ_=>rfl) λ_=>rfl));obtain ⟨g1,g2,_⟩:=hg.tail (AT hc);exact C4 (TM g1 (by unfold fu;omega)) (OO g1) λ_ r hr hn=>Wi _ _ hr (by unfold fu;omega)
end
def Qe (ts:List Tk):PV Tree:=(FB true ts).then λb r=>if (hd r).1=6 then .ok b r else .bad (hd r).2.2.2
theorem then_assoc {α β γ:Type} (x:PV α) (f:α->List Tk->PV β) (g:β->List Tk->PV γ):(x.then f).then g=x.then λa r=>(f a r).then g:=by cases x <;> rfl
theorem Un {α β:Type} {n:Nat} {ts:List Tk} {x:PV α} (hw:Fwd n ts x) {f g:α->List Tk->PV β} (h:∀ a r,Good r->r.length+n<=ts.length->f a r=g a r):x.then f=x.then g:=by
 cases x with
 | bad=>rfl
 | ok a r=>exact h a r hw.1 hw.2.1
theorem then_ok {α β:Type} {x:PV α} {f:α->List Tk->PV β} {b:β} {r:List Tk} (h:x.then f=.ok b r):∃ a s,x=.ok a s/\f a s=.ok b r:=by
 cases x with
 | bad=>cases h
 | ok a s=>exact ⟨a,s,rfl,h⟩
theorem Avc:∀ (n:Nat) (least:Int) (x:Tree) (ts:List Tk),ts.length<=n->0<=least->Good ts->JC least x ts=(JC (least+1) x ts).then λy r=>JC least y r
 | 0,_,_,[],_,_,hg=>hg.elim
 | n+1,least,x,ts,hn,hl,hg=>by
  rw [RM (least:=least+1) x (by omega) hg];by_cases h1:CQ ts<=least+1;rw [if_pos h1];rfl;rw [if_neg h1,RM x hl hg,if_neg (by omega),then_assoc];obtain ⟨g1,g2,_⟩:=hg.tail (LZ (by omega));have hq:(0:Int)<=(if CQ ts=4 then 3 else CQ ts):=by split <;> omega
  exact Un (Da hq g1) λa r hr hl2=>Avc n least _ r (by omega) hl hr
theorem Bu5 {least:Int} {ts:List Tk} (hl:0<=least) (hg:Good ts):DZ least ts=(DZ (least+1) ts).then λy r=>JC least y r:=by
 rw [Us hl hg,Us (least:=least+1) (by omega) hg,then_assoc];exact Un (S2 hg) λa r hr _=>Avc _ _ _ _ (Nat.le_refl _) hl hr
theorem Avd:∀ (n:Nat) (least:Int) (x y:Tree) (ts r:List Tk),ts.length<=n->0<=least->Good ts->JC least x ts=.ok y r->CQ r<=least
 | 0,_,_,_,[],_,_,_,hg,_=>hg.elim
 | n+1,least,x,y,ts,r,hn,hl,hg,h=>by
  rw [RM x hl hg] at h;split at h;cases h;assumption;rename_i hb;obtain ⟨a,s,h1,h2⟩:=then_ok h;obtain ⟨g1,g2,_⟩:=hg.tail (LZ (by omega));have hq:(0:Int)<=(if CQ ts=4 then 3 else CQ ts):=by split <;> omega
  have hf:=Da hq g1;rw [h1] at hf;exact Avd n least _ y s r (by have:=hf.2.1;omega) hl hf.1 h2
theorem Au1 {least:Int} {ts r:List Tk} {y:Tree} (hl:0<=least) (hg:Good ts) (h:DZ least ts=.ok y r):CQ r<=least:=by
 rw [Us hl hg] at h;obtain ⟨a,s,h1,h2⟩:=then_ok h;have hf:=S2 hg;rw [h1] at hf;exact Avd _ least a y s r (Nat.le_refl _) hl hf.1 h2
theorem Acp {least:Int} {ts:List Tk} (hl:6<=least) (hg:Good ts):DZ least ts=Ky ts:=by
 rw [Us (by omega) hg];have:(Ky ts).then (λn r=>JC least n r)=(Ky ts).then (λn r=>.ok n r):=Un (S2 hg) λa r hr _=>by
  rw [RM a (by omega) hr,if_pos (by have:=(Xm r).2;omega)]
 rw [this];cases Ky ts <;> rfl
theorem Aoq:∀ (n:Nat) (acc:List Tree) (ts:List Tk),ts.length<=n->Good ts->∀ l r,Kx acc ts=.ok l r->l.length+r.length<=acc.length+ts.length
 | 0,_,[],_,hg,_,_,_=>hg.elim
 | n+1,acc,ts,hn,hg,l,r,h=>by
  rw [Ov acc hg] at h;split at h;rename_i hc;obtain ⟨g1,g2,_⟩:=hg.tail (AT hc);obtain ⟨a,s,h1,h2⟩:=then_ok h;have hf:=fName 6 g1;rw [h1] at hf;have:=Aoq n (acc++[a]) s (by have:=hf.2.1;omega) hf.1 l r h2;have:=hf.2.1;simp only [BQ,AW,Bp] at *;omega;cases h;omega
theorem Tm {ts:List Tk} (hg:Good ts) {l:List Tree} {r:List Tk} (h:JD ts=.ok l r):l.length+r.length<=ts.length:=by
 obtain ⟨a,s,h1,h2⟩:=then_ok h;have hf:=fName 6 hg;rw [h1] at hf;have:=Aoq _ [a] s (Nat.le_refl _) hf.1 l r h2;have:=hf.2.1;simp only [AW,Bp] at *;omega
theorem Aop:∀ (n:Nat) (acc:List Tree) (ts:List Tk),ts.length<=n->Good ts->∀ l r,Qf acc ts=.ok l r->l.length+r.length<=acc.length+ts.length
 | 0,_,[],_,hg,_,_,_=>hg.elim
 | n+1,acc,ts,hn,hg,l,r,h=>by
  rw [Acs acc hg] at h;split at h;rename_i hc;obtain ⟨g1,g2,_⟩:=hg.tail (AT hc);obtain ⟨a,s,h1,h2⟩:=then_ok h;have hf:=Da (least:=0) (by omega) g1;rw [h1] at hf;have:=Aop n (acc++[a]) s (by have:=hf.2.1;omega) hf.1 l r h2;have:=hf.2.1;simp only [BQ,AW,Bp] at *;omega;cases h;omega
theorem NV {ts:List Tk} (hg:Good ts) {l:List Tree} {r:List Tk} (h:FV ts=.ok l r):l.length+r.length<=ts.length:=by
 rw [Acu hg] at h;obtain ⟨a,s,h1,h2⟩:=then_ok h;have hf:=Da (least:=0) (by omega) hg;rw [h1] at hf;have:=Aop _ [a] s (Nat.le_refl _) hf.1 l r h2;have:=hf.2.1;simp only [AW,Bp] at *;omega
def ix (l ts:List Tk):Int:=(l.length:Int) - (ts.length:Int)
theorem wrapM (x:Int) (h1:-9223372036854775808<=x) (h2:x<=9223372036854775807):Au x=x:=by unfold Au IntKind.wrap;simp [IntKind.bits,IntKind.signed];omega
section
variable {l ts:List Tk}
theorem A0v (hs:ts <:+ l):l.drop (l.length - ts.length)=ts:=by
 obtain ⟨p,rfl⟩:=hs;simp
theorem Lz (hg:Good ts) (hs:ts <:+ l):B7 l (ix l ts)=some (hd ts):=by
 have hle:=hs.length_le;unfold B7 ix;rw [if_pos (by omega),show ((l.length:Int) - (ts.length:Int)).toNat=l.length - ts.length by omega];have:=A0v hs;rw [<- List.head?_drop,this];cases ts with
 | nil=>exact hg.elim
 | cons t ts=>rfl
theorem I1 (hl:l.length<=1000000) (hg:Good ts) (hs:ts <:+ l) (h6:(hd ts).1≠6):Au (ix l ts+1)=ix l ts.tail:=by
 obtain ⟨_,g2,_⟩:=hg.tail h6;have hle:=hs.length_le;unfold ix;rw [wrapM _ (by omega) (by omega)];omega
def conv {α β:Type} (l:List Tk) (e:α->Int->β):PV α->PR β
 | .ok a r=>.ok (e a (ix l r))
 | .bad i=>.bad i
def eT (n:Tree) (i:Int):Int×Ah×Int×Int×List Tree×Int:=(n.kind,n.text,n.n,n.at_,n.kids,i)
def eL (n:List Tree) (i:Int):List Tree×Int:=(n,i)
def eU (_:Unit) (i:Int):Int:=i
theorem Cc (n:Tree):Tree.mk n.kind n.text n.n n.at_ n.kids=n:=by cases n;rfl
theorem CR {α β α' β':Type} {e:α->Int->α'} {e':β->Int->β'} {x:PV α} {F:α'->Option (PR β')} {g:α->List Tk->PV β} {n:Nat} (hw:Fwd n ts x) (h:∀ a r,Good r->r <:+ ts->r.length+n<=ts.length->F (e a (ix l r))=some (conv l e' (g a r))) :
  PR.bind (some (conv l e x)) F=some (conv l e' (x.then g)):=by
 cases x with
 | bad i=>rfl
 | ok a r=>exact h a r hw.1 hw.2.2 hw.2.1
theorem E_ {β β':Type} {e':β->Int->β'} {c:Prop} [Decidable c] {b:Bool} {x y:Option (PR β')} {x' y':PV β} (hb:b=decide c) (h1:c->x=some (conv l e' x')) (h2:¬ c->y=some (conv l e' y')):cond b x y=some (conv l e' (if c then x' else y')):=by
 subst hb;by_cases h:c;rw [if_pos h,decide_eq_true h];exact h1 h;rw [if_neg h,decide_eq_false h];exact h2 h
theorem N9 (a b:Int):(a == b)=decide (a=b):=by
 by_cases h:a=b;rw [decide_eq_true h,beq_iff_eq];exact h;rw [decide_eq_false h,beq_eq_false_iff_ne];exact h
theorem Dt (b:Bool):b=decide (b=true):=by cases b <;> rfl
variable (k:Nat) (hl:l.length<=1000000) (hg:Good ts) (hs:ts <:+ l)
include hg hs
theorem Ke:DP.f k l (ix l ts)=some (hd ts):=by
 unfold DP.f;rw [Lz hg hs];rfl
theorem MP (w:Ah):Eh.f k l (ix l ts) w=some (AB w ts):=by
 unfold Eh.f;rw [Ke k hg hs];simp only [Aq,AB,isT];cases (hd ts).1 == (2:Int) <;> cases (hd ts).1 == (5:Int) <;> rfl
include hl
theorem got_eq (w:Ah):C0.f k l (ix l ts) w=some (AB w ts,ix l (if AB w ts then ts.tail else ts)):=by
 unfold C0.f;rw [MP k hg hs];simp only [Aq];cases h:AB w ts with
 | true=>simp only [cond_true,if_true,I1 hl hg hs (AT h)]
 | false=>rfl
theorem GA (w:Ah):CJ.f k l (ix l ts) w=some (conv l eU (Db w ts)):=by
 unfold CJ.f Db;rw [got_eq k hl hg hs];simp only [Aq];cases h:AB w ts with
 | true=>rfl
 | false =>
  simp only [Bool.not_false,cond_true,Bool.false_eq_true,if_false];rw [Ke k hg hs];rfl
theorem name_eq:G4.f k l (ix l ts)=some (conv l eT (G9 6 ts)):=by
 unfold G4.f G9;rw [Ke k hg hs];simp only [Aq,AM];by_cases h:(hd ts).1=1;rw [if_pos h,h,I1 hl hg hs (by omega)];rfl;rw [if_neg h,show ((hd ts).1 != 1)=true by rw [bne_iff_ne];exact h];rfl
omit hl
theorem Ahb:Nf.f k l (ix l ts)=some (JS ts):=by
 unfold Nf.f JS;simp only [Ke k hg hs,MP k hg hs,Aq,GI,NL,Pv];generalize ((hd ts).1 == (6:Int))=b1;generalize AB (⟨#[101,110,100]⟩:Ah) ts=b2;generalize AB (⟨#[101,108,115,101]⟩:Ah) ts=b3;generalize AB (⟨#[101,108,115,101,105,102]⟩:Ah) ts=b4;cases b1 <;> cases b2 <;> cases b3 <;> cases b4 <;> rfl
end
theorem Aza (k:Nat) (ts:List Tk):PL.f k (hd ts).1 (hd ts).2.1 (hd ts).2.2.1 (hd ts).2.2.2=some (CQ ts):=by
 unfold PL.f CQ AB isT;simp only [AM,kOr,QN,QQ,kGt,kLe,kGe,QR,QP,QO,QT,Kc,QV,QU,QS];generalize (hd ts).1=kd;generalize (hd ts).2.1.toList=tx;have hsw:(cond (kd != (5:Int)) (some (kd != (2:Int))) (some false):Option Bool)=some (!(kd == 2 || kd == 5)):=by
  rw [bne,bne];cases kd == (5:Int) <;> cases kd == (2:Int) <;> rfl
 rw [hsw];simp only [Aq];cases (kd == 2 || kd == 5) with
 | false=>simp
 | true =>
  simp only [Bool.not_true,cond_false,Bool.true_and];generalize (tx == (⟨#[111,114]⟩:Ah).toList)=b;cases b with
  | true=>rfl
  | false =>
  generalize (tx == (⟨#[97,110,100]⟩:Ah).toList)=b;cases b with
  | true=>rfl
  | false =>
  generalize (tx == (⟨#[60]⟩:Ah).toList)=b1;generalize (tx == (⟨#[62]⟩:Ah).toList)=b2;generalize (tx == (⟨#[60,61]⟩:Ah).toList)=b3;generalize (tx == (⟨#[62,61]⟩:Ah).toList)=b4;generalize (tx == (⟨#[126,61]⟩:Ah).toList)=b5;generalize (tx == (⟨#[61,61]⟩:Ah).toList)=b6;generalize (tx == (⟨#[46,46]⟩:Ah).toList)=b7;generalize (tx == (⟨#[43]⟩:Ah).toList)=b8;generalize (tx == (⟨#[45]⟩:Ah).toList)=b9;generalize (tx == (⟨#[42]⟩:Ah).toList)=c1;generalize (tx == (⟨#[47,47]⟩:Ah).toList)=c2;generalize (tx == (⟨#[37]⟩:Ah).toList)=c3;cases b1 with
  | true=>rfl
  | false =>
  cases b2 with
  | true=>rfl
  | false =>
  cases b3 with
  | true=>rfl
  | false =>
  cases b4 with
  | true=>rfl
  | false =>
  cases b5 with
  | true=>rfl
  | false =>
  cases b6 with
  | true=>rfl
  | false =>
  cases b7 with
  | true=>rfl
  | false =>
  cases b8 <;> cases b9 <;> cases c1 <;> cases c2 <;> cases c3 <;> rfl
end
end Go.Proofs.YteccladehmaglaaGreatDoor
