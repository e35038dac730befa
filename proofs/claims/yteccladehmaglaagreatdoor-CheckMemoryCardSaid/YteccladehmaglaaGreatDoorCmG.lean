/- Texts of mine for checkMemory_card, part 7. -/
import Derived.Test.YteccladehmaglaaGreatDoorCmF
set_option linter.unusedSimpArgs false
set_option linter.unusedVariables false
set_option linter.unusedSectionVars false
namespace Go.Proofs.YteccladehmaglaaGreatDoor
set_option maxRecDepth 100000
section
open Go Go.RowKit
def Ui.f (_k:Nat) (a0:Int):Option (Int×Int×Ah):=some (2,a0,(⟨#[]⟩:Ah))
theorem Ui.ok {k:Nat} {a0:Int} {r:Int×Int×Ah} (h:Ui.f k a0=some r): Ct Tryz.prog 107 #[I a0] [] [] (λe l1=>e=.returned (.agg #[I r.1,I r.2.1,D r.2.2])/\l1=[]):=by
 refine BM Tryz.func107 V (AV V) ?_;intro A X hh_;unfold Ui.f at h;refine ksr (knp #[I 0,I 0,D noS] 43 λb1=>(AW (M 2 (AC 0 3 #[I 2,I a0,D noS] (G (Ba ?_))))));obtain rfl:=Ao h;exact Dx 0 3 V [] (Ar (B3 ⟨V,V⟩))
def Uj.f (_k:Nat) (a0:Ah):Option (Int×Int×Ah):=some (3,0,a0)
theorem Uj.ok {k:Nat} {a0:Ah} {r:Int×Int×Ah} (h:Uj.f k a0=some r): Ct Tryz.prog 108 #[D a0] [] [] (λe l1=>e=.returned (.agg #[I r.1,I r.2.1,D r.2.2])/\l1=[]):=by
 refine BM Tryz.func108 V (AV V) ?_;intro A X hh_;unfold Uj.f at h;refine ksr (knp #[I 0,I 0,D noS] 43 λb1=>(AW (M 2 (AC 0 3 #[I 3,I 0,D a0] (G (Ba ?_))))));obtain rfl:=Ao h;exact Dx 0 3 V [] (Ar (B3 ⟨V,V⟩))
def Kq.f (_k:Nat) (a0:Ah):Option (Bool):=(cond (a0.toList == (⟨#[116,97,98,108,101]⟩:Ah).toList) (some true) (some (a0.toList == (⟨#[117,116,102,56]⟩:Ah).toList)):Option Bool).bind λq1=>some (q1)
theorem Kq.ok {k:Nat} {a0:Ah} {r:Bool} (h:Kq.f k a0=some r): Ct Tryz.prog 103 #[D a0] [] [] (λe l1=>e=.returned (bv r)/\l1=[]):=by
 refine BM Tryz.func103 V (AV V) ?_;intro A X hh_;unfold Kq.f at h;refine ksr (M 1 (G (bnd h λq1 hq1 h=>?_)));refine CH [(2,bv q1)] (X) ?_ ?_;clear hq1;refine Ba ?_;obtain rfl:=Ao h;exact kdn V;have h:=hq1;clear hq1;refine AO (M 3 (B4 5 h (λh=>?_) λh=>?_));exact M 4 (G (AY ⟨gb (Ao h),Aj⟩));exact M 4 (G (AY ⟨gb (Ao h),Aj⟩))
def G0.l0:Nat->(a0:List Ah)->(a1:Ah)->(J1:(Unit->Option (Bool)))->(x2:Int)->Option (Bool)
 | 0,_,_,_,_=>none
 | m3+1,a0,a1,J1,x2=>cond (decide (x2 < ((a0.length:Nat):Int))) ((B5 a0 x2).bind λx5=>cond (x5.toList == a1.toList) (some (true)) (G0.l0 m3 a0 a1 J1 (Au (x2+1)))) (J1 ())
def G0.f (k:Nat) (a0:List Ah) (a1:Ah):Option (Bool):=AN (λ(_:Unit)=>some (false)) (λJ1=>G0.l0 k a0 a1 J1 0)
theorem G0.ok {k Fz:Nat} {a0:Av} {a1:Ah} {FS:N} {Fx:AD} {r:Bool} (h:G0.f k a0 a1=some r) (JT:AZ encS 1 FS (W Fx a0 Fz) a0): Ct Tryz.prog 109 #[W Fx a0 Fz,D a1] [] [FS] (λe l1=>e=.returned (bv r)/\l1=[]):=by
 refine BM Tryz.func109 V (AV V) ?_;intro A X hh_;obtain ⟨Kb,_⟩:=hh_;unfold G0.f at h;refine ksr (M 1 (G ?_));obtain ⟨J1,hJ1,h⟩:=BF h;refine BG (τ:=Unit) (λt=>[]) (λt=>X) (λt=>J1 ()=some r) ?_ ?_;rintro ⟨⟩ h;subst hJ1;refine ksr (M 1 (G (Ba ?_)));obtain rfl:=Ao h;exact kdn V;refine ksr (M 1 (G (Bw (Db (τ:=Int) (λt=>[(0,W Fx a0 Fz),(1,D a1),(5,I t)]) (λt=>X) (λm t=>G0.l0 m a0 a1 J1 t=some r) k 0 h sb V ?_))));clear h;rintro m3 x2 h;rcases m3 with _ | m3;simp [G0.l0] at h;simp only [G0.l0] at h;refine AR (ksr (M 4 (G (Az h (λh=>?_) λh=>?_))));refine AK (At (AR (Bw (ksr (M 2 (bnd h λx5 hx5 h=>(IA (T:=9) (kd:=.i64) Ep V hx5 JT λp6 e7 y8=>?_)))))));have e7:Elem _ p6 [D x5]:=e7;refine FX V (by kernel_rfl) (by kernel_rfl) (by kernel_rfl) (by kernel_rfl) e7 Kb (M 2 (G (Az h (λh=>?_) λh=>?_)));refine ksr (M 1 (G (Ba (Ca (Bm (Bm (Ca (Bm ?_))))))));obtain rfl:=Ao h;exact kdn V;exact AK (Bf (At (AO (M 3 (G (C5 m3 (Au (x2+1)) (Nat.lt_succ_self _) h sb V))))));exact CP (BJ (BJ (CQ (At (AG () h trivial V)))))
def GE.f (_k:Nat) (Be:Int) (BC:Int) (a1:Int) (a2:Int):Option (Int×Int):=cond (Be == 0) (some (a1,a2)) (some (Be,BC))
theorem GE.ok {k b0:Nat} {Be BC a1 a2:Int} {Ll E9 Lm DS:Value} {r:Int×Int} (h:GE.f k Be BC a1 a2=some r): Ct Tryz.prog 72 #[pt b0,I a1,I a2] [bk b0 #[Ll,E9,Lm,DS,I Be,I BC] 67] [] (λe l1=>e=.returned (.tuple #[])/\l1=[bk b0 #[Ll,E9,Lm,DS,I r.1,I r.2] 67]):=by
 refine BM Tryz.func72 V (AV V) ?_;intro A X hh_;unfold GE.f at h;refine ksr (M 4 (kld 0 4 V (M 1 (G (Az h (λh=>?_) λh=>?_)))));refine AO (M 6 (AC 4 2 #[Ll,E9,Lm,DS,I a1,I a2] (knl (Dw ?_))));obtain rfl:=Ao h;exact kdn V;refine AK (Dw ?_);obtain rfl:=Ao h;exact kdn V
def E5.f (k:Nat) (Be:Int) (BC:Int) (AI:Int) (AJ:Ah) (AF:Int) (AP:Int) (Aw:List Tree) (a2:Int) (a3:Int):Option (Int×Int):=cond (decide (a2 > a3)) ((GE.f k Be BC 6 AP).bind λr3=>some (r3.1,r3.2)) (some (Be,BC))
theorem E5.ok {k b0 Bj:Nat} {Be BC AI AF AP a2 a3:Int} {AJ:Ah} {Aw:List Tree} {Ll E9 Lm DS:Value} {D6:N} {Bi:AD} {r:Int×Int} (h:E5.f k Be BC AI AJ AF AP Aw a2 a3=some r) (BD:RdR (AQ 61) D6 (W Bi Aw Bj) Aw): Ct Tryz.prog 68 #[pt b0,.agg #[I AI,D AJ,I AF,I AP,W Bi Aw Bj],I a2,I a3] [bk b0 #[Ll,E9,Lm,DS,I Be,I BC] 67] [D6] (λe l1=>e=.returned (.tuple #[])/\l1=[bk b0 #[Ll,E9,Lm,DS,I r.1,I r.2] 67]):=by
 refine BM Tryz.func68 V (AV V) ?_;intro A X hh_;obtain ⟨CD,_⟩:=hh_;unfold E5.f at h;refine ksr (knp #[I AI,D AJ,I AF,I AP,W Bi Aw Bj] 61 λb1=>(AW (M 3 (G (Az h (λh=>?_) λh=>?_)))));refine AO (M 2 (kld 0 3 V (Ar (bnd h λr3 hr3 h=>(Bc (GE.ok hr3) V trivial (knl (Dw ?_)))))));obtain rfl:=Ao h;exact kdn V;refine AK (Dw ?_);obtain rfl:=Ao h;exact Ar (kdn V)
def Mx.f (k:Nat) (Ak:List Ah) (a1:Ah):Option (List Ah):=(G0.f k Ak a1).bind λr1=>cond (!r1) ((apd 16 Ak [a1]).bind λl4=>some (l4)) (some (Ak))
theorem Mx.ok {k b0 Bv:Nat} {Ak r:Av} {a1:Ah} {Ll Lm DS U9 UA:Value} {B9:N} {Bt:AD} (h:Mx.f k Ak a1=some r) (BX:AL encS 9 1 B9 (W Bt Ak Bv) Ak): Ct Tryz.prog 104 #[pt b0,D a1] [bk b0 #[Ll,W Bt Ak Bv,Lm,DS,U9,UA] 67,B9] [] (λe l1=>∃ (H0_:N) (A0_:AD) (c0_:Nat),AL encS 9 1 H0_ (W A0_ r c0_) r/\e=.returned (.tuple #[])/\l1=[bk b0 #[Ll,W A0_ r c0_,Lm,DS,U9,UA] 67,H0_]):=by
 refine BM Tryz.func104 V (AV V) ?_;intro A X hh_;unfold Mx.f at h;refine ksr (M 4 (kld 0 1 V (M 1 (bnd h λr1 hr1 h=>(CI (G0.ok hr1 (AL.rd BX)) ⟨(.tail _ (.head _)),Aj⟩ (M 1 (G (Az h (λh=>?_) λh=>?_))))))));refine AO (M 5 (kld 0 1 V (M 1 (Cz #[D a1] 9 1 λb3=>(Ay (bnd h λl4 hl4 h=>(Mr (ys:=[a1]) Ep V O_ hl4 BX (M2 (n:=1) Ep [a1] (by kernel_rfl) V (by decide) 1 V) λh5 A6 k7 o8=>(Al (Ar (M 3 (Al (AC 1 1 #[Ll,W A6 l4 k7,Lm,DS,U9,UA] (knl (Dw ?_))))))))))))));obtain rfl:=Ao h;exact kdv (.tuple #[]) [bk b0 #[Ll,W A6 l4 k7,Lm,DS,U9,UA] 67,h5] (B3 ⟨h5,A6,k7,o8,V,V⟩);refine AK (Dw ?_);obtain rfl:=Ao h;exact kdv (.tuple #[]) [bk b0 #[Ll,W Bt Ak Bv,Lm,DS,U9,UA] 67,B9] (B3 ⟨B9,Bt,Bv,BX,V,V⟩)
def DR:Gn (Ah×Int×Int×Int×List (Int×Int×Ah)):=rS1 4 (λx=>[.string x.1,.int .i64 x.2.1,.int .i64 x.2.2.1,.int .i64 x.2.2.2.1]) (λ_=>⟨rfl,rfl⟩) e43 43 3 (λx=>x.2.2.2.2)
theorem Aci {x:Ah×Int×Int×Int×Cj} {H:N} {A:AD} {c:Nat} (h:AL e43 43 3 H (.slice A (x.2.2.2.2).length c) (x.2.2.2.2)):DR.own x H [D x.1,I x.2.1,I x.2.2.1,I x.2.2.2.1,.slice A (x.2.2.2.2).length c]:=⟨A,c,rfl,h⟩
theorem Uw {x:Ah×Int×Int×Int×Cj} {H:N} {cs:List Value} (h:DR.rd x H cs):∃ A c,cs=[D x.1,I x.2.1,I x.2.2.1,I x.2.2.2.1,.slice A (x.2.2.2.2).length c]/\AZ e43 3 H (.slice A (x.2.2.2.2).length c) (x.2.2.2.2):=h
def Nw.f (k:Nat) (Ai:Bg) (Ax:Int) (Be:Int) (BC:Int) (AI:Int) (AJ:Ah) (AF:Int) (AP:Int) (Aw:List Tree) (a2:Av):Option (Bg×Int×Int):=AN (λ(x2:Int) (x3:Int)=>(B5 Ai Ax).bind λx5=>cond (decide (((a2.length:Nat):Int) > x5.2.2.2.1)) ((B5 Ai Ax).bind λx18=>(FK Ai Ax (x18.1,x18.2.1,x18.2.2.1,((a2.length:Nat):Int),x18.2.2.2.2)).bind λGg=>some (Gg,x2,x3)) (some (Ai,x2,x3))) (λJ4=>cond (decide (((a2.length:Nat):Int) > 60)) ((GE.f k Be BC 6 AP).bind λEH=>J4 EH.1 EH.2) (J4 Be BC))
theorem Nw.ok {k b0 An Bj CN:Nat} {Ai:Bg} {Ax Be BC AI AF AP:Int} {AJ:Ah} {Aw:List Tree} {a2:Av} {AH D6 KD:N} {Am Bi CM:AD} {E9 DS:Value} {r:Bg×Int×Int} (h:Nw.f k Ai Ax Be BC AI AJ AF AP Aw a2=some r) (As:AM DR 68 AH (W Am Ai An) Ai) (BD:RdR (AQ 61) D6 (W Bi Aw Bj) Aw) (Do:AZ encS 1 KD (W CM a2 CN) a2): Ct Tryz.prog 105 #[pt b0,.agg #[I AI,D AJ,I AF,I AP,W Bi Aw Bj],W CM a2 CN] [bk b0 #[W Am Ai An,E9,I Ax,DS,I Be,I BC] 67,AH] [D6,KD] (λe l1=>∃ (H0_:N) (A0_:AD) (c0_:Nat),AM DR 68 H0_ (W A0_ r.1 c0_) r.1/\e=.returned (.tuple #[])/\l1=[bk b0 #[W A0_ r.1 c0_,E9,I Ax,DS,I r.2.1,I r.2.2] 67,H0_]):=by
 refine BM Tryz.func105 V (AV V) ?_;intro A X hh_;obtain ⟨CD,QW,_⟩:=hh_;unfold Nw.f at h;refine ksr (knp #[I AI,D AJ,I AF,I AP,W Bi Aw Bj] 61 λb1=>(G ?_));obtain ⟨J4,hJ4,h⟩:=BF h;refine BG (τ:=Int×Int) (λt=>[(0,pt b0),(2,W CM a2 CN)]) (λt=>bk b0 #[W Am Ai An,E9,I Ax,DS,I t.1,I t.2] 67 :: AH :: X) (λt=>J4 t.1 t.2=some r) ?_ ?_;rintro ⟨x2,x3⟩ h;subst hJ4;refine AR (kpr [(0,0),(1,0),(2,0),(3,0),(4,0),(5,0),(6,3),(7,0),(8,0),(9,0),(10,3)] [0] (AA 6 (Bn 0 0 V (AA 3 (Bn 0 2 V (BA (bnd h λx5 hx5 h=>(E0 (T:=68) (kd:=.i64) (R:=DR) V hx5 (AM.rd As) λp6 u9 q10 e7 y8=>?_))))))));obtain ⟨KA,k12,rfl,Nh⟩:=Uw q10;refine GV (off:=3) V e7 y8 λp14 e15 y16=>?_;have e15:Elem _ p14 [I x5.2.2.2.1,W KA x5.2.2.2.2 k12]:=e15;refine FX V (by kernel_rfl) (by kernel_rfl) (by kernel_rfl) (by kernel_rfl) e15 (.tail _ (.head _)) (M 1 (G (Az h (λh=>?_) λh=>?_)));refine kpr [(0,0),(1,0),(2,0),(3,0),(4,3),(5,0),(6,0),(7,0),(8,3),(9,0),(10,0)] [0] (AA 4 (Bn 0 0 V (AA 3 (Bn 0 2 V (AA 2 (BA (bnd h λx18 QY h=>(E0 (T:=68) (kd:=.i64) (R:=DR) V QY (AM.rd As) λp19 u22 q23 e20 y21=>?_))))))));obtain ⟨G3,k25,rfl,Km⟩:=Uw q23;refine GV (off:=3) V e20 y21 λp27 e28 y29=>?_;have e28:Elem _ p27 [I x18.2.2.2.1,W G3 x18.2.2.2.2 k25]:=e28;refine Al (bnd h λGg QU h=>(Bjx (R:=DR) (off:=3) (v:=I ((a2.length:Nat):Int)) (x':=(x18.1,x18.2.1,x18.2.2.1,((a2.length:Nat):Int),x18.2.2.2.2)) V (by kernel_rfl) (by kernel_rfl) (by kernel_rfl) (by kernel_rfl) (by kernel_rfl) (by kernel_rfl) y29 As QY QU (by rintro Hx _ ⟨A,c,rfl,hO⟩;exact ⟨A,c,V,hO⟩) λh31 o32=>?_));have g33:=Og QU;refine K.weak (env':=[(38,I ((a2.length:Nat):Int))]) ?_ ⟨gr,Aj⟩;refine K.eq (l':=h31 :: bk b0 #[W Am Gg An,E9,I Ax,DS,I x2,I x3] 67 :: X) rfl (by first | rfl | (unfold W;rw [g33];first | done | rfl)) (knl (Dw ?_))
 obtain rfl:=Ao h;exact kdv (.tuple #[]) [bk b0 #[W Am Gg An,E9,I Ax,DS,I x2,I x3] 67,h31] (Al (B3 ⟨h31,Am,An,o32,V,V⟩));refine AK (Dw ?_);obtain rfl:=Ao h;exact kdv (.tuple #[]) [bk b0 #[W Am Ai An,E9,I Ax,DS,I x2,I x3] 67,AH] (B3 ⟨AH,Am,An,As,V,V⟩);refine ksr (M 3 (G (Az h (λh=>?_) λh=>?_)));exact AO (M 2 (kld 0 3 V (Ar (bnd h λEH L8 h=>(Bc (GE.ok L8) V trivial (G (AG (EH.1,EH.2) h sb V)))))));exact AK (At (Ar (AG (Be,BC) h sb V)))
def Em.l1:Nat->(a4:Int)->(J13:Av->Option (Av×Bg×Int×Int))->(LH:Av)->(x90:Int)->Option (Av×Bg×Int×Int)
 | 0,_,_,_,_=>none
 | TD+1,a4,J13,LH,x90=>cond (decide (x90 < a4)) ((apd 16 LH [(⟨#[]⟩:Ah)]).bind λZU=>Em.l1 TD a4 J13 ZU (Au (x90+1))) (J13 LH)
def Em.l0:Nat->(a3:List Tree)->(J21:Av->Int->Int->Option (Av×Bg×Int×Int))->(l27:Av)->(x32:Int)->(x33:Int)->(x34:Int)->Option (Av×Bg×Int×Int)
 | 0,_,_,_,_,_,_=>none
 | m35+1,a3,J21,l27,x32,x33,x34=>cond (decide (x32 < ((a3.length:Nat):Int))) (AN (λ(x37:Int) (x38:Int)=>(B5 a3 x32).bind λx40=>(apd 16 l27 [x40.text]).bind λl53=>Em.l0 m35 a3 J21 l53 (Au (x32+1)) x37 x38) (λJ39=>(B5 a3 x32).bind λx58=>(Kq.f m35 x58.text).bind λCG=>cond CG ((B5 a3 x32).bind λx72=>(GE.f m35 x33 x34 5 x72.at_).bind λCy=>J39 Cy.1 Cy.2) (J39 x33 x34))) (J21 l27 x33 x34)
def Em.f (k:Nat) (Ai:Bg) (Ax:Int) (Be:Int) (BC:Int) (AI:Int) (AJ:Ah) (AF:Int) (AP:Int) (Aw:List Tree) (a2:Av) (a3:List Tree) (a4:Int):Option (Av×Bg×Int×Int):=(apd 16 [] a2).bind λl3=>AN (λ(l8:Av)=>AN (λ(Gt:Av) (x19:Int) (x20:Int)=>(Nw.f k Ai Ax x19 x20 AI AJ AF AP Aw Gt).bind λr22=>some (Gt,r22.1,r22.2.1,r22.2.2)) (λJ21=>Em.l0 k a3 J21 l8 0 Be BC)) (λJ13=>Em.l1 k a4 J13 l3 0)
theorem Em.ok {k b0 An Bj CN QJ:Nat} {Ai:Bg} {Ax Be BC AI AF AP a4:Int} {AJ:Ah} {Aw a3:List Tree} {a2:Av} {AH D6 KD Af2:N} {Am Bi CM Q6:AD} {E9 DS:Value} {r:Av×Bg×Int×Int} (h:Em.f k Ai Ax Be BC AI AJ AF AP Aw a2 a3 a4=some r) (As:AM DR 68 AH (W Am Ai An) Ai) (BD:RdR (AQ 61) D6 (W Bi Aw Bj) Aw) (Do:AZ encS 1 KD (W CM a2 CN) a2) (Xy:RdR (AQ 61) Af2 (W Q6 a3 QJ) a3): Ct Tryz.prog 70 #[pt b0,.agg #[I AI,D AJ,I AF,I AP,W Bi Aw Bj],W CM a2 CN,W Q6 a3 QJ,I a4] [bk b0 #[W Am Ai An,E9,I Ax,DS,I Be,I BC] 67,AH] [D6,KD,Af2] (λe l1=>∃ (H0_:N) (A0_:AD) (c0_:Nat) (H1_:N) (DH:AD) (DI:Nat),AL encS 9 1 H0_ (W A0_ r.1 c0_) r.1/\AM DR 68 H1_ (W DH r.2.1 DI) r.2.1/\e=.returned (W A0_ r.1 c0_)/\l1=[H0_,bk b0 #[W DH r.2.1 DI,E9,I Ax,DS,I r.2.2.1,I r.2.2.2] 67,H1_]):=by
 refine BM Tryz.func70 V (AV V) ?_;intro A X hh_;obtain ⟨CD,QW,YA,_⟩:=hh_;unfold Em.f at h;refine ksr (knp #[I AI,D AJ,I AF,I AP,W Bi Aw Bj] 61 λb1=>(M 1 (AW (Cz #[] 9 0 λb2=>(M 1 (bnd h λl3 hl3 h=>(Mr (ys:=a2) Ep V O_ hl3 (AL.blk 9 Ep b2 [] #[] 0 (by kernel_rfl) V (by decide)) (Au4 Do (t4 QW)) λh4 A5 k6 o7=>(M 1 (G ?_)))))))));obtain ⟨J13,Yk,h⟩:=BF h;refine BG (τ:=Av×N×AD×Nat) (c4 λa _ c d=>[(0,pt b0),(3,W Q6 a3 QJ),(6,pt b1),(11,W c a d)]) (λt=>bk b1 #[I AI,D AJ,I AF,I AP,W Bi Aw Bj] 61 :: bk b0 #[W Am Ai An,E9,I Ax,DS,I Be,I BC] 67 :: AH :: t.2.1 :: X) (c4 λa b c d=>J13 a=some r/\AL encS 9 1 b (W c a d) a) ?_ ?_;rintro ⟨l8,h9,Gd,k11⟩ ⟨h,Ij⟩;subst Yk;obtain ⟨J21,Yn,h⟩:=BF h;refine BG (τ:=Av×Int×Int×N×AD×Nat) (c6 λa _ _ _ e f=>[(0,pt b0),(6,pt b1),(11,W e a f)]) (c6 λ_ b c d _ _=>bk b1 #[I AI,D AJ,I AF,I AP,W Bi Aw Bj] 61 :: bk b0 #[W Am Ai An,E9,I Ax,DS,I b,I c] 67 :: AH :: d :: X) (c6 λa b c d e f=>J21 a b c=some r/\AL encS 9 1 d (W e a f) a) ?_ ?_;rintro ⟨Gt,x19,x20,h15,Me,k17⟩ ⟨h,Gx⟩;subst Yn;refine ksr (M 1 (BW 0 0 5 V (Ar (M 1 (Al (Al (bnd h λr22 SU h=>(Ch (Nw.ok SU As BD (AL.rd Gx)) V ⟨(.tail _ CD),(.head _),Aj⟩ ?_))))))));rintro _ _ ⟨h23,G3,k25,Km,rfl,rfl⟩;refine BI (AW (M 2 (G (Ba ?_))));obtain rfl:=Ao h;exact kdv (W Me Gt k17) [h15,bk b0 #[W G3 r22.1 k25,E9,I Ax,DS,I r22.2.1,I r22.2.2] 67,h23] (Al (Al (Ay (B3 ⟨h15,Me,k17,h23,G3,k25,Gx,Km,V,V⟩))));refine ksr (M 1 (G (Bw (Db (τ:=Av×Int×Int×Int×N×AD×Nat) (c7 λa b _ _ _ f g=>[(0,pt b0),(3,W Q6 a3 QJ),(6,pt b1),(11,W f a g),(13,I b)]) (c7 λ_ _ c d e _ _=>bk b1 #[I AI,D AJ,I AF,I AP,W Bi Aw Bj] 61 :: bk b0 #[W Am Ai An,E9,I Ax,DS,I c,I d] 67 :: AH :: e :: X) (λm=>c7 λa b c d e f g=>Em.l0 m a3 J21 a b c d=some r/\AL encS 9 1 e (W f a g) a) k (l8,0,Be,BC,h9,Gd,k11) ⟨h,Ij⟩ sb V ?_))));clear h;rintro m35 ⟨l27,x32,x33,x34,h28,A29,k30⟩ ⟨h,Ik⟩;rcases m35 with _ | m35;simp [Em.l0] at h;simp only [Em.l0] at h;refine AR (ksr (M 4 (G (Az h (λh=>?_) λh=>?_))));refine AK (At (AR (Bw ?_)));obtain ⟨J39,hJ39,h⟩:=BF h;refine BG (τ:=Int×Int) (λt=>[(0,pt b0),(3,W Q6 a3 QJ),(6,pt b1),(11,W A29 l27 k30),(13,I x32)]) (λt=>bk b1 #[I AI,D AJ,I AF,I AP,W Bi Aw Bj] 61 :: bk b0 #[W Am Ai An,E9,I Ax,DS,I t.1,I t.2] 67 :: AH :: h28 :: X) (λt=>J39 t.1 t.2=some r) ?_ ?_;rintro ⟨x37,x38⟩ h;subst hJ39;refine AO (M 3 (bnd h λx40 Bgt h=>(E0 (T:=61) (kd:=.i64) (R:=(AQ 61)) V Bgt Xy λp41 u44 Ns e42 y43=>?_)));obtain ⟨OF,k47,rfl,Lc⟩:=Eu 61 Ns;refine GV (off:=1) V e42 y43 λp49 e50 y51=>?_;have e50:Elem _ p49 [D x40.text,I x40.n,I x40.at_,W OF x40.kids k47]:=e50;exact FX V (by kernel_rfl) (by kernel_rfl) (by kernel_rfl) (by kernel_rfl) e50 (t4 YA) (Cz #[D x40.text] 9 1 λb52=>(Bb (bnd h λl53 Y4 h=>(Mr (ys:=[x40.text]) Ep V O_ Y4 Ik (M2 (n:=1) Ep [x40.text] (by kernel_rfl) V (by decide) 1 V) λh54 Q4 Rb TZ=>(Al (Ar (M 1 (knl (Bf (At (AO (M 3 (G (Ap (Ap (Ap (C5 m35 (l53,Au (x32+1),x37,x38,h54,Q4,Rb) (Nat.lt_succ_self _) ⟨h,TZ⟩ sb V)))))))))))))))));refine ksr (M 2 (bnd h λx58 Bg4 h=>(E0 (T:=61) (kd:=.i64) (R:=(AQ 61)) V Bg4 Xy λp59 u62 q63 e60 y61=>?_)));obtain ⟨A64,k65,rfl,o66⟩:=Eu 61 q63;refine GV (off:=1) V e60 y61 λp67 e68 y69=>?_;have e68:Elem _ p67 [D x58.text,I x58.n,I x58.at_,W A64 x58.kids k65]:=e68;refine FX V (by kernel_rfl) (by kernel_rfl) (by kernel_rfl) (by kernel_rfl) e68 (t4 YA) (bnd h λCG MX h=>(CI (Kq.ok MX) trivial (G (Az h (λh=>?_) λh=>?_))));refine AO (M 3 (bnd h λx72 Bha h=>(E0 (T:=61) (kd:=.i64) (R:=(AQ 61)) V Bha Xy λp73 u76 q77 e74 y75=>?_)));obtain ⟨A78,k79,rfl,o80⟩:=Eu 61 q77;refine GV (off:=3) V e74 y75 λp81 EC y83=>?_;have EC:Elem _ p81 [I x72.at_,W A78 x72.kids k79]:=EC;exact FX V (by kernel_rfl) (by kernel_rfl) (by kernel_rfl) (by kernel_rfl) EC (t4 YA) (Al (bnd h λCy P4 h=>(Bc (GE.ok P4) V trivial (G (Ap (Ap (Ay (Ap (AG (Cy.1,Cy.2) h sb V)))))))));exact AK (At (AG (x33,x34) h sb V));exact CP (BJ (BJ (CQ (At (AG (l27,x33,x34,h28,A29,k30) ⟨h,Ik⟩ sb V)))));refine ksr (M 1 (G (Bw (Ap (Ap (Ap (Db (τ:=Av×Int×N×AD×Nat) (c5 λa b _ d e=>[(0,pt b0),(3,W Q6 a3 QJ),(4,I a4),(6,pt b1),(11,W d a e),(12,I b)]) (λt=>bk b1 #[I AI,D AJ,I AF,I AP,W Bi Aw Bj] 61 :: bk b0 #[W Am Ai An,E9,I Ax,DS,I Be,I BC] 67 :: AH :: t.2.2.1 :: X) (λm=>c5 λa b c d e=>Em.l1 m a4 J13 a b=some r/\AL encS 9 1 c (W d a e) a) k (l3,0,h4,A5,k6) ⟨h,o7⟩ sb V ?_)))))));clear h;rintro TD ⟨LH,x90,h86,S2,k88⟩ ⟨h,Ld⟩;rcases TD with _ | TD;simp [Em.l1] at h;simp only [Em.l1] at h;refine AR (ksr (M 3 (G (Az h (λh=>?_) λh=>?_))));exact AK (At (AR (Bw (AO (M 1 (Cz #[D noS] 9 1 λb93=>(Bb (bnd h λZU Bco h=>(Mr (ys:=[(⟨#[]⟩:Ah)]) Ep V O_ Bco Ld (M2 (n:=1) Ep [(⟨#[]⟩:Ah)] (by kernel_rfl) V (by decide) 1 V) λh95 A96 k97 o98=>(Al (Ar (M 1 (knl (Bf (At (AO (M 3 (G (Ap (Ap (Ap (C5 TD (ZU,Au (x90+1),h95,A96,k97) (Nat.lt_succ_self _) ⟨h,o98⟩ sb V))))))))))))))))))))));exact CP (BJ (BJ (CQ (At (AG (LH,h86,S2,k88) ⟨h,Ld⟩ sb V)))))
def Hd.l0:Nat->(Ai:Bg)->(Be:Int)->(BC:Int)->(EI:Int)->(EJ:Int)->(EK:Ah)->(x3:Ah×Int×Int×Int×Cj)->(J12:(Unit->Option (Bg×Int×Int)))->(x48:Int)->Option (Bg×Int×Int)
 | 0,_,_,_,_,_,_,_,_,_=>none
 | m49+1,Ai,Be,BC,EI,EJ,EK,x3,J12,x48=>cond (decide (x48 < ((x3.2.2.2.2.length:Nat):Int))) ((B5 x3.2.2.2.2 x48).bind λx57=>cond ((x57.1 == EI) && ((x57.2.1 == EJ) && ((x57.2.2.toList == EK.toList) && true))) (some (Ai,Be,BC)) (Hd.l0 m49 Ai Be BC EI EJ EK x3 J12 (Au (x48+1)))) (J12 ())
def Hd.f (k:Nat) (Ai:Bg) (Ax:Int) (Be:Int) (BC:Int) (AI:Int) (AJ:Ah) (AF:Int) (AP:Int) (Aw:List Tree) (EI:Int) (EJ:Int) (EK:Ah):Option (Bg×Int×Int):=(B5 Ai Ax).bind λx3=>AN (λ(_:Unit)=>(apd 32 x3.2.2.2.2 [(EI,EJ,EK)]).bind λIc=>(FK Ai Ax (x3.1,x3.2.1,x3.2.2.1,x3.2.2.2.1,Ic)).bind λl34=>(E5.f k Be BC AI AJ AF AP Aw ((Ic.length:Nat):Int) 250).bind λr47=>some (l34,r47.1,r47.2)) (λJ12=>Hd.l0 k Ai Be BC EI EJ EK x3 J12 0)
theorem Hd.ok {k b0 An Bj:Nat} {Ai:Bg} {Ax Be BC AI AF AP EI EJ:Int} {AJ EK:Ah} {Aw:List Tree} {AH D6:N} {Am Bi:AD} {E9 DS:Value} {r:Bg×Int×Int} (h:Hd.f k Ai Ax Be BC AI AJ AF AP Aw EI EJ EK=some r) (As:AM DR 68 AH (W Am Ai An) Ai) (BD:RdR (AQ 61) D6 (W Bi Aw Bj) Aw): Ct Tryz.prog 106 #[pt b0,.agg #[I AI,D AJ,I AF,I AP,W Bi Aw Bj],.agg #[I EI,I EJ,D EK]] [bk b0 #[W Am Ai An,E9,I Ax,DS,I Be,I BC] 67,AH] [D6] (λe l1=>∃ (H0_:N) (A0_:AD) (c0_:Nat),AM DR 68 H0_ (W A0_ r.1 c0_) r.1/\e=.returned (.tuple #[])/\l1=[bk b0 #[W A0_ r.1 c0_,E9,I Ax,DS,I r.2.1,I r.2.2] 67,H0_]):=by
 refine BM Tryz.func106 V (AV V) ?_;intro A X hh_;obtain ⟨CD,_⟩:=hh_;unfold Hd.f at h;refine ksr (knp #[I AI,D AJ,I AF,I AP,W Bi Aw Bj] 61 λb1=>(knp #[I EI,I EJ,D EK] 43 λb2=>(G (AR (kpr [(0,0),(1,0),(2,0),(3,0),(4,3),(5,0),(6,0),(7,0),(8,3)] [2] (AA 4 (Bn 0 0 V (AA 3 (Bn 0 2 V (BA (bnd h λx3 hx3 h=>(E0 (T:=68) (kd:=.i64) (R:=DR) V hx3 (AM.rd As) λp4 u7 q8 e5 y6=>?_))))))))))));obtain ⟨A9,k10,rfl,Ii⟩:=Uw q8;refine M 1 (G ?_);obtain ⟨J12,L0,h⟩:=BF h;refine BG (τ:=Unit) (λt=>[(0,pt b0),(4,pt b1),(5,pt b2),(6,p4)]) (λt=>bk b2 #[I EI,I EJ,D EK] 43 :: bk b1 #[I AI,D AJ,I AF,I AP,W Bi Aw Bj] 61 :: bk b0 #[W Am Ai An,E9,I Ax,DS,I Be,I BC] 67 :: AH :: X) (λt=>J12 ()=some r) ?_ ?_;rintro ⟨⟩ h;subst L0;refine Ap (VR (R:=DR) As (Mt hx3).2.2 λh13 h14 c15 _ _ o16 e17=>?_);obtain ⟨Fb,k19,rfl,o20⟩:=o16;have e21:Elem h14 p4 [D x3.1,I x3.2.1,I x3.2.2.1,I x3.2.2.2.1,W Fb x3.2.2.2.2 k19]:=IU.elem e17 y6;refine AR (kpr [(0,0),(1,0),(2,0),(3,0),(4,3),(5,3),(6,1)] [1,2] (AA 2 (ZO V (by kernel_rfl) (by kernel_rfl) (by kernel_rfl) e21 (Nc (off:=4) V e21 y6 λp22 e23 y24=>?_))));have e23:Elem _ p22 [W Fb x3.2.2.2.2 k19]:=e23;refine LG V (by kernel_rfl) (by kernel_rfl) (by kernel_rfl) (by kernel_rfl) e23 (λw h_=>h_.mem _ (.head _)) (E2 1 0 3 V (kpt (Gi #[I EI,I EJ,D EK] 43 1 λb25=>(Cs [2,3] V (BA (Al (bnd h λIc VB h=>(Mr (ys:=[(EI,EJ,EK)]) Mm V Aia VB o20 (M2 (n:=1) Mm [(EI,EJ,EK)] (by kernel_rfl) V (by decide) 1 V) λh27 A28 k29 LK=>(Al (Ar (Ay (Ar (Ao2 V (by kernel_rfl) (by kernel_rfl) (by kernel_rfl) e21 (GV (off:=4) V e21 y6 λp31 e32 y33=>?_))))))))))))));have e32:Elem _ p31 [W Fb x3.2.2.2.2 k19]:=e32;refine Al (bnd h λl34 Pk h=>(Bj4 (R:=DR) (off:=4) (v:=W A28 Ic k29) (x':=(x3.1,x3.2.1,x3.2.2.1,x3.2.2.2.1,Ic)) V (by kernel_rfl) (by kernel_rfl) (by kernel_rfl) (by kernel_rfl) (by kernel_rfl) (by kernel_rfl) y33 Pk e17 (Aci (x:=(x3.1,x3.2.1,x3.2.2.1,x3.2.2.2.1,Ic)) LK) λh35 LL=>?_));obtain ⟨u38,q39,e40⟩:=AM.elem LL (Bkr Pk) y6;obtain ⟨JN,k42,rfl,G_⟩:=Uw q39;have e40:Elem h35 p4 [D x3.1,I x3.2.1,I x3.2.2.1,I x3.2.2.2.1,W JN Ic k42]:=e40;have g37:=Og Pk;refine K.weak (env':=[(0,pt b0),(4,pt b1),(6,p4),(43,W A28 Ic k29)]) ?_ ⟨gr,gr,gr,(by first | rfl | (unfold W;rw [g37];rfl)),Aj⟩
 refine K.eq (l':=h35 :: bk b1 #[I AI,D AJ,I AF,I AP,W Bi Aw Bj] 61 :: bk b0 #[W Am l34 An,E9,I Ax,DS,I Be,I BC] 67 :: X) rfl (by first | rfl | (unfold W;rw [g37];first | done | rfl)) (G (kpr [(0,0),(1,3),(2,0),(3,0),(4,0),(5,3),(6,0)] [0,1] (AA 1 (E2 1 0 5 rfl (AA 1 (ZO rfl (by kernel_rfl) (by kernel_rfl) (by kernel_rfl) e40 (Nc (off:=4) rfl e40 y6 λp44 e45 y46=>?_)))))))
 have e45:Elem _ p44 [W JN Ic k42]:=e45;refine LG V (by kernel_rfl) (by kernel_rfl) (by kernel_rfl) (by kernel_rfl) e45 (λw h_=>h_.mem _ (.head _)) (AA 1 (BA (Ay (bnd h λr47 hr47 h=>(Bc (E5.ok hr47 BD) V ⟨(t2 CD),Aj⟩ (Ay (Ar (knl (Dw ?_)))))))));obtain rfl:=Ao h;exact kdv (.tuple #[]) [bk b0 #[W Am l34 An,E9,I Ax,DS,I r47.1,I r47.2] 67,h35] (B3 ⟨h35,Am,An,LL,V,V⟩);refine ksr (M 1 (G (Bw (Db (τ:=Int) (λt=>[(0,pt b0),(4,pt b1),(5,pt b2),(6,p4),(7,I t)]) (λt=>bk b2 #[I EI,I EJ,D EK] 43 :: bk b1 #[I AI,D AJ,I AF,I AP,W Bi Aw Bj] 61 :: bk b0 #[W Am Ai An,E9,I Ax,DS,I Be,I BC] 67 :: AH :: X) (λm t=>Hd.l0 m Ai Be BC EI EJ EK x3 J12 t=some r) k 0 h sb V ?_))));clear h;rintro m49 x48 h;rcases m49 with _ | m49;simp [Hd.l0] at h;simp only [Hd.l0] at h;refine AR (ksr (M 2 (Ao2 V (by kernel_rfl) (by kernel_rfl) (by kernel_rfl) e5 (GV (off:=4) V e5 y6 λp50 e51 y52=>?_))));have e51:Elem _ p50 [W A9 x3.2.2.2.2 k10]:=e51;refine FX V (by kernel_rfl) (by kernel_rfl) (by kernel_rfl) (by kernel_rfl) e51 (.tail _ (.tail _ (.tail _ (.head _)))) (M 2 (G (Az h (λh=>?_) λh=>?_)));refine AK (At (AR (Bw (AR (KV [(0,0),(1,0),(2,0),(3,3),(4,0),(5,0),(6,3),(7,3)] [bk b2 #[I EI,I EJ,D EK] 43,bk b1 #[I AI,D AJ,I AF,I AP,W Bi Aw Bj] 61,bk b0 #[W Am Ai An,E9,I Ax,DS,I Be,I BC] 67,AH,D6] (λw h_=>⟨h_.sat.on _ (.head _),h_.sat.on _ (.tail _ (.head _)),h_.sat.on _ (.tail _ (.tail _ (.head _))),h_.sat.on _ (.tail _ (.tail _ (.tail _ (.head _)))),h_.sat.on _ (t4 CD),Aj⟩) (AA 1 (ZO V (by kernel_rfl) (by kernel_rfl) (by kernel_rfl) e5 (Nc (off:=4) V e5 y6 λp54 e55 y56=>?_))))))));have e55:Elem _ p54 [W A9 x3.2.2.2.2 k10]:=e55;refine LG V (by kernel_rfl) (by kernel_rfl) (by kernel_rfl) (by kernel_rfl) e55 (λw h_=>h_.mem _ (.tail _ (.tail _ (.tail _ (.head _))))) (AA 1 (bnd h λx57 Tl h=>(KT (T:=43) (kd:=.i64) Mm V Tl Ii λp58 e59 y60=>?_)));have e59:Elem _ p58 [I x57.1,I x57.2.1,D x57.2.2]:=e59;refine IC V e59 (λw h_=>h_.mem _ (.tail _ (.tail _ (.tail _ (.head _))))) (E2 0 0 3 V (BA (PI (r:=((x57.1 == EI) && ((x57.2.1 == EJ) && ((x57.2.2.toList == EK.toList) && true)))) (xs:=#[I x57.1,I x57.2.1,D x57.2.2]) (ys:=#[I EI,I EJ,D EK]) false (by kernel_rfl) V (by kernel_rfl) (by kernel_rfl) (by kernel_rfl) (by kernel_rfl) (by kernel_rfl) (by kernel_rfl) (by kernel_rfl) (G (Az h (λh=>?_) λh=>?_)))));refine Ba (Ca (Bm (Bm (Ca (Bm ?_)))));obtain rfl:=Ao h;exact kdv (.tuple #[]) [bk b0 #[W Am Ai An,E9,I Ax,DS,I Be,I BC] 67,AH] (Ar (Ar (B3 ⟨AH,Am,An,As,V,V⟩)));exact AK (Bf (At (AO (M 3 (G (C5 m49 (Au (x48+1)) (Nat.lt_succ_self _) h sb V))))));exact CP (BJ (BJ (CQ (At (AG () h sb V)))))
theorem A4x:FG Tryz.prog 31 68 5 64 Tryz.t68 (.agg #[D noS,I 0,I 0,I 0,nS]):=⟨by kernel_rfl,by kernel_rfl,by kernel_rfl,by kernel_rfl,by kernel_rfl,by kernel_rfl,by decide⟩
structure RC where
 De:Bg->Av->Int->Av->Int->Int->Int->Ah->Int->Int->List Tree->Av->Bool->Option (Bg×Av×Int×Av×Int×Int)
 Df:Bg->Av->Int->Av->Int->Int->Int->Ah->Int->Int->List Tree->Av->Bool->Option (Av×Bg×Av×Int×Av×Int×Int)
 Iw:Bg->Av->Int->Av->Int->Int->Int->Ah->Int->Int->List Tree->Av->Option (Bg×Av×Int×Av×Int×Int)
 DE:Bg->Av->Int->Av->Int->Int->List Tree->Av->Option (Bg×Av×Int×Int)
 F_:Bg->Av->Int->Av->Int->Int->Int->Ah->Int->Int->List Tree->Av->Bool->Option (Bg×Av×Int×Int)
def De.C (fC:Bg->Av->Int->Av->Int->Int->Int->Ah->Int->Int->List Tree->Av->Bool->Option (Bg×Av×Int×Av×Int×Int)):Prop:=∀ {Ai:Bg} {Ak Br a2:Av} {Ax Be BC AI AF AP:Int} {AJ:Ah} {Aw:List Tree} {a3:Bool} {HP_ AH B9:N} {b0 An Bv Dp Bj CN:Nat} {Am Bt Dn Bi CM:AD} {r:Bg×Av×Int×Av×Int×Int} (h:fC Ai Ak Ax Br Be BC AI AJ AF AP Aw a2 a3=some r) (As:AM DR 68 AH (W Am Ai An) Ai) (BX:AL encS 9 1 B9 (W Bt Ak Bv) Ak) (Eh:AZ encS 1 HP_ (W Dn Br Dp) Br) (BD:RdR (AQ 61) HP_ (W Bi Aw Bj) Aw) (Do:AZ encS 1 HP_ (W CM a2 CN) a2),Ct Tryz.prog 16 #[pt b0,.agg #[I AI,D AJ,I AF,I AP,W Bi Aw Bj],W CM a2 CN,bv a3] [bk b0 #[W Am Ai An,W Bt Ak Bv,I Ax,W Dn Br Dp,I Be,I BC] 67,AH,B9,HP_] [] (λe l1=>∃ (HP':N) (H0_:N) (A0_:AD) (c0_:Nat) (H1_:N) (DH:AD) (DI:Nat) (S3:AD) (SE:Nat),HP_.In HP'/\AM DR 68 H0_ (W A0_ r.1 c0_) r.1/\AL encS 9 1 H1_ (W DH r.2.1 DI) r.2.1/\AZ encS 1 HP' (W S3 r.2.2.2.1 SE) r.2.2.2.1/\e=.returned (.tuple #[])/\l1=[bk b0 #[W A0_ r.1 c0_,W DH r.2.1 DI,I r.2.2.1,W S3 r.2.2.2.1 SE,I r.2.2.2.2.1,I r.2.2.2.2.2] 67,H0_,H1_,HP'])
def Df.C (fC:Bg->Av->Int->Av->Int->Int->Int->Ah->Int->Int->List Tree->Av->Bool->Option (Av×Bg×Av×Int×Av×Int×Int)):Prop:=∀ {Ai:Bg} {Ak Br a2:Av} {Ax Be BC AI AF AP:Int} {AJ:Ah} {Aw:List Tree} {a3:Bool} {HP_ AH B9:N} {b0 An Bv Dp Bj CN:Nat} {Am Bt Dn Bi CM:AD} {r:Av×Bg×Av×Int×Av×Int×Int} (h:fC Ai Ak Ax Br Be BC AI AJ AF AP Aw a2 a3=some r) (As:AM DR 68 AH (W Am Ai An) Ai) (BX:AL encS 9 1 B9 (W Bt Ak Bv) Ak) (Eh:AZ encS 1 HP_ (W Dn Br Dp) Br) (BD:RdR (AQ 61) HP_ (W Bi Aw Bj) Aw) (Do:AZ encS 1 HP_ (W CM a2 CN) a2),Ct Tryz.prog 35 #[pt b0,.agg #[I AI,D AJ,I AF,I AP,W Bi Aw Bj],W CM a2 CN,bv a3] [bk b0 #[W Am Ai An,W Bt Ak Bv,I Ax,W Dn Br Dp,I Be,I BC] 67,AH,B9,HP_] [] (λe l1=>∃ (HP':N) (Afn:AD) (Ahl:Nat) (H0_:N) (A0_:AD) (c0_:Nat) (H1_:N) (DH:AD) (DI:Nat) (Afo:AD) (Ahn:Nat),HP_.In HP'/\AZ encS 1 HP' (W Afn r.1 Ahl) r.1/\AM DR 68 H0_ (W A0_ r.2.1 c0_) r.2.1/\AL encS 9 1 H1_ (W DH r.2.2.1 DI) r.2.2.1/\AZ encS 1 HP' (W Afo r.2.2.2.2.1 Ahn) r.2.2.2.2.1/\e=.returned (W Afn r.1 Ahl)/\l1=[bk b0 #[W A0_ r.2.1 c0_,W DH r.2.2.1 DI,I r.2.2.2.1,W Afo r.2.2.2.2.1 Ahn,I r.2.2.2.2.2.1,I r.2.2.2.2.2.2] 67,H0_,H1_,HP'])
def Iw.C (fC:Bg->Av->Int->Av->Int->Int->Int->Ah->Int->Int->List Tree->Av->Option (Bg×Av×Int×Av×Int×Int)):Prop:=∀ {Ai:Bg} {Ak Br a2:Av} {Ax Be BC AI AF AP:Int} {AJ:Ah} {Aw:List Tree} {HP_ AH B9:N} {b0 An Bv Dp Bj CN:Nat} {Am Bt Dn Bi CM:AD} {r:Bg×Av×Int×Av×Int×Int} (h:fC Ai Ak Ax Br Be BC AI AJ AF AP Aw a2=some r) (As:AM DR 68 AH (W Am Ai An) Ai) (BX:AL encS 9 1 B9 (W Bt Ak Bv) Ak) (Eh:AZ encS 1 HP_ (W Dn Br Dp) Br) (BD:RdR (AQ 61) HP_ (W Bi Aw Bj) Aw) (Do:AZ encS 1 HP_ (W CM a2 CN) a2),Ct Tryz.prog 67 #[pt b0,.agg #[I AI,D AJ,I AF,I AP,W Bi Aw Bj],W CM a2 CN] [bk b0 #[W Am Ai An,W Bt Ak Bv,I Ax,W Dn Br Dp,I Be,I BC] 67,AH,B9,HP_] [] (λe l1=>∃ (HP':N) (H0_:N) (A0_:AD) (c0_:Nat) (H1_:N) (DH:AD) (DI:Nat) (S3:AD) (SE:Nat),HP_.In HP'/\AM DR 68 H0_ (W A0_ r.1 c0_) r.1/\AL encS 9 1 H1_ (W DH r.2.1 DI) r.2.1/\AZ encS 1 HP' (W S3 r.2.2.2.1 SE) r.2.2.2.1/\e=.returned (.tuple #[])/\l1=[bk b0 #[W A0_ r.1 c0_,W DH r.2.1 DI,I r.2.2.1,W S3 r.2.2.2.1 SE,I r.2.2.2.2.1,I r.2.2.2.2.2] 67,H0_,H1_,HP'])
def DE.C (fC:Bg->Av->Int->Av->Int->Int->List Tree->Av->Option (Bg×Av×Int×Int)):Prop:=∀ {Ai:Bg} {Ak Br a2:Av} {Ax Be BC:Int} {a1:List Tree} {HP_ AH B9:N} {b0 An Bv Dp Hp CN:Nat} {Am Bt Dn Hm CM:AD} {r:Bg×Av×Int×Int} (h:fC Ai Ak Ax Br Be BC a1 a2=some r) (As:AM DR 68 AH (W Am Ai An) Ai) (BX:AL encS 9 1 B9 (W Bt Ak Bv) Ak) (Eh:AZ encS 1 HP_ (W Dn Br Dp) Br) (ME:RdR (AQ 61) HP_ (W Hm a1 Hp) a1) (Do:AZ encS 1 HP_ (W CM a2 CN) a2),Ct Tryz.prog 69 #[pt b0,W Hm a1 Hp,W CM a2 CN] [bk b0 #[W Am Ai An,W Bt Ak Bv,I Ax,W Dn Br Dp,I Be,I BC] 67,AH,B9,HP_] [] (λe l1=>∃ (HP':N) (H0_:N) (A0_:AD) (c0_:Nat) (H1_:N) (DH:AD) (DI:Nat),HP_.In HP'/\AM DR 68 H0_ (W A0_ r.1 c0_) r.1/\AL encS 9 1 H1_ (W DH r.2.1 DI) r.2.1/\e=.returned (.tuple #[])/\l1=[bk b0 #[W A0_ r.1 c0_,W DH r.2.1 DI,I Ax,W Dn Br Dp,I r.2.2.1,I r.2.2.2] 67,H0_,H1_,HP'])
def F_.C (fC:Bg->Av->Int->Av->Int->Int->Int->Ah->Int->Int->List Tree->Av->Bool->Option (Bg×Av×Int×Int)):Prop:=∀ {Ai:Bg} {Ak Br a2:Av} {Ax Be BC AI AF AP:Int} {AJ:Ah} {Aw:List Tree} {a3:Bool} {HP_ AH B9:N} {b0 An Bv Dp Bj CN:Nat} {Am Bt Dn Bi CM:AD} {r:Bg×Av×Int×Int} (h:fC Ai Ak Ax Br Be BC AI AJ AF AP Aw a2 a3=some r) (As:AM DR 68 AH (W Am Ai An) Ai) (BX:AL encS 9 1 B9 (W Bt Ak Bv) Ak) (Eh:AZ encS 1 HP_ (W Dn Br Dp) Br) (BD:RdR (AQ 61) HP_ (W Bi Aw Bj) Aw) (Do:AZ encS 1 HP_ (W CM a2 CN) a2),Ct Tryz.prog 71 #[pt b0,.agg #[I AI,D AJ,I AF,I AP,W Bi Aw Bj],W CM a2 CN,bv a3] [bk b0 #[W Am Ai An,W Bt Ak Bv,I Ax,W Dn Br Dp,I Be,I BC] 67,AH,B9,HP_] [] (λe l1=>∃ (HP':N) (H0_:N) (A0_:AD) (c0_:Nat) (H1_:N) (DH:AD) (DI:Nat),HP_.In HP'/\AM DR 68 H0_ (W A0_ r.1 c0_) r.1/\AL encS 9 1 H1_ (W DH r.2.1 DI) r.2.1/\e=.returned (.tuple #[])/\l1=[bk b0 #[W A0_ r.1 c0_,W DH r.2.1 DI,I Ax,W Dn Br Dp,I r.2.2.1,I r.2.2.2] 67,H0_,H1_,HP'])
structure RC.Good (R:RC):Prop where
 De:De.C R.De
 Df:Df.C R.Df
 Iw:Iw.C R.Iw
 DE:DE.C R.DE
 F_:F_.C R.F_
def De.l0:Nat->(Rc:RC)->(Aw:List Tree)->(a3:Bool)->(l4:Av)->(x9:Int)->(l10:Bg)->(l15:Av)->(x20:Int)->(l21:Av)->(x26:Int)->(x27:Int)->Option (Bg×Av×Int×Av×Int×Int)
 | 0,_,_,_,_,_,_,_,_,_,_,_=>none
 | m29+1,Rc,Aw,a3,l4,x9,l10,l15,x20,l21,x26,x27=>(cond (decide (x9 < ((Aw.length:Nat):Int))) (some (x26 == 0)) (some false):Option Bool).bind λq30=>cond q30 ((B5 Aw x9).bind λx32=>(Rc.Df l10 l15 x20 l21 x26 x27 x32.kind x32.text x32.n x32.at_ x32.kids l4 a3).bind λE7=>De.l0 m29 Rc Aw a3 E7.1 (Au (x9+1)) E7.2.1 E7.2.2.1 E7.2.2.2.1 E7.2.2.2.2.1 E7.2.2.2.2.2.1 E7.2.2.2.2.2.2) (some (l10,l15,x20,l21,x26,x27))
def De.g (Rc:RC) (k:Nat) (Ai:Bg) (Ak:Av) (Ax:Int) (Br:Av) (Be:Int) (BC:Int) (AI:Int) (AJ:Ah) (AF:Int) (AP:Int) (Aw:List Tree) (a2:Av) (a3:Bool):Option (Bg×Av×Int×Av×Int×Int):=De.l0 k Rc Aw a3 a2 0 Ai Ak Ax Br Be BC
theorem De.Ck {Rc:RC} (hR:Rc.Good) {k:Nat}:De.C (De.g Rc k):=by
 intro Ai Ak Br a2 Ax Be BC AI AF AP AJ Aw a3 HP_ AH B9 b0 An Bv Dp Bj CN Am Bt Dn Bi CM r h As BX Eh BD Do;refine BM Tryz.func16 V (AV V) ?_;intro A X hh_;unfold De.g at h;refine ksr (knp #[I AI,D AJ,I AF,I AP,W Bi Aw Bj] 61 λb1=>(AW (M 1 (G (Bw (Ap (Ap (Bb (Bb (Bb (Db (τ:=Av×Int×Bg×Av×Int×Av×Int×Int×N×AD×Nat×N×AD×Nat×N×AD×Nat×AD×Nat) (c19 λa b _ _ _ _ _ _ _ l n _ _ _ _ _ _ _ _=>[(0,pt b0),(2,W l a n),(3,bv a3),(5,pt b1),(8,I b)]) (c19 λ_ _ c d e f g i j _ _ o p q s u v w x=>bk b1 #[I AI,D AJ,I AF,I AP,W Bi Aw Bj] 61 :: bk b0 #[W p c q,W u d v,I e,W w f x,I g,I i] 67 :: j :: o :: s :: X) (λm=>c19 λa b c d e f g i j l n o p q s u v w x=>De.l0 m Rc Aw a3 a b c d e f g i=some r/\HP_.In j/\AZ encS 1 j (W l a n) a/\AM DR 68 o (W p c q) c/\AL encS 9 1 s (W u d v) d/\AZ encS 1 j (W w f x) f/\RdR (AQ 61) j (W Bi Aw Bj) Aw) k (a2,0,Ai,Ak,Ax,Br,Be,BC,HP_,CM,CN,AH,Am,An,B9,Bt,Bv,Dn,Dp) ⟨h,(N.In.refl HP_),Do,As,BX,Eh,BD⟩ sb V ?_)))))))))));clear h;rintro m29 ⟨l4,x9,l10,l15,x20,l21,x26,x27,h2,A6,k7,h11,A12,k13,h16,En,k18,A23,k24⟩ ⟨h,o3,o8,Je,o19,La,Jf⟩;rcases m29 with _ | m29;simp [De.l0] at h;simp only [De.l0] at h;refine AR (bnd h λq30 Pp h=>?_);refine CH [(0,pt b0),(2,W A6 l4 k7),(3,bv a3),(5,pt b1),(8,I x9),(21,bv q30)] (bk b1 #[I AI,D AJ,I AF,I AP,W Bi Aw Bj] 61 :: bk b0 #[W A12 l10 k13,W En l15 k18,I x20,W A23 l21 k24,I x26,I x27] 67 :: h2 :: h11 :: h16 :: X) ?_ ?_;clear Pp;refine Az h (λh=>?_) λh=>?_;refine AK (At (AR (Bw (AO (M 2 (kld 0 4 V (M 1 (bnd h λx32 hx32 h=>(E0 (T:=61) (kd:=.i64) (R:=(AQ 61)) V hx32 Jf λp33 u36 q37 e34 y35=>?_)))))))));obtain ⟨N9,k39,rfl,LM⟩:=Eu 61 q37;refine Ib V e34 (.tail _ (.tail _ (.head _))) (M 2 (Ay (Bb (Bb (Bb (bnd h λE7 Py h=>(Ch (hR.Df Py Je o19 La LM o8) V trivial ?_)))))));rintro _ _ ⟨h42,Xr,ZA,h48,A49,NV,h52,Xs,k54,NC,k58,G_,Ni,Nj,PX,o59,rfl,rfl⟩;refine GW ?_;have o60:=AZ.mono o8 G_;have RD:=RdR.mono LM G_;have RF:=RdR.mono Jf G_;have o63:=N.In.trans o3 G_;exact M 1 (knl (Bf (At (AO (M 3 (G (Ay (Ay (Ap (Ap (Bb (C5 m29 (E7.1,Au (x9+1),E7.2.1,E7.2.2.1,E7.2.2.2.1,E7.2.2.2.2.1,E7.2.2.2.2.2.1,E7.2.2.2.2.2.2,h42,Xr,ZA,h48,A49,NV,h52,Xs,k54,NC,k58) (Nat.lt_succ_self _) ⟨h,o63,Ni,Nj,PX,o59,RF⟩ sb V))))))))))));refine CP (BJ (BJ (CQ (Dw ?_))));obtain rfl:=Ao h;exact kdv (.tuple #[]) [bk b0 #[W A12 l10 k13,W En l15 k18,I x20,W A23 l21 k24,I x26,I x27] 67,h11,h16,h2] (Ar (Al (Ap (Ap (Ap (B3 ⟨h2,h11,A12,k13,h16,En,k18,A23,k24,o3,Je,o19,La,V,V⟩))))));have h:=Pp;clear Pp;refine AO (M 2 (kld 0 4 V (M 3 (B4 14 h (λh=>?_) λh=>?_))));exact M 4 (kld 1 4 V (M 2 (G (AY ⟨gr,gr,gr,gr,gr,gb (Ao h),Aj⟩))));exact M 7 (G (AY ⟨gr,gr,gr,gr,gr,gb (Ao h),Aj⟩))
def Df.l1:Nat->(Rc:RC)->(Aw:List Tree)->(a2:Av)->(a3:Bool)->(FI:Bg->Av->Int->Av->Int->Int->Option (Av×Bg×Av×Int×Av×Int×Int))->(x152:Int)->(Rw:Bg)->(Rx:Av)->(OB:Int)->(Oe:Av)->(Sm:Int)->(Sn:Int)->Option (Av×Bg×Av×Int×Av×Int×Int)
 | 0,_,_,_,_,_,_,_,_,_,_,_,_=>none
 | T8+1,Rc,Aw,a2,a3,FI,x152,Rw,Rx,OB,Oe,Sm,Sn=>cond (decide (x152 < ((Aw.length:Nat):Int))) (AN (λ(ZR:Bg) (ZS:Av) (Aeb:Int) (ZT:Av) (Aec:Int) (Aei:Int)=>Df.l1 T8 Rc Aw a2 a3 FI (Au (x152+1)) ZR ZS Aeb ZT Aec Aei) (λUW=>(B5 Aw x152).bind λQ0=>cond (Q0.kind == 20) ((B5 Aw x152).bind λSo=>(Rc.De Rw Rx OB Oe Sm Sn So.kind So.text So.n So.at_ So.kids a2 a3).bind λKs=>UW Ks.1 Ks.2.1 Ks.2.2.1 Ks.2.2.2.1 Ks.2.2.2.2.1 Ks.2.2.2.2.2) ((B5 Aw x152).bind λSq=>(Rc.F_ Rw Rx OB Oe Sm Sn Sq.kind Sq.text Sq.n Sq.at_ Sq.kids a2 false).bind λNy=>UW Ny.1 Ny.2.1 OB Oe Ny.2.2.1 Ny.2.2.2))) (FI Rw Rx OB Oe Sm Sn)
def Df.l0:Nat->(Rc:RC)->(Ax:Int)->(Br:Av)->(AF:Int)->(Aw:List Tree)->(a2:Av)->(FI:Bg->Av->Int->Av->Int->Int->Option (Av×Bg×Av×Int×Av×Int×Int))->(x90:Int)->(T2:Bg)->(l96:Av)->(x101:Int)->(x102:Int)->Option (Av×Bg×Av×Int×Av×Int×Int)
 | 0,_,_,_,_,_,_,_,_,_,_,_,_=>none
 | T6+1,Rc,Ax,Br,AF,Aw,a2,FI,x90,T2,l96,x101,x102=>cond (decide (x90 < ((Aw.length:Nat):Int))) ((B5 Aw x90).bind λSi=>(Rc.F_ T2 l96 Ax Br x101 x102 Si.kind Si.text Si.n Si.at_ Si.kids a2 (decide (x90 < AF))).bind λNv=>Df.l0 T6 Rc Ax Br AF Aw a2 FI (Au (x90+1)) Nv.1 Nv.2.1 Nv.2.2.1 Nv.2.2.2) (FI T2 l96 Ax Br x101 x102)
def Df.g (Rc:RC) (k:Nat) (Ai:Bg) (Ak:Av) (Ax:Int) (Br:Av) (Be:Int) (BC:Int) (AI:Int) (AJ:Ah) (AF:Int) (AP:Int) (Aw:List Tree) (a2:Av) (a3:Bool):Option (Av×Bg×Av×Int×Av×Int×Int):=AN (λ(l4:Bg) (l9:Av) (x14:Int) (l15:Av) (x20:Int) (x21:Int)=>some (a2,l4,l9,x14,l15,x20,x21)) (λFI=>cond (AI == 31) ((Rc.Iw Ai Ak Ax Br Be BC AI AJ AF AP Aw a2).bind λr25=>FI r25.1 r25.2.1 r25.2.2.1 r25.2.2.2.1 r25.2.2.2.2.1 r25.2.2.2.2.2) (cond (AI == 21) ((E5.f k Be BC AI AJ AF AP Aw AF 50).bind λr44=>(E5.f k r44.1 r44.2 AI AJ AF AP Aw (Au (((Aw.length:Nat):Int) - AF)) 50).bind λr45=>(Fl Aw AF ((Aw.length:Nat):Int)).bind λl46=>(Rc.DE Ai Ak Ax Br r45.1 r45.2 l46 a2).bind λr50=>(Fl Aw 0 AF).bind λOf=>(Em.f k r50.1 Ax r50.2.2.1 r50.2.2.2 AI AJ AF AP Aw a2 Of 0).bind λCG=>some (CG.1,CG.2.1,r50.2.1,Ax,Br,CG.2.2.1,CG.2.2.2)) (cond (AI == 22) ((E5.f k Be BC AI AJ AF AP Aw AF 50).bind λr86=>(E5.f k r86.1 r86.2 AI AJ AF AP Aw (Au (((Aw.length:Nat):Int) - AF)) 50).bind λr87=>Df.l0 k Rc Ax Br AF Aw a2 FI 0 Ai Ak r87.1 r87.2) (cond (AI == 23) ((Rc.DE Ai Ak Ax Br Be BC Aw a2).bind λFD=>FI FD.1 FD.2.1 Ax Br FD.2.2.1 FD.2.2.2) (cond (AI == 24) (Df.l1 k Rc Aw a2 a3 FI 0 Ai Ak Ax Br Be BC) (cond (AI == 25) ((B5 Aw 0).bind λSr=>(Rc.F_ Ai Ak Ax Br Be BC Sr.kind Sr.text Sr.n Sr.at_ Sr.kids a2 false).bind λUm=>(B5 Aw 1).bind λSu=>(Rc.De Um.1 Um.2.1 Ax Br Um.2.2.1 Um.2.2.2 Su.kind Su.text Su.n Su.at_ Su.kids a2 true).bind λKv=>FI Kv.1 Kv.2.1 Kv.2.2.1 Kv.2.2.2.1 Kv.2.2.2.2.1 Kv.2.2.2.2.2) (cond (AI == 26) ((Fl Aw 1 (Au (((Aw.length:Nat):Int) - 1))).bind λApi=>(Rc.DE Ai Ak Ax Br Be BC Api a2).bind λOw=>(B5 Aw (Au (((Aw.length:Nat):Int) - 1))).bind λSv=>(Fl Aw 0 1).bind λApk=>(Em.f k Ow.1 Ax Ow.2.2.1 Ow.2.2.2 AI AJ AF AP Aw a2 Apk 3).bind λOx=>(Rc.De Ox.2.1 Ow.2.1 Ax Br Ox.2.2.1 Ox.2.2.2 Sv.kind Sv.text Sv.n Sv.at_ Sv.kids Ox.1 true).bind λKx=>FI Kx.1 Kx.2.1 Kx.2.2.1 Kx.2.2.2.1 Kx.2.2.2.2.1 Kx.2.2.2.2.2) (cond (AI == 27) ((E5.f k Be BC AI AJ AF AP Aw AF 50).bind λAbz=>(E5.f k Abz.1 Abz.2 AI AJ AF AP Aw (Au ((Au (((Aw.length:Nat):Int) - 1)) - AF)) 50).bind λAb1=>(Fl Aw AF (Au (((Aw.length:Nat):Int) - 1))).bind λApl=>(Rc.DE Ai Ak Ax Br Ab1.1 Ab1.2 Apl a2).bind λOy=>(B5 Aw (Au (((Aw.length:Nat):Int) - 1))).bind λSw=>(Fl Aw 0 AF).bind λApm=>(Em.f k Oy.1 Ax Oy.2.2.1 Oy.2.2.2 AI AJ AF AP Aw a2 Apm 3).bind λOz=>(Rc.De Oz.2.1 Oy.2.1 Ax Br Oz.2.2.1 Oz.2.2.2 Sw.kind Sw.text Sw.n Sw.at_ Sw.kids Oz.1 true).bind λKy=>FI Ky.1 Ky.2.1 Ky.2.2.1 Ky.2.2.2.1 Ky.2.2.2.2.1 Ky.2.2.2.2.2) (cond (AI == 28) ((B5 Aw 0).bind λSx=>(Rc.De Ai Ak Ax Br Be BC Sx.kind Sx.text Sx.n Sx.at_ Sx.kids a2 a3).bind λK0=>FI K0.1 K0.2.1 K0.2.2.1 K0.2.2.2.1 K0.2.2.2.2.1 K0.2.2.2.2.2) (cond (AI == 29) (cond (!a3) ((GE.f k Be BC 5 AP).bind λUn=>FI Ai Ak Ax Br Un.1 Un.2) (FI Ai Ak Ax Br Be BC)) (cond (AI == 30) ((E5.f k Be BC AI AJ AF AP Aw ((Aw.length:Nat):Int) 50).bind λAb4=>(Rc.DE Ai Ak Ax Br Ab4.1 Ab4.2 Aw a2).bind λNz=>FI Nz.1 Nz.2.1 Ax Br Nz.2.2.1 Nz.2.2.2) (FI Ai Ak Ax Br Be BC))))))))))))
theorem Df.Ck {Rc:RC} (hR:Rc.Good) {k:Nat}:Df.C (Df.g Rc k):=by
 intro Ai Ak Br a2 Ax Be BC AI AF AP AJ Aw a3 HP_ AH B9 b0 An Bv Dp Bj CN Am Bt Dn Bi CM r h As BX Eh BD Do;refine BM Tryz.func35 V (AV V) ?_;intro A X hh_;unfold Df.g at h;refine ksr (knp #[I AI,D AJ,I AF,I AP,W Bi Aw Bj] 61 λb1=>(M 1 (AW (M 1 (kld 0 4 V (M 3 (G ?_)))))));obtain ⟨FI,A9d,h⟩:=BF h;refine BG (τ:=Bg×Av×Int×Av×Int×Int×N×N×AD×Nat×N×AD×Nat×AD×Nat) (λt=>[(2,W CM a2 CN)]) (c15 λa b c d e f g i j l n o p q s=>bk b0 #[W j a l,W o b p,I c,W q d s,I e,I f] 67 :: g :: i :: n :: X) (c15 λa b c d e f g i j l n o p q s=>FI a b c d e f=some r/\HP_.In g/\AM DR 68 i (W j a l) a/\AL encS 9 1 n (W o b p) b/\AZ encS 1 g (W q d s) d/\AZ encS 1 g (W CM a2 CN) a2) ?_ ?_;rintro ⟨l4,l9,x14,l15,x20,x21,h2,h5,A6,k7,h10,KA,k12,En,k18⟩ ⟨h,o3,o8,Nh,o19,II⟩;subst A9d;refine ksr (M 2 (G (Ba ?_)));obtain rfl:=Ao h;exact kdv (W CM a2 CN) [bk b0 #[W A6 l4 k7,W KA l9 k12,I x14,W En l15 k18,I x20,I x21] 67,h5,h10,h2] (Al (Ap (Ap (Ap (B3 ⟨h2,CM,CN,h5,A6,k7,h10,KA,k12,En,k18,o3,II,o8,Nh,o19,V,V⟩)))));refine ksr (M 1 (kld 0 0 V (G (Bw (ksr (M 2 (G (Az h (λh=>?_) λh=>?_))))))));refine AO (M 1 (BW 0 0 5 V (Ar (M 1 (Ap (Ap (Ap (Ap (bnd h λr25 Ia h=>(Ch (hR.Iw Ia As BX Eh BD Do) V trivial ?_))))))))));rintro _ _ ⟨h26,h28,A29,k30,h32,A33,k34,A37,k38,Kn,Ik,o35,o39,rfl,rfl⟩;refine GW ?_;have LM:=AZ.mono Do Kn;have o41:=RdR.mono BD Kn;have Ot:=N.In.trans (N.In.refl HP_) Kn;exact knl (Bf (At (Ay (Ay (Ap (Ap (AG (r25.1,r25.2.1,r25.2.2.1,r25.2.2.2.1,r25.2.2.2.2.1,r25.2.2.2.2.2,h26,h28,A29,k30,h32,A33,k34,A37,k38) ⟨h,Ot,Ik,o35,o39,LM⟩ sb V)))))));refine ksr (M 2 (G (Az h (λh=>?_) λh=>?_)));refine ksr (M 1 (BW 0 0 5 V (M 1 (kld 0 2 V (Al (bnd h λr44 MU h=>(Bc (E5.ok MU BD) V ⟨(.tail _ (.tail _ (.tail _ (.head _)))),Aj⟩ (AW (M 1 (BW 1 0 5 V (M 1 (kld 1 4 V (M 2 (kld 1 2 V (M 1 (bnd h λr45 Y_ h=>(Bc (E5.ok Y_ BD) V ⟨(.tail _ (.tail _ (.tail _ (.head _)))),Aj⟩ (AW (M 2 (kld 1 4 V (M 1 (kld 1 2 V (bnd h λl46 Bb4 h=>(Rq (T:=61) (R:=(AQ 61)) (xs:=Aw) AF ((Aw.length:Nat):Int) V (by kernel_rfl) (by kernel_rfl) (by kernel_rfl) (.inr ⟨_,.i64,V,(by kernel_rfl)⟩) (.inl ⟨V,V⟩) (by kernel_rfl) (by kernel_rfl) Bb4 BD λA47 k48 o49=>(M 1 (Bb (Bb (Bb (Ap (bnd h λr50 SX h=>(Ch (hR.DE SX As BX Eh o49 Do) V trivial ?_)))))))))))))))))))))))))))))));rintro _ _ ⟨h51,h53,NB,NX,h57,GK,k59,IL,RB,o60,rfl,rfl⟩;refine GW ?_;have RD:=AZ.mono Do IL;have RF:=RdR.mono o49 IL;have o63:=AZ.mono Eh IL;have Nk:=RdR.mono BD IL;have Nl:=N.In.trans (N.In.refl HP_) IL;refine G (AR (kpr [(0,0),(1,3),(2,0),(3,0),(4,3),(5,0),(6,3),(7,0)] [4] (AA 1 (E2 0 0 5 V (AA 2 (Bn 0 4 V (AA 1 (Bn 0 2 V (bnd h λOf Y5 h=>(Oc (T:=61) (R:=(AQ 61)) (xs:=Aw) 0 AF V (by kernel_rfl) (by kernel_rfl) (by kernel_rfl) (.inl ⟨V,V⟩) (.inr ⟨_,.i64,V,(by kernel_rfl)⟩) (by kernel_rfl) (by kernel_rfl) Y5 Nk λA67 k68 o69=>(BA (Al (Al (bnd h λCG MX h=>(Ch (Em.ok MX RB Nk RD o69) V ⟨(.tail _ (.head _)),(.tail _ (.head _)),(.tail _ (.head _)),Aj⟩ ?_)))))))))))))));rintro _ _ ⟨h71,Mg,Mq,h75,M8,Na,Nm,o78,rfl,rfl⟩;refine K_ (AT (Ar (M 1 (G (Ba (Ca (Bm (Bb (Al (Tq λh79 o80 RH=>?_))))))))));have T_:=AZ.mono (AL.rd Nm) o80;have o83:=AZ.mono o63 RH;have o84:=N.In.trans Nl RH;obtain rfl:=Ao h;exact kdv (W Mg CG.1 Mq) [bk b0 #[W M8 CG.2.1 Na,W GK r50.2.1 k59,I Ax,W Dn Br Dp,I CG.2.2.1,I CG.2.2.2] 67,h75,h57,h79] (Ap (Ap (Ap (B3 ⟨h79,Mg,Mq,h75,M8,Na,h57,GK,k59,Dn,Dp,o84,T_,o78,o60,o83,V,V⟩))));refine ksr (M 2 (G (Az h (λh=>?_) λh=>?_)));refine ksr (M 1 (BW 0 0 5 V (M 1 (kld 0 2 V (Al (bnd h λr86 Bfh h=>(Bc (E5.ok Bfh BD) V ⟨(.tail _ (.tail _ (.tail _ (.head _)))),Aj⟩ (AW (M 1 (BW 1 0 5 V (M 1 (kld 1 4 V (M 2 (kld 1 2 V (M 1 (bnd h λr87 Tf h=>(Bc (E5.ok Tf BD) V ⟨(.tail _ (.tail _ (.tail _ (.head _)))),Aj⟩ (AW (M 1 (G (Bw (Ap (Ap (Bb (Bb (Bb (Db (τ:=Int×Bg×Av×Int×Int×N×N×AD×Nat×N×AD×Nat) (λt=>[(0,pt b0),(2,W CM a2 CN),(5,pt b1),(10,I t.1)]) (c12 λ_ b c d e f g i j l n o=>bk b0 #[W i b j,W n c o,I Ax,W Dn Br Dp,I d,I e] 67 :: bk b1 #[I AI,D AJ,I AF,I AP,W Bi Aw Bj] 61 :: f :: g :: l :: X) (λm=>c12 λa b c d e f g i j l n o=>Df.l0 m Rc Ax Br AF Aw a2 FI a b c d e=some r/\HP_.In f/\AM DR 68 g (W i b j) b/\AL encS 9 1 l (W n c o) c/\AZ encS 1 f (W CM a2 CN) a2/\AZ encS 1 f (W Dn Br Dp) Br/\RdR (AQ 61) f (W Bi Aw Bj) Aw) k (0,Ai,Ak,r87.1,r87.2,HP_,AH,Am,An,B9,Bt,Bv) ⟨h,(N.In.refl HP_),As,BX,Do,Eh,BD⟩ sb V ?_)))))))))))))))))))))))))));clear h;rintro T6 ⟨x90,T2,l96,x101,x102,h88,MO,Q5,Re,h97,A98,k99⟩ ⟨h,Ld,o95,PT,TJ,TK,TL⟩;rcases T6 with _ | T6;simp [Df.l0] at h;simp only [Df.l0] at h;refine AR (ksr (M 2 (kld 1 4 V (M 2 (G (Az h (λh=>?_) λh=>?_))))));refine AK (At (AR (Bw (kpr [(0,0),(1,0),(2,3),(3,0),(4,0),(5,3),(6,0),(7,0),(8,0),(9,3),(10,0)] [1,2] (AA 2 (Bn 0 4 V (AA 1 (bnd h λSi Bf6 h=>(KU (T:=61) (kd:=.i64) (R:=(AQ 61)) V Bf6 TL λB4c B45 Bte A3h B5v=>?_)))))))));obtain ⟨Xj,Z2,rfl,Oo⟩:=Eu 61 Bte;refine IC V A3h (λw h_=>h_.mem _ (.tail _ (.head _))) (AA 3 (Bn 0 2 V (AA 1 (BA (Ay (Bb (Bb (Ap (bnd h λNv Bdk h=>(Ch (hR.F_ Bdk o95 PT TK Oo TJ) V trivial ?_))))))))));rintro _ _ ⟨Yf,A7l,Xm,Z5,A7m,Ax4,Bhv,Oq,Wr,Aar,rfl,rfl⟩;refine GW ?_;have Aas:=AZ.mono TJ Oq;have B3f:=RdR.mono Oo Oq;have Bmh:=AZ.mono TK Oq;have Aau:=RdR.mono TL Oq;have TM:=N.In.trans Ld Oq;exact knl (Bf (At (AO (M 3 (G (Ay (Ay (Ap (Bb (Bb (C5 T6 (Au (x90+1),Nv.1,Nv.2.1,Nv.2.2.1,Nv.2.2.2,Yf,A7l,Xm,Z5,A7m,Ax4,Bhv) (Nat.lt_succ_self _) ⟨h,TM,Wr,Aar,Aas,Bmh,Aau⟩ sb V)))))))))));exact CP (BJ (BJ (CQ (Bf (At (Al (Ar (AG (T2,l96,Ax,Br,x101,x102,h88,MO,Q5,Re,h97,A98,k99,Dn,Dp) ⟨h,Ld,o95,PT,TK,TJ⟩ sb V))))))));refine ksr (M 2 (G (Az h (λh=>?_) λh=>?_)));refine AO (M 2 (kld 0 4 V (Ar (M 1 (Ap (Ap (Ap (Ap (bnd h λFD YW h=>(Ch (hR.DE YW As BX Eh BD Do) V trivial ?_))))))))));rintro _ _ ⟨V5,A7q,Ax6,Bhz,A7r,Ax9,Bh0,PU,Bmo,Bmt,rfl,rfl⟩;refine GW ?_;have Bmu:=AZ.mono Do PU;have Aq5:=RdR.mono BD PU;have Bmv:=AZ.mono Eh PU;have Bmw:=N.In.trans (N.In.refl HP_) PU;exact knl (Bf (At (Ay (Ay (Ap (Ap (AG (FD.1,FD.2.1,Ax,Br,FD.2.2.1,FD.2.2.2,V5,A7q,Ax6,Bhz,A7r,Ax9,Bh0,Dn,Dp) ⟨h,Bmw,Bmo,Bmt,Bmv,Bmu⟩ sb V)))))));refine ksr (M 2 (G (Az h (λh=>?_) λh=>?_)));refine ksr (M 1 (G (Bw (Ap (Ap (Bb (Bb (Bb (Db (τ:=Int×Bg×Av×Int×Av×Int×Int×N×N×AD×Nat×N×AD×Nat×AD×Nat) (λt=>[(0,pt b0),(2,W CM a2 CN),(3,bv a3),(5,pt b1),(11,I t.1)]) (c16 λ_ b c d e f g i j l n o p q s u=>bk b1 #[I AI,D AJ,I AF,I AP,W Bi Aw Bj] 61 :: bk b0 #[W l b n,W p c q,I d,W s e u,I f,I g] 67 :: i :: j :: o :: X) (λm=>c16 λa b c d e f g i j l n o p q s u=>Df.l1 m Rc Aw a2 a3 FI a b c d e f g=some r/\HP_.In i/\AM DR 68 j (W l b n) b/\AL encS 9 1 o (W p c q) c/\AZ encS 1 i (W s e u) e/\AZ encS 1 i (W CM a2 CN) a2/\RdR (AQ 61) i (W Bi Aw Bj) Aw) k (0,Ai,Ak,Ax,Br,Be,BC,HP_,AH,Am,An,B9,Bt,Bv,Dn,Dp) ⟨h,(N.In.refl HP_),As,BX,Eh,Do,BD⟩ sb V ?_)))))))));clear h;rintro T8 ⟨x152,Rw,Rx,OB,Oe,Sm,Sn,A7s,A7t,Ayb,Bh1,A7u,Ayc,Bh4,Aew,Am6⟩ ⟨h,Aax,Aay,Aaz,Ws,TN,TO⟩;rcases T8 with _ | T8;simp [Df.l1] at h;simp only [Df.l1] at h;refine AR (ksr (M 2 (kld 0 4 V (M 2 (G (Az h (λh=>?_) λh=>?_))))));refine AK (At ?_);obtain ⟨UW,A9a,h⟩:=BF h;refine BG (τ:=Bg×Av×Int×Av×Int×Int×N×N×AD×Nat×N×AD×Nat×AD×Nat) (λt=>[(0,pt b0),(2,W CM a2 CN),(3,bv a3),(5,pt b1),(11,I x152)]) (c15 λa b c d e f g i j l n o p q s=>bk b1 #[I AI,D AJ,I AF,I AP,W Bi Aw Bj] 61 :: bk b0 #[W j a l,W o b p,I c,W q d s,I e,I f] 67 :: g :: i :: n :: X) (c15 λa b c d e f g i j l n o p q s=>UW a b c d e f=some r/\HP_.In g/\AM DR 68 i (W j a l) a/\AL encS 9 1 n (W o b p) b/\AZ encS 1 g (W q d s) d/\AZ encS 1 g (W CM a2 CN) a2/\RdR (AQ 61) g (W Bi Aw Bj) Aw) ?_ ?_;rintro ⟨ZR,ZS,Aeb,ZT,Aec,Aei,A7w,A7x,Ayd,Bh5,A7z,Aye,Bh6,Ayi,Bh7⟩ ⟨h,Bm7,Bm9,Bnb,Bnh,Bnk,Aa0⟩;subst A9a;exact AO (M 3 (G (C5 T8 (Au (x152+1),ZR,ZS,Aeb,ZT,Aec,Aei,A7w,A7x,Ayd,Bh5,A7z,Aye,Bh6,Ayi,Bh7) (Nat.lt_succ_self _) ⟨h,Bm7,Bm9,Bnb,Bnh,Bnk,Aa0⟩ sb V)));refine Bw (ksr (M 1 (kld 0 4 V (M 1 (bnd h λQ0 Bgc h=>(E0 (T:=61) (kd:=.i64) (R:=(AQ 61)) V Bgc TO λB4m B5f Btn A3m Bxd=>?_))))));obtain ⟨Afa,Anj,rfl,Aq7⟩:=Eu 61 Btn;refine GV (off:=0) V A3m Bxd λBsa e208 B51=>?_;have e208:Elem _ Bsa [I Q0.kind,D Q0.text,I Q0.n,I Q0.at_,W Afa Q0.kids Anj]:=e208;refine FX V (by kernel_rfl) (by kernel_rfl) (by kernel_rfl) (by kernel_rfl) e208 (.tail _ (.tail _ (.head _))) (M 1 (G (Az h (λh=>?_) λh=>?_)));refine AO (M 2 (kld 0 4 V (M 1 (bnd h λSo Bgh h=>(E0 (T:=61) (kd:=.i64) (R:=(AQ 61)) V Bgh TO λB4p B5i Bto e213 B53=>?_)))));obtain ⟨Bxy,B13,rfl,Aq8⟩:=Eu 61 Bto;refine Ib V e213 (.tail _ (.tail _ (.head _))) (M 2 (Ay (Bb (Bb (Bb (bnd h λKs Bdz h=>(Ch (hR.De Bdz Aay Aaz Ws Aq8 TN) V trivial ?_)))))));rintro _ _ ⟨A79,A8a,Ayk,Bh8,A8b,Ayl,Bib,Aym,Bid,Wt,Bnt,Bnx,Bn0,rfl,rfl⟩;refine GW ?_;have Bn1:=AZ.mono TN Wt;have B3i:=RdR.mono Aq8 Wt;have Aa3:=RdR.mono TO Wt;have Bn2:=N.In.trans Aax Wt;exact knl (Bf (At (Ay (Ay (Ap (Ap (Bb (AG (Ks.1,Ks.2.1,Ks.2.2.1,Ks.2.2.2.1,Ks.2.2.2.2.1,Ks.2.2.2.2.2,A79,A8a,Ayk,Bh8,A8b,Ayl,Bib,Aym,Bid) ⟨h,Bn2,Bnt,Bnx,Bn0,Bn1,Aa3⟩ sb V))))))));refine AO (M 2 (kld 0 4 V (M 1 (bnd h λSq Bgm h=>(E0 (T:=61) (kd:=.i64) (R:=(AQ 61)) V Bgm TO λB4t B5k Btq e241 B6a=>?_)))));obtain ⟨Bx0,B18,rfl,Ara⟩:=Eu 61 Btq;refine Ib V e241 (.tail _ (.tail _ (.head _))) (M 1 (Ay (Bb (Bb (Bb (bnd h λNy Bea h=>(Ch (hR.F_ Bea Aay Aaz Ws Ara TN) V trivial ?_)))))));rintro _ _ ⟨h249,A8c,Afg,Anr,A8f,Ayo,Bie,TP,Aa4,Bn6,rfl,rfl⟩;refine GW ?_;have Bn7:=AZ.mono TN TP;have Arc:=RdR.mono Ara TP;have Bn9:=AZ.mono Ws TP;have Bob:=RdR.mono TO TP;have Boc:=N.In.trans Aax TP;exact knl (Bf (At (Ay (Ay (Ap (Ap (Bb (AG (Ny.1,Ny.2.1,OB,Oe,Ny.2.2.1,Ny.2.2.2,h249,A8c,Afg,Anr,A8f,Ayo,Bie,Aew,Am6) ⟨h,Boc,Aa4,Bn6,Bn9,Bn7,Bob⟩ sb V))))))));exact CP (BJ (BJ (CQ (Bf (At (Ar (AG (Rw,Rx,OB,Oe,Sm,Sn,A7s,A7t,Ayb,Bh1,A7u,Ayc,Bh4,Aew,Am6) ⟨h,Aax,Aay,Aaz,Ws,TN⟩ sb V)))))));refine ksr (M 2 (G (Az h (λh=>?_) λh=>?_)));refine ksr (M 2 (kld 0 4 V (bnd h λSr Bgn h=>(E0 (T:=61) (kd:=.i64) (R:=(AQ 61)) V Bgn BD λB4u B5l Btr e267 B6c=>?_))));obtain ⟨Bx8,B2j,rfl,Ari⟩:=Eu 61 Btr;refine Ib V e267 (.tail _ (.tail _ (.tail _ (.tail _ (.head _))))) (M 1 (Bb (Bb (Bb (Bb (bnd h λUm Bed h=>(Ch (hR.F_ Bed As BX Eh Ari Do) V trivial ?_)))))));rintro _ _ ⟨Bz3,Bz4,Byb,B2o,Bz5,Bye,B2q,PW,Bol,Bom,rfl,rfl⟩;refine GW ?_;have Wu:=AZ.mono Do PW;have B3k:=RdR.mono Ari PW;have Boo:=AZ.mono Eh PW;have Bop:=RdR.mono BD PW;have Boq:=N.In.trans (N.In.refl HP_) PW;refine E1 (M 2 (kld 4 4 V (Bb (Ar (bnd h λSu Bgr h=>(E0 (T:=61) (kd:=.i64) (R:=(AQ 61)) V Bgr Bop λB4y B5p Btu A3o B6f=>?_))))));obtain ⟨Byi,B2w,rfl,Arj⟩:=Eu 61 Btu;refine Ib V A3o (.tail _ (.tail _ (.tail _ (.head _)))) (M 1 (Ap (Ap (Ap (Ap (bnd h λKv Bek h=>(Ch (hR.De Bek Bol Bom Boo Arj Wu) V trivial ?_)))))));rintro _ _ ⟨V6,A8h,Ayp,Bih,A8i,Ayu,Bii,UN,VL,Aa5,Boz,Bo0,Aa7,rfl,rfl⟩;refine GW ?_;have Bo2:=AZ.mono Wu Aa5;have B3l:=RdR.mono Arj Aa5;have Bo3:=N.In.trans Boq Aa5;exact knl (Bf (At (Ay (Ay (Ap (Ap (AG (Kv.1,Kv.2.1,Kv.2.2.1,Kv.2.2.2.1,Kv.2.2.2.2.1,Kv.2.2.2.2.2,V6,A8h,Ayp,Bih,A8i,Ayu,Bii,UN,VL) ⟨h,Bo3,Boz,Bo0,Aa7,Bo2⟩ sb V)))))));refine ksr (M 2 (G (Az h (λh=>?_) λh=>?_)));refine ksr (M 2 (kld 0 4 V (M 1 (bnd h λApi Bbt h=>(Rq (T:=61) (R:=(AQ 61)) (xs:=Aw) 1 (Au (((Aw.length:Nat):Int) - 1)) V (by kernel_rfl) (by kernel_rfl) (by kernel_rfl) (.inr ⟨_,.i64,V,(by kernel_rfl)⟩) (.inr ⟨_,.i64,V,(by kernel_rfl)⟩) (by kernel_rfl) (by kernel_rfl) Bbt BD λXq Z9 Wv=>(M 1 (Bb (Bb (Bb (Bb (bnd h λOw Bep h=>(Ch (hR.DE Bep As BX Eh Wv Do) V trivial ?_))))))))))));rintro _ _ ⟨V7,Bz6,Ayw,Bij,Bz7,Byl,B2y,TQ,Bo9,Bpa,rfl,rfl⟩;refine GW ?_;have Arl:=AZ.mono Do TQ;have B3o:=RdR.mono Wv TQ;have Bpc:=AZ.mono Eh TQ;have Ww:=RdR.mono BD TQ;have Bpd:=N.In.trans (N.In.refl HP_) TQ;refine G (PG [(0,0),(1,0),(2,3),(3,0),(4,0),(5,3),(6,0),(7,3),(8,0),(9,0),(10,3),(11,0),(12,1)] (λw=>∃ (I0:Value),∃ (I1:Value),∃ (v2_:Value),EB [V7,bk b1 #[I AI,D AJ,I AF,I AP,W Bi Aw Bj] 61] w) (by kernel_rfl) (by kernel_rfl) (λ_ _ d _ _ h=>by cases d <;> exact h) (λw h_=>⟨W Ayw Ow.1 Bij,I Ow.2.2.1,I Ow.2.2.2,h_.sat.on _ (.tail _ (.tail _ (.tail _ (.head _)))),h_.sat.on _ (.tail _ (.tail _ (.tail _ (.tail _ (.head _))))),Aj⟩) ?_);simp only [DP,List.filterMap_cons,List.filterMap_nil,List.getElem?_toArray,List.getElem?_cons_zero,List.getElem?_cons_succ,Option.map_some,List.drop_succ_cons,List.drop_zero,AX,Bp];refine AA 2 (KS (v:=W Bi Aw Bj) [.val (W Bi Aw Bj)] [.ld ⟨b1,4,none⟩ (W Bi Aw Bj)] (by kernel_rfl) (by kernel_rfl) (by kernel_rfl) (λ_ h_=>h_.elim λI0 h_=>h_.elim λI1 h_=>h_.elim λv2_ h_=>⟨[V7,bk b1 #[I AI,D AJ,I AF,I AP,W Bi Aw Bj] 61],h_,⟨⟨1,_,_,_,V,V,V⟩,Aj⟩⟩) (AA 1 (bnd h λSv Bgs h=>(KU (T:=61) (kd:=.i64) (R:=(AQ 61)) V Bgs Ww λp339 B5q Btv A3p B6h=>?_))));obtain ⟨Bym,B20,rfl,Bpe⟩:=Eu 61 Btv;refine IC V A3p (λw h_=>h_.elim λI0 h_=>h_.elim λI1 h_=>h_.elim λv2_ h_=>h_.mem _ (.head _)) (AA 1 (KS (v:=.agg #[I AI,D AJ,I AF,I AP,W Bi Aw Bj]) [.val (I AI),.val (D AJ),.val (I AF),.val (I AP),.val (W Bi Aw Bj)] [.ld ⟨b1,0,none⟩ (I AI),.ld ⟨b1,1,none⟩ (D AJ),.ld ⟨b1,2,none⟩ (I AF),.ld ⟨b1,3,none⟩ (I AP),.ld ⟨b1,4,none⟩ (W Bi Aw Bj)] (by kernel_rfl) (by kernel_rfl) (by kernel_rfl) (λ_ h_=>h_.elim λI0 h_=>h_.elim λI1 h_=>h_.elim λv2_ h_=>⟨[V7,bk b1 #[I AI,D AJ,I AF,I AP,W Bi Aw Bj] 61],h_,⟨⟨1,_,_,_,V,V,V⟩,⟨1,_,_,_,V,V,V⟩,⟨1,_,_,_,V,V,V⟩,⟨1,_,_,_,V,V,V⟩,⟨1,_,_,_,V,V,V⟩,Aj⟩⟩) (AA 2 (KS (v:=W Bi Aw Bj) [.val (W Bi Aw Bj)] [.ld ⟨b1,4,none⟩ (W Bi Aw Bj)] (by kernel_rfl) (by kernel_rfl) (by kernel_rfl) (λ_ h_=>h_.elim λI0 h_=>h_.elim λI1 h_=>h_.elim λv2_ h_=>⟨[V7,bk b1 #[I AI,D AJ,I AF,I AP,W Bi Aw Bj] 61],h_,⟨⟨1,_,_,_,V,V,V⟩,Aj⟩⟩) (bnd h λApk Bbw h=>(Oc (T:=61) (R:=(AQ 61)) (xs:=Aw) 0 1 V (by kernel_rfl) (by kernel_rfl) (by kernel_rfl) (.inl ⟨V,V⟩) (.inr ⟨_,.i64,V,(by kernel_rfl)⟩) (by kernel_rfl) (by kernel_rfl) Bbw Ww λByo B21 Bpi=>(kpt (Al (Al (bnd h λOx Beq h=>(JC (Em.ok Beq Bo9 Ww Arl Bpi) V ⟨(.tail _ (.head _)),(.tail _ (.head _)),(.tail _ (.head _)),Aj⟩ ?_)))))))))));rintro _ _ ⟨B0b,Byq,B22,B0c,Ay0,Bil,Bpk,Bpl,rfl,rfl⟩;refine K_ (LF (λw h_=>⟨W Ay0 Ox.2.1 Bil,I Ox.2.2.1,I Ox.2.2.2,h_.sat.on _ (.tail _ (.tail _ (.tail _ (.tail _ (.head _))))),h_.sat.on _ (.tail _ (.tail _ (.tail _ (.tail _ (.tail _ (.head _)))))),Aj⟩) (BA (Bb (Al (Tq λB0d Bpm TR=>?_)))));have Arp:=AZ.mono (AL.rd Bpk) Bpm;have Bpo:=AZ.mono Arl TR;have Arq:=RdR.mono Bpe TR;have Bpp:=AZ.mono Bpc TR;have Bpq:=RdR.mono Ww TR;have Bpu:=N.In.trans Bpd TR;refine Ap (Ap (Ap (bnd h λKx Ber h=>(Ch (hR.De Ber Bpl Bpa Bpp Arq Arp) V trivial ?_))));rintro _ _ ⟨A8j,A8l,Ay1,Bim,A8m,Ay3,Bip,Ay4,Biq,TU,Bpv,Bpy,Bpz,rfl,rfl⟩;refine GW ?_;have Bp1:=AZ.mono Bpo TU;have B3r:=RdR.mono Arq TU;have B3t:=AZ.mono Arp TU;have B3u:=RdR.mono Bpq TU;have Bp6:=N.In.trans Bpu TU;exact Bb (Ar (knl (Bf (At (Ay (Ay (Ap (Ap (AG (Kx.1,Kx.2.1,Kx.2.2.1,Kx.2.2.2.1,Kx.2.2.2.2.1,Kx.2.2.2.2.2,A8j,A8l,Ay1,Bim,A8m,Ay3,Bip,Ay4,Biq) ⟨h,Bp6,Bpv,Bpy,Bpz,Bp1⟩ sb V)))))))));refine ksr (M 2 (G (Az h (λh=>?_) λh=>?_)));refine ksr (M 1 (BW 0 0 5 V (M 1 (kld 0 2 V (Al (bnd h λAbz Bes h=>(Bc (E5.ok Bes BD) V ⟨(.tail _ (.tail _ (.tail _ (.head _)))),Aj⟩ (AW (M 1 (BW 1 0 5 V (M 2 (kld 1 2 V (M 1 (bnd h λAb1 Beu h=>(Bc (E5.ok Beu BD) V ⟨(.tail _ (.tail _ (.tail _ (.head _)))),Aj⟩ (AW (M 2 (kld 1 4 V (M 1 (kld 1 2 V (M 1 (bnd h λApl Bbz h=>(Rq (T:=61) (R:=(AQ 61)) (xs:=Aw) AF (Au (((Aw.length:Nat):Int) - 1)) V (by kernel_rfl) (by kernel_rfl) (by kernel_rfl) (.inr ⟨_,.i64,V,(by kernel_rfl)⟩) (.inr ⟨_,.i64,V,(by kernel_rfl)⟩) (by kernel_rfl) (by kernel_rfl) Bbz BD λByt B23 Art=>(M 1 (Bb (Bb (Bb (Ap (bnd h λOy Bex h=>(Ch (hR.DE Bex As BX Eh Art Do) V trivial ?_))))))))))))))))))))))))))))));rintro _ _ ⟨SO,B0e,Ay5,Biu,B0f,Byu,B25,TV,Bp7,Bp9,rfl,rfl⟩;refine GW ?_;have Aru:=AZ.mono Do TV;have B3z:=RdR.mono Art TV;have Bqa:=AZ.mono Eh TV;have Wy:=RdR.mono BD TV;have Bqb:=N.In.trans (N.In.refl HP_) TV;refine G (PG [(0,0),(1,0),(2,3),(3,0),(4,0),(5,3),(6,0),(7,3),(8,0),(9,0),(10,3),(11,0),(12,3),(13,0),(14,1)] (λw=>∃ (I0:Value),∃ (I1:Value),∃ (v2_:Value),EB [SO,bk b1 #[I AI,D AJ,I AF,I AP,W Bi Aw Bj] 61] w) (by kernel_rfl) (by kernel_rfl) (λ_ _ d _ _ h=>by cases d <;> exact h) (λw h_=>⟨W Ay5 Oy.1 Biu,I Oy.2.2.1,I Oy.2.2.2,h_.sat.on _ (.tail _ (.tail _ (.tail _ (.head _)))),h_.sat.on _ (.tail _ (.tail _ (.tail _ (.tail _ (.head _))))),Aj⟩) ?_);simp only [DP,List.filterMap_cons,List.filterMap_nil,List.getElem?_toArray,List.getElem?_cons_zero,List.getElem?_cons_succ,Option.map_some,List.drop_succ_cons,List.drop_zero,AX,Bp];refine AA 2 (KS (v:=W Bi Aw Bj) [.val (W Bi Aw Bj)] [.ld ⟨b1,4,none⟩ (W Bi Aw Bj)] (by kernel_rfl) (by kernel_rfl) (by kernel_rfl) (λ_ h_=>h_.elim λI0 h_=>h_.elim λI1 h_=>h_.elim λv2_ h_=>⟨[SO,bk b1 #[I AI,D AJ,I AF,I AP,W Bi Aw Bj] 61],h_,⟨⟨1,_,_,_,V,V,V⟩,Aj⟩⟩) (AA 1 (bnd h λSw Bgu h=>(KU (T:=61) (kd:=.i64) (R:=(AQ 61)) V Bgu Wy λB4z B5s Bty A3q B6i=>?_))));obtain ⟨Byw,B26,rfl,Bqc⟩:=Eu 61 Bty;refine IC V A3q (λw h_=>h_.elim λI0 h_=>h_.elim λI1 h_=>h_.elim λv2_ h_=>h_.mem _ (.head _)) (AA 1 (KS (v:=.agg #[I AI,D AJ,I AF,I AP,W Bi Aw Bj]) [.val (I AI),.val (D AJ),.val (I AF),.val (I AP),.val (W Bi Aw Bj)] [.ld ⟨b1,0,none⟩ (I AI),.ld ⟨b1,1,none⟩ (D AJ),.ld ⟨b1,2,none⟩ (I AF),.ld ⟨b1,3,none⟩ (I AP),.ld ⟨b1,4,none⟩ (W Bi Aw Bj)] (by kernel_rfl) (by kernel_rfl) (by kernel_rfl) (λ_ h_=>h_.elim λI0 h_=>h_.elim λI1 h_=>h_.elim λv2_ h_=>⟨[SO,bk b1 #[I AI,D AJ,I AF,I AP,W Bi Aw Bj] 61],h_,⟨⟨1,_,_,_,V,V,V⟩,⟨1,_,_,_,V,V,V⟩,⟨1,_,_,_,V,V,V⟩,⟨1,_,_,_,V,V,V⟩,⟨1,_,_,_,V,V,V⟩,Aj⟩⟩) (AA 2 (KS (v:=W Bi Aw Bj) [.val (W Bi Aw Bj)] [.ld ⟨b1,4,none⟩ (W Bi Aw Bj)] (by kernel_rfl) (by kernel_rfl) (by kernel_rfl) (λ_ h_=>h_.elim λI0 h_=>h_.elim λI1 h_=>h_.elim λv2_ h_=>⟨[SO,bk b1 #[I AI,D AJ,I AF,I AP,W Bi Aw Bj] 61],h_,⟨⟨1,_,_,_,V,V,V⟩,Aj⟩⟩) (AA 1 (KS (v:=I AF) [.val (I AF)] [.ld ⟨b1,2,none⟩ (I AF)] (by kernel_rfl) (by kernel_rfl) (by kernel_rfl) (λ_ h_=>h_.elim λI0 h_=>h_.elim λI1 h_=>h_.elim λv2_ h_=>⟨[SO,bk b1 #[I AI,D AJ,I AF,I AP,W Bi Aw Bj] 61],h_,⟨⟨1,_,_,_,V,V,V⟩,Aj⟩⟩) (bnd h λApm Bb3 h=>(Oc (T:=61) (R:=(AQ 61)) (xs:=Aw) 0 AF V (by kernel_rfl) (by kernel_rfl) (by kernel_rfl) (.inl ⟨V,V⟩) (.inr ⟨_,.i64,V,(by kernel_rfl)⟩) (by kernel_rfl) (by kernel_rfl) Bb3 Wy λByx B27 Bqe=>(kpt (Al (Al (bnd h λOz Bey h=>(JC (Em.ok Bey Bp7 Wy Aru Bqe) V ⟨(.tail _ (.head _)),(.tail _ (.head _)),(.tail _ (.head _)),Aj⟩ ?_)))))))))))));rintro _ _ ⟨B0h,Byz,B3a,B0i,Ay7,Biv,Bqi,Bqj,rfl,rfl⟩;refine K_ (LF (λw h_=>⟨W Ay7 Oz.2.1 Biv,I Oz.2.2.1,I Oz.2.2.2,h_.sat.on _ (.tail _ (.tail _ (.tail _ (.tail _ (.head _))))),h_.sat.on _ (.tail _ (.tail _ (.tail _ (.tail _ (.tail _ (.head _)))))),Aj⟩) (BA (Bb (Al (Tq λB0j Bqk TW=>?_)))));have Arv:=AZ.mono (AL.rd Bqi) Bqk;have Bql:=AZ.mono Aru TW;have Arw:=RdR.mono Bqc TW;have Bqr:=AZ.mono Bqa TW;have Bqv:=RdR.mono Wy TW;have Bqw:=N.In.trans Bqb TW;refine Ap (Ap (Ap (bnd h λKy Bez h=>(Ch (hR.De Bez Bqj Bp9 Bqr Arw Arv) V trivial ?_))));rintro _ _ ⟨A8n,A8o,Ay9,Biw,A8r,Aza,Bix,Azc,Biy,TY,Bq0,Bq1,Bq5,rfl,rfl⟩;refine GW ?_;have Bq6:=AZ.mono Bql TY;have B30:=RdR.mono Arw TY;have B31:=AZ.mono Arv TY;have B34:=RdR.mono Bqv TY;have Bq8:=N.In.trans Bqw TY;exact Bb (Ar (knl (Bf (At (Ay (Ay (Ap (Ap (AG (Ky.1,Ky.2.1,Ky.2.2.1,Ky.2.2.2.1,Ky.2.2.2.2.1,Ky.2.2.2.2.2,A8n,A8o,Ay9,Biw,A8r,Aza,Bix,Azc,Biy) ⟨h,Bq8,Bq0,Bq1,Bq5,Bq6⟩ sb V)))))))));refine ksr (M 2 (G (Az h (λh=>?_) λh=>?_)));refine AO (M 2 (kld 0 4 V (Ar (bnd h λSx Bgy h=>(E0 (T:=61) (kd:=.i64) (R:=(AQ 61)) V Bgy BD λB41 B5t Btz A3t B6j=>?_)))));obtain ⟨By0,B3c,rfl,Arx⟩:=Eu 61 Btz;refine Ib V A3t (.tail _ (.tail _ (.tail _ (.head _)))) (M 2 (Ap (Ap (Ap (Ap (bnd h λK0 Be0 h=>(Ch (hR.De Be0 As BX Eh Arx Do) V trivial ?_)))))));rintro _ _ ⟨A8s,A8u,Aze,Bi2,A8v,Azh,Bi3,Azi,Bi4,Aa8,Brb,Brd,Brk,rfl,rfl⟩;refine GW ?_;have Brm:=AZ.mono Do Aa8;have B36:=RdR.mono Arx Aa8;have Brn:=N.In.trans (N.In.refl HP_) Aa8;exact knl (Bf (At (Ay (Ay (Ap (Ap (AG (K0.1,K0.2.1,K0.2.2.1,K0.2.2.2.1,K0.2.2.2.2.1,K0.2.2.2.2.2,A8s,A8u,Aze,Bi2,A8v,Azh,Bi3,Azi,Bi4) ⟨h,Brn,Brb,Brd,Brk,Brm⟩ sb V)))))));refine ksr (M 2 (G (Az h (λh=>?_) λh=>?_)));refine ksr (M 2 (G (Az h (λh=>?_) λh=>?_)));exact AO (M 2 (kld 0 3 V (Ar (bnd h λUn Be1 h=>(Bc (GE.ok Be1) V trivial (knl (Bf (At (Ay (Ay (Ap (Ap (AG (Ai,Ak,Ax,Br,Un.1,Un.2,HP_,AH,Am,An,B9,Bt,Bv,Dn,Dp) ⟨h,(N.In.refl HP_),As,BX,Eh,Do⟩ sb V)))))))))))));exact AK (Bf (At (Ar (Ay (Ay (Ap (Ap (AG (Ai,Ak,Ax,Br,Be,BC,HP_,AH,Am,An,B9,Bt,Bv,Dn,Dp) ⟨h,(N.In.refl HP_),As,BX,Eh,Do⟩ sb V))))))));refine ksr (M 2 (G (Az h (λh=>?_) λh=>?_)));refine ksr (M 1 (BW 0 0 5 V (M 1 (kld 0 4 V (M 1 (Al (bnd h λAb4 Be4 h=>(Bc (E5.ok Be4 BD) V ⟨(.tail _ (.tail _ (.tail _ (.head _)))),Aj⟩ (E1 (M 2 (kld 1 4 V (Al (Ar (M 1 (Ap (Ap (Ap (Ap (bnd h λNz Be6 h=>(Ch (hR.DE Be6 As BX Eh BD Do) V trivial ?_))))))))))))))))))));rintro _ _ ⟨A8w,A8x,Azj,Bi6,A8z,Azk,Bi8,Wz,Brq,Brr,rfl,rfl⟩;refine GW ?_;have Brs:=AZ.mono Do Wz;have B37:=RdR.mono BD Wz;have Brt:=AZ.mono Eh Wz;have Brv:=N.In.trans (N.In.refl HP_) Wz;exact knl (Bf (At (Ay (Ay (Ap (Ap (AG (Nz.1,Nz.2.1,Ax,Br,Nz.2.2.1,Nz.2.2.2,A8w,A8x,Azj,Bi6,A8z,Azk,Bi8,Dn,Dp) ⟨h,Brv,Brq,Brr,Brt,Brs⟩ sb V)))))));exact AK (Bf (At (Ar (Ay (Ay (Ap (Ap (AG (Ai,Ak,Ax,Br,Be,BC,HP_,AH,Am,An,B9,Bt,Bv,Dn,Dp) ⟨h,(N.In.refl HP_),As,BX,Eh,Do⟩ sb V))))))))
def Iw.g (Rc:RC) (k:Nat) (Ai:Bg) (Ak:Av) (Ax:Int) (Br:Av) (Be:Int) (BC:Int) (AI:Int) (AJ:Ah) (AF:Int) (AP:Int) (Aw:List Tree) (a2:Av):Option (Bg×Av×Int×Av×Int×Int):=(E5.f k Be BC AI AJ AF AP Aw ((Ai.length:Nat):Int) 100).bind λr2=>AN (λ(x3:Int) (x4:Int)=>(E5.f k x3 x4 AI AJ AF AP Aw AF 50).bind λr6=>(Mx.f k Ak AJ).bind λr7=>(apd 64 Ai [(AJ,AP,AF,0,[])]).bind λl15=>(B5 Aw AF).bind λx20=>(Fl Aw 0 AF).bind λl29=>(Em.f k l15 ((Ai.length:Nat):Int) r6.1 r6.2 AI AJ AF AP Aw ([]) l29 0).bind λr33=>(Rc.De r33.2.1 r7 ((Ai.length:Nat):Int) a2 r33.2.2.1 r33.2.2.2 x20.kind x20.text x20.n x20.at_ x20.kids r33.1 false).bind λr50=>some (r50.1,r50.2.1,0,[],r50.2.2.2.2.1,r50.2.2.2.2.2)) (λJ5=>(Kq.f k AJ).bind λr69=>cond r69 ((GE.f k r2.1 r2.2 5 AP).bind λr71=>J5 r71.1 r71.2) (J5 r2.1 r2.2))
theorem Iw.Ck {Rc:RC} (hR:Rc.Good) {k:Nat}:Iw.C (Iw.g Rc k):=by
 intro Ai Ak Br a2 Ax Be BC AI AF AP AJ Aw HP_ AH B9 b0 An Bv Dp Bj CN Am Bt Dn Bi CM r h As BX Eh BD Do;refine BM Tryz.func67 V (AV V) ?_;intro A X hh_;unfold Iw.g at h;refine ksr (knp #[I AI,D AJ,I AF,I AP,W Bi Aw Bj] 61 λb1=>(G (AR (kpr [(0,0),(1,3),(2,0),(3,0),(4,0),(5,0),(6,3),(7,0)] [0,1] (AA 1 (E2 0 0 5 V (AA 4 (Bn 1 0 V (AA 1 (BA (Al (bnd h λr2 hr2 h=>(Bc (E5.ok hr2 BD) V ⟨(.tail _ (.tail _ (.tail _ (.head _)))),Aj⟩ (G ?_))))))))))))));obtain ⟨J5,hJ5,h⟩:=BF h;refine BG (τ:=Int×Int) (λt=>[(0,pt b0),(2,W CM a2 CN),(4,pt b1)]) (λt=>bk b0 #[W Am Ai An,W Bt Ak Bv,I Ax,W Dn Br Dp,I t.1,I t.2] 67 :: bk b1 #[I AI,D AJ,I AF,I AP,W Bi Aw Bj] 61 :: AH :: B9 :: HP_ :: X) (λt=>J5 t.1 t.2=some r) ?_ ?_;rintro ⟨x3,x4⟩ h;subst hJ5;refine ksr (M 1 (BW 1 0 5 V (M 1 (kld 1 2 V (bnd h λr6 LA h=>(Bc (E5.ok LA BD) V ⟨(.tail _ (.tail _ (.tail _ (.head _)))),Aj⟩ (AW (M 2 (kld 1 1 V (Ap (Al (bnd h λr7 hr7 h=>(Ch (Mx.ok hr7 BX) V trivial ?_)))))))))))));rintro _ _ ⟨h8,A9,k10,Ii,rfl,rfl⟩;refine BI (AW (M 4 (AC 3 1 #[W Am Ai An,W A9 r7 k10,I Ax,W CM a2 CN,I r6.1,I r6.2] (AW (M 5 (kld 0 0 V (M 3 (AC 2 1 #[W Am Ai An,W A9 r7 k10,I ((Ai.length:Nat):Int),W CM a2 CN,I r6.1,I r6.2] (G (AR (kpr [(0,0),(1,0),(2,0),(3,0),(4,0),(5,3),(6,0),(7,3),(8,0),(9,3),(10,0),(11,3),(12,0),(13,1)] [0,2] (AA 5 (Bn 0 0 V (AA 1 (Bn 1 1 V (AA 1 (Bn 1 3 V (AA 1 (Bn 1 2 V (AA 1 (kpt (Gi #[D AJ,I AP,I AF,I 0,nS] 68 1 λb12=>(Cs [1,3] V (BA (C6 (Al (Cr (T:=68) (n:=1) (xs:=[(AJ,AP,AF,0,[])]) (B7.one (Aci (x:=(AJ,AP,AF,0,[])) (AL.nil e43 43 3 none_))) V V (AV V) λh13 Je=>(Bb (bnd h λl15 Bbl h=>(Dr V A4x V Bbl As Je λh16 En k18 o19=>(M 3 (Al (AC 0 1 #[W En l15 k18,W A9 r7 k10,I ((Ai.length:Nat):Int),W CM a2 CN,I r6.1,I r6.2] (G (AR (PG [(0,0),(1,0),(2,3),(3,0),(4,3),(5,0),(6,3),(7,0),(8,3),(9,0),(10,3),(11,0),(12,3),(13,0),(14,1)] (λw=>∃ (I0:Value),∃ (I1:Value),∃ (v2_:Value),EB [bk b1 #[I AI,D AJ,I AF,I AP,W Bi Aw Bj] 61,HP_] w) (by kernel_rfl) (by kernel_rfl) (λ_ _ d _ _ h=>by cases d <;> exact h) (λw h_=>⟨W En l15 k18,I r6.1,I r6.2,h_.sat.on _ (.tail _ (.tail _ (.tail _ (.head _)))),h_.sat.on _ (.tail _ (.tail _ (.tail _ (.tail _ (.head _))))),Aj⟩) ?_))))))))))))))))))))))))))))))))))));simp only [DP,List.filterMap_cons,List.filterMap_nil,List.getElem?_toArray,List.getElem?_cons_zero,List.getElem?_cons_succ,Option.map_some,List.drop_succ_cons,List.drop_zero,AX,Bp];refine AA 2 (KS (v:=W Bi Aw Bj) [.val (W Bi Aw Bj)] [.ld ⟨b1,4,none⟩ (W Bi Aw Bj)] (by kernel_rfl) (by kernel_rfl) (by kernel_rfl) (λ_ h_=>h_.elim λI0 h_=>h_.elim λI1 h_=>h_.elim λv2_ h_=>⟨[bk b1 #[I AI,D AJ,I AF,I AP,W Bi Aw Bj] 61,HP_],h_,⟨⟨0,_,_,_,V,V,V⟩,Aj⟩⟩) (AA 1 (KS (v:=I AF) [.val (I AF)] [.ld ⟨b1,2,none⟩ (I AF)] (by kernel_rfl) (by kernel_rfl) (by kernel_rfl) (λ_ h_=>h_.elim λI0 h_=>h_.elim λI1 h_=>h_.elim λv2_ h_=>⟨[bk b1 #[I AI,D AJ,I AF,I AP,W Bi Aw Bj] 61,HP_],h_,⟨⟨0,_,_,_,V,V,V⟩,Aj⟩⟩) (bnd h λx20 Bge h=>(KU (T:=61) (kd:=.i64) (R:=(AQ 61)) V Bge BD λp21 u24 q25 e22 y23=>?_)))));obtain ⟨A26,k27,rfl,Jf⟩:=Eu 61 q25;refine IC V e22 (λw h_=>h_.elim λI0 h_=>h_.elim λI1 h_=>h_.elim λv2_ h_=>h_.mem _ (.tail _ (.head _))) (AA 1 (KS (v:=.agg #[I AI,D AJ,I AF,I AP,W Bi Aw Bj]) [.val (I AI),.val (D AJ),.val (I AF),.val (I AP),.val (W Bi Aw Bj)] [.ld ⟨b1,0,none⟩ (I AI),.ld ⟨b1,1,none⟩ (D AJ),.ld ⟨b1,2,none⟩ (I AF),.ld ⟨b1,3,none⟩ (I AP),.ld ⟨b1,4,none⟩ (W Bi Aw Bj)] (by kernel_rfl) (by kernel_rfl) (by kernel_rfl) (λ_ h_=>h_.elim λI0 h_=>h_.elim λI1 h_=>h_.elim λv2_ h_=>⟨[bk b1 #[I AI,D AJ,I AF,I AP,W Bi Aw Bj] 61,HP_],h_,⟨⟨0,_,_,_,V,V,V⟩,⟨0,_,_,_,V,V,V⟩,⟨0,_,_,_,V,V,V⟩,⟨0,_,_,_,V,V,V⟩,⟨0,_,_,_,V,V,V⟩,Aj⟩⟩) (AA 1 (KS (v:=W Bi Aw Bj) [.val (W Bi Aw Bj)] [.ld ⟨b1,4,none⟩ (W Bi Aw Bj)] (by kernel_rfl) (by kernel_rfl) (by kernel_rfl) (λ_ h_=>h_.elim λI0 h_=>h_.elim λI1 h_=>h_.elim λv2_ h_=>⟨[bk b1 #[I AI,D AJ,I AF,I AP,W Bi Aw Bj] 61,HP_],h_,⟨⟨0,_,_,_,V,V,V⟩,Aj⟩⟩) (AA 1 (KS (v:=I AF) [.val (I AF)] [.ld ⟨b1,2,none⟩ (I AF)] (by kernel_rfl) (by kernel_rfl) (by kernel_rfl) (λ_ h_=>h_.elim λI0 h_=>h_.elim λI1 h_=>h_.elim λv2_ h_=>⟨[bk b1 #[I AI,D AJ,I AF,I AP,W Bi Aw Bj] 61,HP_],h_,⟨⟨0,_,_,_,V,V,V⟩,Aj⟩⟩) (bnd h λl29 Y3 h=>(Oc (T:=61) (R:=(AQ 61)) (xs:=Aw) 0 AF V (by kernel_rfl) (by kernel_rfl) (by kernel_rfl) (.inl ⟨V,V⟩) (.inr ⟨_,.i64,V,(by kernel_rfl)⟩) (by kernel_rfl) (by kernel_rfl) Y3 BD λFR k31 o32=>(kpt (C6 (Ay (Ay (bnd h λr33 SW h=>(JC (Em.ok SW o19 BD (AZ.nil encS 1 none_) o32) V ⟨(.tail _ (.tail _ (.tail _ (.head _)))),(.head _),(.tail _ (.tail _ (.tail _ (.head _)))),Aj⟩ ?_))))))))))))));rintro _ _ ⟨h34,A35,J0,h38,A39,Jc,GZ,o41,rfl,rfl⟩;refine K_ (LF (λw h_=>⟨W A39 r33.2.1 Jc,I r33.2.2.1,I r33.2.2.2,h_.sat.on _ (.tail _ (.tail _ (.tail _ (.tail _ (.tail _ (.head _)))))),h_.sat.on _ (.tail _ (.tail _ (.tail _ (.tail _ (.tail _ (.tail _ (.head _))))))),Aj⟩) (BA (BH (Al (Tq λh42 G_ Lb=>?_)))));have IK:=AZ.mono (AL.rd GZ) G_;have LN:=RdR.mono Jf Lb;have Ni:=AZ.mono Do Lb;have Lc:=RdR.mono BD Lb;have o49:=N.In.trans (N.In.refl HP_) Lb;refine Bb (Ap (Ap (bnd h λr50 SX h=>(Ch (hR.De SX o41 Ii Ni LN IK) V trivial ?_))));rintro _ _ ⟨h51,h53,NB,NX,h57,GK,k59,Sz,k63,IL,RB,o60,Nk,rfl,rfl⟩;refine GW ?_;have Nl:=RdR.mono LN IL;have o66:=AZ.mono IK IL;have o67:=RdR.mono Lc IL;have PY:=N.In.trans o49 IL;refine Bb (Ar (Bb (Ar (E1 (M 4 (AC 2 1 #[W NB r50.1 NX,W GK r50.2.1 k59,I 0,W Sz r50.2.2.2.1 k63,I r50.2.2.2.2.1,I r50.2.2.2.2.2] (M 2 (AC 3 1 #[W NB r50.1 NX,W GK r50.2.1 k59,I 0,nS,I r50.2.2.2.2.1,I r50.2.2.2.2.2] (knl (Dw ?_))))))))));obtain rfl:=Ao h;exact kdv (.tuple #[]) [bk b0 #[W NB r50.1 NX,W GK r50.2.1 k59,I 0,nS,I r50.2.2.2.2.1,I r50.2.2.2.2.2] 67,h53,h57,h51] (B3 ⟨h51,h53,NB,NX,h57,GK,k59,none,0,PY,RB,o60,(AZ.nil encS 1 h51),V,V⟩);refine ksr (M 1 (kld 1 1 V (bnd h λr69 hr69 h=>(CI (Kq.ok hr69) trivial (G (Az h (λh=>?_) λh=>?_))))));exact AO (M 2 (kld 1 3 V (bnd h λr71 Tb h=>(Bc (GE.ok Tb) V trivial (G (AG (r71.1,r71.2) h sb V))))));exact AK (At (AG (r2.1,r2.2) h sb V))
def DE.l0:Nat->(Rc:RC)->(Ax:Int)->(Br:Av)->(a1:List Tree)->(a2:Av)->(x3:Int)->(l4:Bg)->(l9:Av)->(x14:Int)->(x15:Int)->Option (Bg×Av×Int×Int)
 | 0,_,_,_,_,_,_,_,_,_,_=>none
 | m19+1,Rc,Ax,Br,a1,a2,x3,l4,l9,x14,x15=>cond (decide (x3 < ((a1.length:Nat):Int))) ((B5 a1 x3).bind λx21=>(Rc.F_ l4 l9 Ax Br x14 x15 x21.kind x21.text x21.n x21.at_ x21.kids a2 false).bind λDj=>DE.l0 m19 Rc Ax Br a1 a2 (Au (x3+1)) Dj.1 Dj.2.1 Dj.2.2.1 Dj.2.2.2) (some (l4,l9,x14,x15))
def DE.g (Rc:RC) (k:Nat) (Ai:Bg) (Ak:Av) (Ax:Int) (Br:Av) (Be:Int) (BC:Int) (a1:List Tree) (a2:Av):Option (Bg×Av×Int×Int):=DE.l0 k Rc Ax Br a1 a2 0 Ai Ak Be BC
theorem DE.Ck {Rc:RC} (hR:Rc.Good) {k:Nat}:DE.C (DE.g Rc k):=by
 intro Ai Ak Br a2 Ax Be BC a1 HP_ AH B9 b0 An Bv Dp Hp CN Am Bt Dn Hm CM r h As BX Eh ME Do;refine BM Tryz.func69 V (AV V) ?_;intro A X hh_;unfold DE.g at h;refine ksr (M 1 (G (Bw (Ay (Ay (Ap (Ap (Db (τ:=Int×Bg×Av×Int×Int×N×N×AD×Nat×N×AD×Nat) (λt=>[(0,pt b0),(1,W Hm a1 Hp),(2,W CM a2 CN),(6,I t.1)]) (λt=>bk b0 #[W t.2.2.2.2.2.2.2.1 t.2.1 t.2.2.2.2.2.2.2.2.1,W t.2.2.2.2.2.2.2.2.2.2.1 t.2.2.1 t.2.2.2.2.2.2.2.2.2.2.2,I Ax,W Dn Br Dp,I t.2.2.2.1,I t.2.2.2.2.1] 67 :: t.2.2.2.2.2.1 :: t.2.2.2.2.2.2.1 :: t.2.2.2.2.2.2.2.2.2.1 :: X) (λm t=>DE.l0 m Rc Ax Br a1 a2 t.1 t.2.1 t.2.2.1 t.2.2.2.1 t.2.2.2.2.1=some r/\HP_.In t.2.2.2.2.2.1/\AM DR 68 t.2.2.2.2.2.2.1 (W t.2.2.2.2.2.2.2.1 t.2.1 t.2.2.2.2.2.2.2.2.1) t.2.1/\AL encS 9 1 t.2.2.2.2.2.2.2.2.2.1 (W t.2.2.2.2.2.2.2.2.2.2.1 t.2.2.1 t.2.2.2.2.2.2.2.2.2.2.2) t.2.2.1/\RdR (AQ 61) t.2.2.2.2.2.1 (W Hm a1 Hp) a1/\AZ encS 1 t.2.2.2.2.2.1 (W CM a2 CN) a2/\AZ encS 1 t.2.2.2.2.2.1 (W Dn Br Dp) Br) k (0,Ai,Ak,Be,BC,HP_,AH,Am,An,B9,Bt,Bv) ⟨h,(N.In.refl HP_),As,BX,ME,Do,Eh⟩ sb V ?_))))))));clear h;rintro m19 ⟨x3,l4,l9,x14,x15,h1,h5,A6,k7,h10,KA,k12⟩ ⟨h,o2,o8,Nh,o16,o17,Gx⟩;rcases m19 with _ | m19;simp [DE.l0] at h;simp only [DE.l0] at h;refine AR (ksr (M 4 (G (Az h (λh=>?_) λh=>?_))));refine AK (At (AR (Bw (AO (M 3 (bnd h λx21 Bgg h=>(E0 (T:=61) (kd:=.i64) (R:=(AQ 61)) V Bgg o16 λp22 u25 q26 e23 y24=>?_)))))));obtain ⟨A27,k28,rfl,o29⟩:=Eu 61 q26;refine Ib V e23 (.tail _ (.head _)) (M 1 (Al (Ap (Ap (Ap (bnd h λDj SV h=>(Ch (hR.F_ SV o8 Nh Gx o29 o17) V trivial ?_)))))));rintro _ _ ⟨h31,h33,A34,M_,h37,N9,k39,o32,LL,LM,rfl,rfl⟩;refine GW ?_;have o41:=RdR.mono o16 o32;have Ot:=AZ.mono o17 o32;have G_:=RdR.mono o29 o32;have Lb:=AZ.mono Gx o32;have IK:=N.In.trans o2 o32;exact knl (Bf (At (AO (M 3 (G (Ay (Ay (Ap (Ap (C5 m19 (Au (x3+1),Dj.1,Dj.2.1,Dj.2.2.1,Dj.2.2.2,h31,h33,A34,M_,h37,N9,k39) (Nat.lt_succ_self _) ⟨h,IK,LL,LM,o41,Ot,Lb⟩ sb V))))))))));refine CP (BJ (BJ (CQ (Dw ?_))));obtain rfl:=Ao h;exact kdv (.tuple #[]) [bk b0 #[W A6 l4 k7,W KA l9 k12,I Ax,W Dn Br Dp,I x14,I x15] 67,h5,h10,h1] (Al (Ap (Ap (Ap (B3 ⟨h1,h5,A6,k7,h10,KA,k12,o2,o8,Nh,V,V⟩)))))
def F_.g (Rc:RC) (k:Nat) (Ai:Bg) (Ak:Av) (Ax:Int) (Br:Av) (Be:Int) (BC:Int) (AI:Int) (AJ:Ah) (AF:Int) (AP:Int) (Aw:List Tree) (a2:Av) (a3:Bool):Option (Bg×Av×Int×Int):=cond (Be != 0) (some (Ai,Ak,Be,BC)) (AN (λ(l3:Bg) (l8:Av) (CX:Int) (x14:Int)=>(Rc.DE l3 l8 Ax Br CX x14 Aw a2).bind λr16=>some (r16.1,r16.2.1,r16.2.2.1,r16.2.2.2)) (λJ15=>cond (AI == 8) ((E5.f k Be BC AI AJ AF AP Aw (Au (((Aw.length:Nat):Int) - 1)) 50).bind λr32=>J15 Ai Ak r32.1 r32.2) (cond (AI == 12) ((E5.f k Be BC AI AJ AF AP Aw ((Aw.length:Nat):Int) 200).bind λr34=>J15 Ai Ak r34.1 r34.2) (cond (AI == 4) ((Ui.f k AF).bind λr36=>(Hd.f k Ai Ax Be BC AI AJ AF AP Aw r36.1 r36.2.1 r36.2.2).bind λDV=>J15 DV.1 Ak DV.2.1 DV.2.2) (cond (AI == 5) ((Uj.f k AJ).bind λD5=>(Hd.f k Ai Ax Be BC AI AJ AF AP Aw D5.1 D5.2.1 D5.2.2).bind λr44=>J15 r44.1 Ak r44.2.1 r44.2.2) (cond (AI == 6) (((Kq.f k AJ).bind λr60=>cond r60 (some true) ((G0.f k a2 AJ).bind λr62=>cond (!r62) ((G0.f k Br AJ).bind λr64=>some r64) (some false)):Option Bool).bind λq50=>cond q50 ((GE.f k Be BC 5 AP).bind λr52=>J15 Ai Ak r52.1 r52.2) ((G0.f k a2 AJ).bind λr53=>cond (!r53) ((Mx.f k Ak AJ).bind λr55=>J15 Ai r55 Be BC) (J15 Ai Ak Be BC))) (cond (AI == 7) (((B5 Aw 0).bind λx115=>cond (x115.kind == 6) ((B5 Aw 0).bind λSj=>(Kq.f k Sj.text).bind λAsy=>some Asy) (some false):Option Bool).bind λq66=>cond q66 (AN (λ(x68:Int) (x69:Int)=>some (Ai,Ak,x68,x69)) (λUZ=>(cond a3 (some true) ((B5 Aw 1).bind λx75=>cond (x75.kind != 5) (some true) ((B5 Aw 0).bind λx88=>(O1 x88.text (⟨#[46]⟩:Ah)).bind λAul:Ah=>(B5 Aw 1).bind λx101=>(O1 Aul x101.text).bind λAun:Ah=>(IP.f k Aun).bind λAsu=>some (Asu == 0))):Option Bool).bind λq71=>cond q71 ((GE.f k Be BC 5 AP).bind λr73=>UZ r73.1 r73.2) (UZ Be BC))) (J15 Ai Ak Be BC)) (J15 Ai Ak Be BC))))))))
theorem F_.Ck {Rc:RC} (hR:Rc.Good) {k:Nat}:F_.C (F_.g Rc k):=by
 intro Ai Ak Br a2 Ax Be BC AI AF AP AJ Aw a3 HP_ AH B9 b0 An Bv Dp Bj CN Am Bt Dn Bi CM r h As BX Eh BD Do;refine BM Tryz.func71 V (AV V) ?_;intro A X hh_;unfold F_.g at h;refine ksr (knp #[I AI,D AJ,I AF,I AP,W Bi Aw Bj] 61 λb1=>(G (AR (ksr (M 4 (kld 1 4 V (M 1 (G (Az h (λh=>?_) λh=>?_)))))))));refine Ba (Bm ?_);obtain rfl:=Ao h;exact kdv (.tuple #[]) [bk b0 #[W Am Ai An,W Bt Ak Bv,I Ax,W Dn Br Dp,I Be,I BC] 67,AH,B9,HP_] (Ar (B3 ⟨HP_,AH,Am,An,B9,Bt,Bv,(N.In.refl HP_),As,BX,V,V⟩));refine AK (At ?_);obtain ⟨J15,Yl,h⟩:=BF h;refine BG (τ:=Bg×Av×Int×Int×N×AD×Nat×N×AD×Nat) (λt=>[(0,pt b0),(2,W CM a2 CN),(5,pt b1)]) (c10 λa b c d e f g i j l=>bk b1 #[I AI,D AJ,I AF,I AP,W Bi Aw Bj] 61 :: bk b0 #[W f a g,W j b l,I Ax,W Dn Br Dp,I c,I d] 67 :: HP_ :: e :: i :: X) (c10 λa b c d e f g i j l=>J15 a b c d=some r/\AM DR 68 e (W f a g) a/\AL encS 9 1 i (W j b l) b) ?_ ?_;rintro ⟨l3,l8,CX,x14,h4,A5,k6,h9,Gd,k11⟩ ⟨h,o7,Ij⟩;subst Yl;refine AO (M 2 (kld 0 4 V (Ar (M 1 (Al (Ap (Ap (Ap (bnd h λr16 L6 h=>(Ch (hR.DE L6 o7 Ij Eh BD Do) V trivial ?_))))))))));rintro _ _ ⟨h17,h19,A20,k21,h23,G3,k25,Gx,II,Km,rfl,rfl⟩;refine GW ?_;have Kn:=RdR.mono BD Gx;have Jf:=AZ.mono Do Gx;have o29:=AZ.mono Eh Gx;have LK:=N.In.trans (N.In.refl HP_) Gx;refine knl (Dw ?_);obtain rfl:=Ao h;exact kdv (.tuple #[]) [bk b0 #[W A20 r16.1 k21,W G3 r16.2.1 k25,I Ax,W Dn Br Dp,I r16.2.2.1,I r16.2.2.2] 67,h19,h23,h17] (B3 ⟨h17,h19,A20,k21,h23,G3,k25,LK,II,Km,V,V⟩);refine ksr (M 1 (kld 0 0 V (G (Bw (ksr (M 2 (G (Az h (λh=>?_) λh=>?_))))))));exact AO (M 1 (BW 0 0 5 V (M 1 (kld 0 4 V (M 2 (Al (bnd h λr32 Pv h=>(Bc (E5.ok Pv BD) V ⟨(.tail _ (.tail _ (.tail _ (.head _)))),Aj⟩ (knl (Bf (At (Ap (Ap (Bb (Ap (Bb (AG (Ai,Ak,r32.1,r32.2,AH,Am,An,B9,Bt,Bv) ⟨h,As,BX⟩ sb V)))))))))))))))));refine ksr (M 2 (G (Az h (λh=>?_) λh=>?_)));exact AO (M 1 (BW 0 0 5 V (M 1 (kld 0 4 V (M 1 (Al (bnd h λr34 YY h=>(Bc (E5.ok YY BD) V ⟨(.tail _ (.tail _ (.tail _ (.head _)))),Aj⟩ (knl (Bf (At (Ap (Ap (Bb (Ap (Bb (AG (Ai,Ak,r34.1,r34.2,AH,Am,An,B9,Bt,Bv) ⟨h,As,BX⟩ sb V)))))))))))))))));refine ksr (M 2 (G (Az h (λh=>?_) λh=>?_)));refine kpr [(0,0),(1,3),(2,0),(3,3),(4,1)] [0] (AA 1 (E2 0 0 5 V (AA 1 (Bn 0 2 V (kpt (bnd h λr36 GO h=>(ocv (Ui.ok GO) trivial (Cs [0] V (BA (Ay (Ay (bnd h λDV L9 h=>(Ch (Hd.ok L9 As BD) V ⟨(.tail _ (.tail _ (.head _))),Aj⟩ ?_)))))))))))));rintro _ _ ⟨h38,A39,Jc,o41,rfl,rfl⟩;exact BI (knl (Bf (At (Ap (Ay (Bb (Ap (Bb (AG (DV.1,Ak,DV.2.1,DV.2.2,h38,A39,Jc,B9,Bt,Bv) ⟨h,o41,BX⟩ sb V)))))))));refine ksr (M 2 (G (Az h (λh=>?_) λh=>?_)));refine kpr [(0,0),(1,3),(2,0),(3,3),(4,1)] [0] (AA 1 (E2 0 0 5 V (AA 1 (Bn 0 1 V (kpt (bnd h λD5 Pz h=>(ocv (Uj.ok Pz) trivial (Cs [0] V (BA (Ay (Ay (bnd h λr44 MU h=>(Ch (Hd.ok MU As BD) V ⟨(.tail _ (.tail _ (.head _))),Aj⟩ ?_)))))))))))));rintro _ _ ⟨h45,OF,k47,Lc,rfl,rfl⟩;exact BI (knl (Bf (At (Ap (Ay (Bb (Ap (Bb (AG (r44.1,Ak,r44.2.1,r44.2.2,h45,OF,k47,B9,Bt,Bv) ⟨h,Lc,BX⟩ sb V)))))))));refine ksr (M 2 (G (Az h (λh=>?_) λh=>?_)));refine bnd h λq50 YM h=>?_;refine CH [(0,pt b0),(2,W CM a2 CN),(5,pt b1),(69,bv q50)] (bk b1 #[I AI,D AJ,I AF,I AP,W Bi Aw Bj] 61 :: bk b0 #[W Am Ai An,W Bt Ak Bv,I Ax,W Dn Br Dp,I Be,I BC] 67 :: AH :: B9 :: HP_ :: X) ?_ ?_;clear YM;refine Az h (λh=>?_) λh=>?_;exact AO (M 2 (kld 0 3 V (Al (bnd h λr52 MV h=>(Bc (GE.ok MV) V trivial (knl (Bf (At (Ap (Ap (Bb (Ap (Bb (AG (Ai,Ak,r52.1,r52.2,AH,Am,An,B9,Bt,Bv) ⟨h,As,BX⟩ sb V))))))))))))));refine ksr (M 2 (kld 0 1 V (bnd h λr53 Zd h=>(CI (G0.ok Zd Do) ⟨(.tail _ (.tail _ (.tail _ (.tail _ (.head _))))),Aj⟩ (M 1 (G (Az h (λh=>?_) λh=>?_)))))));refine AO (M 2 (kld 0 1 V (Ap (Ay (bnd h λr55 P1 h=>(Ch (Mx.ok P1 BX) V trivial ?_))))));rintro _ _ ⟨NT,NC,k58,o59,rfl,rfl⟩;exact BI (knl (Bf (At (Al (Ap (Bb (Ap (Bb (AG (Ai,r55,Be,BC,AH,Am,An,NT,NC,k58) ⟨h,As,o59⟩ sb V)))))))));exact AK (Bf (At (Ap (Ap (Bb (Bb (Bb (AG (Ai,Ak,Be,BC,AH,Am,An,B9,Bt,Bv) ⟨h,As,BX⟩ sb V))))))));have h:=YM;clear YM;refine kpr [(0,0),(1,3),(2,1),(3,0),(4,0),(5,0),(6,3),(7,1),(8,0),(9,0),(10,0),(11,0),(12,0),(13,3),(14,0),(15,3)] [0,1] (AA 1 (Bn 0 1 V (kpt (bnd h λr60 MW h=>(ocv (Kq.ok MW) trivial (Cs [0,1] V (AA 1 (B4 54 h (λh=>?_) λh=>?_))))))));exact AA 2 (Ek (by kernel_rfl) (by kernel_rfl) (Bkl (by kernel_rfl) (by kernel_rfl) (Cs [0,1] V (AA 5 (Ek (by kernel_rfl) (by kernel_rfl) (AA 1 (Ek (by kernel_rfl) (by kernel_rfl) (BA (M 3 (G (AY ⟨gr,gr,gr,gb (Ao h),Aj⟩)))))))))));refine AA 2 (Bn 0 1 V (kpt (bnd h λr62 Zg h=>(ocv (G0.ok Zg Do) ⟨(.tail _ (.tail _ (.tail _ (.tail _ (.head _))))),Aj⟩ (Cs [0,1] V (AA 2 (B4 60 h (λh=>?_) λh=>?_)))))));exact AA 3 (Bn 1 3 V (AA 1 (Bn 0 1 V (BA (bnd h λr64 P2 h=>(CI (G0.ok P2 Eh) ⟨(.tail _ (.tail _ (.tail _ (.tail _ (.head _))))),Aj⟩ (M 2 (G (AY ⟨gr,gr,gr,gb (Ao h),Aj⟩)))))))));exact AA 3 (Ek (by kernel_rfl) (by kernel_rfl) (AA 1 (Ek (by kernel_rfl) (by kernel_rfl) (BA (M 3 (G (AY ⟨gr,gr,gr,gb (Ao h),Aj⟩)))))));refine ksr (M 2 (G (Az h (λh=>?_) λh=>?_)));refine bnd h λq66 YP h=>?_;refine CH [(0,pt b0),(2,W CM a2 CN),(3,bv a3),(5,pt b1),(98,bv q66)] (bk b1 #[I AI,D AJ,I AF,I AP,W Bi Aw Bj] 61 :: bk b0 #[W Am Ai An,W Bt Ak Bv,I Ax,W Dn Br Dp,I Be,I BC] 67 :: AH :: B9 :: HP_ :: X) ?_ ?_;clear YP;refine Az h (λh=>?_) λh=>?_;obtain ⟨UZ,A99,h⟩:=BF h;refine BG (τ:=Int×Int) (λt=>[]) (λt=>bk b0 #[W Am Ai An,W Bt Ak Bv,I Ax,W Dn Br Dp,I t.1,I t.2] 67 :: AH :: B9 :: HP_ :: X) (λt=>UZ t.1 t.2=some r) ?_ ?_;rintro ⟨x68,x69⟩ h;subst A99;refine Ba (Ca (Bm ?_));obtain rfl:=Ao h;exact kdv (.tuple #[]) [bk b0 #[W Am Ai An,W Bt Ak Bv,I Ax,W Dn Br Dp,I x68,I x69] 67,AH,B9,HP_] (B3 ⟨HP_,AH,Am,An,B9,Bt,Bv,(N.In.refl HP_),As,BX,V,V⟩);refine bnd h λq71 YQ h=>?_;refine CH [(0,pt b0),(5,pt b1),(123,bv q71)] (bk b1 #[I AI,D AJ,I AF,I AP,W Bi Aw Bj] 61 :: bk b0 #[W Am Ai An,W Bt Ak Bv,I Ax,W Dn Br Dp,I Be,I BC] 67 :: AH :: B9 :: HP_ :: X) ?_ ?_;clear YQ;refine Az h (λh=>?_) λh=>?_;exact AO (M 2 (kld 0 3 V (Ar (bnd h λr73 Tc h=>(Bc (GE.ok Tc) V trivial (G (AG (r73.1,r73.2) h trivial V)))))));exact AK (At (Ar (AG (Be,BC) h trivial V)));have h:=YQ;clear YQ;refine kpr [(0,0),(1,0),(2,0),(3,3),(4,0),(5,0),(6,3),(7,0),(8,0),(9,0),(10,0),(11,3),(12,0),(13,0),(14,3),(15,0),(16,0),(17,3),(18,0),(19,0),(20,3)] [0,4] (AA 2 (B4 100 h (λh=>?_) λh=>?_));exact AA 1 (Ek (by kernel_rfl) (by kernel_rfl) (AA 2 (Ek (by kernel_rfl) (by kernel_rfl) (AA 4 (Ek (by kernel_rfl) (by kernel_rfl) (AA 2 (Ek (by kernel_rfl) (by kernel_rfl) (AA 2 (Ek (by kernel_rfl) (by kernel_rfl) (AA 2 (Ek (by kernel_rfl) (by kernel_rfl) (BA (M 4 (G (AY ⟨gr,gr,gb (Ao h),Aj⟩)))))))))))))));refine AA 1 (Bn 0 4 V (bnd h λx75 Zx h=>(KU (T:=61) (kd:=.i64) (R:=(AQ 61)) V Zx BD λp76 u79 q80 e77 y78=>?_)));obtain ⟨S1,k82,rfl,o83⟩:=Eu 61 q80;refine Nc (off:=0) V e77 y78 λp84 e85 y86=>?_;have e85:Elem _ p84 [I x75.kind,D x75.text,I x75.n,I x75.at_,W S1 x75.kids k82]:=e85;refine LG V (by kernel_rfl) (by kernel_rfl) (by kernel_rfl) (by kernel_rfl) e85 (λw h_=>h_.mem _ (.tail _ (.head _))) (AA 3 (B4 108 h (λh=>?_) λh=>?_));exact AA 1 (Ek (by kernel_rfl) (by kernel_rfl) (AA 2 (Ek (by kernel_rfl) (by kernel_rfl) (AA 2 (Ek (by kernel_rfl) (by kernel_rfl) (AA 2 (Ek (by kernel_rfl) (by kernel_rfl) (BA (M 4 (G (AY ⟨gr,gr,gb (Ao h),Aj⟩)))))))))));refine AA 1 (Bn 0 4 V (bnd h λx88 Bhb h=>(KU (T:=61) (kd:=.i64) (R:=(AQ 61)) V Bhb BD λp89 u92 q93 e90 y91=>?_)));obtain ⟨M9,Nb,rfl,o96⟩:=Eu 61 q93;refine Nc (off:=1) V e90 y91 λp97 XO y99=>?_;have XO:Elem _ p97 [D x88.text,I x88.n,I x88.at_,W M9 x88.kids Nb]:=XO;refine LG V (by kernel_rfl) (by kernel_rfl) (by kernel_rfl) (by kernel_rfl) XO (λw h_=>h_.mem _ (.tail _ (.head _))) (bnd h λAul Bfo h=>(Bkc V (by kernel_rfl) (by kernel_rfl) (by kernel_rfl) (by kernel_rfl) Bfo (AA 1 (Bn 0 4 V (bnd h λx101 hx101 h=>(KU (T:=61) (kd:=.i64) (R:=(AQ 61)) V hx101 BD λB4a u105 Btd A3f y104=>?_))))));obtain ⟨Axz,Bhp,rfl,B3e⟩:=Eu 61 Btd;refine Nc (off:=1) V A3f y104 λAr5 SH y112=>?_;have SH:Elem _ Ar5 [D x101.text,I x101.n,I x101.at_,W Axz x101.kids Bhp]:=SH;exact LG V (by kernel_rfl) (by kernel_rfl) (by kernel_rfl) (by kernel_rfl) SH (λw h_=>h_.mem _ (.tail _ (.head _))) (BA (bnd h λAun Bfq h=>(ZJ V (by kernel_rfl) (by kernel_rfl) (by kernel_rfl) (by kernel_rfl) Bfq (bnd h λAsu Bdi h=>(CI (IP.ok Bdi) trivial (M 2 (G (AY ⟨gr,gr,gb (Ao h),Aj⟩))))))));exact AK (Bf (At (Ap (Ap (Bb (Bb (Bb (AG (Ai,Ak,Be,BC,AH,Am,An,B9,Bt,Bv) ⟨h,As,BX⟩ sb V))))))));have h:=YP;clear YP;refine AO (M 1 (kld 0 4 V (bnd h λx115 hx115 h=>(E0 (T:=61) (kd:=.i64) (R:=(AQ 61)) V hx115 BD λB4d u119 Btj e117 Bw6=>?_))));obtain ⟨Xm,Z5,rfl,Wr⟩:=Eu 61 Btj;refine GV (off:=0) V e117 Bw6 λAbi e125 Bw8=>?_;have e125:Elem _ Abi [I x115.kind,D x115.text,I x115.n,I x115.at_,W Xm x115.kids Z5]:=e125;refine FX V (by kernel_rfl) (by kernel_rfl) (by kernel_rfl) (by kernel_rfl) e125 (.tail _ (.tail _ (.tail _ (.tail _ (.head _))))) (M 2 (B4 91 h (λh=>?_) λh=>?_));refine M 1 (kld 0 4 V (bnd h λSj hx128 h=>(E0 (T:=61) (kd:=.i64) (R:=(AQ 61)) V hx128 BD λB4f B5b Btk A3k Bxc=>?_)));obtain ⟨Xp,Z8,rfl,PU⟩:=Eu 61 Btk;refine GV (off:=1) V A3k Bxc λBr9 e138 B5w=>?_;have e138:Elem _ Br9 [D Sj.text,I Sj.n,I Sj.at_,W Xp Sj.kids Z8]:=e138;exact FX V (by kernel_rfl) (by kernel_rfl) (by kernel_rfl) (by kernel_rfl) e138 (.tail _ (.tail _ (.tail _ (.tail _ (.head _))))) (bnd h λAsy Bdq h=>(CI (Kq.ok Bdq) trivial (M 1 (G (AY ⟨gr,gr,gr,gr,gb (Ao h),Aj⟩)))));exact M 7 (G (AY ⟨gr,gr,gr,gr,gb (Ao h),Aj⟩));exact AK (Bf (At (Ap (Ap (Bb (Bb (Bb (AG (Ai,Ak,Be,BC,AH,Am,An,B9,Bt,Bv) ⟨h,As,BX⟩ sb V))))))))
def RC.at:Nat->RC
 | 0=>⟨λ_ _ _ _ _ _ _ _ _ _ _ _ _=>none,λ_ _ _ _ _ _ _ _ _ _ _ _ _=>none,λ_ _ _ _ _ _ _ _ _ _ _ _=>none,λ_ _ _ _ _ _ _ _=>none,λ_ _ _ _ _ _ _ _ _ _ _ _ _=>none⟩
 | k+1=>⟨De.g (RC.at k) k,Df.g (RC.at k) k,Iw.g (RC.at k) k,DE.g (RC.at k) k,F_.g (RC.at k) k⟩
theorem RC.good:∀ k,(RC.at k).Good
 | 0=>⟨(by unfold De.C;intros;rename_i h _ _ _ _ _;cases (show (none:Option _)=some _ from h)),(by unfold Df.C;intros;rename_i h _ _ _ _ _;cases (show (none:Option _)=some _ from h)),(by unfold Iw.C;intros;rename_i h _ _ _ _ _;cases (show (none:Option _)=some _ from h)),(by unfold DE.C;intros;rename_i h _ _ _ _ _;cases (show (none:Option _)=some _ from h)),(by unfold F_.C;intros;rename_i h _ _ _ _ _;cases (show (none:Option _)=some _ from h))⟩
 | k+1=>⟨De.Ck (k:=k) (RC.good k),Df.Ck (k:=k) (RC.good k),Iw.Ck (k:=k) (RC.good k),DE.Ck (k:=k) (RC.good k),F_.Ck (k:=k) (RC.good k)⟩
def De.f (k:Nat):=De.g (RC.at k) k
theorem De.ok {k:Nat}:De.C (De.f k):=De.Ck (k:=k) (RC.good k)
def Ql.f (k:Nat) (a0:Ah):Option (Bg×Av×Int×Int):=(Qk.f k a0).bind λr4=>cond (r4.2.2.2.2.2.1 != 0) (some ([],[],r4.2.2.2.2.2.1,r4.2.2.2.2.2.2)) ((DZ.f k r4.1 r4.2.1 r4.2.2.1 r4.2.2.2.1 r4.2.2.2.2.1).bind λr12=>cond (decide (r12 > 100)) (some ([],[],6,r4.2.2.2.1)) ((De.f k ([((⟨#[]⟩:Ah),r4.2.2.2.1,0,0,[])]) ([]) 0 ([]) 0 0 r4.1 r4.2.1 r4.2.2.1 r4.2.2.2.1 r4.2.2.2.2.1 ([]) false).bind λr22=>cond (r22.2.2.2.2.1 != 0) (some ([],[],r22.2.2.2.2.1,r22.2.2.2.2.2)) (some (r22.1,r22.2.1,0,0))))
theorem Ql.ok {k:Nat} {a0:Ah} {r:Bg×Av×Int×Int} (h:Ql.f k a0=some r): Ct Tryz.prog 6 #[D a0] [] [] (λe l1=>∃ (H0_:N) (A0_:AD) (c0_:Nat) (H1_:N) (DH:AD) (DI:Nat),AM DR 68 H0_ (W A0_ r.1 c0_) r.1/\AL encS 9 1 H1_ (W DH r.2.1 DI) r.2.1/\e=.returned (.tuple #[.agg #[W A0_ r.1 c0_,W DH r.2.1 DI],.agg #[I r.2.2.1,I r.2.2.2]])/\l1=[H0_,H1_]):=by
 refine BM Tryz.func6 V (AV V) ?_;intro A X hh_;unfold Ql.f at h;refine Bjd λh1=>(ksr (knp #[nS,nS] 33 λb2=>(knp #[I 0,I 0] 28 λb3=>(AW (M 1 (bnd h λr4 hr4 h=>(Ch (Qk.ok hr4) V trivial ?_)))))));rintro _ _ ⟨h5,A6,k7,o8,rfl,rfl⟩;refine E3 (M 3 (knp #[I 0,D noS,I 0,I 0,nS] 61 λb9=>(knp #[I 0,I 0] 28 λb10=>(Al (AC 0 5 #[I r4.1,D r4.2.1,I r4.2.2.1,I r4.2.2.2.1,W A6 r4.2.2.2.2.1 k7] (Al (AC 0 2 #[I r4.2.2.2.2.2.1,I r4.2.2.2.2.2.2] (G (AR (ksr (M 1 (kld 0 0 V (M 1 (G (Az h (λh=>?_) λh=>?_)))))))))))))));refine AR (kpr [(0,0),(1,3),(2,1)] [0] (AA 1 (E2 0 0 2 V (kpt (Bb (ost 0 2 #[nS,nS] (Cs [1] V (BA (Bb (AC 0 2 #[I r4.2.2.2.2.2.1,I r4.2.2.2.2.2.2] (Ay (Ar (Ay (Ar (Ay (Ar (G (Ba (Bm ?_)))))))))))))))))));obtain rfl:=Ao h;exact Gf (v:=.tuple #[.agg #[nS,nS],.agg #[I r4.2.2.2.2.2.1,I r4.2.2.2.2.2.2]]) [.val (nS),.val (nS),.val (I r4.2.2.2.2.2.1),.val (I r4.2.2.2.2.2.2)] [.ld ⟨b2,0,none⟩ (nS),.ld ⟨b2,1,none⟩ (nS),.ld ⟨b3,0,none⟩ (I r4.2.2.2.2.2.1),.ld ⟨b3,1,none⟩ (I r4.2.2.2.2.2.2)] [none_,none_] (by kernel_rfl) (by kernel_rfl) ⟨⟨1,_,_,_,V,V,V⟩,⟨1,_,_,_,V,V,V⟩,⟨0,_,_,_,V,V,V⟩,⟨0,_,_,_,V,V,V⟩,Aj⟩ (C6 (C6 (Ay (Ar (Ay (Ar (Ay (Ar (B3 ⟨none_,none,0,none_,none,0,(AM.nil DR 68 none_),(AL.nil encS 9 1 none_),V,V⟩)))))))));refine AK (At (AR (ksr (BW 1 0 5 V (Ar (bnd h λr12 Kc h=>(CI (DZ.ok Kc (AM.rd o8)) ⟨(.tail _ (.head _)),Aj⟩ (M 1 (G (Az h (λh=>?_) λh=>?_))))))))));refine AR (kpr [(0,0),(1,0),(2,3),(3,0),(4,1)] [0] (AA 2 (Bn 0 3 V (AA 1 (kpt (Ap (ost 0 2 #[nS,nS] (Cs [1] V (BA (Ap (AC 0 2 #[I 6,I r4.2.2.2.1] (Ay (Ar (Ay (Ar (G (Ba (Bm ?_))))))))))))))))));obtain rfl:=Ao h;exact Gf (v:=.tuple #[.agg #[nS,nS],.agg #[I 6,I r4.2.2.2.1]]) [.val (nS),.val (nS),.val (I 6),.val (I r4.2.2.2.1)] [.ld ⟨b2,0,none⟩ (nS),.ld ⟨b2,1,none⟩ (nS),.ld ⟨b3,0,none⟩ (I 6),.ld ⟨b3,1,none⟩ (I r4.2.2.2.1)] [none_,none_] (by kernel_rfl) (by kernel_rfl) ⟨⟨1,_,_,_,V,V,V⟩,⟨1,_,_,_,V,V,V⟩,⟨0,_,_,_,V,V,V⟩,⟨0,_,_,_,V,V,V⟩,Aj⟩ (C6 (C6 (Ay (Ar (Ay (Ar (Ay (Ar (B3 ⟨none_,none,0,none_,none,0,(AM.nil DR 68 none_),(AL.nil encS 9 1 none_),V,V⟩)))))))));refine AK (At (ksr (M 1 (knp #[nS,nS,I 0,nS,I 0,I 0] 67 λb14=>(M 1 (AW (M 2 (kld 1 3 V (M 1 (Cz #[D noS,I r4.2.2.2.1,I 0,I 0,nS] 68 1 λb15=>(M 3 (Al (AC 0 1 #[.slice (some ⟨b15,0,none⟩) 1 1,nS,I 0,nS,I 0,I 0] (AW (M 1 (BW 2 0 5 V (Ay (Ar (AT (Ap (Tq λh16 o17 Gx=>?_)))))))))))))))))))));have o19:=RdR.mono (AM.rd o8) o17;refine C6 (Ap (Cr (T:=68) (n:=1) (xs:=[((⟨#[]⟩:Ah),r4.2.2.2.1,0,0,[])]) (B7.one (Aci (x:=((⟨#[]⟩:Ah),r4.2.2.2.1,0,0,[])) (AL.nil e43 43 3 none_))) V V (AV V) λh20 o21=>(C6 (Ay (Al (Ay (Ap (bnd h λr22 SU h=>(Ch (De.ok SU o21 (AL.nil encS 9 1 none_) (AZ.nil encS 1 h16) o19 (AZ.nil encS 1 h16)) V trivial ?_)))))))));rintro _ _ ⟨h23,h25,A26,k27,h29,FR,k31,A34,M_,GX,Jf,o32,LL,rfl,rfl⟩;refine GW ?_;have GZ:=RdR.mono o19 GX;refine G (AR (ksr (M 4 (kld 0 4 V (M 1 (G (Az h (λh=>?_) λh=>?_)))))));refine AR (kpr [(0,0),(1,0),(2,0),(3,0),(4,3),(5,1)] [0] (AA 4 (E2 0 4 2 V (kpt (AT (ost 0 2 #[nS,nS] (Cs [1] V (BA (AT (AC 0 2 #[I r22.2.2.2.2.1,I r22.2.2.2.2.2] (Ay (Ar (Ay (Ar (Ay (Ar (G (Ba (Bm ?_)))))))))))))))))));obtain rfl:=Ao h;exact Gf (v:=.tuple #[.agg #[nS,nS],.agg #[I r22.2.2.2.2.1,I r22.2.2.2.2.2]]) [.val (nS),.val (nS),.val (I r22.2.2.2.2.1),.val (I r22.2.2.2.2.2)] [.ld ⟨b2,0,none⟩ (nS),.ld ⟨b2,1,none⟩ (nS),.ld ⟨b3,0,none⟩ (I r22.2.2.2.2.1),.ld ⟨b3,1,none⟩ (I r22.2.2.2.2.2)] [none_,none_] (by kernel_rfl) (by kernel_rfl) ⟨⟨1,_,_,_,V,V,V⟩,⟨1,_,_,_,V,V,V⟩,⟨0,_,_,_,V,V,V⟩,⟨0,_,_,_,V,V,V⟩,Aj⟩ (C6 (C6 (Ay (Ar (Ay (Ar (Ay (Ar (B3 ⟨none_,none,0,none_,none,0,(AM.nil DR 68 none_),(AL.nil encS 9 1 none_),V,V⟩)))))))));refine AK (At (ksr (M 3 (BW 0 0 2 V (Ar (M 1 (Bb (AC 0 2 #[W A26 r22.1 k27,W FR r22.2.1 k31] (Bb (AC 0 2 #[I 0,I 0] (G (Ba ?_))))))))))));obtain rfl:=Ao h;exact Gf (v:=.tuple #[.agg #[W A26 r22.1 k27,W FR r22.2.1 k31],.agg #[I 0,I 0]]) [.val (W A26 r22.1 k27),.val (W FR r22.2.1 k31),.val (I 0),.val (I 0)] [.ld ⟨b2,0,none⟩ (W A26 r22.1 k27),.ld ⟨b2,1,none⟩ (W FR r22.2.1 k31),.ld ⟨b3,0,none⟩ (I 0),.ld ⟨b3,1,none⟩ (I 0)] [h25,h29] (by kernel_rfl) (by kernel_rfl) ⟨⟨1,_,_,_,V,V,V⟩,⟨1,_,_,_,V,V,V⟩,⟨0,_,_,_,V,V,V⟩,⟨0,_,_,_,V,V,V⟩,Aj⟩ (Ar (Ar (Ay (Ar (B3 ⟨h25,A26,k27,h29,FR,k31,Jf,o32,V,V⟩)))))
abbrev Tk:=Int×Ah×Int×Int
inductive PV (α:Type) where
 | ok (a:α) (r:List Tk)
 | bad (at_:Int)
def PV.bind {α β:Type} (x:Option (PV α)) (f:α->List Tk->Option (PV β)):Option (PV β) :=
 match x with
 | none=>none
 | some (.ok a r)=>f a r
 | some (.bad i)=>some (.bad i)
def hd (ts:List Tk):Tk:=ts.headD (6,⟨#[]⟩,0,0)
def isT (w:Ah) (t:Tk):Bool:=(t.1 == 2 || t.1 == 5) && t.2.1.toList == w.toList
def AB (w:Ah) (ts:List Tk):Bool:=isT w (hd ts)
def FL (w:Ah) (ts:List Tk):Option (PV Unit):=if AB w ts then some (.ok () ts.tail) else some (.bad (hd ts).2.2.2)
abbrev Ht:Ah:=⟨#[59]⟩
abbrev Ez:Ah:=⟨#[44]⟩
abbrev EO:Ah:=⟨#[61]⟩
abbrev PD:Ah:=⟨#[40]⟩
abbrev Gs:Ah:=⟨#[41]⟩
abbrev VQ:Ah:=⟨#[91]⟩
abbrev kRb:Ah:=⟨#[93]⟩
abbrev kLc:Ah:=⟨#[123]⟩
abbrev Ob:Ah:=⟨#[125]⟩
abbrev An7:Ah:=⟨#[46]⟩
abbrev N_:Ah:=⟨#[35]⟩
abbrev Kh:Ah:=⟨#[45]⟩
abbrev ZE:Ah:=⟨#[114,101,116,117,114,110]⟩
abbrev NZ:Ah:=⟨#[102,117,110,99,116,105,111,110]⟩
abbrev GQ:Ah:=⟨#[101,110,100]⟩
abbrev NY:Ah:=⟨#[101,108,115,101]⟩
abbrev PB:Ah:=⟨#[101,108,115,101,105,102]⟩
abbrev Tp:Ah:=⟨#[100,111]⟩
abbrev Aoq:Ah:=⟨#[119,104,105,108,101]⟩
abbrev kIf:Ah:=⟨#[105,102]⟩
abbrev Aoj:Ah:=⟨#[116,104,101,110]⟩
abbrev Aob:Ah:=⟨#[102,111,114]⟩
abbrev VP:Ah:=⟨#[105,110]⟩
abbrev Aod:Ah:=⟨#[108,111,99,97,108]⟩
abbrev An6:Ah:=⟨#[98,114,101,97,107]⟩
abbrev Aoe:Ah:=⟨#[110,105,108]⟩
abbrev Aop:Ah:=⟨#[116,114,117,101]⟩
abbrev An8:Ah:=⟨#[102,97,108,115,101]⟩
abbrev Oa:Ah:=⟨#[110,111,116]⟩
abbrev kOr:Ah:=⟨#[111,114]⟩
abbrev Rf:Ah:=⟨#[97,110,100]⟩
abbrev Rj:Ah:=⟨#[60]⟩
abbrev kGt:Ah:=⟨#[62]⟩
abbrev kLe:Ah:=⟨#[60,61]⟩
abbrev kGe:Ah:=⟨#[62,61]⟩
abbrev Rk:Ah:=⟨#[126,61]⟩
abbrev Ri:Ah:=⟨#[61,61]⟩
abbrev Rh:Ah:=⟨#[46,46]⟩
abbrev Rm:Ah:=⟨#[43]⟩
abbrev Ro:Ah:=⟨#[42]⟩
abbrev Rn:Ah:=⟨#[47,47]⟩
abbrev Rl:Ah:=⟨#[37]⟩
abbrev noB:Ah:=⟨#[]⟩
def Jg (kind:Int) (ts:List Tk):Option (PV Tree) :=
 if (hd ts).1=1 then some (.ok (.mk kind (hd ts).2.1 0 (hd ts).2.2.2 []) ts.tail) else some (.bad (hd ts).2.2.2)
def Gy:Nat->List Tree->List Tk->Option (PV (List Tree))
 | 0,_,_=>none
 | f+1,acc,ts=>if AB Ez ts then PV.bind (Jg 6 ts.tail) λn r=>Gy f (acc++[n]) r else some (.ok acc ts)
def Nq (f:Nat) (ts:List Tk):Option (PV (List Tree)):=PV.bind (Jg 6 ts) λn r=>Gy f [n] r
def CS (ts:List Tk):Int :=
 if AB kOr ts then 1 else if AB Rf ts then 2
 else if AB Rj ts || AB kGt ts || AB kLe ts || AB kGe ts || AB Rk ts || AB Ri ts then 3
 else if AB Rh ts then 4 else if AB Rm ts || AB Kh ts then 5 else if AB Ro ts || AB Rn ts || AB Rl ts then 6 else 0
def JY (ts:List Tk):Bool:=(hd ts).1 == 6 || AB GQ ts || AB NY ts || AB PB ts
mutual
def D0:Nat->Int->List Tk->Option (PV Tree)
 | 0,_,_=>none
 | f+1,least,ts=>PV.bind (Fh f ts) λn r=>Fp f least n r
def Fp:Nat->Int->Tree->List Tk->Option (PV Tree)
 | 0,_,_,_=>none
 | f+1,least,n,ts =>
  if CS ts<=least then some (.ok n ts)
  else PV.bind (D0 f (if CS ts=4 then 3 else CS ts) ts.tail) λm r=>Fp f least (.mk 11 (hd ts).2.1 0 n.at_ [n,m]) r
def Fh:Nat->List Tk->Option (PV Tree)
 | 0,_=>none
 | f+1,ts =>
  if (hd ts).1=3 then some (.ok (.mk 4 noB (hd ts).2.2.1 (hd ts).2.2.2 []) ts.tail)
  else if (hd ts).1=4 then some (.ok (.mk 5 (hd ts).2.1 0 (hd ts).2.2.2 []) ts.tail)
  else if AB Aoe ts then some (.ok (.mk 1 noB 0 (hd ts).2.2.2 []) ts.tail)
  else if AB Aop ts then some (.ok (.mk 2 noB 0 (hd ts).2.2.2 []) ts.tail)
  else if AB An8 ts then some (.ok (.mk 3 noB 0 (hd ts).2.2.2 []) ts.tail)
  else if AB Oa ts || AB N_ ts || AB Kh ts then PV.bind (D0 f 7 ts.tail) λm r=>some (.ok (.mk 10 (hd ts).2.1 0 (hd ts).2.2.2 [m]) r)
  else if AB kLc ts then PV.bind (Fg f [] ts.tail) λl r=>some (.ok (.mk 12 noB 0 (hd ts).2.2.2 l) r)
  else ES f ts
def Fg:Nat->List Tree->List Tk->Option (PV (List Tree))
 | 0,_,_=>none
 | f+1,acc,ts =>
  if AB Ob ts then some (.ok acc ts.tail)
  else PV.bind (F4 f ts) λx r =>
   if AB Ez r then Fg f (acc++[x]) r.tail
   else if AB Ht r then Fg f (acc++[x]) r.tail
   else PV.bind (FL Ob r) λ_ r=>some (.ok (acc++[x]) r)
def F4:Nat->List Tk->Option (PV Tree)
 | 0,_=>none
 | f+1,ts =>
  if AB VQ ts then
   PV.bind (D0 f 0 ts.tail) λk r=>PV.bind (FL kRb r) λ_ r=>PV.bind (FL EO r) λ_ r=>PV.bind (D0 f 0 r) λv r=>some (.ok (.mk 14 noB 0 (hd ts).2.2.2 [k,v]) r)
  else if (hd ts).1=1/\(hd ts.tail).1=5/\(hd ts.tail).2.1.toList=EO.toList then
   PV.bind (D0 f 0 ts.tail.tail) λv r=>some (.ok (.mk 14 noB 0 (hd ts).2.2.2 [.mk 5 (hd ts).2.1 0 (hd ts).2.2.2 [],v]) r)
  else PV.bind (D0 f 0 ts) λv r=>some (.ok (.mk 13 noB 0 (hd ts).2.2.2 [v]) r)
def ES:Nat->List Tk->Option (PV Tree)
 | 0,_=>none
 | f+1,ts =>
  if AB PD ts then PV.bind (D0 f 0 ts.tail) λe r=>PV.bind (FL Gs r) λ_ r=>ER f (hd ts).2.2.2 (.mk 9 noB 0 (hd ts).2.2.2 [e]) r
  else PV.bind (Jg 6 ts) λn r=>ER f (hd ts).2.2.2 n r
def ER:Nat->Int->Tree->List Tk->Option (PV Tree)
 | 0,_,_,_=>none
 | f+1,at_,n,ts =>
  if AB VQ ts then PV.bind (D0 f 0 ts.tail) λe r=>PV.bind (FL kRb r) λ_ r=>ER f at_ (.mk 7 noB 0 at_ [n,e]) r
  else if AB An7 ts then PV.bind (Jg 5 ts.tail) λe r=>ER f at_ (.mk 7 noB 0 at_ [n,e]) r
  else if AB PD ts then
   PV.bind (if AB Gs ts.tail then some (.ok [] ts.tail) else EQ f ts.tail) λl r=>PV.bind (FL Gs r) λ_ r=>ER f at_ (.mk 8 noB 0 at_ (n :: l)) r
  else some (.ok n ts)
def EQ:Nat->List Tk->Option (PV (List Tree))
 | 0,_=>none
 | f+1,ts=>PV.bind (D0 f 0 ts) λe r=>Fo f [e] r
def Fo:Nat->List Tree->List Tk->Option (PV (List Tree))
 | 0,_,_=>none
 | f+1,acc,ts=>if AB Ez ts then PV.bind (D0 f 0 ts.tail) λe r=>Fo f (acc++[e]) r else some (.ok acc ts)
end
mutual
def EF:Nat->Bool->List Tk->Option (PV Tree)
 | 0,_,_=>none
 | f+1,chunk,ts=>EP f chunk (hd ts).2.2.2 [] ts
def EP:Nat->Bool->Int->List Tree->List Tk->Option (PV Tree)
 | 0,_,_,_,_=>none
 | f+1,chunk,at_,acc,ts =>
  if AB Ht ts then EP f chunk at_ acc ts.tail
  else if AB ZE ts then
   PV.bind (if JY ts.tail || AB Ht ts.tail then some (.ok [] ts.tail) else EQ f ts.tail) λl r =>
    some (.ok (.mk 20 noB 0 at_ (acc++[.mk 30 noB 0 (hd ts).2.2.2 l])) (if AB Ht r then r.tail else r))
  else if chunk && AB NZ ts then PV.bind (F6 f ts) λx r=>EP f chunk at_ (acc++[x]) r
  else if JY ts then some (.ok (.mk 20 noB 0 at_ acc) ts)
  else PV.bind (F8 f ts) λx r=>EP f chunk at_ (acc++[x]) r
def F6:Nat->List Tk->Option (PV Tree)
 | 0,_=>none
 | f+1,ts =>
  PV.bind (Jg 6 ts.tail) λnm r=>PV.bind (FL PD r) λ_ r =>
   PV.bind (if AB Gs r then some (.ok [] r) else Nq f r) λps r=>PV.bind (FL Gs r) λ_ r =>
    PV.bind (EF f false r) λb r=>PV.bind (FL GQ r) λ_ r=>some (.ok (.mk 31 nm.text ps.length (hd ts).2.2.2 (ps++[b])) r)
/-- do, a block, end. -/
def Fa:Nat->List Tk->Option (PV Tree)
 | 0,_=>none
 | f+1,ts=>PV.bind (FL Tp ts) λ_ r=>PV.bind (EF f false r) λb r=>PV.bind (FL GQ r) λ_ r=>some (.ok b r)
def F8:Nat->List Tk->Option (PV Tree)
 | 0,_=>none
 | f+1,ts =>
  if AB Tp ts then PV.bind (Fa f ts) λb r=>some (.ok (.mk 28 noB 0 (hd ts).2.2.2 [b]) r)
  else if AB Aoq ts then PV.bind (D0 f 0 ts.tail) λe r=>PV.bind (Fa f r) λb r=>some (.ok (.mk 25 noB 0 (hd ts).2.2.2 [e,b]) r)
  else if AB kIf ts then PV.bind (Fm f [] ts.tail) λl r=>some (.ok (.mk 24 noB 0 (hd ts).2.2.2 l) r)
  else if AB Aob ts then F5 f (hd ts).2.2.2 ts.tail
  else if AB Aod ts then
   PV.bind (Nq f ts.tail) λl r=>PV.bind (if AB EO r then EQ f r.tail else some (.ok [] r)) λes r=>some (.ok (.mk 21 noB l.length (hd ts).2.2.2 (l++es)) r)
  else if AB An6 ts then some (.ok (.mk 29 noB 0 (hd ts).2.2.2 []) ts.tail)
  else F7 f ts
def Fm:Nat->List Tree->List Tk->Option (PV (List Tree))
 | 0,_,_=>none
 | f+1,acc,ts =>
  PV.bind (D0 f 0 ts) λe r=>PV.bind (FL Aoj r) λ_ r=>PV.bind (EF f false r) λb r =>
   if AB PB r then Fm f (acc++[e]++[b]) r.tail
   else if AB NY r then PV.bind (EF f false r.tail) λc r=>PV.bind (FL GQ r) λ_ r=>some (.ok (acc++[e]++[b]++[c]) r)
   else PV.bind (FL GQ r) λ_ r=>some (.ok (acc++[e]++[b]) r)
def F5:Nat->Int->List Tk->Option (PV Tree)
 | 0,_,_=>none
 | f+1,at_,ts =>
  PV.bind (Jg 6 ts) λn r =>
   if AB EO r then
    PV.bind (D0 f 0 r.tail) λa r=>PV.bind (FL Ez r) λ_ r=>PV.bind (D0 f 0 r) λb r =>
     PV.bind (if AB Ez r then PV.bind (D0 f 0 r.tail) λc r=>some (.ok [c] r) else some (.ok [] r)) λcs r=>PV.bind (Fa f r) λbd r =>
      some (.ok (.mk 26 noB 0 at_ ([n]++[a]++[b]++cs++[bd])) r)
   else
    PV.bind (Gy f [n] r) λl r=>PV.bind (FL VP r) λ_ r=>PV.bind (EQ f r) λes r=>PV.bind (Fa f r) λbd r =>
     some (.ok (.mk 27 noB l.length at_ (l++es++[bd])) r)
def F7:Nat->List Tk->Option (PV Tree)
 | 0,_=>none
 | f+1,ts =>
  PV.bind (ES f ts) λe r =>
   if AB EO r || AB Ez r then
    PV.bind (Fq f [] e r) λl r=>PV.bind (FL EO r) λ_ r=>PV.bind (EQ f r) λes r=>some (.ok (.mk 22 noB l.length e.at_ (l++es)) r)
   else if e.kind=8 then some (.ok (.mk 23 noB 0 e.at_ [e]) r) else some (.bad (hd r).2.2.2)
/-- The targets of an assignment, from e on. -/
def Fq:Nat->List Tree->Tree->List Tk->Option (PV (List Tree))
 | 0,_,_,_=>none
 | f+1,acc,e,ts =>
  if e.kind=6\/e.kind=7 then
   if AB Ez ts then PV.bind (ES f ts.tail) λe' r=>Fq f (acc++[e]) e' r else some (.ok (acc++[e]) ts)
  else some (.bad e.at_)
end
def Good:List Tk->Prop
 | []=>False
 | [t]=>t.1=6
 | t :: u :: ts=>t.1≠6/\Good (u :: ts)
theorem Good.tail {ts:List Tk} (h:Good ts) (h6:(hd ts).1≠6):Good ts.tail/\ts.tail.length+1=ts.length/\ts.tail <:+ ts:=by
 cases ts with
 | nil=>exact h.elim
 | cons t ts =>
  cases ts with
  | nil=>exact absurd h h6
  | cons u ts=>exact ⟨h.2,rfl,List.suffix_cons t _⟩
theorem AU {w:Ah} {ts:List Tk} (h:AB w ts=true):(hd ts).1≠6:=by
 unfold AB isT at h;intro h6;rw [h6] at h;simp at h
def Fwd {α:Type} (n:Nat) (ts:List Tk):PV α->Prop
 | .ok _ r=>Good r/\r.length+n<=ts.length/\r <:+ ts
 | .bad _=>True
def Step {α:Type} (n:Nat) (ts:List Tk) (x:Option (PV α)):Prop:=Good ts->∀ v,x=some v->Fwd n ts v
section
variable {α β:Type} {n m:Nat} {ts:List Tk} {x:Option (PV α)} {f:α->List Tk->Option (PV β)}
theorem bind_some {v:PV β} (h:PV.bind x f=some v):(∃ i,x=some (.bad i)/\v=.bad i)\/∃ a r,x=some (.ok a r)/\f a r=some v:=by
 unfold PV.bind at h;split at h;cases h;exact .inr ⟨_,_,rfl,h⟩;exact .inl ⟨_,rfl,(Ao h).symm⟩
theorem C2 (h1:Step n ts x) (h2:∀ a r,Step m r (f a r)):Step (n+m) ts (PV.bind x f):=λhg v hv=>by
 rcases bind_some hv with ⟨i,_,rfl⟩ | ⟨a,r,hx,hf⟩;trivial;obtain ⟨g1,g2,g3⟩:=h1 hg _ hx;have:=h2 a r g1 v hf;cases v with
 | bad=>trivial
 | ok b s =>
  obtain ⟨g4,g5,g6⟩:=this;exact ⟨g4,by omega,g6.trans g3⟩
theorem Dl (h:Step n ts x) (hm:m<=n):Step m ts x:=λhg v hv=>by
 have:=h hg v hv;cases v with
 | bad=>trivial
 | ok b s=>exact ⟨this.1,by have:=this.2.1;omega,this.2.2⟩
theorem step_none:Step n ts (none:Option (PV α)):=λ_ _ h=>by cases h
theorem step_bad {i:Int}:Step n ts (some (.bad i):Option (PV α)):=λ_ _ h=>by cases h;trivial
theorem step_ok {a:α}:Step 0 ts (some (.ok a ts)):=λhg _ h=>by cases h;exact ⟨hg,Nat.le_refl _,List.suffix_refl _⟩
theorem DA (h6:(hd ts).1≠6) (h:Step m ts.tail x):Step (m+1) ts x:=λhg v hv=>by
 obtain ⟨g1,g2,g3⟩:=hg.tail h6;have:=h g1 v hv;cases v with
 | bad=>trivial
 | ok b s=>exact ⟨this.1,by have:=this.2.1;omega,this.2.2.trans g3⟩
theorem Dg {c:Prop} [Decidable c] {y z:Option (PV α)} (h1:c->Step n ts y) (h2:¬ c->Step n ts z):Step n ts (if c then y else z):=by
 by_cases h:c;rw [if_pos h];exact h1 h;rw [if_neg h];exact h2 h
theorem Ea (w:Ah) (ts:List Tk):Step 1 ts (FL w ts):=Dg (λh=>DA (AU h) step_ok) λ_=>step_bad
theorem JG (k:Int) (ts:List Tk):Step 1 ts (Jg k ts):=Dg (λh=>DA (by omega) step_ok) λ_=>step_bad
theorem U2:∀ (f:Nat) (acc:List Tree) (ts:List Tk),Step 0 ts (Gy f acc ts)
 | 0,_,_=>step_none
 | f+1,acc,ts=>by
  unfold Gy;exact Dg (λh=>Dl (DA (AU h) (C2 (JG 6 _) λ_ _=>U2 f _ _)) (Nat.zero_le _)) λ_=>step_ok
theorem WY (f:Nat) (ts:List Tk):Step 1 ts (Nq f ts):=C2 (JG 6 ts) λ_ _=>U2 f _ _
end
structure Azz (f:Nat):Prop where
 exp:∀ least ts,Step 1 ts (D0 f least ts)
 loop:∀ least n ts,Step 0 ts (Fp f least n ts)
 operand:∀ ts,Step 1 ts (Fh f ts)
 fields:∀ acc ts,Step 1 ts (Fg f acc ts)
 field:∀ ts,Step 1 ts (F4 f ts)
 Eg:∀ ts,Step 1 ts (ES f ts)
 DG:∀ at_ n ts,Step 0 ts (ER f at_ n ts)
 CY:∀ ts,Step 1 ts (EQ f ts)
 Gq:∀ acc ts,Step 0 ts (Fo f acc ts)
theorem Mi {ts:List Tk} (h:CS ts≠0):(hd ts).1≠6:=by
 intro h6;have hf:∀ w,AB w ts=false:=λw=>by
  cases hw:AB w ts with
  | false=>rfl
  | true=>exact absurd h6 (AU hw)
 exact h (by simp [CS,hf])
theorem XA (ts:List Tk):0<=CS ts/\CS ts<=6:=by
 unfold CS
 repeat' split
 all_goals omega
theorem M3:∀ f,Azz f
 | 0=>by constructor <;> intros <;> (first | unfold D0 | unfold Fp | unfold Fh | unfold Fg | unfold F4 | unfold ES | unfold ER | unfold EQ | unfold Fo) <;> exact step_none
 | f+1=>by
  have ih:=M3 f;constructor;intro least ts;unfold D0;exact C2 (ih.operand ts) λ_ _=>ih.loop _ _ _;intro least n ts;unfold Fp;refine Dg (λ_=>step_ok) λh=>?_;by_cases h0:CS ts=0
  -- a least below 0 is never asked for; then nothing is eaten
  intro hg v hv;by_cases h6:(hd ts).1=6;rcases bind_some hv with ⟨i,_,rfl⟩ | ⟨a,r,hx,hf⟩;trivial;exfalso;cases ts with
  | nil=>exact hg
  | cons t ts =>
   cases ts with
   | nil =>
    have hx':D0 f (if CS [t]=4 then 3 else CS [t]) []=some (.ok a r):=hx;clear hx hf hv;cases f with
    | zero=>unfold D0 at hx';cases hx'
    | succ f =>
     unfold D0 at hx';rcases bind_some hx' with ⟨i,_,he⟩ | ⟨a',r',hx,hf⟩;cases he;cases f with
     | zero=>unfold Fh at hx;cases hx
     | succ f =>
      unfold Fh at hx;simp only [hd,List.headD_nil,AB,isT] at hx;cases f with
      | zero=>unfold ES at hx;simp at hx
      | succ f=>unfold ES at hx;simp [AB,isT,hd,Jg,PV.bind] at hx
   | cons u ts=>exact hg.1 h6
  exact (Dl (DA h6 (C2 (ih.exp _ _) λ_ _=>ih.loop _ _ _)) (Nat.zero_le _)) hg v hv;exact Dl (DA (Mi h0) (C2 (ih.exp _ _) λ_ _=>ih.loop _ _ _)) (Nat.zero_le _);intro ts;unfold Fh;refine Dg (λh=>DA (by omega) step_ok) λ_=>?_;refine Dg (λh=>DA (by omega) step_ok) λ_=>?_;refine Dg (λh=>DA (AU h) step_ok) λ_=>?_;refine Dg (λh=>DA (AU h) step_ok) λ_=>?_;refine Dg (λh=>DA (AU h) step_ok) λ_=>?_;refine Dg (λh=>?_) λ_=>?_;have h6:(hd ts).1≠6:=by
   simp only [Bool.or_eq_true] at h;rcases h with (h | h) | h <;> exact AU h
  exact Dl (DA h6 (C2 (ih.exp _ _) λ_ _=>step_ok)) (by omega);refine Dg (λh=>?_) λ_=>?_;exact Dl (DA (AU h) (C2 (ih.fields _ _) λ_ _=>step_ok)) (by omega);exact ih.Eg ts;intro acc ts;unfold Fg;refine Dg (λh=>DA (AU h) step_ok) λ_=>?_;refine Dl (C2 (m:=0) (ih.field ts) λx r=>?_) (by omega);refine Dg (λh=>Dl (DA (AU h) (ih.fields _ _)) (by omega)) λ_=>?_;refine Dg (λh=>Dl (DA (AU h) (ih.fields _ _)) (by omega)) λ_=>?_;exact Dl (C2 (Ea _ _) λ_ _=>step_ok) (by omega);intro ts;unfold F4;refine Dg (λh=>?_) λ_=>?_;exact Dl (DA (AU h) (C2 (ih.exp _ _) λ_ _=>C2 (Ea _ _) λ_ _=>C2 (Ea _ _) λ_ _=>C2 (ih.exp _ _) λ_ _=>step_ok)) (by omega);refine Dg (λh=>?_) λ_=>?_;obtain ⟨h1,h2,_⟩:=h;exact Dl (DA (by omega) (DA (by omega) (C2 (ih.exp _ _) λ_ _=>step_ok))) (by omega);exact C2 (ih.exp _ _) λ_ _=>step_ok;intro ts;unfold ES;refine Dg (λh=>?_) λ_=>?_;exact Dl (DA (AU h) (C2 (ih.exp _ _) λ_ _=>C2 (Ea _ _) λ_ _=>ih.DG _ _ _)) (by omega);exact C2 (JG _ _) λ_ _=>ih.DG _ _ _;intro at_ n ts;unfold ER;refine Dg (λh=>?_) λ_=>?_;exact Dl (DA (AU h) (C2 (ih.exp _ _) λ_ _=>C2 (Ea _ _) λ_ _=>ih.DG _ _ _)) (by omega);refine Dg (λh=>?_) λ_=>?_;exact Dl (DA (AU h) (C2 (JG _ _) λ_ _=>ih.DG _ _ _)) (by omega);refine Dg (λh=>?_) λ_=>step_ok;refine Dl (DA (AU h) (C2 (n:=0) ?_ λ_ _=>C2 (Ea _ _) λ_ _=>ih.DG _ _ _)) (by omega);exact Dg (λ_=>step_ok) λ_=>Dl (ih.CY _) (by omega);intro ts;unfold EQ;exact C2 (ih.exp _ _) λ_ _=>ih.Gq _ _;intro acc ts;unfold Fo;exact Dg (λh=>Dl (DA (AU h) (C2 (ih.exp _ _) λ_ _=>ih.Gq _ _)) (by omega)) λ_=>step_ok
structure Az0 (f:Nat):Prop where
 block:∀ c ts,Step 0 ts (EF f c ts)
 Eo:∀ c at_ acc ts,Step 0 ts (EP f c at_ acc ts)
 function:∀ ts,(hd ts).1≠6->Step 1 ts (F6 f ts)
 body:∀ ts,Step 1 ts (Fa f ts)
 stat:∀ ts,Step 1 ts (F8 f ts)
 branches:∀ acc ts,Step 1 ts (Fm f acc ts)
 for_:∀ at_ ts,Step 1 ts (F5 f at_ ts)
 plain:∀ ts,Step 1 ts (F7 f ts)
 targets:∀ acc e ts,Step 0 ts (Fq f acc e ts)
theorem stepS:∀ f,Az0 f
 | 0=>by constructor <;> intros <;> (first | unfold EF | unfold EP | unfold F6 | unfold Fa | unfold F8 | unfold Fm | unfold F5 | unfold F7 | unfold Fq) <;> exact step_none
 | f+1=>by
  have ih:=stepS f;have ie:=M3 f;constructor;intro c ts;unfold EF;exact ih.Eo _ _ _ _;intro c at_ acc ts;unfold EP;refine Dg (λh=>Dl (DA (AU h) (ih.Eo _ _ _ _)) (by omega)) λ_=>?_;refine Dg (λh=>?_) λ_=>?_;refine Dl (DA (AU h) (C2 (n:=0) (m:=0) ?_ λl r=>?_)) (by omega);exact Dg (λ_=>step_ok) λ_=>Dl (ie.CY _) (by omega);by_cases h:AB Ht r=true;rw [if_pos h];exact Dl (DA (AU h) step_ok) (by omega);rw [if_neg h];exact step_ok;refine Dg (λh=>?_) λ_=>?_;simp only [Bool.and_eq_true] at h;exact Dl (C2 (ih.function _ (AU h.2)) λ_ _=>ih.Eo _ _ _ _) (by omega);refine Dg (λ_=>step_ok) λ_=>?_;exact Dl (C2 (ih.stat _) λ_ _=>ih.Eo _ _ _ _) (by omega);intro ts h6;unfold F6;refine Dl (DA h6 (C2 (JG _ _) λ_ _=>C2 (Ea _ _) λ_ r=>C2 (n:=0) ?_ λ_ _=>C2 (Ea _ _) λ_ _=>C2 (ih.block _ _) λ_ _=>C2 (Ea _ _) λ_ _=>step_ok)) (by omega);exact Dg (λ_=>step_ok) λ_=>Dl (WY f r) (by omega);intro ts;unfold Fa;exact Dl (C2 (Ea _ _) λ_ _=>C2 (ih.block _ _) λ_ _=>C2 (Ea _ _) λ_ _=>step_ok) (by omega);intro ts;unfold F8;refine Dg (λh=>C2 (ih.body _) λ_ _=>step_ok) λ_=>?_;refine Dg (λh=>Dl (DA (AU h) (C2 (ie.exp _ _) λ_ _=>C2 (ih.body _) λ_ _=>step_ok)) (by omega)) λ_=>?_;refine Dg (λh=>Dl (DA (AU h) (C2 (ih.branches _ _) λ_ _=>step_ok)) (by omega)) λ_=>?_;refine Dg (λh=>Dl (DA (AU h) (ih.for_ _ _)) (by omega)) λ_=>?_;refine Dg (λh=>?_) λ_=>?_;refine Dl (DA (AU h) (C2 (WY f _) λ_ r=>C2 (n:=0) ?_ λ_ _=>step_ok)) (by omega);exact Dg (λh=>Dl (DA (AU h) (ie.CY _)) (by omega)) λ_=>step_ok;refine Dg (λh=>DA (AU h) step_ok) λ_=>ih.plain _;intro acc ts;unfold Fm;refine Dl (C2 (ie.exp _ _) λ_ _=>C2 (Ea _ _) λ_ _=>C2 (m:=0) (ih.block _ _) λ_ r=>?_) (by omega);refine Dg (λh=>Dl (DA (AU h) (ih.branches _ _)) (by omega)) λ_=>?_;refine Dg (λh=>Dl (DA (AU h) (C2 (ih.block _ _) λ_ _=>C2 (Ea _ _) λ_ _=>step_ok)) (by omega)) λ_=>?_;exact Dl (C2 (Ea _ _) λ_ _=>step_ok) (by omega);intro at_ ts;unfold F5;refine Dl (C2 (m:=0) (JG _ _) λn r=>?_) (by omega);refine Dg (λh=>?_) λ_=>?_;refine Dl (DA (AU h) (C2 (ie.exp _ _) λ_ _=>C2 (Ea _ _) λ_ _=>C2 (ie.exp _ _) λ_ r=>C2 (n:=0) ?_ λ_ _=>C2 (ih.body _) λ_ _=>step_ok)) (by omega);exact Dg (λh=>Dl (DA (AU h) (C2 (ie.exp _ _) λ_ _=>step_ok)) (by omega)) λ_=>step_ok;exact Dl (C2 (U2 _ _ _) λ_ _=>C2 (Ea _ _) λ_ _=>C2 (ie.CY _) λ_ _=>C2 (ih.body _) λ_ _=>step_ok) (by omega);intro ts;unfold F7;refine Dl (C2 (m:=0) (ie.Eg _) λe r=>?_) (by omega);refine Dg (λh=>?_) λ_=>?_;exact Dl (C2 (ih.targets _ _ _) λ_ _=>C2 (Ea _ _) λ_ _=>C2 (ie.CY _) λ_ _=>step_ok) (by omega);exact Dg (λ_=>step_ok) λ_=>step_bad;intro acc e ts;unfold Fq;refine Dg (λ_=>?_) λ_=>step_bad;exact Dg (λh=>Dl (DA (AU h) (C2 (ie.Eg _) λ_ _=>ih.targets _ _ _)) (by omega)) λ_=>step_ok
theorem C3 {α β:Type} {n:Nat} {ts:List Tk} {x:Option (PV α)} {f:α->List Tk->Option (PV β)} (hg:Good ts) (h1:∃ v,x=some v) (hs:Step n ts x) (h2:∀ a r,Good r->r.length+n<=ts.length->∃ v,f a r=some v):∃ v,PV.bind x f=some v:=by
 obtain ⟨v,rfl⟩:=h1;cases v with
 | bad i=>exact ⟨_,rfl⟩
 | ok a r =>
  obtain ⟨g1,g2,_⟩:=hs hg _ rfl;exact h2 a r g1 g2
theorem Dy {α:Type} {c:Prop} [Decidable c] {y z:Option (PV α)} (h1:c->∃ v,y=some v) (h2:¬ c->∃ v,z=some v):∃ v,(if c then y else z)=some v:=by
 by_cases h:c;rw [if_pos h];exact h1 h;rw [if_neg h];exact h2 h
theorem Iy (w:Ah) (ts:List Tk):∃ v,FL w ts=some v:=Dy (λ_=>⟨_,rfl⟩) λ_=>⟨_,rfl⟩
theorem Qs (k:Int) (ts:List Tk):∃ v,Jg k ts=some v:=Dy (λ_=>⟨_,rfl⟩) λ_=>⟨_,rfl⟩
theorem Sa:∀ (f:Nat) (acc:List Tree) (ts:List Tk),Good ts->16 * ts.length+1<=f->∃ v,Gy f acc ts=some v
 | 0,_,_,_,h=>by omega
 | f+1,acc,ts,hg,h=>by
  unfold Gy;refine Dy (λhc=>?_) λ_=>⟨_,rfl⟩;obtain ⟨g1,g2,_⟩:=hg.tail (AU hc);exact C3 g1 (Qs _ _) (JG _ _) λa r hr hl=>Sa f _ r hr (by omega)
structure Az1 (f:Nat):Prop where
 exp:∀ least ts,0<=least->Good ts->16 * ts.length+5<=f->∃ v,D0 f least ts=some v
 loop:∀ least n ts,0<=least->Good ts->16 * ts.length+1<=f->∃ v,Fp f least n ts=some v
 operand:∀ ts,Good ts->16 * ts.length+4<=f->∃ v,Fh f ts=some v
 fields:∀ acc ts,Good ts->16 * ts.length+7<=f->∃ v,Fg f acc ts=some v
 field:∀ ts,Good ts->16 * ts.length+6<=f->∃ v,F4 f ts=some v
 Eg:∀ ts,Good ts->16 * ts.length+3<=f->∃ v,ES f ts=some v
 DG:∀ at_ n ts,Good ts->16 * ts.length+1<=f->∃ v,ER f at_ n ts=some v
 CY:∀ ts,Good ts->16 * ts.length+6<=f->∃ v,EQ f ts=some v
 Gq:∀ acc ts,Good ts->16 * ts.length+1<=f->∃ v,Fo f acc ts=some v
theorem GG:∀ f,Az1 f
 | 0=>by constructor <;> intros <;> omega
 | f+1=>by
  have ih:=GG f;have st:=M3 f;constructor;intro least ts hl hg h;unfold D0;exact C3 hg (ih.operand _ hg (by omega)) (st.operand _) λa r hr hn=>ih.loop _ _ _ hl hr (by omega);intro least n ts hl hg h;unfold Fp;refine Dy (λ_=>⟨_,rfl⟩) λhb=>?_;obtain ⟨g1,g2,_⟩:=hg.tail (Mi (by omega));exact C3 g1 (ih.exp _ _ (by split <;> omega) g1 (by omega)) (st.exp _ _) λa r hr hn=>ih.loop _ _ _ hl hr (by omega);intro ts hg h;unfold Fh;refine Dy (λ_=>⟨_,rfl⟩) λ_=>Dy (λ_=>⟨_,rfl⟩) λ_=>Dy (λ_=>⟨_,rfl⟩) λ_=>Dy (λ_=>⟨_,rfl⟩) λ_=>Dy (λ_=>⟨_,rfl⟩) λ_=>Dy (λhc=>?_) λ_=>Dy (λhc=>?_) λ_=>ih.Eg _ hg (by omega);have h6:(hd ts).1≠6:=by
   simp only [Bool.or_eq_true] at hc;rcases hc with (h | h) | h <;> exact AU h
  obtain ⟨g1,g2,_⟩:=hg.tail h6;exact C3 g1 (ih.exp _ _ (by omega) g1 (by omega)) (st.exp _ _) λa r _ _=>⟨_,rfl⟩;obtain ⟨g1,g2,_⟩:=hg.tail (AU hc);exact C3 g1 (ih.fields _ _ g1 (by omega)) (st.fields _ _) λa r _ _=>⟨_,rfl⟩;intro acc ts hg h;unfold Fg;refine Dy (λ_=>⟨_,rfl⟩) λ_=>C3 hg (ih.field _ hg (by omega)) (st.field _) λx r hr hn=>?_;refine Dy (λhc=>?_) λ_=>Dy (λhc=>?_) λ_=>C3 hr (Iy _ _) (Ea _ _) λ_ _ _ _=>⟨_,rfl⟩;obtain ⟨g1,g2,_⟩:=hr.tail (AU hc);exact ih.fields _ _ g1 (by omega);obtain ⟨g1,g2,_⟩:=hr.tail (AU hc);exact ih.fields _ _ g1 (by omega);intro ts hg h;unfold F4;refine Dy (λhc=>?_) λ_=>Dy (λhc=>?_) λ_=>C3 hg (ih.exp _ _ (by omega) hg (by omega)) (st.exp _ _) λ_ _ _ _=>⟨_,rfl⟩;obtain ⟨g1,g2,_⟩:=hg.tail (AU hc);exact C3 g1 (ih.exp _ _ (by omega) g1 (by omega)) (st.exp _ _) λ_ r hr hn=>C3 hr (Iy _ _) (Ea _ _) λ_ r2 hr2 hn2=>C3 hr2 (Iy _ _) (Ea _ _) λ_ r3 hr3 hn3=>C3 hr3 (ih.exp _ _ (by omega) hr3 (by omega)) (st.exp _ _) λ_ _ _ _=>⟨_,rfl⟩;obtain ⟨h1,h2,_⟩:=hc;obtain ⟨g1,g2,_⟩:=hg.tail (by omega);obtain ⟨g3,g4,_⟩:=g1.tail (by omega);exact C3 g3 (ih.exp _ _ (by omega) g3 (by omega)) (st.exp _ _) λ_ _ _ _=>⟨_,rfl⟩;intro ts hg h;unfold ES;refine Dy (λhc=>?_) λ_=>C3 hg (Qs _ _) (JG _ _) λ_ r hr hn=>ih.DG _ _ _ hr (by omega);obtain ⟨g1,g2,_⟩:=hg.tail (AU hc);exact C3 g1 (ih.exp _ _ (by omega) g1 (by omega)) (st.exp _ _) λ_ r hr hn=>C3 hr (Iy _ _) (Ea _ _) λ_ r2 hr2 hn2=>ih.DG _ _ _ hr2 (by omega);intro at_ n ts hg h;unfold ER;refine Dy (λhc=>?_) λ_=>Dy (λhc=>?_) λ_=>Dy (λhc=>?_) λ_=>⟨_,rfl⟩;obtain ⟨g1,g2,_⟩:=hg.tail (AU hc);exact C3 g1 (ih.exp _ _ (by omega) g1 (by omega)) (st.exp _ _) λ_ r hr hn=>C3 hr (Iy _ _) (Ea _ _) λ_ r2 hr2 hn2=>ih.DG _ _ _ hr2 (by omega);obtain ⟨g1,g2,_⟩:=hg.tail (AU hc);exact C3 g1 (Qs _ _) (JG _ _) λ_ r hr hn=>ih.DG _ _ _ hr (by omega);obtain ⟨g1,g2,_⟩:=hg.tail (AU hc);exact C3 (n:=0) g1 (Dy (λ_=>⟨_,rfl⟩) λ_=>ih.CY _ g1 (by omega)) (Dg (λ_=>step_ok) λ_=>Dl (st.CY _) (by omega)) λ_ r hr hn=>C3 hr (Iy _ _) (Ea _ _) λ_ r2 hr2 hn2=>ih.DG _ _ _ hr2 (by omega);intro ts hg h;unfold EQ;exact C3 hg (ih.exp _ _ (by omega) hg (by omega)) (st.exp _ _) λ_ r hr hn=>ih.Gq _ _ hr (by omega);intro acc ts hg h;unfold Fo;refine Dy (λhc=>?_) λ_=>⟨_,rfl⟩;obtain ⟨g1,g2,_⟩:=hg.tail (AU hc);exact C3 g1 (ih.exp _ _ (by omega) g1 (by omega)) (st.exp _ _) λ_ r hr hn=>ih.Gq _ _ hr (by omega)
structure Az5 (f:Nat):Prop where
 block:∀ c ts,Good ts->16 * ts.length+9<=f->∃ v,EF f c ts=some v
 Eo:∀ c at_ acc ts,Good ts->16 * ts.length+8<=f->∃ v,EP f c at_ acc ts=some v
 function:∀ ts,(hd ts).1≠6->Good ts->16 * ts.length+7<=f->∃ v,F6 f ts=some v
 body:∀ ts,Good ts->16 * ts.length+6<=f->∃ v,Fa f ts=some v
 stat:∀ ts,Good ts->16 * ts.length+7<=f->∃ v,F8 f ts=some v
 branches:∀ acc ts,Good ts->16 * ts.length+6<=f->∃ v,Fm f acc ts=some v
 for_:∀ at_ ts,Good ts->16 * ts.length+1<=f->∃ v,F5 f at_ ts=some v
 plain:∀ ts,Good ts->16 * ts.length+6<=f->∃ v,F7 f ts=some v
 targets:∀ acc e ts,Good ts->16 * ts.length+1<=f->∃ v,Fq f acc e ts=some v
theorem Hg:∀ f,Az5 f
 | 0=>by constructor <;> intros <;> omega
 | f+1=>by
  have ih:=Hg f;have ie:=GG f;have se:=M3 f;have ss:=stepS f;constructor;intro c ts hg h;unfold EF;exact ih.Eo _ _ _ _ hg (by omega);intro c at_ acc ts hg h;unfold EP;refine Dy (λhc=>?_) λ_=>Dy (λhc=>?_) λ_=>Dy (λhc=>?_) λ_=>Dy (λ_=>⟨_,rfl⟩) λ_=>?_;obtain ⟨g1,g2,_⟩:=hg.tail (AU hc);exact ih.Eo _ _ _ _ g1 (by omega);obtain ⟨g1,g2,_⟩:=hg.tail (AU hc);exact C3 (n:=0) g1 (Dy (λ_=>⟨_,rfl⟩) λ_=>ie.CY _ g1 (by omega)) (Dg (λ_=>step_ok) λ_=>Dl (se.CY _) (by omega)) λ_ r hr hn=>⟨_,rfl⟩;simp only [Bool.and_eq_true] at hc;exact C3 hg (ih.function _ (AU hc.2) hg (by omega)) (ss.function _ (AU hc.2)) λ_ r hr hn=>ih.Eo _ _ _ _ hr (by omega);exact C3 hg (ih.stat _ hg (by omega)) (ss.stat _) λ_ r hr hn=>ih.Eo _ _ _ _ hr (by omega);intro ts h6 hg h;unfold F6;obtain ⟨g1,g2,_⟩:=hg.tail h6;exact C3 g1 (Qs _ _) (JG _ _) λ_ r hr hn=>C3 hr (Iy _ _) (Ea _ _) λ_ r2 hr2 hn2 =>
   C3 (n:=0) hr2 (Dy (λ_=>⟨_,rfl⟩) λ_=>C3 hr2 (Qs _ _) (JG _ _) λ_ r hr hn=>Sa _ _ _ hr (by omega)) (Dg (λ_=>step_ok) λ_=>Dl (WY f r2) (by omega)) λ_ r3 hr3 hn3 =>
    C3 hr3 (Iy _ _) (Ea _ _) λ_ r4 hr4 hn4=>C3 hr4 (ih.block _ _ hr4 (by omega)) (ss.block _ _) λ_ r5 hr5 hn5=>C3 hr5 (Iy _ _) (Ea _ _) λ_ _ _ _=>⟨_,rfl⟩
  intro ts hg h;unfold Fa;exact C3 hg (Iy _ _) (Ea _ _) λ_ r hr hn=>C3 hr (ih.block _ _ hr (by omega)) (ss.block _ _) λ_ r5 hr5 hn5=>C3 hr5 (Iy _ _) (Ea _ _) λ_ _ _ _=>⟨_,rfl⟩;intro ts hg h;unfold F8;refine Dy (λhc=>?_) λ_=>Dy (λhc=>?_) λ_=>Dy (λhc=>?_) λ_=>Dy (λhc=>?_) λ_=>Dy (λhc=>?_) λ_=>Dy (λhc=>⟨_,rfl⟩) λ_=>ih.plain _ hg (by omega);exact C3 hg (ih.body _ hg (by omega)) (ss.body _) λ_ _ _ _=>⟨_,rfl⟩;obtain ⟨g1,g2,_⟩:=hg.tail (AU hc);exact C3 g1 (ie.exp _ _ (by omega) g1 (by omega)) (se.exp _ _) λ_ r hr hn=>C3 hr (ih.body _ hr (by omega)) (ss.body _) λ_ _ _ _=>⟨_,rfl⟩;obtain ⟨g1,g2,_⟩:=hg.tail (AU hc);exact C3 g1 (ih.branches _ _ g1 (by omega)) (ss.branches _ _) λ_ _ _ _=>⟨_,rfl⟩;obtain ⟨g1,g2,_⟩:=hg.tail (AU hc);exact ih.for_ _ _ g1 (by omega);obtain ⟨g1,g2,_⟩:=hg.tail (AU hc);refine C3 g1 (C3 g1 (Qs _ _) (JG _ _) λ_ r hr hn=>Sa _ _ _ hr (by omega)) (WY f _) λ_ r hr hn=>?_;refine C3 (n:=0) hr (Dy (λhc=>?_) λ_=>⟨_,rfl⟩) (Dg (λh=>Dl (DA (AU h) (se.CY _)) (by omega)) λ_=>step_ok) λ_ _ _ _=>⟨_,rfl⟩;obtain ⟨g3,g4,_⟩:=hr.tail (AU hc);exact ie.CY _ g3 (by omega);intro acc ts hg h;unfold Fm;refine C3 hg (ie.exp _ _ (by omega) hg (by omega)) (se.exp _ _) λ_ r hr hn=>C3 hr (Iy _ _) (Ea _ _) λ_ r2 hr2 hn2=>C3 hr2 (ih.block _ _ hr2 (by omega)) (ss.block _ _) λ_ r3 hr3 hn3=>?_;refine Dy (λhc=>?_) λ_=>Dy (λhc=>?_) λ_=>C3 hr3 (Iy _ _) (Ea _ _) λ_ _ _ _=>⟨_,rfl⟩;obtain ⟨g1,g2,_⟩:=hr3.tail (AU hc);exact ih.branches _ _ g1 (by omega);obtain ⟨g1,g2,_⟩:=hr3.tail (AU hc);exact C3 g1 (ih.block _ _ g1 (by omega)) (ss.block _ _) λ_ r4 hr4 hn4=>C3 hr4 (Iy _ _) (Ea _ _) λ_ _ _ _=>⟨_,rfl⟩;intro at_ ts hg h;unfold F5;refine C3 hg (Qs _ _) (JG _ _) λn r hr hn=>Dy (λhc=>?_) λ_=>?_;obtain ⟨g1,g2,_⟩:=hr.tail (AU hc);refine C3 g1 (ie.exp _ _ (by omega) g1 (by omega)) (se.exp _ _) λ_ r2 hr2 hn2=>C3 hr2 (Iy _ _) (Ea _ _) λ_ r3 hr3 hn3=>C3 hr3 (ie.exp _ _ (by omega) hr3 (by omega)) (se.exp _ _) λ_ r4 hr4 hn4=>?_;refine C3 (n:=0) hr4 (Dy (λhc=>?_) λ_=>⟨_,rfl⟩) (Dg (λh=>Dl (DA (AU h) (C2 (se.exp _ _) λ_ _=>step_ok)) (by omega)) λ_=>step_ok) λ_ r5 hr5 hn5=>C3 hr5 (ih.body _ hr5 (by omega)) (ss.body _) λ_ _ _ _=>⟨_,rfl⟩;obtain ⟨g3,g4,_⟩:=hr4.tail (AU hc);exact C3 g3 (ie.exp _ _ (by omega) g3 (by omega)) (se.exp _ _) λ_ _ _ _=>⟨_,rfl⟩;exact C3 hr (Sa _ _ _ hr (by omega)) (U2 _ _ _) λ_ r2 hr2 hn2=>C3 hr2 (Iy _ _) (Ea _ _) λ_ r3 hr3 hn3=>C3 hr3 (ie.CY _ hr3 (by omega)) (se.CY _) λ_ r4 hr4 hn4=>C3 hr4 (ih.body _ hr4 (by omega)) (ss.body _) λ_ _ _ _=>⟨_,rfl⟩;intro ts hg h;unfold F7;refine C3 hg (ie.Eg _ hg (by omega)) (se.Eg _) λe r hr hn=>Dy (λhc=>?_) λ_=>Dy (λ_=>⟨_,rfl⟩) λ_=>⟨_,rfl⟩;exact C3 hr (ih.targets _ _ _ hr (by omega)) (ss.targets _ _ _) λ_ r2 hr2 hn2=>C3 hr2 (Iy _ _) (Ea _ _) λ_ r3 hr3 hn3=>C3 hr3 (ie.CY _ hr3 (by omega)) (se.CY _) λ_ _ _ _=>⟨_,rfl⟩;intro acc e ts hg h;unfold Fq;refine Dy (λ_=>Dy (λhc=>?_) λ_=>⟨_,rfl⟩) λ_=>⟨_,rfl⟩;obtain ⟨g1,g2,_⟩:=hg.tail (AU hc);exact C3 g1 (ie.Eg _ g1 (by omega)) (se.Eg _) λ_ r hr hn=>ih.targets _ _ _ hr (by omega)
def Le {α:Type} (x y:Option α):Prop:=∀ v,x=some v->y=some v
section
variable {α β:Type}
theorem Le.refl (x:Option α):Le x x:=λ_ h=>h
theorem Le.none (x:Option α):Le none x:=λ_ h=>by cases h
theorem Le.trans {x y z:Option α} (h1:Le x y) (h2:Le y z):Le x z:=λv h=>h2 v (h1 v h)
theorem Le.bind {x y:Option (PV α)} {f g:α->List Tk->Option (PV β)} (h:Le x y) (hf:∀ a r,Le (f a r) (g a r)):Le (PV.bind x f) (PV.bind y g):=λv hv=>by
 rcases bind_some hv with ⟨i,hx,rfl⟩ | ⟨a,r,hx,h2⟩;rw [h _ hx];rfl;rw [h _ hx];exact hf a r _ h2
theorem Le.ite {c:Prop} [Decidable c] {x y x' y':Option α} (h1:Le x x') (h2:Le y y'):Le (if c then x else y) (if c then x' else y'):=by
 by_cases h:c;rw [if_pos h,if_pos h];exact h1;rw [if_neg h,if_neg h];exact h2
end
theorem Wl:∀ (f:Nat) (acc:List Tree) (ts:List Tk),Le (Gy f acc ts) (Gy (f+1) acc ts)
 | 0,_,_=>Le.none _
 | f+1,acc,ts=>by
  rw [Gy,Gy];exact Le.ite (Le.bind (Le.refl _) λ_ _=>Wl f _ _) (Le.refl _)
theorem Apr (f:Nat) (ts:List Tk):Le (Nq f ts) (Nq (f+1) ts):=Le.bind (Le.refl _) λ_ _=>Wl f _ _
structure LeE (f:Nat):Prop where
 exp:∀ least ts,Le (D0 f least ts) (D0 (f+1) least ts)
 loop:∀ least n ts,Le (Fp f least n ts) (Fp (f+1) least n ts)
 operand:∀ ts,Le (Fh f ts) (Fh (f+1) ts)
 fields:∀ acc ts,Le (Fg f acc ts) (Fg (f+1) acc ts)
 field:∀ ts,Le (F4 f ts) (F4 (f+1) ts)
 Eg:∀ ts,Le (ES f ts) (ES (f+1) ts)
 DG:∀ at_ n ts,Le (ER f at_ n ts) (ER (f+1) at_ n ts)
 CY:∀ ts,Le (EQ f ts) (EQ (f+1) ts)
 Gq:∀ acc ts,Le (Fo f acc ts) (Fo (f+1) acc ts)
theorem LI:∀ f,LeE f
 | 0=>by constructor <;> intros <;> (first | rw [D0] | rw [Fp] | rw [Fh] | rw [Fg] | rw [F4] | rw [ES] | rw [ER] | rw [EQ] | rw [Fo]) <;> exact Le.none _
 | f+1=>by
  have ih:=LI f;constructor;intro least ts;rw [D0,D0];exact Le.bind (ih.operand _) λ_ _=>ih.loop _ _ _;intro least n ts;rw [Fp,Fp];exact Le.ite (Le.refl _) (Le.bind (ih.exp _ _) λ_ _=>ih.loop _ _ _);intro ts;rw [Fh,Fh];exact Le.ite (Le.refl _) (Le.ite (Le.refl _) (Le.ite (Le.refl _) (Le.ite (Le.refl _) (Le.ite (Le.refl _) (Le.ite (Le.bind (ih.exp _ _) λ_ _=>Le.refl _) (Le.ite (Le.bind (ih.fields _ _) λ_ _=>Le.refl _) (ih.Eg _)))))));intro acc ts;rw [Fg,Fg];exact Le.ite (Le.refl _) (Le.bind (ih.field _) λ_ _=>Le.ite (ih.fields _ _) (Le.ite (ih.fields _ _) (Le.refl _)));intro ts;rw [F4,F4];exact Le.ite (Le.bind (ih.exp _ _) λ_ _=>Le.bind (Le.refl _) λ_ _=>Le.bind (Le.refl _) λ_ _=>Le.bind (ih.exp _ _) λ_ _=>Le.refl _) (Le.ite (Le.bind (ih.exp _ _) λ_ _=>Le.refl _) (Le.bind (ih.exp _ _) λ_ _=>Le.refl _));intro ts;rw [ES,ES];exact Le.ite (Le.bind (ih.exp _ _) λ_ _=>Le.bind (Le.refl _) λ_ _=>ih.DG _ _ _) (Le.bind (Le.refl _) λ_ _=>ih.DG _ _ _);intro at_ n ts;rw [ER,ER];exact Le.ite (Le.bind (ih.exp _ _) λ_ _=>Le.bind (Le.refl _) λ_ _=>ih.DG _ _ _) (Le.ite (Le.bind (Le.refl _) λ_ _=>ih.DG _ _ _) (Le.ite (Le.bind (Le.ite (Le.refl _) (ih.CY _)) λ_ _=>Le.bind (Le.refl _) λ_ _=>ih.DG _ _ _) (Le.refl _)));intro ts;rw [EQ,EQ];exact Le.bind (ih.exp _ _) λ_ _=>ih.Gq _ _;intro acc ts;rw [Fo,Fo];exact Le.ite (Le.bind (ih.exp _ _) λ_ _=>ih.Gq _ _) (Le.refl _)
structure LeS (f:Nat):Prop where
 block:∀ c ts,Le (EF f c ts) (EF (f+1) c ts)
 Eo:∀ c at_ acc ts,Le (EP f c at_ acc ts) (EP (f+1) c at_ acc ts)
 function:∀ ts,Le (F6 f ts) (F6 (f+1) ts)
 body:∀ ts,Le (Fa f ts) (Fa (f+1) ts)
 stat:∀ ts,Le (F8 f ts) (F8 (f+1) ts)
 branches:∀ acc ts,Le (Fm f acc ts) (Fm (f+1) acc ts)
 for_:∀ at_ ts,Le (F5 f at_ ts) (F5 (f+1) at_ ts)
 plain:∀ ts,Le (F7 f ts) (F7 (f+1) ts)
 targets:∀ acc e ts,Le (Fq f acc e ts) (Fq (f+1) acc e ts)
theorem leS:∀ f,LeS f
 | 0=>by constructor <;> intros <;> (first | rw [EF] | rw [EP] | rw [F6] | rw [Fa] | rw [F8] | rw [Fm] | rw [F5] | rw [F7] | rw [Fq]) <;> exact Le.none _
 | f+1=>by
  have ih:=leS f;have ie:=LI f;constructor;intro c ts;rw [EF,EF];exact ih.Eo _ _ _ _;intro c at_ acc ts;rw [EP,EP];exact Le.ite (ih.Eo _ _ _ _) (Le.ite (Le.bind (Le.ite (Le.refl _) (ie.CY _)) λ_ _=>Le.refl _) (Le.ite (Le.bind (ih.function _) λ_ _=>ih.Eo _ _ _ _) (Le.ite (Le.refl _) (Le.bind (ih.stat _) λ_ _=>ih.Eo _ _ _ _))));intro ts;rw [F6,F6];exact Le.bind (Le.refl _) λ_ _=>Le.bind (Le.refl _) λ_ _=>Le.bind (Le.ite (Le.refl _) (Apr _ _)) λ_ _=>Le.bind (Le.refl _) λ_ _=>Le.bind (ih.block _ _) λ_ _=>Le.refl _;intro ts;rw [Fa,Fa];exact Le.bind (Le.refl _) λ_ _=>Le.bind (ih.block _ _) λ_ _=>Le.refl _;intro ts;rw [F8,F8];exact Le.ite (Le.bind (ih.body _) λ_ _=>Le.refl _) (Le.ite (Le.bind (ie.exp _ _) λ_ _=>Le.bind (ih.body _) λ_ _=>Le.refl _) (Le.ite (Le.bind (ih.branches _ _) λ_ _=>Le.refl _) (Le.ite (ih.for_ _ _) (Le.ite (Le.bind (Apr _ _) λ_ _=>Le.bind (Le.ite (ie.CY _) (Le.refl _)) λ_ _=>Le.refl _) (Le.ite (Le.refl _) (ih.plain _))))));intro acc ts;rw [Fm,Fm];exact Le.bind (ie.exp _ _) λ_ _=>Le.bind (Le.refl _) λ_ _=>Le.bind (ih.block _ _) λ_ _=>Le.ite (ih.branches _ _) (Le.ite (Le.bind (ih.block _ _) λ_ _=>Le.refl _) (Le.refl _));intro at_ ts;rw [F5,F5];exact Le.bind (Le.refl _) λ_ _=>Le.ite (Le.bind (ie.exp _ _) λ_ _=>Le.bind (Le.refl _) λ_ _=>Le.bind (ie.exp _ _) λ_ _=>Le.bind (Le.ite (Le.bind (ie.exp _ _) λ_ _=>Le.refl _) (Le.refl _)) λ_ _=>Le.bind (ih.body _) λ_ _=>Le.refl _) (Le.bind (Wl _ _ _) λ_ _=>Le.bind (Le.refl _) λ_ _=>Le.bind (ie.CY _) λ_ _=>Le.bind (ih.body _) λ_ _=>Le.refl _);intro ts;rw [F7,F7];exact Le.bind (ie.Eg _) λ_ _=>Le.ite (Le.bind (ih.targets _ _ _) λ_ _=>Le.bind (Le.refl _) λ_ _=>Le.bind (ie.CY _) λ_ _=>Le.refl _) (Le.refl _);intro acc e ts;rw [Fq,Fq];exact Le.ite (Le.ite (Le.bind (ie.Eg _) λ_ _=>ih.targets _ _ _) (Le.refl _)) (Le.refl _)
theorem Aps {α:Type} {p:Nat->Option α} (h:∀ f,Le (p f) (p (f+1))) {f f':Nat} (h0:f<=f'):Le (p f) (p f'):=by
 induction f' with
 | zero=>rw [Nat.le_zero.1 h0];exact Le.refl _
 | succ f' ih =>
  rcases Nat.lt_or_ge f (f'+1) with h1 | h1;exact (ih (by omega)).trans (h f');rw [show f=f'+1 by omega];exact Le.refl _
def val {α:Type} (x:Option (PV α)):PV α:=x.getD (.bad 0)
def fu (ts:List Tk):Nat:=16 * ts.length+16
theorem Hh {α:Type} {p:Nat->Option (PV α)} (h:∀ f,Le (p f) (p (f+1))) {f f0:Nat} (h1:∃ v,p f=some v) (h2:∃ v,p f0=some v):p f=some (val (p f0)):=by
 obtain ⟨v,hv⟩:=h1;obtain ⟨v0,hv0⟩:=h2;rcases Nat.le_total f f0 with h' | h';have:=Aps h h' v hv;rw [hv,this];rfl;have:=Aps h h' v0 hv0;rw [this,hv0];rfl
def K6 (acc:List Tree) (ts:List Tk):PV (List Tree):=val (Gy (fu ts) acc ts)
def Ec (least:Int) (ts:List Tk):PV Tree:=val (D0 (fu ts) least ts)
def JH (least:Int) (n:Tree) (ts:List Tk):PV Tree:=val (Fp (fu ts) least n ts)
def K7 (ts:List Tk):PV Tree:=val (Fh (fu ts) ts)
def Ln (acc:List Tree) (ts:List Tk):PV (List Tree):=val (Fg (fu ts) acc ts)
def O8 (ts:List Tk):PV Tree:=val (F4 (fu ts) ts)
def Jp (ts:List Tk):PV Tree:=val (ES (fu ts) ts)
def K8 (at_:Int) (n:Tree) (ts:List Tk):PV Tree:=val (ER (fu ts) at_ n ts)
def Gb (ts:List Tk):PV (List Tree):=val (EQ (fu ts) ts)
def Qv (acc:List Tree) (ts:List Tk):PV (List Tree):=val (Fo (fu ts) acc ts)
def FE (c:Bool) (ts:List Tk):PV Tree:=val (EF (fu ts) c ts)
def K5 (c:Bool) (at_:Int) (acc:List Tree) (ts:List Tk):PV Tree:=val (EP (fu ts) c at_ acc ts)
def Sb (ts:List Tk):PV Tree:=val (F6 (fu ts) ts)
def Jo (ts:List Tk):PV Tree:=val (Fa (fu ts) ts)
def N8 (ts:List Tk):PV Tree:=val (F8 (fu ts) ts)
def N7 (acc:List Tree) (ts:List Tk):PV (List Tree):=val (Fm (fu ts) acc ts)
def Qw (at_:Int) (ts:List Tk):PV Tree:=val (F5 (fu ts) at_ ts)
def Qx (ts:List Tk):PV Tree:=val (F7 (fu ts) ts)
def Qy (acc:List Tree) (e:Tree) (ts:List Tk):PV (List Tree):=val (Fq (fu ts) acc e ts)
def Dc (w:Ah) (ts:List Tk):PV Unit:=if AB w ts then .ok () ts.tail else .bad (hd ts).2.2.2
def GH (kind:Int) (ts:List Tk):PV Tree:=if (hd ts).1=1 then .ok (.mk kind (hd ts).2.1 0 (hd ts).2.2.2 []) ts.tail else .bad (hd ts).2.2.2
section
variable {ts:List Tk} {f:Nat}
theorem Hv (w:Ah) (ts:List Tk):FL w ts=some (Dc w ts):=by unfold FL Dc;split <;> rfl
theorem Qc (k:Int) (ts:List Tk):Jg k ts=some (GH k ts):=by unfold Jg GH;split <;> rfl
theorem Ue (acc:List Tree) (hg:Good ts) (hf:16 * ts.length+1<=f):Gy f acc ts=some (K6 acc ts):=Hh (p:=λf=>Gy f acc ts) (λf=>Wl f acc ts) (Sa _ _ _ hg hf) (Sa _ _ _ hg (by unfold fu;omega))
theorem Il {least:Int} (hl:0<=least) (hg:Good ts) (hf:16 * ts.length+5<=f):D0 f least ts=some (Ec least ts):=Hh (p:=λf=>D0 f least ts) (λf=>(LI f).exp _ _) ((GG _).exp _ _ hl hg hf) ((GG _).exp _ _ hl hg (by unfold fu;omega))
theorem Abn {least:Int} (n:Tree) (hl:0<=least) (hg:Good ts) (hf:16 * ts.length+1<=f):Fp f least n ts=some (JH least n ts):=Hh (p:=λf=>Fp f least n ts) (λf=>(LI f).loop _ _ _) ((GG _).loop _ _ _ hl hg hf) ((GG _).loop _ _ _ hl hg (by unfold fu;omega))
theorem Abp (hg:Good ts) (hf:16 * ts.length+4<=f):Fh f ts=some (K7 ts):=Hh (p:=λf=>Fh f ts) (λf=>(LI f).operand _) ((GG _).operand _ hg hf) ((GG _).operand _ hg (by unfold fu;omega))
theorem Ud (acc:List Tree) (hg:Good ts) (hf:16 * ts.length+7<=f):Fg f acc ts=some (Ln acc ts):=Hh (p:=λf=>Fg f acc ts) (λf=>(LI f).fields _ _) ((GG _).fields _ _ hg hf) ((GG _).fields _ _ hg (by unfold fu;omega))
theorem Abk (hg:Good ts) (hf:16 * ts.length+6<=f):F4 f ts=some (O8 ts):=Hh (p:=λf=>F4 f ts) (λf=>(LI f).field _) ((GG _).field _ hg hf) ((GG _).field _ hg (by unfold fu;omega))
theorem Uf (hg:Good ts) (hf:16 * ts.length+3<=f):ES f ts=some (Jp ts):=Hh (p:=λf=>ES f ts) (λf=>(LI f).Eg _) ((GG _).Eg _ hg hf) ((GG _).Eg _ hg (by unfold fu;omega))
theorem RM (at_:Int) (n:Tree) (hg:Good ts) (hf:16 * ts.length+1<=f):ER f at_ n ts=some (K8 at_ n ts):=Hh (p:=λf=>ER f at_ n ts) (λf=>(LI f).DG _ _ _) ((GG _).DG _ _ _ hg hf) ((GG _).DG _ _ _ hg (by unfold fu;omega))
theorem Qb (hg:Good ts) (hf:16 * ts.length+6<=f):EQ f ts=some (Gb ts):=Hh (p:=λf=>EQ f ts) (λf=>(LI f).CY _) ((GG _).CY _ hg hf) ((GG _).CY _ hg (by unfold fu;omega))
theorem Abj (acc:List Tree) (hg:Good ts) (hf:16 * ts.length+1<=f):Fo f acc ts=some (Qv acc ts):=Hh (p:=λf=>Fo f acc ts) (λf=>(LI f).Gq _ _) ((GG _).Gq _ _ hg hf) ((GG _).Gq _ _ hg (by unfold fu;omega))
theorem Qa (c:Bool) (hg:Good ts) (hf:16 * ts.length+9<=f):EF f c ts=some (FE c ts):=Hh (p:=λf=>EF f c ts) (λf=>(leS f).block _ _) ((Hg _).block _ _ hg hf) ((Hg _).block _ _ hg (by unfold fu;omega))
theorem Uc (c:Bool) (at_:Int) (acc:List Tree) (hg:Good ts) (hf:16 * ts.length+8<=f):EP f c at_ acc ts=some (K5 c at_ acc ts):=Hh (p:=λf=>EP f c at_ acc ts) (λf=>(leS f).Eo _ _ _ _) ((Hg _).Eo _ _ _ _ hg hf) ((Hg _).Eo _ _ _ _ hg (by unfold fu;omega))
theorem Abm (h6:(hd ts).1≠6) (hg:Good ts) (hf:16 * ts.length+7<=f):F6 f ts=some (Sb ts):=Hh (p:=λf=>F6 f ts) (λf=>(leS f).function _) ((Hg _).function _ h6 hg hf) ((Hg _).function _ h6 hg (by unfold fu;omega))
theorem RL (hg:Good ts) (hf:16 * ts.length+6<=f):Fa f ts=some (Jo ts):=Hh (p:=λf=>Fa f ts) (λf=>(leS f).body _) ((Hg _).body _ hg hf) ((Hg _).body _ hg (by unfold fu;omega))
theorem Abq (hg:Good ts) (hf:16 * ts.length+7<=f):F8 f ts=some (N8 ts):=Hh (p:=λf=>F8 f ts) (λf=>(leS f).stat _) ((Hg _).stat _ hg hf) ((Hg _).stat _ hg (by unfold fu;omega))
theorem W6 (acc:List Tree) (hg:Good ts) (hf:16 * ts.length+6<=f):Fm f acc ts=some (N7 acc ts):=Hh (p:=λf=>Fm f acc ts) (λf=>(leS f).branches _ _) ((Hg _).branches _ _ hg hf) ((Hg _).branches _ _ hg (by unfold fu;omega))
theorem Ar7 (at_:Int) (hg:Good ts) (hf:16 * ts.length+1<=f):F5 f at_ ts=some (Qw at_ ts):=Hh (p:=λf=>F5 f at_ ts) (λf=>(leS f).for_ _ _) ((Hg _).for_ _ _ hg hf) ((Hg _).for_ _ _ hg (by unfold fu;omega))
theorem Ar9 (hg:Good ts) (hf:16 * ts.length+6<=f):F7 f ts=some (Qx ts):=Hh (p:=λf=>F7 f ts) (λf=>(leS f).plain _) ((Hg _).plain _ hg hf) ((Hg _).plain _ hg (by unfold fu;omega))
theorem W7 (acc:List Tree) (e:Tree) (hg:Good ts) (hf:16 * ts.length+1<=f):Fq f acc e ts=some (Qy acc e ts):=Hh (p:=λf=>Fq f acc e ts) (λf=>(leS f).targets _ _ _) ((Hg _).targets _ _ _ hg hf) ((Hg _).targets _ _ _ hg (by unfold fu;omega))
theorem CO (w:Ah) (hg:Good ts):Fwd 1 ts (Dc w ts):=Ea w ts hg _ (Hv w ts)
theorem fName (k:Int) (hg:Good ts):Fwd 1 ts (GH k ts):=JG k ts hg _ (Qc k ts)
theorem Aiw (acc:List Tree) (hg:Good ts):Fwd 0 ts (K6 acc ts):=U2 _ _ ts hg _ (Ue acc hg (by unfold fu;omega:_<=fu ts))
theorem Da {least:Int} (hl:0<=least) (hg:Good ts):Fwd 1 ts (Ec least ts):=(M3 _).exp _ _ hg _ (Il hl hg (by unfold fu;omega:_<=fu ts))
theorem SI (hg:Good ts):Fwd 1 ts (K7 ts):=(M3 _).operand _ hg _ (Abp hg (by unfold fu;omega:_<=fu ts))
theorem Aiu (acc:List Tree) (hg:Good ts):Fwd 1 ts (Ln acc ts):=(M3 _).fields _ _ hg _ (Ud acc hg (by unfold fu;omega:_<=fu ts))
theorem XX (hg:Good ts):Fwd 1 ts (O8 ts):=(M3 _).field _ hg _ (Abk hg (by unfold fu;omega:_<=fu ts))
theorem Pc (hg:Good ts):Fwd 1 ts (Jp ts):=(M3 _).Eg _ hg _ (Uf hg (by unfold fu;omega:_<=fu ts))
theorem JZ (hg:Good ts):Fwd 1 ts (Gb ts):=(M3 _).CY _ hg _ (Qb hg (by unfold fu;omega:_<=fu ts))
theorem I_ (c:Bool) (hg:Good ts):Fwd 0 ts (FE c ts):=(stepS _).block _ _ hg _ (Qa c hg (by unfold fu;omega:_<=fu ts))
theorem Aiv (h6:(hd ts).1≠6) (hg:Good ts):Fwd 1 ts (Sb ts):=(stepS _).function _ h6 hg _ (Abm h6 hg (by unfold fu;omega:_<=fu ts))
theorem Pa (hg:Good ts):Fwd 1 ts (Jo ts):=(stepS _).body _ hg _ (RL hg (by unfold fu;omega:_<=fu ts))
theorem XY (hg:Good ts):Fwd 1 ts (N8 ts):=(stepS _).stat _ hg _ (Abq hg (by unfold fu;omega:_<=fu ts))
theorem Ait (acc:List Tree) (hg:Good ts):Fwd 1 ts (N7 acc ts):=(stepS _).branches _ _ hg _ (W6 acc hg (by unfold fu;omega:_<=fu ts))
theorem A5j (acc:List Tree) (e:Tree) (hg:Good ts):Fwd 0 ts (Qy acc e ts):=(stepS _).targets _ _ _ hg _ (W7 acc e hg (by unfold fu;omega:_<=fu ts))
end
def PV.then {α β:Type}:PV α->(α->List Tk->PV β)->PV β
 | .ok a r,f=>f a r
 | .bad i,_=>.bad i
section
variable {α β:Type} {n:Nat} {ts:List Tk}
theorem C4 {x:Option (PV α)} {vx:PV α} {f:α->List Tk->Option (PV β)} {g:α->List Tk->PV β} (hx:x=some vx) (hw:Fwd n ts vx) (hf:∀ a r,Good r->r.length+n<=ts.length->f a r=some (g a r)):PV.bind x f=some (vx.then g):=by
 subst hx;cases vx with
 | bad i=>rfl
 | ok a r=>exact hf a r hw.1 hw.2.1
theorem D3 {c:Prop} [Decidable c] {y z:Option α} {y' z':α} (h1:c->y=some y') (h2:¬ c->z=some z'):(if c then y else z)=some (if c then y' else z'):=by
 by_cases h:c;rw [if_pos h,if_pos h];exact h1 h;rw [if_neg h,if_neg h];exact h2 h
theorem SM {c:Prop} [Decidable c] {y z:PV α} (h1:c->Fwd n ts y) (h2:¬ c->Fwd n ts z):Fwd n ts (if c then y else z):=by
 by_cases h:c;rw [if_pos h];exact h1 h;rw [if_neg h];exact h2 h
theorem SN {m:Nat} {x:PV α} (h:Fwd n ts x) (hm:m<=n):Fwd m ts x:=by
 cases x with
 | bad=>trivial
 | ok a r=>exact ⟨h.1,by have:=h.2.1;omega,h.2.2⟩
theorem QO {a:α} (hg:Good ts):Fwd 0 ts (.ok a ts):=⟨hg,Nat.le_refl _,List.suffix_refl _⟩
theorem Ajq {x:PV α} (hg:Good ts) (h6:(hd ts).1≠6) (h:Fwd n ts.tail x):Fwd (n+1) ts x:=by
 obtain ⟨g1,g2,g3⟩:=hg.tail h6;cases x with
 | bad=>trivial
 | ok a r=>exact ⟨h.1,by have:=h.2.1;omega,h.2.2.trans g3⟩
theorem Ajr {m:Nat} {x:PV α} {f:α->List Tk->PV β} (h1:Fwd n ts x) (h2:∀ a r,Good r->r.length+n<=ts.length->Fwd m r (f a r)):Fwd (n+m) ts (x.then f):=by
 cases x with
 | bad=>trivial
 | ok a r =>
  obtain ⟨g1,g2,g3⟩:=h1;have:=h2 a r g1 g2;show Fwd (n+m) ts (f a r);cases hf:f a r with
  | bad=>trivial
  | ok b s =>
   rw [hf] at this;exact ⟨this.1,by have:=this.2.1;omega,this.2.2.trans g3⟩
end
section
variable {ts:List Tk}
theorem or3 {a b c:Bool} {ts:List Tk} {x y z:Ah} (ha:a=AB x ts) (hb:b=AB y ts) (hc:c=AB z ts) (h:(a || b || c)=true):(hd ts).1≠6:=by
 subst ha hb hc;simp only [Bool.or_eq_true] at h;rcases h with (h | h) | h <;> exact AU h
theorem O9 (acc:List Tree) (hg:Good ts):K6 acc ts=if AB Ez ts then (GH 6 ts.tail).then λn r=>K6 (acc++[n]) r else .ok acc ts:=by
 have h:=Ue acc hg (f:=fu ts+1) (by unfold fu;omega);rw [Gy] at h;refine Ao (h.symm.trans (D3 (λhc=>?_) λ_=>rfl));obtain ⟨g1,g2,_⟩:=hg.tail (AU hc);exact C4 (Qc _ _) (fName 6 g1) λa r hr hn=>Ue _ hr (by unfold fu;omega)
def JI (ts:List Tk):PV (List Tree):=(GH 6 ts).then λn r=>K6 [n] r
theorem Ar8 {f:Nat} (hg:Good ts) (hf:16 * ts.length+1<=f):Nq f ts=some (JI ts):=C4 (Qc _ _) (fName 6 hg) λa r hr hn=>Ue _ hr (by omega)
theorem Pb (hg:Good ts):Fwd 1 ts (JI ts):=Ajr (fName 6 hg) λ_ _ hr _=>Aiw _ hr
theorem UB {least:Int} (hl:0<=least) (hg:Good ts):Ec least ts=(K7 ts).then λn r=>JH least n r:=by
 have h:=Il hl hg (f:=fu ts+1) (by unfold fu;omega);rw [D0] at h;exact Ao (h.symm.trans (C4 (Abp hg (by unfold fu;omega)) (SI hg) λa r hr hn=>Abn _ hl hr (by unfold fu;omega)))
theorem Sd {least:Int} (n:Tree) (hl:0<=least) (hg:Good ts):JH least n ts=if CS ts<=least then .ok n ts else (Ec (if CS ts=4 then 3 else CS ts) ts.tail).then λm r=>JH least (.mk 11 (hd ts).2.1 0 n.at_ [n,m]) r:=by
 have h:=Abn n hl hg (f:=fu ts+1) (by unfold fu;omega);rw [Fp] at h;refine Ao (h.symm.trans (D3 (λ_=>rfl) λhb=>?_));obtain ⟨g1,g2,_⟩:=hg.tail (Mi (by omega));have hq:(0:Int)<=(if CS ts=4 then 3 else CS ts):=by split <;> omega
 exact C4 (Il hq g1 (by unfold fu;omega)) (Da hq g1) λa r hr hn=>Abn _ hl hr (by unfold fu;omega)
theorem Awy (hg:Good ts):K7 ts =
  if (hd ts).1=3 then .ok (.mk 4 noB (hd ts).2.2.1 (hd ts).2.2.2 []) ts.tail
  else if (hd ts).1=4 then .ok (.mk 5 (hd ts).2.1 0 (hd ts).2.2.2 []) ts.tail
  else if AB Aoe ts then .ok (.mk 1 noB 0 (hd ts).2.2.2 []) ts.tail
  else if AB Aop ts then .ok (.mk 2 noB 0 (hd ts).2.2.2 []) ts.tail
  else if AB An8 ts then .ok (.mk 3 noB 0 (hd ts).2.2.2 []) ts.tail
  else if AB Oa ts || AB N_ ts || AB Kh ts then (Ec 7 ts.tail).then λm r=>.ok (.mk 10 (hd ts).2.1 0 (hd ts).2.2.2 [m]) r
  else if AB kLc ts then (Ln [] ts.tail).then λl r=>.ok (.mk 12 noB 0 (hd ts).2.2.2 l) r
  else Jp ts:=by
 have h:=Abp hg (f:=fu ts+1) (by unfold fu;omega);rw [Fh] at h;refine Ao (h.symm.trans (D3 (λ_=>rfl) λ_=>D3 (λ_=>rfl) λ_=>D3 (λ_=>rfl) λ_=>D3 (λ_=>rfl) λ_=>D3 (λ_=>rfl) λ_=>D3 (λhc=>?_) λ_=>D3 (λhc=>?_) λ_=>Uf hg (by unfold fu;omega)));obtain ⟨g1,g2,_⟩:=hg.tail (or3 rfl rfl rfl hc);exact C4 (Il (by omega) g1 (by unfold fu;omega)) (Da (by omega) g1) λ_ _ _ _=>rfl;obtain ⟨g1,g2,_⟩:=hg.tail (AU hc);exact C4 (Ud _ g1 (by unfold fu;omega)) (Aiu _ g1) λ_ _ _ _=>rfl
theorem Awo (acc:List Tree) (hg:Good ts):Ln acc ts =
  if AB Ob ts then .ok acc ts.tail
  else (O8 ts).then λx r =>
   if AB Ez r then Ln (acc++[x]) r.tail
   else if AB Ht r then Ln (acc++[x]) r.tail
   else (Dc Ob r).then λ_ r=>.ok (acc++[x]) r:=by
 have h:=Ud acc hg (f:=fu ts+1) (by unfold fu;omega);rw [Fg] at h;refine Ao (h.symm.trans (D3 (λ_=>rfl) λ_=>C4 (Abk hg (by unfold fu;omega)) (XX hg) λx r hr hn=>D3 (λhc=>?_) λ_=>D3 (λhc=>?_) λ_=>C4 (Hv _ _) (CO _ hr) λ_ _ _ _=>rfl));obtain ⟨g1,g2,_⟩:=hr.tail (AU hc);exact Ud _ g1 (by unfold fu;omega);obtain ⟨g1,g2,_⟩:=hr.tail (AU hc);exact Ud _ g1 (by unfold fu;omega)
theorem Awj (hg:Good ts):O8 ts =
  if AB VQ ts then
   (Ec 0 ts.tail).then λk r=>(Dc kRb r).then λ_ r=>(Dc EO r).then λ_ r=>(Ec 0 r).then λv r=>.ok (.mk 14 noB 0 (hd ts).2.2.2 [k,v]) r
  else if (hd ts).1=1/\(hd ts.tail).1=5/\(hd ts.tail).2.1.toList=EO.toList then
   (Ec 0 ts.tail.tail).then λv r=>.ok (.mk 14 noB 0 (hd ts).2.2.2 [.mk 5 (hd ts).2.1 0 (hd ts).2.2.2 [],v]) r
  else (Ec 0 ts).then λv r=>.ok (.mk 13 noB 0 (hd ts).2.2.2 [v]) r:=by
 have h:=Abk hg (f:=fu ts+1) (by unfold fu;omega);rw [F4] at h;refine Ao (h.symm.trans (D3 (λhc=>?_) λ_=>D3 (λhc=>?_) λ_=>C4 (Il (by omega) hg (by unfold fu;omega)) (Da (by omega) hg) λ_ _ _ _=>rfl));obtain ⟨g1,g2,_⟩:=hg.tail (AU hc);exact C4 (Il (by omega) g1 (by unfold fu;omega)) (Da (by omega) g1) λ_ r hr hn=>C4 (Hv _ _) (CO _ hr) λ_ r2 hr2 hn2=>C4 (Hv _ _) (CO _ hr2) λ_ r3 hr3 hn3=>C4 (Il (by omega) hr3 (by unfold fu;omega)) (Da (by omega) hr3) λ_ _ _ _=>rfl;obtain ⟨h1,h2,_⟩:=hc;obtain ⟨g1,g2,_⟩:=hg.tail (by omega);obtain ⟨g3,g4,_⟩:=g1.tail (by omega);exact C4 (Il (by omega) g3 (by unfold fu;omega)) (Da (by omega) g3) λ_ _ _ _=>rfl
theorem Adx (hg:Good ts):Jp ts =
  if AB PD ts then (Ec 0 ts.tail).then λe r=>(Dc Gs r).then λ_ r=>K8 (hd ts).2.2.2 (.mk 9 noB 0 (hd ts).2.2.2 [e]) r
  else (GH 6 ts).then λn r=>K8 (hd ts).2.2.2 n r:=by
 have h:=Uf hg (f:=fu ts+1) (by unfold fu;omega);rw [ES] at h;refine Ao (h.symm.trans (D3 (λhc=>?_) λ_=>C4 (Qc _ _) (fName _ hg) λ_ r hr hn=>RM _ _ hr (by unfold fu;omega)));obtain ⟨g1,g2,_⟩:=hg.tail (AU hc);exact C4 (Il (by omega) g1 (by unfold fu;omega)) (Da (by omega) g1) λ_ r hr hn=>C4 (Hv _ _) (CO _ hr) λ_ r2 hr2 hn2=>RM _ _ hr2 (by unfold fu;omega)
def Xc (ts:List Tk):PV (List Tree):=if AB Gs ts then .ok [] ts else Gb ts
theorem fArgs (hg:Good ts):Fwd 0 ts (Xc ts):=SM (λ_=>QO hg) λ_=>SN (JZ hg) (by omega)
theorem Adv (at_:Int) (n:Tree) (hg:Good ts):K8 at_ n ts =
  if AB VQ ts then (Ec 0 ts.tail).then λe r=>(Dc kRb r).then λ_ r=>K8 at_ (.mk 7 noB 0 at_ [n,e]) r
  else if AB An7 ts then (GH 5 ts.tail).then λe r=>K8 at_ (.mk 7 noB 0 at_ [n,e]) r
  else if AB PD ts then (Xc ts.tail).then λl r=>(Dc Gs r).then λ_ r=>K8 at_ (.mk 8 noB 0 at_ (n :: l)) r
  else .ok n ts:=by
 have h:=RM at_ n hg (f:=fu ts+1) (by unfold fu;omega);rw [ER] at h;refine Ao (h.symm.trans (D3 (λhc=>?_) λ_=>D3 (λhc=>?_) λ_=>D3 (λhc=>?_) λ_=>rfl));obtain ⟨g1,g2,_⟩:=hg.tail (AU hc);exact C4 (Il (by omega) g1 (by unfold fu;omega)) (Da (by omega) g1) λ_ r hr hn=>C4 (Hv _ _) (CO _ hr) λ_ r2 hr2 hn2=>RM _ _ hr2 (by unfold fu;omega);obtain ⟨g1,g2,_⟩:=hg.tail (AU hc);exact C4 (Qc _ _) (fName _ g1) λ_ r hr hn=>RM _ _ hr (by unfold fu;omega);obtain ⟨g1,g2,_⟩:=hg.tail (AU hc);exact C4 (D3 (λ_=>rfl) λ_=>Qb g1 (by unfold fu;omega)) (fArgs g1) λ_ r hr hn=>C4 (Hv _ _) (CO _ hr) λ_ r2 hr2 hn2=>RM _ _ hr2 (by unfold fu;omega)
theorem Adu (hg:Good ts):Gb ts=(Ec 0 ts).then λe r=>Qv [e] r:=by
 have h:=Qb hg (f:=fu ts+1) (by unfold fu;omega);rw [EQ] at h;exact Ao (h.symm.trans (C4 (Il (by omega) hg (by unfold fu;omega)) (Da (by omega) hg) λa r hr hn=>Abj _ hr (by unfold fu;omega)))
theorem Ads (acc:List Tree) (hg:Good ts):Qv acc ts=if AB Ez ts then (Ec 0 ts.tail).then λe r=>Qv (acc++[e]) r else .ok acc ts:=by
 have h:=Abj acc hg (f:=fu ts+1) (by unfold fu;omega);rw [Fo] at h;refine Ao (h.symm.trans (D3 (λhc=>?_) λ_=>rfl));obtain ⟨g1,g2,_⟩:=hg.tail (AU hc);exact C4 (Il (by omega) g1 (by unfold fu;omega)) (Da (by omega) g1) λa r hr hn=>Abj _ hr (by unfold fu;omega)
theorem Awg (c:Bool) (hg:Good ts):FE c ts=K5 c (hd ts).2.2.2 [] ts:=by
 have h:=Qa c hg (f:=fu ts+1) (by unfold fu;omega);rw [EF] at h;exact Ao (h.symm.trans (Uc _ _ _ hg (by unfold fu;omega)))
def Xd (ts:List Tk):PV (List Tree):=if JY ts || AB Ht ts then .ok [] ts else Gb ts
theorem A5h (hg:Good ts):Fwd 0 ts (Xd ts):=SM (λ_=>QO hg) λ_=>SN (JZ hg) (by omega)
theorem Awd (c:Bool) (at_:Int) (acc:List Tree) (hg:Good ts):K5 c at_ acc ts =
  if AB Ht ts then K5 c at_ acc ts.tail
  else if AB ZE ts then (Xd ts.tail).then λl r=>.ok (.mk 20 noB 0 at_ (acc++[.mk 30 noB 0 (hd ts).2.2.2 l])) (if AB Ht r then r.tail else r)
  else if c && AB NZ ts then (Sb ts).then λx r=>K5 c at_ (acc++[x]) r
  else if JY ts then .ok (.mk 20 noB 0 at_ acc) ts
  else (N8 ts).then λx r=>K5 c at_ (acc++[x]) r:=by
 have h:=Uc c at_ acc hg (f:=fu ts+1) (by unfold fu;omega);rw [EP] at h;refine Ao (h.symm.trans (D3 (λhc=>?_) λ_=>D3 (λhc=>?_) λ_=>D3 (λhc=>?_) λ_=>D3 (λ_=>rfl) λ_=>?_));obtain ⟨g1,g2,_⟩:=hg.tail (AU hc);exact Uc _ _ _ g1 (by unfold fu;omega);obtain ⟨g1,g2,_⟩:=hg.tail (AU hc);exact C4 (D3 (λ_=>rfl) λ_=>Qb g1 (by unfold fu;omega)) (A5h g1) λ_ r hr hn=>rfl;simp only [Bool.and_eq_true] at hc;exact C4 (Abm (AU hc.2) hg (by unfold fu;omega)) (Aiv (AU hc.2) hg) λ_ r hr hn=>Uc _ _ _ hr (by unfold fu;omega);exact C4 (Abq hg (by unfold fu;omega)) (XY hg) λ_ r hr hn=>Uc _ _ _ hr (by unfold fu;omega)
def UD (ts:List Tk):PV (List Tree):=if AB Gs ts then .ok [] ts else JI ts
theorem A5f (hg:Good ts):Fwd 0 ts (UD ts):=SM (λ_=>QO hg) λ_=>SN (Pb hg) (by omega)
theorem Awr (h6:(hd ts).1≠6) (hg:Good ts):Sb ts =
  (GH 6 ts.tail).then λnm r=>(Dc PD r).then λ_ r=>(UD r).then λps r=>(Dc Gs r).then λ_ r=>(FE false r).then λb r=>(Dc GQ r).then λ_ r=>.ok (.mk 31 nm.text ps.length (hd ts).2.2.2 (ps++[b])) r:=by
 have h:=Abm h6 hg (f:=fu ts+1) (by unfold fu;omega);rw [F6] at h;obtain ⟨g1,g2,_⟩:=hg.tail h6;exact Ao (h.symm.trans (C4 (Qc _ _) (fName _ g1) λ_ r hr hn=>C4 (Hv _ _) (CO _ hr) λ_ r2 hr2 hn2=>C4 (D3 (λ_=>rfl) λ_=>Ar8 hr2 (by unfold fu;omega)) (A5f hr2) λ_ r3 hr3 hn3=>C4 (Hv _ _) (CO _ hr3) λ_ r4 hr4 hn4=>C4 (Qa _ hr4 (by unfold fu;omega)) (I_ _ hr4) λ_ r5 hr5 hn5=>C4 (Hv _ _) (CO _ hr5) λ_ _ _ _=>rfl))
theorem Adp (hg:Good ts):Jo ts=(Dc Tp ts).then λ_ r=>(FE false r).then λb r=>(Dc GQ r).then λ_ r=>.ok b r:=by
 have h:=RL hg (f:=fu ts+1) (by unfold fu;omega);rw [Fa] at h;exact Ao (h.symm.trans (C4 (Hv _ _) (CO _ hg) λ_ r2 hr2 hn2=>C4 (Qa _ hr2 (by unfold fu;omega)) (I_ _ hr2) λ_ r5 hr5 hn5=>C4 (Hv _ _) (CO _ hr5) λ_ _ _ _=>rfl))
def UC (ts:List Tk):PV (List Tree):=if AB EO ts then Gb ts.tail else .ok [] ts
theorem A5d (hg:Good ts):Fwd 0 ts (UC ts):=SM (λhc=>SN (Ajq hg (AU hc) (JZ (hg.tail (AU hc)).1)) (by omega)) λ_=>QO hg
theorem Aw0 (hg:Good ts):N8 ts =
  if AB Tp ts then (Jo ts).then λb r=>.ok (.mk 28 noB 0 (hd ts).2.2.2 [b]) r
  else if AB Aoq ts then (Ec 0 ts.tail).then λe r=>(Jo r).then λb r=>.ok (.mk 25 noB 0 (hd ts).2.2.2 [e,b]) r
  else if AB kIf ts then (N7 [] ts.tail).then λl r=>.ok (.mk 24 noB 0 (hd ts).2.2.2 l) r
  else if AB Aob ts then Qw (hd ts).2.2.2 ts.tail
  else if AB Aod ts then (JI ts.tail).then λl r=>(UC r).then λes r=>.ok (.mk 21 noB l.length (hd ts).2.2.2 (l++es)) r
  else if AB An6 ts then .ok (.mk 29 noB 0 (hd ts).2.2.2 []) ts.tail
  else Qx ts:=by
 have h:=Abq hg (f:=fu ts+1) (by unfold fu;omega);rw [F8] at h;refine Ao (h.symm.trans (D3 (λhc=>?_) λ_=>D3 (λhc=>?_) λ_=>D3 (λhc=>?_) λ_=>D3 (λhc=>?_) λ_=>D3 (λhc=>?_) λ_=>D3 (λhc=>rfl) λ_=>Ar9 hg (by unfold fu;omega)));exact C4 (RL hg (by unfold fu;omega)) (Pa hg) λ_ _ _ _=>rfl;obtain ⟨g1,g2,_⟩:=hg.tail (AU hc);exact C4 (Il (by omega) g1 (by unfold fu;omega)) (Da (by omega) g1) λ_ r hr hn=>C4 (RL hr (by unfold fu;omega)) (Pa hr) λ_ _ _ _=>rfl;obtain ⟨g1,g2,_⟩:=hg.tail (AU hc);exact C4 (W6 _ g1 (by unfold fu;omega)) (Ait _ g1) λ_ _ _ _=>rfl;obtain ⟨g1,g2,_⟩:=hg.tail (AU hc);exact Ar7 _ g1 (by unfold fu;omega);obtain ⟨g1,g2,_⟩:=hg.tail (AU hc);refine C4 (Ar8 g1 (by unfold fu;omega)) (Pb g1) λ_ r hr hn=>C4 (D3 (λhc=>?_) λ_=>rfl) (A5d hr) λ_ _ _ _=>rfl;obtain ⟨g3,g4,_⟩:=hr.tail (AU hc);exact Qb g3 (by unfold fu;omega)
theorem Awh (acc:List Tree) (hg:Good ts):N7 acc ts =
  (Ec 0 ts).then λe r=>(Dc Aoj r).then λ_ r=>(FE false r).then λb r =>
   if AB PB r then N7 (acc++[e]++[b]) r.tail
   else if AB NY r then (FE false r.tail).then λc r=>(Dc GQ r).then λ_ r=>.ok (acc++[e]++[b]++[c]) r
   else (Dc GQ r).then λ_ r=>.ok (acc++[e]++[b]) r:=by
 have h:=W6 acc hg (f:=fu ts+1) (by unfold fu;omega);rw [Fm] at h;refine Ao (h.symm.trans (C4 (Il (by omega) hg (by unfold fu;omega)) (Da (by omega) hg) λ_ r hr hn=>C4 (Hv _ _) (CO _ hr) λ_ r2 hr2 hn2=>C4 (Qa _ hr2 (by unfold fu;omega)) (I_ _ hr2) λ_ r3 hr3 hn3=>D3 (λhc=>?_) λ_=>D3 (λhc=>?_) λ_=>C4 (Hv _ _) (CO _ hr3) λ_ _ _ _=>rfl));obtain ⟨g1,g2,_⟩:=hr3.tail (AU hc);exact W6 _ g1 (by unfold fu;omega);obtain ⟨g1,g2,_⟩:=hr3.tail (AU hc);exact C4 (Qa _ g1 (by unfold fu;omega)) (I_ _ g1) λ_ r4 hr4 hn4=>C4 (Hv _ _) (CO _ hr4) λ_ _ _ _=>rfl
def UE (ts:List Tk):PV (List Tree):=if AB Ez ts then (Ec 0 ts.tail).then λc r=>.ok [c] r else .ok [] ts
theorem A5i (hg:Good ts):Fwd 0 ts (UE ts):=SM (λhc=>SN (Ajq hg (AU hc) (Ajr (Da (by omega) (hg.tail (AU hc)).1) λ_ _ hr _=>QO hr)) (by omega)) λ_=>QO hg
theorem Awp (at_:Int) (hg:Good ts):Qw at_ ts =
  (GH 6 ts).then λn r =>
   if AB EO r then
    (Ec 0 r.tail).then λa r=>(Dc Ez r).then λ_ r=>(Ec 0 r).then λb r=>(UE r).then λcs r=>(Jo r).then λbd r=>.ok (.mk 26 noB 0 at_ ([n]++[a]++[b]++cs++[bd])) r
   else
    (K6 [n] r).then λl r=>(Dc VP r).then λ_ r=>(Gb r).then λes r=>(Jo r).then λbd r=>.ok (.mk 27 noB l.length at_ (l++es++[bd])) r:=by
 have h:=Ar7 at_ hg (f:=fu ts+1) (by unfold fu;omega);rw [F5] at h;refine Ao (h.symm.trans (C4 (Qc _ _) (fName _ hg) λn r hr hn=>D3 (λhc=>?_) λ_=>?_));obtain ⟨g1,g2,_⟩:=hr.tail (AU hc);refine C4 (Il (by omega) g1 (by unfold fu;omega)) (Da (by omega) g1) λ_ r2 hr2 hn2=>C4 (Hv _ _) (CO _ hr2) λ_ r3 hr3 hn3=>C4 (Il (by omega) hr3 (by unfold fu;omega)) (Da (by omega) hr3) λ_ r4 hr4 hn4=>C4 (vx:=UE r4) (D3 (λhc=>?_) λ_=>rfl) (A5i hr4) λ_ r5 hr5 hn5=>C4 (RL hr5 (by unfold fu;omega)) (Pa hr5) λ_ _ _ _=>rfl;obtain ⟨g3,g4,_⟩:=hr4.tail (AU hc);exact C4 (Il (by omega) g3 (by unfold fu;omega)) (Da (by omega) g3) λ_ _ _ _=>rfl;exact C4 (Ue _ hr (by unfold fu;omega)) (Aiw _ hr) λ_ r2 hr2 hn2=>C4 (Hv _ _) (CO _ hr2) λ_ r3 hr3 hn3=>C4 (Qb hr3 (by unfold fu;omega)) (JZ hr3) λ_ r4 hr4 hn4=>C4 (RL hr4 (by unfold fu;omega)) (Pa hr4) λ_ _ _ _=>rfl
theorem Awz (hg:Good ts):Qx ts =
  (Jp ts).then λe r =>
   if AB EO r || AB Ez r then (Qy [] e r).then λl r=>(Dc EO r).then λ_ r=>(Gb r).then λes r=>.ok (.mk 22 noB l.length e.at_ (l++es)) r
   else if e.kind=8 then .ok (.mk 23 noB 0 e.at_ [e]) r else .bad (hd r).2.2.2:=by
 have h:=Ar9 hg (f:=fu ts+1) (by unfold fu;omega);rw [F7] at h;refine Ao (h.symm.trans (C4 (Uf hg (by unfold fu;omega)) (Pc hg) λe r hr hn=>D3 (λhc=>?_) λ_=>D3 (λ_=>rfl) λ_=>rfl));exact C4 (W7 _ _ hr (by unfold fu;omega)) (A5j _ _ hr) λ_ r2 hr2 hn2=>C4 (Hv _ _) (CO _ hr2) λ_ r3 hr3 hn3=>C4 (Qb hr3 (by unfold fu;omega)) (JZ hr3) λ_ _ _ _=>rfl
theorem Aw1 (acc:List Tree) (e:Tree) (hg:Good ts):Qy acc e ts =
  if e.kind=6\/e.kind=7 then
   if AB Ez ts then (Jp ts.tail).then λe' r=>Qy (acc++[e]) e' r else .ok (acc++[e]) ts
  else .bad e.at_:=by
 have h:=W7 acc e hg (f:=fu ts+1) (by unfold fu;omega);rw [Fq] at h;refine Ao (h.symm.trans (D3 (λ_=>D3 (λhc=>?_) λ_=>rfl) λ_=>rfl));obtain ⟨g1,g2,_⟩:=hg.tail (AU hc);exact C4 (Uf g1 (by unfold fu;omega)) (Pc g1) λ_ r hr hn=>W7 _ _ hr (by unfold fu;omega)
end
def Qu (ts:List Tk):PV Tree:=(FE true ts).then λb r=>if (hd r).1=6 then .ok b r else .bad (hd r).2.2.2
theorem then_assoc {α β γ:Type} (x:PV α) (f:α->List Tk->PV β) (g:β->List Tk->PV γ):(x.then f).then g=x.then λa r=>(f a r).then g:=by cases x <;> rfl
theorem U6 {α β:Type} {n:Nat} {ts:List Tk} {x:PV α} (hw:Fwd n ts x) {f g:α->List Tk->PV β} (h:∀ a r,Good r->r.length+n<=ts.length->f a r=g a r):x.then f=x.then g:=by
 cases x with
 | bad=>rfl
 | ok a r=>exact h a r hw.1 hw.2.1
theorem then_ok {α β:Type} {x:PV α} {f:α->List Tk->PV β} {b:β} {r:List Tk} (h:x.then f=.ok b r):∃ a s,x=.ok a s/\f a s=.ok b r:=by
 cases x with
 | bad=>cases h
 | ok a s=>exact ⟨a,s,rfl,h⟩
theorem Awu:∀ (n:Nat) (least:Int) (x:Tree) (ts:List Tk),ts.length<=n->0<=least->Good ts->JH least x ts=(JH (least+1) x ts).then λy r=>JH least y r
 | 0,_,_,[],_,_,hg=>hg.elim
 | n+1,least,x,ts,hn,hl,hg=>by
  rw [Sd (least:=least+1) x (by omega) hg];by_cases h1:CS ts<=least+1;rw [if_pos h1];rfl;rw [if_neg h1,Sd x hl hg,if_neg (by omega),then_assoc];obtain ⟨g1,g2,_⟩:=hg.tail (Mi (by omega));have hq:(0:Int)<=(if CS ts=4 then 3 else CS ts):=by split <;> omega
  exact U6 (Da hq g1) λa r hr hl2=>Awu n least _ r (by omega) hl hr
theorem Bwt {least:Int} {ts:List Tk} (hl:0<=least) (hg:Good ts):Ec least ts=(Ec (least+1) ts).then λy r=>JH least y r:=by
 rw [UB hl hg,UB (least:=least+1) (by omega) hg,then_assoc];exact U6 (SI hg) λa r hr _=>Awu _ _ _ _ (Nat.le_refl _) hl hr
theorem Aww:∀ (n:Nat) (least:Int) (x y:Tree) (ts r:List Tk),ts.length<=n->0<=least->Good ts->JH least x ts=.ok y r->CS r<=least
 | 0,_,_,_,[],_,_,_,hg,_=>hg.elim
 | n+1,least,x,y,ts,r,hn,hl,hg,h=>by
  rw [Sd x hl hg] at h;split at h;cases h;assumption;rename_i hb;obtain ⟨a,s,h1,h2⟩:=then_ok h;obtain ⟨g1,g2,_⟩:=hg.tail (Mi (by omega));have hq:(0:Int)<=(if CS ts=4 then 3 else CS ts):=by split <;> omega
  have hf:=Da hq g1;rw [h1] at hf;exact Aww n least _ y s r (by have:=hf.2.1;omega) hl hf.1 h2
theorem Awi {least:Int} {ts r:List Tk} {y:Tree} (hl:0<=least) (hg:Good ts) (h:Ec least ts=.ok y r):CS r<=least:=by
 rw [UB hl hg] at h;obtain ⟨a,s,h1,h2⟩:=then_ok h;have hf:=SI hg;rw [h1] at hf;exact Aww _ least a y s r (Nat.le_refl _) hl hf.1 h2
theorem Adq {least:Int} {ts:List Tk} (hl:6<=least) (hg:Good ts):Ec least ts=K7 ts:=by
 rw [UB (by omega) hg];have:(K7 ts).then (λn r=>JH least n r)=(K7 ts).then (λn r=>.ok n r):=U6 (SI hg) λa r hr _=>by
  rw [Sd a (by omega) hr,if_pos (by have:=(XA r).2;omega)]
 rw [this];cases K7 ts <;> rfl
theorem Apu:∀ (n:Nat) (acc:List Tree) (ts:List Tk),ts.length<=n->Good ts->∀ l r,K6 acc ts=.ok l r->l.length+r.length<=acc.length+ts.length
 | 0,_,[],_,hg,_,_,_=>hg.elim
 | n+1,acc,ts,hn,hg,l,r,h=>by
  rw [O9 acc hg] at h;split at h;rename_i hc;obtain ⟨g1,g2,_⟩:=hg.tail (AU hc);obtain ⟨a,s,h1,h2⟩:=then_ok h;have hf:=fName 6 g1;rw [h1] at hf;have:=Apu n (acc++[a]) s (by have:=hf.2.1;omega) hf.1 l r h2;have:=hf.2.1;simp only [BT,AX,Bp] at *;omega;cases h;omega
theorem T3 {ts:List Tk} (hg:Good ts) {l:List Tree} {r:List Tk} (h:JI ts=.ok l r):l.length+r.length<=ts.length:=by
 obtain ⟨a,s,h1,h2⟩:=then_ok h;have hf:=fName 6 hg;rw [h1] at hf;have:=Apu _ [a] s (Nat.le_refl _) hf.1 l r h2;have:=hf.2.1;simp only [AX,Bp] at *;omega
theorem Apt:∀ (n:Nat) (acc:List Tree) (ts:List Tk),ts.length<=n->Good ts->∀ l r,Qv acc ts=.ok l r->l.length+r.length<=acc.length+ts.length
 | 0,_,[],_,hg,_,_,_=>hg.elim
 | n+1,acc,ts,hn,hg,l,r,h=>by
  rw [Ads acc hg] at h;split at h;rename_i hc;obtain ⟨g1,g2,_⟩:=hg.tail (AU hc);obtain ⟨a,s,h1,h2⟩:=then_ok h;have hf:=Da (least:=0) (by omega) g1;rw [h1] at hf;have:=Apt n (acc++[a]) s (by have:=hf.2.1;omega) hf.1 l r h2;have:=hf.2.1;simp only [BT,AX,Bp] at *;omega;cases h;omega
theorem Oh {ts:List Tk} (hg:Good ts) {l:List Tree} {r:List Tk} (h:Gb ts=.ok l r):l.length+r.length<=ts.length:=by
 rw [Adu hg] at h;obtain ⟨a,s,h1,h2⟩:=then_ok h;have hf:=Da (least:=0) (by omega) hg;rw [h1] at hf;have:=Apt _ [a] s (Nat.le_refl _) hf.1 l r h2;have:=hf.2.1;simp only [AX,Bp] at *;omega
def ix (l ts:List Tk):Int:=(l.length:Int) - (ts.length:Int)
theorem wrapM (x:Int) (h1:-9223372036854775808<=x) (h2:x<=9223372036854775807):Au x=x:=by unfold Au IntKind.wrap;simp [IntKind.bits,IntKind.signed];omega
section
variable {l ts:List Tk}
theorem A2y (hs:ts <:+ l):l.drop (l.length - ts.length)=ts:=by
 obtain ⟨p,rfl⟩:=hs;simp
theorem LB (hg:Good ts) (hs:ts <:+ l):B5 l (ix l ts)=some (hd ts):=by
 have hle:=hs.length_le;unfold B5 ix;rw [if_pos (by omega),show ((l.length:Int) - (ts.length:Int)).toNat=l.length - ts.length by omega];have:=A2y hs;rw [<- List.head?_drop,this];cases ts with
 | nil=>exact hg.elim
 | cons t ts=>rfl
theorem I9 (hl:l.length<=1000000) (hg:Good ts) (hs:ts <:+ l) (h6:(hd ts).1≠6):Au (ix l ts+1)=ix l ts.tail:=by
 obtain ⟨_,g2,_⟩:=hg.tail h6;have hle:=hs.length_le;unfold ix;rw [wrapM _ (by omega) (by omega)];omega
def conv {α β:Type} (l:List Tk) (e:α->Int->β):PV α->PR β
 | .ok a r=>.ok (e a (ix l r))
 | .bad i=>.bad i
def eT (n:Tree) (i:Int):Int×Ah×Int×Int×List Tree×Int:=(n.kind,n.text,n.n,n.at_,n.kids,i)
def eL (n:List Tree) (i:Int):List Tree×Int:=(n,i)
def eU (_:Unit) (i:Int):Int:=i
theorem Cd (n:Tree):Tree.mk n.kind n.text n.n n.at_ n.kids=n:=by cases n;rfl
theorem CU {α β α' β':Type} {e:α->Int->α'} {e':β->Int->β'} {x:PV α} {F:α'->Option (PR β')} {g:α->List Tk->PV β} {n:Nat} (hw:Fwd n ts x) (h:∀ a r,Good r->r <:+ ts->r.length+n<=ts.length->F (e a (ix l r))=some (conv l e' (g a r))) :
  PR.bind (some (conv l e x)) F=some (conv l e' (x.then g)):=by
 cases x with
 | bad i=>rfl
 | ok a r=>exact h a r hw.1 hw.2.2 hw.2.1
theorem Fe {β β':Type} {e':β->Int->β'} {c:Prop} [Decidable c] {b:Bool} {x y:Option (PR β')} {x' y':PV β} (hb:b=decide c) (h1:c->x=some (conv l e' x')) (h2:¬ c->y=some (conv l e' y')):cond b x y=some (conv l e' (if c then x' else y')):=by
 subst hb;by_cases h:c;rw [if_pos h,decide_eq_true h];exact h1 h;rw [if_neg h,decide_eq_false h];exact h2 h
theorem NN (a b:Int):(a == b)=decide (a=b):=by
 by_cases h:a=b;rw [decide_eq_true h,beq_iff_eq];exact h;rw [decide_eq_false h,beq_eq_false_iff_ne];exact h
theorem Dt (b:Bool):b=decide (b=true):=by cases b <;> rfl
variable (k:Nat) (hl:l.length<=1000000) (hg:Good ts) (hs:ts <:+ l)
include hg hs
theorem Kk:DU.f k l (ix l ts)=some (hd ts):=by
 unfold DU.f;rw [LB hg hs];rfl
theorem MZ (w:Ah):El.f k l (ix l ts) w=some (AB w ts):=by
 unfold El.f;rw [Kk k hg hs];simp only [Aq,AB,isT];cases (hd ts).1 == (2:Int) <;> cases (hd ts).1 == (5:Int) <;> rfl
include hl
theorem got_eq (w:Ah):C1.f k l (ix l ts) w=some (AB w ts,ix l (if AB w ts then ts.tail else ts)):=by
 unfold C1.f;rw [MZ k hg hs];simp only [Aq];cases h:AB w ts with
 | true=>simp only [cond_true,if_true,I9 hl hg hs (AU h)]
 | false=>rfl
theorem GI (w:Ah):CJ.f k l (ix l ts) w=some (conv l eU (Dc w ts)):=by
 unfold CJ.f Dc;rw [got_eq k hl hg hs];simp only [Aq];cases h:AB w ts with
 | true=>rfl
 | false =>
  simp only [Bool.not_false,cond_true,Bool.false_eq_true,if_false];rw [Kk k hg hs];rfl
theorem name_eq:GC.f k l (ix l ts)=some (conv l eT (GH 6 ts)):=by
 unfold GC.f GH;rw [Kk k hg hs];simp only [Aq,AN];by_cases h:(hd ts).1=1;rw [if_pos h,h,I9 hl hg hs (by omega)];rfl;rw [if_neg h,show ((hd ts).1 != 1)=true by rw [bne_iff_ne];exact h];rfl
omit hl
theorem Ah6:Nr.f k l (ix l ts)=some (JY ts):=by
 unfold Nr.f JY;simp only [Kk k hg hs,MZ k hg hs,Aq,GQ,NY,PB];generalize ((hd ts).1 == (6:Int))=b1;generalize AB (⟨#[101,110,100]⟩:Ah) ts=b2;generalize AB (⟨#[101,108,115,101]⟩:Ah) ts=b3;generalize AB (⟨#[101,108,115,101,105,102]⟩:Ah) ts=b4;cases b1 <;> cases b2 <;> cases b3 <;> cases b4 <;> rfl
end
theorem A0p (k:Nat) (ts:List Tk):Qe.f k (hd ts).1 (hd ts).2.1 (hd ts).2.2.1 (hd ts).2.2.2=some (CS ts):=by
 unfold Qe.f CS AB isT;simp only [AN,kOr,Rf,Rj,kGt,kLe,kGe,Rk,Ri,Rh,Rm,Kh,Ro,Rn,Rl];generalize (hd ts).1=kd;generalize (hd ts).2.1.toList=tx;have hsw:(cond (kd != (5:Int)) (some (kd != (2:Int))) (some false):Option Bool)=some (!(kd == 2 || kd == 5)):=by
  rw [bne,bne];cases kd == (5:Int) <;> cases kd == (2:Int) <;> rfl
 rw [hsw];simp only [Aq];cases (kd == 2 || kd == 5) with
 | false=>simp
 | true =>
  simp only [Bool.not_true,cond_false,Bool.true_and];generalize (tx == (⟨#[111,114]⟩:Ah).toList)=b;cases b with
  | true=>rfl
  | false =>
  generalize (tx == (⟨#[97,110,100]⟩:Ah).toList)=b;cases b with
  | true=>rfl
  | false =>
  generalize (tx == (⟨#[60]⟩:Ah).toList)=b1;generalize (tx == (⟨#[62]⟩:Ah).toList)=b2;generalize (tx == (⟨#[60,61]⟩:Ah).toList)=b3;generalize (tx == (⟨#[62,61]⟩:Ah).toList)=b4;generalize (tx == (⟨#[126,61]⟩:Ah).toList)=b5;generalize (tx == (⟨#[61,61]⟩:Ah).toList)=b6;generalize (tx == (⟨#[46,46]⟩:Ah).toList)=b7;generalize (tx == (⟨#[43]⟩:Ah).toList)=b8;generalize (tx == (⟨#[45]⟩:Ah).toList)=b9;generalize (tx == (⟨#[42]⟩:Ah).toList)=c1;generalize (tx == (⟨#[47,47]⟩:Ah).toList)=c2;generalize (tx == (⟨#[37]⟩:Ah).toList)=c3;cases b1 with
  | true=>rfl
  | false =>
  cases b2 with
  | true=>rfl
  | false =>
  cases b3 with
  | true=>rfl
  | false =>
  cases b4 with
  | true=>rfl
  | false =>
  cases b5 with
  | true=>rfl
  | false =>
  cases b6 with
  | true=>rfl
  | false =>
  cases b7 with
  | true=>rfl
  | false =>
  cases b8 <;> cases b9 <;> cases c1 <;> cases c2 <;> cases c3 <;> rfl
end
end Go.Proofs.YteccladehmaglaaGreatDoor
