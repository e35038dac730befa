/- Texts of mine for genBlocks_card, part 3. -/
import Derived.Test.YtkdjiehclahliaaGreatDoorGkB
set_option linter.unusedSimpArgs false
set_option linter.unusedVariables false
set_option linter.unusedSectionVars false
namespace Go.Proofs.YtkdjiehclahliaaGreatDoor
set_option maxRecDepth 100000
section
open Go Go.RowKit
def Et.f (_k:Nat) (Ac:List (Int×ByteArray×Int×Int)) (Ag:Int):Option (Int×ByteArray×Int×Int):=(Bh Ac Ag).bind fun x2=>some (x2.1,x2.2.1,x2.2.2.1,x2.2.2.2)
theorem Et.ok {k b0 Ax:Nat} {Ac:List (Int×ByteArray×Int×Int)} {Ag:Int} {B5:Ab} {Aw:Aq} {r:Int×ByteArray×Int×Int} (h:Et.f k Ac Ag=some r) (AJ:Bl F_ 4 B5 (Aa Aw Ac Ax) Ac): Ct Tryz.prog 27 #[pt b0] [bk b0 #[Aa Aw Ac Ax,iv Ag] 93] [B5] (fun e l1=>e=.returned (.agg #[iv r.1,sv r.2.1,iv r.2.2.1,iv r.2.2.2])∧l1=[bk b0 #[Aa Aw Ac Ax,iv Ag] 93]):=by
 refine C3 (args:=[pt b0]) Tryz.func27 rfl (By rfl) ?_
 intro A X hh_
 obtain ⟨AY,_⟩:=hh_
 unfold Et.f at h
 refine K.eq (env':=[(0,pt b0)]) (l':=bk b0 #[Aa Aw Ac Ax,iv Ag] 93 :: X) rfl rfl (ksr (knp #[iv 0,sv noS,iv 0,iv 0] 96 fun b1=>(Ad (B8 (kpr [(0,0),(1,0),(2,0),(3,3),(4,0),(5,0),(6,0),(7,3)] [1] (Ar 3 (AP 0 0 rfl (Ar 3 (AP 0 1 rfl (Ca ?_))))))))))
 refine bnd h fun x2 hx2 h=>(GQ (T:=96) (kd:=.i64) V2 rfl hx2 AJ fun p3 e4 y5=>?_)
 have e4:Elem _ p3 [iv x2.1,sv x2.2.1,iv x2.2.2.1,iv x2.2.2.2]:=e4
 refine Fq rfl e4 (t2 AY) (AQ 0 4 #[iv x2.1,sv x2.2.1,iv x2.2.2.1,iv x2.2.2.2] (Ad (C9 ?_)))
 obtain rfl:=As h
 exact Io 0 4 rfl [bk b0 #[Aa Aw Ac Ax,iv Ag] 93] (K.drop (BH ⟨rfl,rfl⟩))
def EM.f (k:Nat) (Ac:List (Int×ByteArray×Int×Int)) (Ag:Int) (a1:ByteArray):Option (Bool):=(Et.f k Ac Ag).bind fun r1=>(cond (r1.1 == 2) (some (r1.2.1.toList == a1.toList)) (cond (r1.1 == 5) (some (r1.2.1.toList == a1.toList)) (some false)):Option Bool).bind fun q3=>some (q3)
theorem EM.ok {k b0 Ax:Nat} {Ac:List (Int×ByteArray×Int×Int)} {Ag:Int} {a1:ByteArray} {B5:Ab} {Aw:Aq} {r:Bool} (h:EM.f k Ac Ag a1=some r) (AJ:Bl F_ 4 B5 (Aa Aw Ac Ax) Ac): Ct Tryz.prog 42 #[pt b0,sv a1] [bk b0 #[Aa Aw Ac Ax,iv Ag] 93] [B5] (fun e l1=>e=.returned (bv r)∧l1=[bk b0 #[Aa Aw Ac Ax,iv Ag] 93]):=by
 refine C3 (args:=[pt b0,sv a1]) Tryz.func42 rfl (By rfl) ?_
 intro A X hh_
 obtain ⟨AY,_⟩:=hh_
 unfold EM.f at h
 refine K.eq (env':=[(0,pt b0),(1,sv a1)]) (l':=bk b0 #[Aa Aw Ac Ax,iv Ag] 93 :: X) rfl rfl (ksr (kx 1 (Ba (kx 1 (bnd h fun r1 hr1 h=>(CG (Et.ok hr1 AJ) rfl ⟨AY,trivial⟩ (knp #[iv 0,sv noS,iv 0,iv 0] 96 fun b2=>(AQ 0 4 #[iv r1.1,sv r1.2.1,iv r1.2.2.1,iv r1.2.2.2] (Ad (bnd h fun q3 hq3 h=>?_))))))))))
 refine G_ [(4,bv q3)] (bk b0 #[Aa Aw Ac Ax,iv Ag] 93 :: X) ?_ ?_
 ·clear hq3
  refine C9 ?_
  obtain rfl:=As h
  exact kdn rfl
 ·have h:=hq3
  clear hq3
  refine Bu (kx 1 (kld 0 0 rfl (kx 2 ?_)))
  refine Ee 11 h (fun h=>?_) fun h=>?_
  ·exact kx 6 (kld 0 1 rfl (K.drop (kx 4 (Ad (Dd ⟨gb (As h),trivial⟩)))))
  ·refine kx 1 (kld 0 0 rfl (kx 3 ?_))
   refine Ee 16 h (fun h=>?_) fun h=>?_
   ·exact kx 1 (kld 0 1 rfl (K.drop (kx 4 (Ad (Dd ⟨gb (As h),trivial⟩)))))
   ·exact kx 6 (Ad (K.drop (Dd ⟨gb (As h),trivial⟩)))
def CH.f (k:Nat) (Ac:List (Int×ByteArray×Int×Int)) (Ag:Int) (a1:ByteArray):Option (Bool×Int):=(EM.f k Ac Ag a1).bind fun r1=>cond r1 (some (true,IntKind.i64.wrap (Ag+1))) (some (false,Ag))
theorem CH.ok {k b0 Ax:Nat} {Ac:List (Int×ByteArray×Int×Int)} {Ag:Int} {a1:ByteArray} {B5:Ab} {Aw:Aq} {r:Bool×Int} (h:CH.f k Ac Ag a1=some r) (AJ:Bl F_ 4 B5 (Aa Aw Ac Ax) Ac): Ct Tryz.prog 40 #[pt b0,sv a1] [bk b0 #[Aa Aw Ac Ax,iv Ag] 93] [B5] (fun e l1=>e=.returned (bv r.1)∧l1=[bk b0 #[Aa Aw Ac Ax,iv r.2] 93]):=by
 refine C3 (args:=[pt b0,sv a1]) Tryz.func40 rfl (By rfl) ?_
 intro A X hh_
 obtain ⟨AY,_⟩:=hh_
 unfold CH.f at h
 refine K.eq (env':=[(0,pt b0),(1,sv a1)]) (l':=bk b0 #[Aa Aw Ac Ax,iv Ag] 93 :: X) rfl rfl (ksr (kx 1 (Ad (B8 (ksr (kx 2 (bnd h fun r1 hr1 h=>(CG (EM.ok hr1 AJ) rfl ⟨AY,trivial⟩ (Ad ?_)))))))))
 refine AU h (fun h=>?_) fun h=>?_
 ·refine ksr (kx 3 (kld 0 1 rfl (kx 3 (AQ 1 1 #[Aa Aw Ac Ax,iv (IntKind.i64.wrap (Ag+1))] (Ba (kx 1 (Ad (C9 (DH ?_)))))))))
  obtain rfl:=As h
  exact kdn rfl
 ·refine BV (AM (ksr (kx 1 (Ad (C9 ?_)))))
  obtain rfl:=As h
  exact kdn rfl
def Ii (i:Int):Value:=.iface 90 (.agg #[.int .i64 4,.int .i64 i])
def JT.f (_k:Nat) (Ac:List (Int×ByteArray×Int×Int)) (Ag:Int) (a1:Int):Option (PR (Unit)):=some (PR.bad a1)
theorem JT.ok {k b0 Ax:Nat} {Ac:List (Int×ByteArray×Int×Int)} {Ag a1:Int} {B5:Ab} {Aw:Aq} {r:PR (Unit)} (h:JT.f k Ac Ag a1=some r) (AJ:Bl F_ 4 B5 (Aa Aw Ac Ax) Ac): Ct Tryz.prog 28 #[pt b0,iv a1] [bk b0 #[Aa Aw Ac Ax,iv Ag] 93] [B5] (PR.Post Ii (fun (r:Unit) e l1=>e=.returned (.tuple #[])∧l1=[bk b0 #[Aa Aw Ac Ax,iv Ag] 93]) r):=by
 refine C3 (args:=[pt b0,iv a1]) Tryz.func28 rfl (By rfl) ?_
 intro A X hh_
 obtain ⟨AY,_⟩:=hh_
 unfold JT.f at h
 refine K.eq (env':=[(0,pt b0),(1,iv a1)]) (l':=bk b0 #[Aa Aw Ac Ax,iv Ag] 93 :: X) rfl rfl (Bu (kx 3 ?_))
 obtain rfl:=As h
 exact Ar2 (v:=Ii a1) (by kernel_rfl) (by kernel_rfl) (by kernel_rfl) (Arw [] (K.drop (BH PR.Ajm)))
def Di.f (k:Nat) (Ac:List (Int×ByteArray×Int×Int)) (Ag:Int) (a1:ByteArray):Option (PR (Int)):=(CH.f k Ac Ag a1).bind fun r1=>cond (!r1.1) ((Et.f k Ac r1.2).bind fun r3=>PR.bind (JT.f k Ac r1.2 r3.2.2.2) fun r4=>some (PR.ok (r1.2))) (some (PR.ok (r1.2)))
theorem Di.ok {k b0 Ax:Nat} {Ac:List (Int×ByteArray×Int×Int)} {Ag:Int} {a1:ByteArray} {B5:Ab} {Aw:Aq} {r:PR (Int)} (h:Di.f k Ac Ag a1=some r) (AJ:Bl F_ 4 B5 (Aa Aw Ac Ax) Ac): Ct Tryz.prog 65 #[pt b0,sv a1] [bk b0 #[Aa Aw Ac Ax,iv Ag] 93] [B5] (PR.Post Ii (fun (r:Int) e l1=>e=.returned (.tuple #[])∧l1=[bk b0 #[Aa Aw Ac Ax,iv r] 93]) r):=by
 refine C3 (args:=[pt b0,sv a1]) Tryz.func65 rfl (By rfl) ?_
 intro A X hh_
 obtain ⟨AY,_⟩:=hh_
 unfold Di.f at h
 refine K.eq (env':=[(0,pt b0),(1,sv a1)]) (l':=bk b0 #[Aa Aw Ac Ax,iv Ag] 93 :: X) rfl rfl (ksr (kx 2 (bnd h fun r1 hr1 h=>(CG (CH.ok hr1 AJ) rfl ⟨AY,trivial⟩ (kx 1 (Ad ?_))))))
 refine AU h (fun h=>?_) fun h=>?_
 ·refine Bu (kx 2 (bnd h fun r3 hr3 h=>(CG (Et.ok hr3 AJ) rfl ⟨AY,trivial⟩ (kx 1 (Cb h (fun _ hr4=>(JT.ok hr4 AJ)) rfl ⟨AY,trivial⟩ (fun _ e=>kpn 0 e rfl) fun r4 h=>?_)))))
  rintro _ _ ⟨rfl,rfl⟩
  refine Fy (knl (Cw ?_))
  obtain rfl:=As h
  exact Wk ⟨rfl,rfl⟩ rfl
 ·refine BV (Cw ?_)
  obtain rfl:=As h
  exact Wk ⟨rfl,rfl⟩ rfl
def Hv.f (k:Nat) (Ac:List (Int×ByteArray×Int×Int)) (Ag:Int):Option (PR (Int×ByteArray×Int×Int×List Tree×Int)):=(Et.f k Ac Ag).bind fun r2=>BG (fun (_:Unit)=>some (PR.ok (6,r2.2.1,0,r2.2.2.2,[],IntKind.i64.wrap (Ag+1)))) (fun J4=>cond (r2.1 != 1) (PR.bind (JT.f k Ac Ag r2.2.2.2) fun r6=>J4 ()) (J4 ()))
theorem Hv.ok {k b0 Ax:Nat} {Ac:List (Int×ByteArray×Int×Int)} {Ag:Int} {B5:Ab} {Aw:Aq} {r:PR (Int×ByteArray×Int×Int×List Tree×Int)} (h:Hv.f k Ac Ag=some r) (AJ:Bl F_ 4 B5 (Aa Aw Ac Ax) Ac): Ct Tryz.prog 66 #[pt b0] [bk b0 #[Aa Aw Ac Ax,iv Ag] 93] [B5] (PR.Post Ii (fun (r:Int×ByteArray×Int×Int×List Tree×Int) e l1=>∃ (H0_:Ab) (A0_:Aq) (c0_:Nat),AK (AX 54) 54 H0_ (Aa A0_ r.2.2.2.2.1 c0_) r.2.2.2.2.1∧e=.returned (.agg #[iv r.1,sv r.2.1,iv r.2.2.1,iv r.2.2.2.1,Aa A0_ r.2.2.2.2.1 c0_])∧l1=[H0_,bk b0 #[Aa Aw Ac Ax,iv r.2.2.2.2.2] 93]) r):=by
 refine C3 (args:=[pt b0]) Tryz.func66 rfl (By rfl) ?_
 intro A X hh_
 obtain ⟨AY,_⟩:=hh_
 unfold Hv.f at h
 refine K.eq (env':=[(0,pt b0)]) (l':=bk b0 #[Aa Aw Ac Ax,iv Ag] 93 :: X) rfl rfl (ksr (knp #[iv 0,sv noS,iv 0,iv 0,nS] 54 fun b1=>(Ba (kx 1 (K.An (bnd h fun r2 hr2 h=>(CG (Et.ok hr2 AJ) rfl ⟨(.tail _ AY),trivial⟩ (knp #[iv 0,sv noS,iv 0,iv 0] 96 fun b3=>(AQ 0 4 #[iv r2.1,sv r2.2.1,iv r2.2.2.1,iv r2.2.2.2] (Ad ?_))))))))))
 obtain ⟨J4,hJ4,h⟩:=De h
 refine Df (τ:=Unit) (fun t=>[(0,pt b0),(2,pt b1),(3,pt b3)]) (fun t=>bk b3 #[iv r2.1,sv r2.2.1,iv r2.2.2.1,iv r2.2.2.2] 96 :: bk b0 #[Aa Aw Ac Ax,iv Ag] 93 :: bk b1 #[iv 0,sv noS,iv 0,iv 0,nS] 54 :: X) (fun t=>J4 ()=some r) ?_ ?_
 ·rintro ⟨⟩ h
  subst hJ4
  refine ksr (kx 3 (kld 1 1 rfl (kx 3 (K.An (AQ 1 1 #[Aa Aw Ac Ax,iv (IntKind.i64.wrap (Ag+1))] (Ba (kx 1 (kld 1 1 rfl (kx 1 (kld 1 3 rfl ?_))))))))))
  refine K.An (K.drop (kx 1 (K.An (AQ 0 5 #[iv 6,sv r2.2.1,iv 0,iv r2.2.2.2,nS] (Ad (C9 ?_))))))
  obtain rfl:=As h
  exact Io 0 5 rfl [none_,bk b0 #[Aa Aw Ac Ax,iv (IntKind.i64.wrap (Ag+1))] 93] (Dl (K.An (K.drop (BH (PR.okI ⟨none_,none,0,(AK.nil (AX 54) 54 none_),rfl,rfl⟩)))))
 ·skip
  refine ksr (kx 1 (kld 0 0 rfl (kx 1 (Ad ?_))))
  refine AU h (fun h=>?_) fun h=>?_
  ·refine Bu (kx 2 (kld 0 3 rfl (K.An (Cb h (fun _ Nh=>(JT.ok Nh AJ)) rfl ⟨(t2 AY),trivial⟩ (fun _ e=>Bf (kpn 2 e rfl)) fun r6 h=>?_))))
   rintro _ _ ⟨rfl,rfl⟩
   exact Fy (Ad (K.Al (K.An (K.Al (B4 () h sb rfl)))))
  ·exact BV (AM (B4 () h sb rfl))
theorem GO:Gy Tryz.prog 52 54 5 64 Tryz.t54 (.agg #[iv 0,sv noS,iv 0,iv 0,nS]):=⟨by kernel_rfl,by kernel_rfl,by kernel_rfl,by kernel_rfl,by kernel_rfl,by kernel_rfl,by decide⟩
def HZ.l0:Nat→(Ac:List (Int×ByteArray×Int×Int))→(J14:(List Tree)→Int→Option (PR (List Tree×Int)))→(l15:List Tree)→(x20:Int)→Option (PR (List Tree×Int))
 | 0,_,_,_,_=>none
 | m21+1,Ac,J14,l15,x20=>(CH.f m21 Ac x20 (⟨#[44]⟩:ByteArray)).bind fun FB=>cond FB.1 (PR.bind (Hv.f m21 Ac FB.2) fun Dj=>(apd 64 l15 [(Tree.mk Dj.1 Dj.2.1 Dj.2.2.1 Dj.2.2.2.1 Dj.2.2.2.2.1)]).bind fun Jh=>HZ.l0 m21 Ac J14 Jh Dj.2.2.2.2.2) (J14 l15 FB.2)
def HZ.f (k:Nat) (Ac:List (Int×ByteArray×Int×Int)) (Ag:Int):Option (PR (List Tree×Int)):=PR.bind (Hv.f k Ac Ag) fun r1=>BG (fun (l8:List Tree) (GX:Int)=>some (PR.ok (l8,GX))) (fun J14=>HZ.l0 k Ac J14 ([(Tree.mk r1.1 r1.2.1 r1.2.2.1 r1.2.2.2.1 r1.2.2.2.2.1)]) r1.2.2.2.2.2)
theorem HZ.ok {k b0 Ax:Nat} {Ac:List (Int×ByteArray×Int×Int)} {Ag:Int} {B5:Ab} {Aw:Aq} {r:PR (List Tree×Int)} (h:HZ.f k Ac Ag=some r) (AJ:Bl F_ 4 B5 (Aa Aw Ac Ax) Ac): Ct Tryz.prog 67 #[pt b0] [bk b0 #[Aa Aw Ac Ax,iv Ag] 93] [B5] (PR.Post Ii (fun (r:List Tree×Int) e l1=>∃ (H0_:Ab) (A0_:Aq) (c0_:Nat),AK (AX 54) 54 H0_ (Aa A0_ r.1 c0_) r.1∧e=.returned (Aa A0_ r.1 c0_)∧l1=[H0_,bk b0 #[Aa Aw Ac Ax,iv r.2] 93]) r):=by
 refine C3 (args:=[pt b0]) Tryz.func67 rfl (By rfl) ?_
 intro A X hh_
 obtain ⟨AY,_⟩:=hh_
 unfold HZ.f at h
 refine K.eq (env':=[(0,pt b0)]) (l':=bk b0 #[Aa Aw Ac Ax,iv Ag] 93 :: X) rfl rfl (ksr (kx 1 (Ba (kx 1 (Cb h (fun _ hr1=>(Hv.ok hr1 AJ)) rfl ⟨AY,trivial⟩ (fun _ e=>Bf (kpn 0 e rfl)) fun r1 h=>?_)))))
 rintro _ _ ⟨h2,A3,k4,o5,rfl,rfl⟩
 refine Bi (Dh #[iv r1.1,sv r1.2.1,iv r1.2.2.1,iv r1.2.2.2.1,Aa A3 r1.2.2.2.2.1 k4] 54 1 fun b7=>(kx 1 (Ad ?_)))
 obtain ⟨J14,LD,h⟩:=De h
 refine Df (τ:=(List Tree)×Int×Ab×Aq×Nat) (fun t=>[(3,Aa t.2.2.2.1 t.1 t.2.2.2.2)]) (fun t=>bk b0 #[Aa Aw Ac Ax,iv t.2.1] 93 :: t.2.2.1 :: X) (fun t=>J14 t.1 t.2.1=some r∧AK (AX 54) 54 t.2.2.1 (Aa t.2.2.2.1 t.1 t.2.2.2.2) t.1) ?_ ?_
 ·rintro ⟨l8,GX,h9,F5,k11⟩ ⟨h,Ht⟩
  subst LD
  refine ksr (kx 2 (Ad (C9 ?_)))
  obtain rfl:=As h
  exact kdv (Aa F5 l8 k11) [h9,bk b0 #[Aa Aw Ac Ax,iv GX] 93] (K.An (BH (PR.okI ⟨h9,F5,k11,Ht,rfl,rfl⟩)))
 ·skip
  refine C1 (K.An (K.An (DP (T:=54) (n:=1) (xs:=[(Tree.mk r1.1 r1.2.1 r1.2.2.1 r1.2.2.2.1 r1.2.2.2.2.1)]) (Cn.one (En (k:=r1.1) (t:=r1.2.1) (n:=r1.2.2.1) (a:=r1.2.2.2.1) 54 o5)) rfl rfl (By rfl) fun h22 II=>(K.An (Fx (τ:=(List Tree)×Int×Ab×Aq×Nat) (fun t=>[(0,pt b0),(3,Aa t.2.2.2.1 t.1 t.2.2.2.2)]) (fun t=>bk b0 #[Aa Aw Ac Ax,iv t.2.1] 93 :: t.2.2.1 :: X) (fun m t=>HZ.l0 m Ac J14 t.1 t.2.1=some r∧AK (AX 54) 54 t.2.2.1 (Aa t.2.2.2.1 t.1 t.2.2.2.2) t.1) k ([(Tree.mk r1.1 r1.2.1 r1.2.2.1 r1.2.2.2.1 r1.2.2.2.2.1)],r1.2.2.2.2.2,h22,(some ⟨b7,0,none⟩),1) ⟨h,II⟩ sb rfl ?_)))))
  clear h
  rintro m21 ⟨l15,x20,h16,Jl,k18⟩ ⟨h,o19⟩
  cases m21 with
  | zero=>simp [HZ.l0] at h
  | succ m21 =>
   simp only [HZ.l0] at h
   refine B8 (ksr (kx 1 (bnd h fun FB Pg h=>(CG (CH.ok Pg AJ) rfl ⟨(.tail _ AY),trivial⟩ (Ad ?_)))))
   refine AU h (fun h=>?_) fun h=>?_
   ·refine BV (AM (C1 (Bu (kx 2 (Cb h (fun _ Ng=>(Hv.ok Ng AJ)) rfl ⟨(.tail _ AY),trivial⟩ (fun _ e=>B_ (Bf (B_ (Bf (kpn 1 e rfl))))) fun Dj h=>?_)))))
    rintro _ _ ⟨h27,A28,k29,N2,rfl,rfl⟩
    refine Bi (Dh #[iv Dj.1,sv Dj.2.1,iv Dj.2.2.1,iv Dj.2.2.2.1,Aa A28 Dj.2.2.2.2.1 k29] 54 1 fun b32=>(K.An (K.An (DP (T:=54) (n:=1) (xs:=[(Tree.mk Dj.1 Dj.2.1 Dj.2.2.1 Dj.2.2.2.1 Dj.2.2.2.2.1)]) (Cn.one (En (k:=Dj.1) (t:=Dj.2.1) (n:=Dj.2.2.1) (a:=Dj.2.2.2.1) 54 N2)) rfl rfl (By rfl) fun h33 Is=>(K.Al (bnd h fun Jh Tb h=>(FQ rfl GO rfl Tb o19 Is fun h36 A37 k38 o39=>(kx 1 (knl (B7 ?_))))))))))
    exact AM (K.An (E3 m21 (Jh,Dj.2.2.2.2.2,h36,A37,k38) (Nat.lt_succ_self _) ⟨h,o39⟩ sb rfl))
   ·exact Fv (Dg (Dg (Fw (AM (B4 (l15,FB.2,h16,Jl,k18) ⟨h,o19⟩ sb rfl)))))
def N7.f (k:Nat) (Ac:List (Int×ByteArray×Int×Int)) (Ag:Int):Option (Bool):=((Et.f k Ac Ag).bind fun r2=>cond (r2.1 == 6) (some true) ((EM.f k Ac Ag (⟨#[101,110,100]⟩:ByteArray)).bind fun r4=>cond r4 (some true) ((EM.f k Ac Ag (⟨#[101,108,115,101]⟩:ByteArray)).bind fun r6=>cond r6 (some true) ((EM.f k Ac Ag (⟨#[101,108,115,101,105,102]⟩:ByteArray)).bind fun r8=>some r8))):Option Bool).bind fun q1=>some (q1)
theorem N7.ok {k b0 Ax:Nat} {Ac:List (Int×ByteArray×Int×Int)} {Ag:Int} {B5:Ab} {Aw:Aq} {r:Bool} (h:N7.f k Ac Ag=some r) (AJ:Bl F_ 4 B5 (Aa Aw Ac Ax) Ac): Ct Tryz.prog 41 #[pt b0] [bk b0 #[Aa Aw Ac Ax,iv Ag] 93] [B5] (fun e l1=>e=.returned (bv r)∧l1=[bk b0 #[Aa Aw Ac Ax,iv Ag] 93]):=by
 refine C3 (args:=[pt b0]) Tryz.func41 rfl (By rfl) ?_
 intro A X hh_
 obtain ⟨AY,_⟩:=hh_
 unfold N7.f at h
 refine K.eq (env':=[(0,pt b0)]) (l':=bk b0 #[Aa Aw Ac Ax,iv Ag] 93 :: X) rfl rfl (ksr (kx 1 (Ad (bnd h fun q1 hq1 h=>?_))))
 refine G_ [(2,bv q1)] (bk b0 #[Aa Aw Ac Ax,iv Ag] 93 :: X) ?_ ?_
 ·clear hq1
  refine C9 ?_
  obtain rfl:=As h
  exact kdn rfl
 ·have h:=hq1
  clear hq1
  refine Bu (kx 1 (bnd h fun r2 hr2 h=>(CG (Et.ok hr2 AJ) rfl ⟨AY,trivial⟩ (kx 3 ?_))))
  refine Ee 7 h (fun h=>?_) fun h=>?_
  ·exact kx 12 (Ad (Dd ⟨gb (As h),trivial⟩))
  ·refine kx 1 (bnd h fun r4 hr4 h=>(CG (EM.ok hr4 AJ) rfl ⟨AY,trivial⟩ (kx 2 ?_)))
   refine Ee 11 h (fun h=>?_) fun h=>?_
   ·exact kx 8 (Ad (Dd ⟨gb (As h),trivial⟩))
   ·refine kx 1 (bnd h fun r6 Nh h=>(CG (EM.ok Nh AJ) rfl ⟨AY,trivial⟩ (kx 2 ?_)))
    refine Ee 15 h (fun h=>?_) fun h=>?_
    ·exact kx 4 (Ad (Dd ⟨gb (As h),trivial⟩))
    ·exact kx 1 (bnd h fun r8 hr8 h=>(CG (EM.ok hr8 AJ) rfl ⟨AY,trivial⟩ (kx 2 (Ad (Dd ⟨gb (As h),trivial⟩)))))
def PL.f (_k:Nat) (Ac:Int) (Ag:ByteArray) (Fl:Int) (Af:Int):Option (Int):=(cond (Ac != 5) (some (Ac != 2)) (some false):Option Bool).bind fun q2=>cond q2 (some (0)) (cond (Ag.toList == (⟨#[111,114]⟩:ByteArray).toList) (some (1)) (cond (Ag.toList == (⟨#[97,110,100]⟩:ByteArray).toList) (some (2)) (BG (fun (x6:Bool)=>cond x6 (some (3)) (cond (Ag.toList == (⟨#[46,46]⟩:ByteArray).toList) (some (4)) (BG (fun (x10:Bool)=>cond x10 (some (5)) (BG (fun (GX:Bool)=>cond GX (some (6)) (some (0))) (fun J14=>cond (Ag.toList == (⟨#[42]⟩:ByteArray).toList) (J14 (Ag.toList == (⟨#[42]⟩:ByteArray).toList)) (cond (Ag.toList == (⟨#[47,47]⟩:ByteArray).toList) (J14 (Ag.toList == (⟨#[47,47]⟩:ByteArray).toList)) (J14 (Ag.toList == (⟨#[37]⟩:ByteArray).toList)))))) (fun J11=>cond (Ag.toList == (⟨#[43]⟩:ByteArray).toList) (J11 (Ag.toList == (⟨#[43]⟩:ByteArray).toList)) (J11 (Ag.toList == (⟨#[45]⟩:ByteArray).toList)))))) (fun J7=>cond (Ag.toList == (⟨#[60]⟩:ByteArray).toList) (J7 (Ag.toList == (⟨#[60]⟩:ByteArray).toList)) (cond (Ag.toList == (⟨#[62]⟩:ByteArray).toList) (J7 (Ag.toList == (⟨#[62]⟩:ByteArray).toList)) (cond (Ag.toList == (⟨#[60,61]⟩:ByteArray).toList) (J7 (Ag.toList == (⟨#[60,61]⟩:ByteArray).toList)) (cond (Ag.toList == (⟨#[62,61]⟩:ByteArray).toList) (J7 (Ag.toList == (⟨#[62,61]⟩:ByteArray).toList)) (cond (Ag.toList == (⟨#[126,61]⟩:ByteArray).toList) (J7 (Ag.toList == (⟨#[126,61]⟩:ByteArray).toList)) (J7 (Ag.toList == (⟨#[61,61]⟩:ByteArray).toList))))))))))
theorem PL.ok {k:Nat} {Ac Fl Af r:Int} {Ag:ByteArray} (h:PL.f k Ac Ag Fl Af=some r): Ct Tryz.prog 105 #[.agg #[iv Ac,sv Ag,iv Fl,iv Af]] [] [] (fun e l1=>e=.returned (iv r)∧l1=[]):=by
 refine C3 (args:=[.agg #[iv Ac,sv Ag,iv Fl,iv Af]]) Tryz.func105 rfl (By rfl) ?_
 intro A X hh_
 unfold PL.f at h
 refine ksr (knp #[iv Ac,sv Ag,iv Fl,iv Af] 96 fun b1=>(kx 1 (Ad (B8 (bnd h fun q2 hq2 h=>?_)))))
 refine G_ [(1,pt b1),(10,bv q2)] (bk b1 #[iv Ac,sv Ag,iv Fl,iv Af] 96 :: X) ?_ ?_
 ·clear hq2
  refine AU h (fun h=>?_) fun h=>?_
  ·refine ksr (kx 1 (Ad (C9 (DH ?_))))
   obtain rfl:=As h
   exact K.drop (kdn rfl)
  ·refine BV (AM (B8 (ksr (kx 1 (kld 0 1 rfl (K.drop (Ad (C1 (ksr (kx 2 ?_))))))))))
   refine Ad ?_
   refine AU h (fun h=>?_) fun h=>?_
   ·refine ksr (kx 1 (Ad (C9 (Fu (DH ?_)))))
    obtain rfl:=As h
    exact kdn rfl
   ·refine ksr (kx 2 (Ad ?_))
    refine AU h (fun h=>?_) fun h=>?_
    ·refine ksr (kx 1 (Ad (C9 (Fu (DH ?_)))))
     obtain rfl:=As h
     exact kdn rfl
    ·obtain ⟨J7,hJ7,h⟩:=De h
     refine Df (τ:=Bool) (fun t=>[(12,sv Ag),(17,bv t)]) (fun t=>X) (fun t=>J7 t=some r) ?_ ?_
     ·rintro x6 h
      subst hJ7
      refine AU h (fun h=>?_) fun h=>?_
      ·refine ksr (kx 1 (Ad (C9 (Fu (DH ?_)))))
       obtain rfl:=As h
       exact kdn rfl
      ·refine ksr (kx 2 (Ad ?_))
       refine AU h (fun h=>?_) fun h=>?_
       ·refine ksr (kx 1 (Ad (C9 (Fu (DH ?_)))))
        obtain rfl:=As h
        exact kdn rfl
       ·obtain ⟨J11,YR,h⟩:=De h
        refine Df (τ:=Bool) (fun t=>[(12,sv Ag),(26,bv t)]) (fun t=>X) (fun t=>J11 t=some r) ?_ ?_
        ·rintro x10 h
         subst YR
         refine AU h (fun h=>?_) fun h=>?_
         ·refine ksr (kx 1 (Ad (C9 (Fu (DH ?_)))))
          obtain rfl:=As h
          exact kdn rfl
         ·obtain ⟨J14,LD,h⟩:=De h
          refine Df (τ:=Bool) (fun t=>[(29,bv t)]) (fun t=>X) (fun t=>J14 t=some r) ?_ ?_
          ·rintro GX h
           subst LD
           refine AU h (fun h=>?_) fun h=>?_
           ·refine ksr (kx 1 (Ad (C9 (Fu (DH ?_)))))
            obtain rfl:=As h
            exact kdn rfl
           ·refine BV (B7 (AM (ksr (kx 1 (Ad (C9 ?_))))))
            obtain rfl:=As h
            exact kdn rfl
          ·skip
           refine ksr (kx 2 (Ad ?_))
           refine AU h (fun h=>?_) fun h=>?_
           ·exact BV (AM (B4 (Ag.toList == (⟨#[42]⟩:ByteArray).toList) h sb rfl))
           ·refine ksr (kx 2 (Ad ?_))
            refine AU h (fun h=>?_) fun h=>?_
            ·exact BV (AM (B4 (Ag.toList == (⟨#[47,47]⟩:ByteArray).toList) h sb rfl))
            ·exact Bu (kx 2 (Ad (B4 (Ag.toList == (⟨#[37]⟩:ByteArray).toList) h sb rfl)))
        ·skip
         refine ksr (kx 2 (Ad ?_))
         refine AU h (fun h=>?_) fun h=>?_
         ·exact BV (AM (B4 (Ag.toList == (⟨#[43]⟩:ByteArray).toList) h sb rfl))
         ·exact Bu (kx 2 (Ad (B4 (Ag.toList == (⟨#[45]⟩:ByteArray).toList) h sb rfl)))
     ·skip
      refine ksr (kx 2 (Ad ?_))
      refine AU h (fun h=>?_) fun h=>?_
      ·exact BV (AM (B4 (Ag.toList == (⟨#[60]⟩:ByteArray).toList) h sb rfl))
      ·refine ksr (kx 2 (Ad ?_))
       refine AU h (fun h=>?_) fun h=>?_
       ·exact BV (AM (B4 (Ag.toList == (⟨#[62]⟩:ByteArray).toList) h sb rfl))
       ·refine ksr (kx 2 (Ad ?_))
        refine AU h (fun h=>?_) fun h=>?_
        ·exact BV (AM (B4 (Ag.toList == (⟨#[60,61]⟩:ByteArray).toList) h sb rfl))
        ·refine ksr (kx 2 (Ad ?_))
         refine AU h (fun h=>?_) fun h=>?_
         ·exact BV (AM (B4 (Ag.toList == (⟨#[62,61]⟩:ByteArray).toList) h sb rfl))
         ·refine ksr (kx 2 (Ad ?_))
          refine AU h (fun h=>?_) fun h=>?_
          ·exact BV (AM (B4 (Ag.toList == (⟨#[126,61]⟩:ByteArray).toList) h sb rfl))
          ·exact Bu (kx 2 (Ad (B4 (Ag.toList == (⟨#[61,61]⟩:ByteArray).toList) h sb rfl)))
 ·have h:=hq2
  clear hq2
  refine Bu (kx 1 (kld 0 0 rfl (kx 2 ?_)))
  refine Ee 6 h (fun h=>?_) fun h=>?_
  ·exact kx 1 (kld 0 0 rfl (kx 2 (Ad (Dd ⟨gr,gb (As h),trivial⟩))))
  ·exact kx 4 (Ad (Dd ⟨gr,gb (As h),trivial⟩))
def PM.f (_k:Nat) (Ac:Int) (Ag:ByteArray) (Fl:Int) (Af:Int) (At:List Tree):Option (Bool):=(cond (Ac == 6) (some true) (some (Ac == 7)):Option Bool).bind fun q2=>some (q2)
theorem PM.ok {k Bt:Nat} {Ac Fl Af:Int} {Ag:ByteArray} {At:List Tree} {B9:Ab} {Bm:Aq} {r:Bool} (h:PM.f k Ac Ag Fl Af At=some r) (Cj:RdR (AX 54) B9 (Aa Bm At Bt) At): Ct Tryz.prog 107 #[.agg #[iv Ac,sv Ag,iv Fl,iv Af,Aa Bm At Bt]] [] [B9] (fun e l1=>e=.returned (bv r)∧l1=[]):=by
 refine C3 (args:=[.agg #[iv Ac,sv Ag,iv Fl,iv Af,Aa Bm At Bt]]) Tryz.func107 rfl (By rfl) ?_
 intro A X hh_
 obtain ⟨Pc,_⟩:=hh_
 unfold PM.f at h
 refine ksr (knp #[iv Ac,sv Ag,iv Fl,iv Af,Aa Bm At Bt] 54 fun b1=>(kx 1 (Ad (bnd h fun q2 hq2 h=>?_))))
 refine G_ [(2,bv q2)] (X) ?_ ?_
 ·clear hq2
  refine C9 ?_
  obtain rfl:=As h
  exact kdn rfl
 ·have h:=hq2
  clear hq2
  refine Bu (kx 1 (kld 0 0 rfl (kx 2 ?_)))
  refine Ee 6 h (fun h=>?_) fun h=>?_
  ·exact kx 5 (Ad (K.drop (Dd ⟨gb (As h),trivial⟩)))
  ·exact kx 1 (kld 0 0 rfl (K.drop (kx 3 (Ad (Dd ⟨gb (As h),trivial⟩)))))
theorem St.TY {A:World} {X:List Ab} {w:World}:∀ (n:Nat),St A X w→St A (List.replicate n none_++X) w
 | 0,h=>h
 | n+1,h=>by
  have:=St.TY n h
  exact ⟨⟨fun _ _ h=>(by cases h),fun _ _ _=>.inl rfl,this.sat⟩,this.os,this.tape,this.output,this.size⟩
theorem Bqk (p q:Value) (w:World) :
  CallsD Tryz.prog 25 #[p,q] .returning w fun e u' w'=>e=.returned (.tuple #[])∧u'=.returning∧w=w':=by
 refine callsD_of_wpS Tryz.func25 rfl fun c₀ cs hu=>?_
 apply wpS_seq
 apply wpS_region
 simp [wpOpsS,go_sem,recoverD,hu,Tryz.ntmps25,Exit.thenS,Array.replicate_succ]
 refine wpS_of_wp ?_
 go_wp2
 cases c₀
 simp_all [bodyPostS,results,Tryz.results25]
theorem Au0 {A w:World} {X:List Ab} {p q:Nat} {x0 x1 x2 x3 x4 y0 y1:Value} {i:Int} (hw:St A (blk p (.cells #[x0,x1,x2,x3,x4] 54 (0,0)) :: blk q (.cells #[y0,y1] 28 (0,0)) :: X) w) :
  CallsD Tryz.prog 25 #[.pointer (some ⟨p,0,none⟩),.pointer (some ⟨q,0,none⟩)] (.panicking [{ v:=Ii i,recovered:=false }]) w fun e u' w'=>e=.returned (.tuple #[])∧settle u'=.returning∧St A (blk p (.cells #[.int .i64 (0:Int),.string (⟨#[]⟩:ByteArray),.int .i64 (0:Int),.int .i64 (0:Int),.slice none 0 0] 54 (0,0)) :: blk q (.cells #[.int .i64 (4:Int),.int .i64 i] 28 (0,0)) :: X) w':=by
 refine callsD_of_wpS Tryz.func25 rfl fun c₀ cs hu=>?_
 apply wpS_seq
 apply wpS_region
 simp [wpOpsS,go_sem,recoverD,hu,Tryz.ntmps25,Exit.thenS,Array.replicate_succ]
 refine wpS_of_wp ?_
 refine (?_:K [] A Tryz.f25.ntmps [(0,.pointer (some ⟨p,0,none⟩)),(1,.pointer (some ⟨q,0,none⟩)),(5,.iface 90 (.agg #[.int .i64 (4:Int),.int .i64 i]))] (blk p (.cells #[x0,x1,x2,x3,x4] 54 (0,0)) :: blk q (.cells #[y0,y1] 28 (0,0)) :: X) _) _ w ⟨rfl,rfl,?_⟩ hw
 rotate_left
 ·intro j v hj
  simp only [Env.get] at hj
  match j with
  | 0=>cases hj;rfl
  | 1=>cases hj;rfl
  | 2=>cases hj
  | 3=>cases hj
  | 4=>cases hj
  | 5=>cases hj;rfl
  | j+6=>cases hj
 refine C1 ?_
 refine B8 ?_
 refine Bu ?_
 refine Wr 1 [(0,.pointer (some ⟨p,0,none⟩)),(1,.pointer (some ⟨q,0,none⟩)),(5,.iface 90 (.agg #[.int .i64 (4:Int),.int .i64 i])),(7,.bool false)] (by kernel_rfl) ?_
 refine KX ?_
 refine AM ?_
 refine Wf (by kernel_rfl) ?_
 refine B8 ?_
 refine Bu ?_
 refine Wr 3 [(0,.pointer (some ⟨p,0,none⟩)),(1,.pointer (some ⟨q,0,none⟩)),(5,.iface 90 (.agg #[.int .i64 (4:Int),.int .i64 i])),(9,.bool true),(10,.agg #[.int .i64 (4:Int),.int .i64 i])] (by kernel_rfl) ?_
 refine KX ?_
 refine AM ?_
 refine Wg (by kernel_rfl) ?_
 refine B8 ?_
 refine Bu ?_
 refine Wq (.cells #[.int .i64 (0:Int),.int .i64 (0:Int)] 90 (0,0)) (fun b=>.pointer (some ⟨b,0,none⟩)) (by kernel_rfl) (by kernel_rfl) (fun _=>by kernel_rfl) fun b1=>?_
 refine TF (cs':=#[.int .i64 (4:Int),.int .i64 i]) [.st ⟨b1,0,none⟩ (.int .i64 (4:Int)),.st ⟨b1,1,none⟩ (.int .i64 i)] (by kernel_rfl) (by kernel_rfl) (by kernel_rfl) ⟨rfl,rfl,trivial⟩ (by kernel_rfl) ?_
 refine KX ?_
 refine AM ?_
 refine TC [(0,0),(1,3),(2,1)] (fun w=>Fj [blk b1 (.cells #[.int .i64 (4:Int),.int .i64 i] 90 (0,0))] w) (by kernel_rfl) (by kernel_rfl) (fun _ _ d _ _ h=>by cases d <;> exact h) (fun w h_=>⟨h_.sat.on _ (.head _),trivial⟩) ?_
 simp only [Eg,List.filterMap_cons,List.filterMap_nil,List.getElem?_toArray,List.getElem?_cons_zero,List.getElem?_cons_succ,Option.map_some,List.drop_succ_cons,List.drop_zero,AI,Br]
 refine Ar8 1 [(0,.pointer (some ⟨p,0,none⟩)),(1,.pointer (some ⟨q,0,none⟩)),(3,.pointer (some ⟨b1,0,none⟩)),(11,.agg #[.int .i64 (0:Int),.string (⟨#[]⟩:ByteArray),.int .i64 (0:Int),.int .i64 (0:Int),.slice none 0 0])] (by kernel_rfl) (by kernel_rfl) ?_
 refine Wt (v:=.agg #[.int .i64 (4:Int),.int .i64 i]) [blk b1 (.cells #[.int .i64 (4:Int),.int .i64 i] 90 (0,0))] [.val (.int .i64 (4:Int)),.val (.int .i64 i)] [.ld ⟨b1,0,none⟩ (.int .i64 (4:Int)),.ld ⟨b1,1,none⟩ (.int .i64 i)] (by kernel_rfl) (by kernel_rfl) (by kernel_rfl) (fun _ h=>h) ⟨⟨0,_,_,_,rfl,rfl,rfl⟩,⟨0,_,_,_,rfl,rfl,rfl⟩,trivial⟩ ?_
 refine Aa7 (by kernel_rfl) ?_
 refine K.An ?_
 refine WI (cs':=#[.int .i64 (0:Int),.string (⟨#[]⟩:ByteArray),.int .i64 (0:Int),.int .i64 (0:Int),.slice none 0 0]) [.st ⟨p,0,none⟩ (.int .i64 (0:Int)),.st ⟨p,1,none⟩ (.string (⟨#[]⟩:ByteArray)),.st ⟨p,2,none⟩ (.int .i64 (0:Int)),.st ⟨p,3,none⟩ (.int .i64 (0:Int)),.st ⟨p,4,none⟩ (.slice none 0 0)] (by kernel_rfl) (by kernel_rfl) ⟨rfl,rfl,rfl,rfl,rfl,trivial⟩ (by kernel_rfl) ?_
 refine P1 (fun w h_=>⟨h_.sat.on _ (.tail _ (.head _)),trivial⟩) ?_
 refine Aa4 ?_
 refine K.Al ?_
 refine TF (cs':=#[.int .i64 (4:Int),.int .i64 i]) [.st ⟨q,0,none⟩ (.int .i64 (4:Int)),.st ⟨q,1,none⟩ (.int .i64 i)] (by kernel_rfl) (by kernel_rfl) (by kernel_rfl) ⟨rfl,rfl,trivial⟩ (by kernel_rfl) ?_
 refine K.Al ?_
 refine K.drop ?_
 refine KX ?_
 refine B7 ?_
 refine K.An ?_
 intro a' w' ha' hw'
 have hd:=ha'.defers
 simp [bodyPostS,results,Tryz.results25,hd,settle]
 exact hw'
structure PE where
 Dc:List (Int×ByteArray×Int×Int)→Int→Int→Option (PR (Int×ByteArray×Int×Int×List Tree×Int))
 IP:List (Int×ByteArray×Int×Int)→Int→Option (PR (Int×ByteArray×Int×Int×List Tree×Int))
 DX:List (Int×ByteArray×Int×Int)→Int→Option (PR (Int×ByteArray×Int×Int×List Tree×Int))
 Gf:List (Int×ByteArray×Int×Int)→Int→Option (PR (List Tree×Int))
 IL:List (Int×ByteArray×Int×Int)→Int→Option (PR (Int×ByteArray×Int×Int×List Tree×Int))
 DN:List (Int×ByteArray×Int×Int)→Int→Option (PR (List Tree×Int))
def Dc.C (fC:List (Int×ByteArray×Int×Int)→Int→Int→Option (PR (Int×ByteArray×Int×Int×List Tree×Int))):Prop:=∀ {Ac:List (Int×ByteArray×Int×Int)} {Ag a1:Int} {b0 Ax:Nat} {B5:Ab} {Aw:Aq} {r:PR (Int×ByteArray×Int×Int×List Tree×Int)} (h:fC Ac Ag a1=some r) (AJ:Bl F_ 4 B5 (Aa Aw Ac Ax) Ac),Ct Tryz.prog 64 #[pt b0,iv a1] [bk b0 #[Aa Aw Ac Ax,iv Ag] 93] [B5] (PR.Post Ii (fun (r:Int×ByteArray×Int×Int×List Tree×Int) e l1=>∃ (H0_:Ab) (A0_:Aq) (c0_:Nat),AK (AX 54) 54 H0_ (Aa A0_ r.2.2.2.2.1 c0_) r.2.2.2.2.1∧e=.returned (.agg #[iv r.1,sv r.2.1,iv r.2.2.1,iv r.2.2.2.1,Aa A0_ r.2.2.2.2.1 c0_])∧l1=[H0_,bk b0 #[Aa Aw Ac Ax,iv r.2.2.2.2.2] 93]) r)
def IP.C (fC:List (Int×ByteArray×Int×Int)→Int→Option (PR (Int×ByteArray×Int×Int×List Tree×Int))):Prop:=∀ {Ac:List (Int×ByteArray×Int×Int)} {Ag:Int} {b0 Ax:Nat} {B5:Ab} {Aw:Aq} {r:PR (Int×ByteArray×Int×Int×List Tree×Int)} (h:fC Ac Ag=some r) (AJ:Bl F_ 4 B5 (Aa Aw Ac Ax) Ac),Ct Tryz.prog 104 #[pt b0] [bk b0 #[Aa Aw Ac Ax,iv Ag] 93] [B5] (PR.Post Ii (fun (r:Int×ByteArray×Int×Int×List Tree×Int) e l1=>∃ (H0_:Ab) (A0_:Aq) (c0_:Nat),AK (AX 54) 54 H0_ (Aa A0_ r.2.2.2.2.1 c0_) r.2.2.2.2.1∧e=.returned (.agg #[iv r.1,sv r.2.1,iv r.2.2.1,iv r.2.2.2.1,Aa A0_ r.2.2.2.2.1 c0_])∧l1=[H0_,bk b0 #[Aa Aw Ac Ax,iv r.2.2.2.2.2] 93]) r)
def DX.C (fC:List (Int×ByteArray×Int×Int)→Int→Option (PR (Int×ByteArray×Int×Int×List Tree×Int))):Prop:=∀ {Ac:List (Int×ByteArray×Int×Int)} {Ag:Int} {b0 Ax:Nat} {B5:Ab} {Aw:Aq} {r:PR (Int×ByteArray×Int×Int×List Tree×Int)} (h:fC Ac Ag=some r) (AJ:Bl F_ 4 B5 (Aa Aw Ac Ax) Ac),Ct Tryz.prog 106 #[pt b0] [bk b0 #[Aa Aw Ac Ax,iv Ag] 93] [B5] (PR.Post Ii (fun (r:Int×ByteArray×Int×Int×List Tree×Int) e l1=>∃ (H0_:Ab) (A0_:Aq) (c0_:Nat),AK (AX 54) 54 H0_ (Aa A0_ r.2.2.2.2.1 c0_) r.2.2.2.2.1∧e=.returned (.agg #[iv r.1,sv r.2.1,iv r.2.2.1,iv r.2.2.2.1,Aa A0_ r.2.2.2.2.1 c0_])∧l1=[H0_,bk b0 #[Aa Aw Ac Ax,iv r.2.2.2.2.2] 93]) r)
def Gf.C (fC:List (Int×ByteArray×Int×Int)→Int→Option (PR (List Tree×Int))):Prop:=∀ {Ac:List (Int×ByteArray×Int×Int)} {Ag:Int} {b0 Ax:Nat} {B5:Ab} {Aw:Aq} {r:PR (List Tree×Int)} (h:fC Ac Ag=some r) (AJ:Bl F_ 4 B5 (Aa Aw Ac Ax) Ac),Ct Tryz.prog 125 #[pt b0] [bk b0 #[Aa Aw Ac Ax,iv Ag] 93] [B5] (PR.Post Ii (fun (r:List Tree×Int) e l1=>∃ (H0_:Ab) (A0_:Aq) (c0_:Nat),AK (AX 54) 54 H0_ (Aa A0_ r.1 c0_) r.1∧e=.returned (Aa A0_ r.1 c0_)∧l1=[H0_,bk b0 #[Aa Aw Ac Ax,iv r.2] 93]) r)
def IL.C (fC:List (Int×ByteArray×Int×Int)→Int→Option (PR (Int×ByteArray×Int×Int×List Tree×Int))):Prop:=∀ {Ac:List (Int×ByteArray×Int×Int)} {Ag:Int} {b0 Ax:Nat} {B5:Ab} {Aw:Aq} {r:PR (Int×ByteArray×Int×Int×List Tree×Int)} (h:fC Ac Ag=some r) (AJ:Bl F_ 4 B5 (Aa Aw Ac Ax) Ac),Ct Tryz.prog 134 #[pt b0] [bk b0 #[Aa Aw Ac Ax,iv Ag] 93] [B5] (PR.Post Ii (fun (r:Int×ByteArray×Int×Int×List Tree×Int) e l1=>∃ (H0_:Ab) (A0_:Aq) (c0_:Nat),AK (AX 54) 54 H0_ (Aa A0_ r.2.2.2.2.1 c0_) r.2.2.2.2.1∧e=.returned (.agg #[iv r.1,sv r.2.1,iv r.2.2.1,iv r.2.2.2.1,Aa A0_ r.2.2.2.2.1 c0_])∧l1=[H0_,bk b0 #[Aa Aw Ac Ax,iv r.2.2.2.2.2] 93]) r)
def DN.C (fC:List (Int×ByteArray×Int×Int)→Int→Option (PR (List Tree×Int))):Prop:=∀ {Ac:List (Int×ByteArray×Int×Int)} {Ag:Int} {b0 Ax:Nat} {B5:Ab} {Aw:Aq} {r:PR (List Tree×Int)} (h:fC Ac Ag=some r) (AJ:Bl F_ 4 B5 (Aa Aw Ac Ax) Ac),Ct Tryz.prog 43 #[pt b0] [bk b0 #[Aa Aw Ac Ax,iv Ag] 93] [B5] (PR.Post Ii (fun (r:List Tree×Int) e l1=>∃ (H0_:Ab) (A0_:Aq) (c0_:Nat),AK (AX 54) 54 H0_ (Aa A0_ r.1 c0_) r.1∧e=.returned (Aa A0_ r.1 c0_)∧l1=[H0_,bk b0 #[Aa Aw Ac Ax,iv r.2] 93]) r)
structure PE.Good (R:PE):Prop where
 Dc:Dc.C R.Dc
 IP:IP.C R.IP
 DX:DX.C R.DX
 Gf:Gf.C R.Gf
 IL:IL.C R.IL
 DN:DN.C R.DN
def Dc.l0:Nat→(Rc:PE)→(Ac:List (Int×ByteArray×Int×Int))→(a1:Int)→(r2:Int×ByteArray×Int×Int×List Tree×Int)→(x9:Int)→(x10:ByteArray)→(x11:Int)→(l12:List Tree)→(x17:Int)→Option (PR (Int×ByteArray×Int×Int×List Tree×Int))
 | 0,_,_,_,_,_,_,_,_,_=>none
 | m18+1,Rc,Ac,a1,r2,x9,x10,x11,l12,x17=>(Et.f m18 Ac x17).bind fun r19=>(PL.f m18 r19.1 r19.2.1 r19.2.2.1 r19.2.2.2).bind fun r21=>cond (decide (r21≤a1)) (some (PR.ok (x9,x10,x11,r2.2.2.2.1,l12,x17))) (BG (fun (x23:Int)=>PR.bind (Rc.Dc Ac (IntKind.i64.wrap (x17+1)) x23) fun r25=>Dc.l0 m18 Rc Ac a1 r2 11 r19.2.1 0 ([(Tree.mk x9 x10 x11 r2.2.2.2.1 l12),(Tree.mk r25.1 r25.2.1 r25.2.2.1 r25.2.2.2.1 r25.2.2.2.2.1)]) r25.2.2.2.2.2) (fun MQ=>cond (r21 == 4) (MQ (IntKind.i64.wrap (r21 - 1))) (MQ r21)))
def Dc.g (Rc:PE) (k:Nat) (Ac:List (Int×ByteArray×Int×Int)) (Ag:Int) (a1:Int):Option (PR (Int×ByteArray×Int×Int×List Tree×Int)):=PR.bind (Rc.IP Ac Ag) fun r2=>Dc.l0 k Rc Ac a1 r2 r2.1 r2.2.1 r2.2.2.1 r2.2.2.2.2.1 r2.2.2.2.2.2
theorem Dc.C2 {Rc:PE} (hR:Rc.Good) {k:Nat}:Dc.C (Dc.g Rc k):=by
 intro Ac Ag a1 b0 Ax B5 Aw r h AJ
 refine C3 (args:=[pt b0,iv a1]) Tryz.func64 rfl (By rfl) ?_
 intro A X hh_
 obtain ⟨AY,_⟩:=hh_
 unfold Dc.g at h
 refine K.eq (env':=[(0,pt b0),(1,iv a1)]) (l':=bk b0 #[Aa Aw Ac Ax,iv Ag] 93 :: X) rfl rfl (ksr (knp #[iv 0,sv noS,iv 0,iv 0,nS] 54 fun b1=>(Ba (kx 1 (K.An (Cb h (fun _ hr2=>(hR.IP hr2 AJ)) rfl ⟨(.tail _ AY),trivial⟩ (fun _ e=>Bf (kpn 1 e rfl)) fun r2 h=>?_))))))
 rintro _ _ ⟨h3,A4,k5,o6,rfl,rfl⟩
 refine Bi (knp #[iv 0,sv noS,iv 0,iv 0,nS] 54 fun b8=>(AQ 0 5 #[iv r2.1,sv r2.2.1,iv r2.2.2.1,iv r2.2.2.2.1,Aa A4 r2.2.2.2.2.1 k5] (Ad (C1 (K.An (K.mv3 (K.mv3 (K.mv3 (Fx (τ:=Int×ByteArray×Int×(List Tree)×Int×Ab×Aq×Nat) (fun t=>[(0,pt b0),(1,iv a1),(4,pt b1),(5,pt b8)]) (fun t=>bk b8 #[iv t.1,sv t.2.1,iv t.2.2.1,iv r2.2.2.2.1,Aa t.2.2.2.2.2.2.1 t.2.2.2.1 t.2.2.2.2.2.2.2] 54 :: bk b0 #[Aa Aw Ac Ax,iv t.2.2.2.2.1] 93 :: bk b1 #[iv 0,sv noS,iv 0,iv 0,nS] 54 :: t.2.2.2.2.2.1 :: X) (fun m t=>Dc.l0 m Rc Ac a1 r2 t.1 t.2.1 t.2.2.1 t.2.2.2.1 t.2.2.2.2.1=some r∧AK (AX 54) 54 t.2.2.2.2.2.1 (Aa t.2.2.2.2.2.2.1 t.2.2.2.1 t.2.2.2.2.2.2.2) t.2.2.2.1) k (r2.1,r2.2.1,r2.2.2.1,r2.2.2.2.2.1,r2.2.2.2.2.2,h3,A4,k5) ⟨h,o6⟩ sb rfl ?_)))))))))
 clear h
 rintro m18 ⟨x9,x10,x11,l12,x17,h13,Hf,k15⟩ ⟨h,o16⟩
 cases m18 with
 | zero=>simp [Dc.l0] at h
 | succ m18 =>
  simp only [Dc.l0] at h
  refine C1 (ksr (kx 1 (K.An (bnd h fun r19 hr19 h=>(CG (Et.ok hr19 AJ) rfl ⟨(t3 AY),trivial⟩ (knp #[iv 0,sv noS,iv 0,iv 0] 96 fun b20=>(AQ 0 4 #[iv r19.1,sv r19.2.1,iv r19.2.2.1,iv r19.2.2.2] (Ba (CV 0 0 4 rfl (bnd h fun r21 K0 h=>?_))))))))))
  refine G2 (PL.ok K0) trivial (kx 1 (Ad (B8 (ksr (kx 3 (Ad ?_))))))
  refine AU h (fun h=>?_) fun h=>?_
  ·refine ksr (CV 2 0 5 rfl (K.drop (K.An (K.drop (K.An (AQ 0 5 #[iv x9,sv x10,iv x11,iv r2.2.2.2.1,Aa Hf l12 k15] (Ad (C9 (DH (Fu ?_))))))))))
   refine DH (Fu ?_)
   obtain rfl:=As h
   exact Io 0 5 rfl [h13,bk b0 #[Aa Aw Ac Ax,iv x17] 93] (K.drop (K.An (BH (PR.okI ⟨h13,Hf,k15,o16,rfl,rfl⟩))))
  ·refine BV (AM (ksr (kx 3 (kld 1 1 rfl (kx 3 (K.An (AQ 1 1 #[Aa Aw Ac Ax,iv (IntKind.i64.wrap (x17+1))] (Ba (kx 2 (Ad ?_))))))))))
   obtain ⟨MQ,YV,h⟩:=De h
   refine Df (τ:=Int) (fun t=>[(0,pt b0),(1,iv a1),(4,pt b1),(5,pt b8),(6,pt b20),(8,iv t)]) (fun t=>bk b0 #[Aa Aw Ac Ax,iv (IntKind.i64.wrap (x17+1))] 93 :: bk b20 #[iv r19.1,sv r19.2.1,iv r19.2.2.1,iv r19.2.2.2] 96 :: bk b8 #[iv x9,sv x10,iv x11,iv r2.2.2.2.1,Aa Hf l12 k15] 54 :: bk b1 #[iv 0,sv noS,iv 0,iv 0,nS] 54 :: h13 :: X) (fun t=>MQ t=some r) ?_ ?_
   ·rintro x23 h
    subst YV
    refine kpr [(0,0),(1,3),(2,0),(3,3),(4,3),(5,0),(6,0),(7,1),(8,1)] [1,2] (Ar 1 (AP 0 1 rfl (Ar 1 (AP 1 3 rfl (GR 1 0 5 rfl (Ar 2 (kpt (ocp h (fun _ Ph=>(hR.Dc Ph AJ)) rfl ⟨(t4 AY),trivial⟩ (fun _ e=>B_ (Bf (B_ (kpn 4 e rfl)))) fun r25 h=>?_))))))))
    rintro _ _ ⟨h26,A27,k28,o29,rfl,rfl⟩
    refine Bi (Dm [2,3] rfl (kpt (HY #[iv x9,sv x10,iv x11,iv r2.2.2.2.1,Aa Hf l12 k15,iv r25.1,sv r25.2.1,iv r25.2.2.1,iv r25.2.2.2.1,Aa A27 r25.2.2.2.2.1 k28] 54 2 fun b31=>(Dm [3,4] rfl (Ca (kx 1 (K.Bx (AQ 0 5 #[iv 11,sv r19.2.1,iv 0,iv r2.2.2.2.1,.slice (some ⟨b31,0,none⟩) 2 2] (K.Bx (K.drop ?_))))))))))
    refine knl (B7 (AM (K.Al (K.mv5 (K5 fun p32=>(K.Al (DP (T:=54) (n:=2) (xs:=[(Tree.mk x9 x10 x11 r2.2.2.2.1 l12),(Tree.mk r25.1 r25.2.1 r25.2.2.1 r25.2.2.2.1 r25.2.2.2.2.1)]) (Cn.cons (En (k:=x9) (t:=x10) (n:=x11) (a:=r2.2.2.2.1) 54 o16) p32 (Cn.one (En (k:=r25.1) (t:=r25.2.1) (n:=r25.2.2.1) (a:=r25.2.2.2.1) 54 o29))) rfl rfl (By rfl) fun h33 Is=>(K.mv3 (K.mv3 (K.mv3 ?_))))))))))
    exact E3 m18 (11,r19.2.1,0,[(Tree.mk x9 x10 x11 r2.2.2.2.1 l12),(Tree.mk r25.1 r25.2.1 r25.2.2.1 r25.2.2.2.1 r25.2.2.2.2.1)],r25.2.2.2.2.2,h33,(some ⟨b31,0,none⟩),2) (Nat.lt_succ_self _) ⟨h,Is⟩ sb rfl
   ·skip
    refine ksr (kx 2 (Ad ?_))
    refine AU h (fun h=>?_) fun h=>?_
    ·exact Bu (kx 3 (Ad (B4 (IntKind.i64.wrap (r21 - 1)) h sb rfl)))
    ·exact BV (AM (B4 r21 h sb rfl))
def IP.g (Rc:PE) (k:Nat) (Ac:List (Int×ByteArray×Int×Int)) (Ag:Int):Option (PR (Int×ByteArray×Int×Int×List Tree×Int)):=(Et.f k Ac Ag).bind fun r2=>BG (fun (x5:Int) (x6:ByteArray) (x7:Int)=>some (PR.ok (x5,x6,x7,r2.2.2.2,[],IntKind.i64.wrap (Ag+1)))) (fun J8=>cond (r2.1 == 3) (J8 4 (⟨#[]⟩:ByteArray) r2.2.2.1) (cond (r2.1 == 4) (J8 5 r2.2.1 0) ((EM.f k Ac Ag (⟨#[110,105,108]⟩:ByteArray)).bind fun r11=>cond r11 (J8 1 (⟨#[]⟩:ByteArray) 0) ((EM.f k Ac Ag (⟨#[116,114,117,101]⟩:ByteArray)).bind fun r13=>cond r13 (J8 2 (⟨#[]⟩:ByteArray) 0) ((EM.f k Ac Ag (⟨#[102,97,108,115,101]⟩:ByteArray)).bind fun BS=>cond BS (J8 3 (⟨#[]⟩:ByteArray) 0) (BG (fun (x17:Bool) (x18:Int)=>cond x17 (PR.bind (Rc.Dc Ac x18 7) fun r21=>some (PR.ok (10,r2.2.1,0,r2.2.2.2,[(Tree.mk r21.1 r21.2.1 r21.2.2.1 r21.2.2.2.1 r21.2.2.2.2.1)],r21.2.2.2.2.2))) ((CH.f k Ac x18 (⟨#[123]⟩:ByteArray)).bind fun PU=>cond PU.1 (PR.bind (Rc.Gf Ac PU.2) fun r32=>some (PR.ok (12,(⟨#[]⟩:ByteArray),0,r2.2.2.2,r32.1,r32.2))) (PR.bind (Rc.DX Ac PU.2) fun r38=>some (PR.ok (r38.1,r38.2.1,r38.2.2.1,r38.2.2.2.1,r38.2.2.2.2.1,r38.2.2.2.2.2))))) (fun J19=>(CH.f k Ac Ag (⟨#[110,111,116]⟩:ByteArray)).bind fun r44=>cond r44.1 (J19 r44.1 r44.2) ((CH.f k Ac r44.2 (⟨#[35]⟩:ByteArray)).bind fun M9=>cond M9.1 (J19 M9.1 M9.2) ((CH.f k Ac M9.2 (⟨#[45]⟩:ByteArray)).bind fun r48=>J19 r48.1 r48.2)))))))))
theorem IP.C2 {Rc:PE} (hR:Rc.Good) {k:Nat}:IP.C (IP.g Rc k):=by
 intro Ac Ag b0 Ax B5 Aw r h AJ
 refine C3 (args:=[pt b0]) Tryz.func104 rfl (By rfl) ?_
 intro A X hh_
 obtain ⟨AY,_⟩:=hh_
 unfold IP.g at h
 refine K.eq (env':=[(0,pt b0)]) (l':=bk b0 #[Aa Aw Ac Ax,iv Ag] 93 :: X) rfl rfl (ksr (knp #[iv 0,sv noS,iv 0,iv 0,nS] 54 fun b1=>(Ba (kx 1 (K.An (bnd h fun r2 hr2 h=>(CG (Et.ok hr2 AJ) rfl ⟨(.tail _ AY),trivial⟩ (knp #[iv 0,sv noS,iv 0,iv 0] 96 fun b3=>(AQ 0 4 #[iv r2.1,sv r2.2.1,iv r2.2.2.1,iv r2.2.2.2] (Ba ?_))))))))))
 refine kx 1 (kld 0 3 rfl (kx 1 (knp #[iv 0,sv noS,iv 0,iv 0,nS] 54 fun b4=>(AQ 0 5 #[iv 0,sv noS,iv 0,iv r2.2.2.2,nS] (Ad ?_)))))
 obtain ⟨J8,hJ8,h⟩:=De h
 refine Df (τ:=Int×ByteArray×Int) (fun t=>[(0,pt b0),(2,pt b1),(4,pt b4)]) (fun t=>bk b4 #[iv t.1,sv t.2.1,iv t.2.2,iv r2.2.2.2,nS] 54 :: bk b0 #[Aa Aw Ac Ax,iv Ag] 93 :: bk b1 #[iv 0,sv noS,iv 0,iv 0,nS] 54 :: X) (fun t=>J8 t.1 t.2.1 t.2.2=some r) ?_ ?_
 ·rintro ⟨x5,x6,x7⟩ h
  subst hJ8
  refine ksr (kx 3 (kld 1 1 rfl (kx 3 (K.An (AQ 1 1 #[Aa Aw Ac Ax,iv (IntKind.i64.wrap (Ag+1))] (Ba (CV 1 0 5 rfl (K.An (K.drop (K.An ?_))))))))))
  refine AQ 0 5 #[iv x5,sv x6,iv x7,iv r2.2.2.2,nS] (Ad (C9 ?_))
  obtain rfl:=As h
  exact Io 0 5 rfl [none_,bk b0 #[Aa Aw Ac Ax,iv (IntKind.i64.wrap (Ag+1))] 93] (Dl (K.An (K.drop (BH (PR.okI ⟨none_,none,0,(AK.nil (AX 54) 54 none_),rfl,rfl⟩)))))
 ·skip
  refine C1 (ksr (kx 1 (kld 1 0 rfl (kx 2 (Ad ?_)))))
  refine AU h (fun h=>?_) fun h=>?_
  ·refine kpr [(0,0),(1,3),(2,0),(3,1)] [1] (Ar 1 (AP 0 2 rfl (Ar 1 (kpt (ost 0 1 #[iv 4,sv noS,iv 0,iv r2.2.2.2,nS] (Dm [1] rfl (Ca (kx 1 (AQ 2 1 #[iv 4,sv noS,iv r2.2.2.1,iv r2.2.2.2,nS] (K.An ?_))))))))))
   exact K.drop (knl (B7 (AM (B4 (4,(⟨#[]⟩:ByteArray),r2.2.2.1) h sb rfl))))
  ·refine ksr (kx 1 (kld 1 0 rfl (kx 2 (Ad ?_))))
   refine AU h (fun h=>?_) fun h=>?_
   ·refine kpr [(0,0),(1,3),(2,0),(3,1)] [1] (Ar 1 (AP 0 1 rfl (Ar 1 (kpt (ost 0 1 #[iv 5,sv noS,iv 0,iv r2.2.2.2,nS] (Dm [1] rfl (Ca (kx 1 (AQ 1 1 #[iv 5,sv r2.2.1,iv 0,iv r2.2.2.2,nS] (K.An ?_))))))))))
    exact K.drop (knl (B7 (AM (B4 (5,r2.2.1,0) h sb rfl))))
   ·refine ksr (kx 1 (K.Al (bnd h fun r11 Pd h=>(CG (EM.ok Pd AJ) rfl ⟨(t3 AY),trivial⟩ (kx 1 (Ad ?_))))))
    refine AU h (fun h=>?_) fun h=>?_
    ·exact Bu (kx 1 (K.An (AQ 0 1 #[iv 1,sv noS,iv 0,iv r2.2.2.2,nS] (K.Al (K.drop (knl (B7 (AM (B4 (1,(⟨#[]⟩:ByteArray),0) h sb rfl)))))))))
    ·refine ksr (kx 1 (bnd h fun r13 Pe h=>(CG (EM.ok Pe AJ) rfl ⟨(t3 AY),trivial⟩ (kx 1 (Ad ?_)))))
     refine AU h (fun h=>?_) fun h=>?_
     ·exact Bu (kx 1 (K.An (AQ 0 1 #[iv 2,sv noS,iv 0,iv r2.2.2.2,nS] (K.Al (K.drop (knl (B7 (AM (B4 (2,(⟨#[]⟩:ByteArray),0) h sb rfl)))))))))
     ·refine ksr (kx 1 (bnd h fun BS LG h=>(CG (EM.ok LG AJ) rfl ⟨(t3 AY),trivial⟩ (kx 1 (Ad ?_)))))
      refine AU h (fun h=>?_) fun h=>?_
      ·exact Bu (kx 1 (K.An (AQ 0 1 #[iv 3,sv noS,iv 0,iv r2.2.2.2,nS] (K.Al (K.drop (knl (B7 (AM (B4 (3,(⟨#[]⟩:ByteArray),0) h sb rfl)))))))))
      ·obtain ⟨J19,YU,h⟩:=De h
       refine Df (τ:=Bool×Int) (fun t=>[(0,pt b0),(2,pt b1),(3,pt b3),(40,bv t.1)]) (fun t=>bk b0 #[Aa Aw Ac Ax,iv t.2] 93 :: bk b3 #[iv r2.1,sv r2.2.1,iv r2.2.2.1,iv r2.2.2.2] 96 :: bk b1 #[iv 0,sv noS,iv 0,iv 0,nS] 54 :: X) (fun t=>J19 t.1 t.2=some r) ?_ ?_
       ·rintro ⟨x17,x18⟩ h
        subst YU
        refine AU h (fun h=>?_) fun h=>?_
        ·refine B8 (kpr [(0,0),(1,3),(2,0),(3,3),(4,0),(5,1),(6,1)] [1] (Ar 1 (AP 0 1 rfl (Ar 1 (AP 0 3 rfl (Ar 1 (kpt (ocp h (fun _ K0=>(hR.Dc K0 AJ)) rfl ⟨(t2 AY),trivial⟩ (fun _ e=>Bf (B_ (Bf (kpn 2 e rfl)))) fun r21 h=>?_))))))))
         rintro _ _ ⟨h22,A23,k24,Hc,rfl,rfl⟩
         refine Bi (Dm [2] rfl (kpt (HY #[iv r21.1,sv r21.2.1,iv r21.2.2.1,iv r21.2.2.2.1,Aa A23 r21.2.2.2.2.1 k24] 54 1 fun b27=>(Dm [3] rfl (Ca (kx 1 (K.Bx (AQ 0 5 #[iv 10,sv r2.2.1,iv 0,iv r2.2.2.2,.slice (some ⟨b27,0,none⟩) 1 1] (K.Bx (K.drop ?_))))))))))
         refine Ad (C9 (Fu (DH (K.Al (K.Al (DP (T:=54) (n:=1) (xs:=[(Tree.mk r21.1 r21.2.1 r21.2.2.1 r21.2.2.2.1 r21.2.2.2.2.1)]) (Cn.one (En (k:=r21.1) (t:=r21.2.1) (n:=r21.2.2.1) (a:=r21.2.2.2.1) 54 Hc)) rfl rfl (By rfl) fun h28 o29=>?_))))))
         obtain rfl:=As h
         exact Io 1 5 rfl [h28,bk b0 #[Aa Aw Ac Ax,iv r21.2.2.2.2.2] 93] (K.An (K.drop (BH (PR.okI ⟨h28,(some ⟨b27,0,none⟩),1,o29,rfl,rfl⟩))))
        ·refine ksr (kx 1 (bnd h fun PU Z2 h=>(CG (CH.ok Z2 AJ) rfl ⟨(t2 AY),trivial⟩ (kx 1 (Ad ?_)))))
         refine AU h (fun h=>?_) fun h=>?_
         ·refine B8 (kpr [(0,0),(1,3),(2,0),(3,1)] [1] (Ar 1 (AP 0 3 rfl (Ar 1 (kpt (ocp h (fun _ Pi=>(hR.Gf Pi AJ)) rfl ⟨(t2 AY),trivial⟩ (fun _ e=>Bf (B_ (Bf (kpn 2 e rfl)))) fun r32 h=>?_))))))
          rintro _ _ ⟨h33,A34,GD,Jj,rfl,rfl⟩
          refine Bi (Dm [2] rfl (Ca (kx 1 (K.mv3 (AQ 0 5 #[iv 12,sv noS,iv 0,iv r2.2.2.2,Aa A34 r32.1 GD] (K.mv3 (K.drop (Ad (C9 (Fu ?_))))))))))
          refine DH ?_
          obtain rfl:=As h
          exact Io 0 5 rfl [h33,bk b0 #[Aa Aw Ac Ax,iv r32.2] 93] (K.drop (BH (PR.okI ⟨h33,A34,GD,Jj,rfl,rfl⟩)))
         ·refine ksr (kx 1 (Cb h (fun _ Pl=>(hR.DX Pl AJ)) rfl ⟨(t2 AY),trivial⟩ (fun _ e=>Bf (B_ (Bf (kpn 2 e rfl)))) fun r38 h=>?_))
          rintro _ _ ⟨h39,Mj,k41,R1,rfl,rfl⟩
          refine Bi (K.Al (K.drop (K.Al (AQ 0 5 #[iv r38.1,sv r38.2.1,iv r38.2.2.1,iv r38.2.2.2.1,Aa Mj r38.2.2.2.2.1 k41] (Ad (C9 (Fu (DH ?_))))))))
          obtain rfl:=As h
          exact Io 0 5 rfl [h39,bk b0 #[Aa Aw Ac Ax,iv r38.2.2.2.2.2] 93] (K.drop (BH (PR.okI ⟨h39,Mj,k41,R1,rfl,rfl⟩)))
       ·skip
        refine ksr (kx 1 (bnd h fun r44 Pn h=>(CG (CH.ok Pn AJ) rfl ⟨(t3 AY),trivial⟩ (K.An (K.drop (kx 1 (Ad ?_)))))))
        refine AU h (fun h=>?_) fun h=>?_
        ·exact BV (AM (B4 (r44.1,r44.2) h sb rfl))
        ·refine ksr (kx 1 (bnd h fun M9 Z8 h=>(CG (CH.ok Z8 AJ) rfl ⟨(t2 AY),trivial⟩ (kx 1 (Ad ?_)))))
         refine AU h (fun h=>?_) fun h=>?_
         ·exact BV (AM (B4 (M9.1,M9.2) h sb rfl))
         ·exact Bu (kx 1 (bnd h fun r48 Z9 h=>(CG (CH.ok Z9 AJ) rfl ⟨(t2 AY),trivial⟩ (kx 1 (Ad (B4 (r48.1,r48.2) h sb rfl))))))
def DX.l0:Nat→(Rc:PE)→(Ac:List (Int×ByteArray×Int×Int))→(r2:Int×ByteArray×Int×Int)→(x15:Int)→(x16:ByteArray)→(x17:Int)→(x18:Int)→(l19:List Tree)→(x24:Int)→Option (PR (Int×ByteArray×Int×Int×List Tree×Int))
 | 0,_,_,_,_,_,_,_,_,_=>none
 | Ji+1,Rc,Ac,r2,x15,x16,x17,x18,l19,x24=>(CH.f Ji Ac x24 (⟨#[91]⟩:ByteArray)).bind fun Dj=>cond Dj.1 (PR.bind (Rc.Dc Ac Dj.2 0) fun r28=>PR.bind (Di.f Ji Ac r28.2.2.2.2.2 (⟨#[93]⟩:ByteArray)) fun Iw=>DX.l0 Ji Rc Ac r2 7 (⟨#[]⟩:ByteArray) 0 r2.2.2.2 ([(Tree.mk x15 x16 x17 x18 l19),(Tree.mk r28.1 r28.2.1 r28.2.2.1 r28.2.2.2.1 r28.2.2.2.2.1)]) Iw) ((CH.f Ji Ac Dj.2 (⟨#[46]⟩:ByteArray)).bind fun r40=>cond r40.1 (PR.bind (Hv.f Ji Ac r40.2) fun ED=>DX.l0 Ji Rc Ac r2 7 (⟨#[]⟩:ByteArray) 0 r2.2.2.2 ([(Tree.mk x15 x16 x17 x18 l19),(Tree.mk 5 ED.2.1 ED.2.2.1 ED.2.2.2.1 ED.2.2.2.2.1)]) ED.2.2.2.2.2) ((CH.f Ji Ac r40.2 (⟨#[40]⟩:ByteArray)).bind fun r53=>cond r53.1 (BG (fun (l56:List Tree) (x61:Int)=>PR.bind (Di.f Ji Ac x61 (⟨#[41]⟩:ByteArray)) fun FI=>DX.l0 Ji Rc Ac r2 8 (⟨#[]⟩:ByteArray) 0 r2.2.2.2 l56 FI) (fun Vl=>(EM.f Ji Ac r53.2 (⟨#[41]⟩:ByteArray)).bind fun r65=>cond (!r65) (PR.bind (Rc.DN Ac r53.2) fun Fc=>(apd 64 [(Tree.mk x15 x16 x17 x18 l19)] Fc.1).bind fun Nz=>Vl Nz Fc.2) (Vl ([(Tree.mk x15 x16 x17 x18 l19)]) r53.2))) (some (PR.ok (x15,x16,x17,x18,l19,r53.2)))))
def DX.g (Rc:PE) (k:Nat) (Ac:List (Int×ByteArray×Int×Int)) (Ag:Int):Option (PR (Int×ByteArray×Int×Int×List Tree×Int)):=(Et.f k Ac Ag).bind fun r2=>BG (fun (x4:Int) (x5:ByteArray) (x6:Int) (x7:Int) (l8:List Tree) (GX:Int)=>DX.l0 k Rc Ac r2 x4 x5 x6 x7 l8 GX) (fun J14=>(CH.f k Ac Ag (⟨#[40]⟩:ByteArray)).bind fun IS=>cond IS.1 (PR.bind (Rc.Dc Ac IS.2 0) fun F3=>PR.bind (Di.f k Ac F3.2.2.2.2.2 (⟨#[41]⟩:ByteArray)) fun r91=>J14 9 (⟨#[]⟩:ByteArray) 0 r2.2.2.2 ([(Tree.mk F3.1 F3.2.1 F3.2.2.1 F3.2.2.2.1 F3.2.2.2.2.1)]) r91) (PR.bind (Hv.f k Ac IS.2) fun r95=>J14 r95.1 r95.2.1 r95.2.2.1 r95.2.2.2.1 r95.2.2.2.2.1 r95.2.2.2.2.2))
theorem DX.C2 {Rc:PE} (hR:Rc.Good) {k:Nat}:DX.C (DX.g Rc k):=by
 intro Ac Ag b0 Ax B5 Aw r h AJ
 refine C3 (args:=[pt b0]) Tryz.func106 rfl (By rfl) ?_
 intro A X hh_
 obtain ⟨AY,_⟩:=hh_
 unfold DX.g at h
 refine K.eq (env':=[(0,pt b0)]) (l':=bk b0 #[Aa Aw Ac Ax,iv Ag] 93 :: X) rfl rfl (ksr (knp #[iv 0,sv noS,iv 0,iv 0,nS] 54 fun b1=>(Ba (kx 1 (K.An (bnd h fun r2 hr2 h=>(CG (Et.ok hr2 AJ) rfl ⟨(.tail _ AY),trivial⟩ (kx 2 (Ba (knp #[iv 0,sv noS,iv 0,iv 0,nS] 54 fun b3=>?_))))))))))
 refine Ad ?_
 obtain ⟨J14,LD,h⟩:=De h
 refine Df (τ:=Int×ByteArray×Int×Int×(List Tree)×Int×Ab×Aq×Nat) (fun t=>[(0,pt b0),(2,pt b1),(3,iv r2.2.2.2),(4,pt b3)]) (fun t=>bk b3 #[iv t.1,sv t.2.1,iv t.2.2.1,iv t.2.2.2.1,Aa t.2.2.2.2.2.2.2.1 t.2.2.2.2.1 t.2.2.2.2.2.2.2.2] 54 :: bk b0 #[Aa Aw Ac Ax,iv t.2.2.2.2.2.1] 93 :: bk b1 #[iv 0,sv noS,iv 0,iv 0,nS] 54 :: t.2.2.2.2.2.2.1 :: X) (fun t=>J14 t.1 t.2.1 t.2.2.1 t.2.2.2.1 t.2.2.2.2.1 t.2.2.2.2.2.1=some r∧AK (AX 54) 54 t.2.2.2.2.2.2.1 (Aa t.2.2.2.2.2.2.2.1 t.2.2.2.2.1 t.2.2.2.2.2.2.2.2) t.2.2.2.2.1) ?_ ?_
 ·rintro ⟨x4,x5,x6,x7,l8,GX,h9,F5,k11⟩ ⟨h,Ht⟩
  subst LD
  refine C1 (Fx (τ:=Int×ByteArray×Int×Int×(List Tree)×Int×Ab×Aq×Nat) (fun t=>[(0,pt b0),(2,pt b1),(3,iv r2.2.2.2),(4,pt b3)]) (fun t=>bk b3 #[iv t.1,sv t.2.1,iv t.2.2.1,iv t.2.2.2.1,Aa t.2.2.2.2.2.2.2.1 t.2.2.2.2.1 t.2.2.2.2.2.2.2.2] 54 :: bk b0 #[Aa Aw Ac Ax,iv t.2.2.2.2.2.1] 93 :: bk b1 #[iv 0,sv noS,iv 0,iv 0,nS] 54 :: t.2.2.2.2.2.2.1 :: X) (fun m t=>DX.l0 m Rc Ac r2 t.1 t.2.1 t.2.2.1 t.2.2.2.1 t.2.2.2.2.1 t.2.2.2.2.2.1=some r∧AK (AX 54) 54 t.2.2.2.2.2.2.1 (Aa t.2.2.2.2.2.2.2.1 t.2.2.2.2.1 t.2.2.2.2.2.2.2.2) t.2.2.2.2.1) k (x4,x5,x6,x7,l8,GX,h9,F5,k11) ⟨h,Ht⟩ sb rfl ?_)
  clear h
  rintro Ji ⟨x15,x16,x17,x18,l19,x24,h20,A21,k22⟩ ⟨h,II⟩
  cases Ji with
  | zero=>simp [DX.l0] at h
  | succ Ji =>
   simp only [DX.l0] at h
   refine C1 (C1 (ksr (kx 1 (K.An (bnd h fun Dj Ng h=>(CG (CH.ok Ng AJ) rfl ⟨(t3 AY),trivial⟩ (kx 1 (Ad ?_))))))))
   refine AU h (fun h=>?_) fun h=>?_
   ·refine B8 (kpr [(0,0),(1,3),(2,0),(3,1)] [1] (Ar 1 (GR 0 0 5 rfl (Ar 1 (kpt (ocp h (fun _ Tg=>(hR.Dc Tg AJ)) rfl ⟨(t3 AY),trivial⟩ (fun _ e=>Bf (B_ (B_ (Bf (B_ (kpn 3 e rfl)))))) fun r28 h=>?_))))))
    rintro _ _ ⟨h29,JB,k31,o32,rfl,rfl⟩
    refine Bi (Dm [2] rfl (Ca (Dh #[iv x15,sv x16,iv x17,iv x18,Aa A21 l19 k22,iv r28.1,sv r28.2.1,iv r28.2.2.1,iv r28.2.2.2.1,Aa JB r28.2.2.2.2.1 k31] 54 2 fun Jb=>(kx 1 (K.mv3 (AQ 0 5 #[iv 7,sv noS,iv 0,iv r2.2.2.2,.slice (some ⟨Jb,0,none⟩) 2 2] (FG (kx 1 (K.mv3 (Cb h (fun _ Pj=>(Di.ok Pj AJ)) rfl ⟨(t5 AY),trivial⟩ (fun _ e=>B_ (B_ (Bf (B_ (kpn 5 e rfl))))) fun Iw h=>?_))))))))))
    rintro _ _ ⟨rfl,rfl⟩
    refine Fy (knl (B7 (B7 (AM (K.mv3 (K.mv5 (K5 fun p37=>(K.mv3 (DP (T:=54) (n:=2) (xs:=[(Tree.mk x15 x16 x17 x18 l19),(Tree.mk r28.1 r28.2.1 r28.2.2.1 r28.2.2.2.1 r28.2.2.2.2.1)]) (Cn.cons (En (k:=x15) (t:=x16) (n:=x17) (a:=x18) 54 II) p37 (Cn.one (En (k:=r28.1) (t:=r28.2.1) (n:=r28.2.2.1) (a:=r28.2.2.2.1) 54 o32))) rfl rfl (By rfl) fun h38 o39=>(K.mv3 ?_))))))))))
    exact K.Al (K.mv3 (E3 Ji (7,(⟨#[]⟩:ByteArray),0,r2.2.2.2,[(Tree.mk x15 x16 x17 x18 l19),(Tree.mk r28.1 r28.2.1 r28.2.2.1 r28.2.2.2.1 r28.2.2.2.2.1)],Iw,h38,(some ⟨Jb,0,none⟩),2) (Nat.lt_succ_self _) ⟨h,o39⟩ sb rfl))
   ·refine ksr (kx 1 (bnd h fun r40 Ti h=>(CG (CH.ok Ti AJ) rfl ⟨(t3 AY),trivial⟩ (kx 1 (Ad ?_)))))
    refine AU h (fun h=>?_) fun h=>?_
    ·refine ksr (kx 1 (Cb h (fun _ Z5=>(Hv.ok Z5 AJ)) rfl ⟨(t3 AY),trivial⟩ (fun _ e=>Bf (B_ (B_ (Bf (B_ (kpn 3 e rfl)))))) fun ED h=>?_))
     rintro _ _ ⟨h43,A44,k45,Ua,rfl,rfl⟩
     refine Bi (knp #[iv 0,sv noS,iv 0,iv 0,nS] 54 fun b48=>(AQ 0 5 #[iv ED.1,sv ED.2.1,iv ED.2.2.1,iv ED.2.2.2.1,Aa A44 ED.2.2.2.2.1 k45] (Ba (kx 1 (AQ 0 1 #[iv 5,sv ED.2.1,iv ED.2.2.1,iv ED.2.2.2.1,Aa A44 ED.2.2.2.2.1 k45] (FG (kx 1 (CV 3 0 5 rfl (CV 0 0 5 rfl (K.drop ?_))))))))))
     refine Dh #[iv x15,sv x16,iv x17,iv x18,Aa A21 l19 k22,iv 5,sv ED.2.1,iv ED.2.2.1,iv ED.2.2.2.1,Aa A44 ED.2.2.2.2.1 k45] 54 2 fun b49=>(kx 1 (K.mv3 (AQ 0 5 #[iv 7,sv noS,iv 0,iv r2.2.2.2,.slice (some ⟨b49,0,none⟩) 2 2] (knl (B7 (B7 (AM (K.Al (K.mv5 (K5 fun p50=>?_))))))))))
     exact K.Al (DP (T:=54) (n:=2) (xs:=[(Tree.mk x15 x16 x17 x18 l19),(Tree.mk 5 ED.2.1 ED.2.2.1 ED.2.2.2.1 ED.2.2.2.2.1)]) (Cn.cons (En (k:=x15) (t:=x16) (n:=x17) (a:=x18) 54 II) p50 (Cn.one (En (k:=5) (t:=ED.2.1) (n:=ED.2.2.1) (a:=ED.2.2.2.1) 54 Ua))) rfl rfl (By rfl) fun h51 R5=>(K.mv3 (K.mv3 (K.mv3 (E3 Ji (7,(⟨#[]⟩:ByteArray),0,r2.2.2.2,[(Tree.mk x15 x16 x17 x18 l19),(Tree.mk 5 ED.2.1 ED.2.2.1 ED.2.2.2.1 ED.2.2.2.2.1)],ED.2.2.2.2.2,h51,(some ⟨b49,0,none⟩),2) (Nat.lt_succ_self _) ⟨h,R5⟩ sb rfl)))))
    ·refine ksr (kx 1 (bnd h fun r53 ZC h=>(CG (CH.ok ZC AJ) rfl ⟨(t3 AY),trivial⟩ (kx 1 (Ad ?_)))))
     refine AU h (fun h=>?_) fun h=>?_
     ·refine ksr (kx 1 (CV 1 0 5 rfl (Dh #[iv x15,sv x16,iv x17,iv x18,Aa A21 l19 k22] 54 1 fun b55=>(kx 1 (K.Al (AQ 0 5 #[iv 8,sv noS,iv 0,iv r2.2.2.2,.slice (some ⟨b55,0,none⟩) 1 1] (Ad ?_)))))))
      obtain ⟨Vl,Bav,h⟩:=De h
      refine Df (τ:=(List Tree)×Int×Ab×Aq×Nat) (fun t=>[(0,pt b0),(2,pt b1),(3,iv r2.2.2.2),(4,pt b3)]) (fun t=>bk b3 #[iv 8,sv noS,iv 0,iv r2.2.2.2,Aa t.2.2.2.1 t.1 t.2.2.2.2] 54 :: bk b0 #[Aa Aw Ac Ax,iv t.2.1] 93 :: bk b1 #[iv 0,sv noS,iv 0,iv 0,nS] 54 :: t.2.2.1 :: X) (fun t=>Vl t.1 t.2.1=some r∧AK (AX 54) 54 t.2.2.1 (Aa t.2.2.2.1 t.1 t.2.2.2.2) t.1) ?_ ?_
      ·rintro ⟨l56,x61,h57,Hg,k59⟩ ⟨h,o60⟩
       subst Bav
       refine Bu (kx 1 (K.An (Cb h (fun _ ZE=>(Di.ok ZE AJ)) rfl ⟨(t3 AY),trivial⟩ (fun _ e=>B_ (B_ (Bf (B_ (kpn 3 e rfl))))) fun FI h=>?_)))
       rintro _ _ ⟨rfl,rfl⟩
       exact Fy (knl (B7 (B7 (AM (K.mv3 (K.mv3 (K.Al (K.mv3 (E3 Ji (8,(⟨#[]⟩:ByteArray),0,r2.2.2.2,l56,FI,h57,Hg,k59) (Nat.lt_succ_self _) ⟨h,o60⟩ sb rfl)))))))))
      ·skip
       refine ksr (kx 1 (K.Al (bnd h fun r65 Bfh h=>(CG (EM.ok Bfh AJ) rfl ⟨(t4 AY),trivial⟩ (kx 1 (Ad ?_))))))
       refine AU h (fun h=>?_) fun h=>?_
       ·refine kpr [(0,0),(1,3),(2,0),(3,1)] [1] (Ar 1 (AP 0 4 rfl (Ar 1 (kpt (ocp h (fun _ Ni=>(hR.DN Ni AJ)) rfl ⟨(t4 AY),trivial⟩ (fun _ e=>Bf (B_ (B_ (Bf (B_ (kpn 4 e rfl)))))) fun Fc h=>?_)))))
        rintro _ _ ⟨h68,A69,k70,N4,rfl,rfl⟩
        refine Bi (Dm [2] rfl (Ca (K.mv5 (K.Bx (DP (T:=54) (n:=1) (xs:=[(Tree.mk x15 x16 x17 x18 l19)]) (Cn.one (En (k:=x15) (t:=x16) (n:=x17) (a:=x18) 54 II)) rfl rfl (By rfl) fun h73 PG=>(K.An (K.An (bnd h fun Nz VS h=>(FQ rfl GO rfl VS PG N4 fun h76 Vb Wc o79=>(kx 1 ?_))))))))))
        exact K.Al (AQ 4 1 #[iv 8,sv noS,iv 0,iv r2.2.2.2,Aa Vb Nz Wc] (Ad (K.An (K.mv3 (K.mv3 (K.mv3 (B4 (Nz,Fc.2,h76,Vb,Wc) ⟨h,o79⟩ sb rfl)))))))
       ·exact BV (AM (K.Bx (K.mv3 (DP (T:=54) (n:=1) (xs:=[(Tree.mk x15 x16 x17 x18 l19)]) (Cn.one (En (k:=x15) (t:=x16) (n:=x17) (a:=x18) 54 II)) rfl rfl (By rfl) fun h80 Uc=>(K.mv3 (K.Al (K.mv3 (B4 ([(Tree.mk x15 x16 x17 x18 l19)],r53.2,h80,(some ⟨b55,0,none⟩),1) ⟨h,Uc⟩ sb rfl))))))))
     ·refine ksr (CV 1 0 5 rfl (K.An (K.drop (K.An (AQ 0 5 #[iv x15,sv x16,iv x17,iv x18,Aa A21 l19 k22] (Ad (C9 (Fu (Fu (DH ?_))))))))))
      refine Fu ?_
      obtain rfl:=As h
      exact Io 0 5 rfl [h20,bk b0 #[Aa Aw Ac Ax,iv r53.2] 93] (K.drop (K.An (BH (PR.okI ⟨h20,A21,k22,II,rfl,rfl⟩))))
 ·skip
  refine ksr (kx 1 (K.An (bnd h fun IS Nj h=>(CG (CH.ok Nj AJ) rfl ⟨(t2 AY),trivial⟩ (Ad ?_)))))
  refine AU h (fun h=>?_) fun h=>?_
  ·refine ksr (kx 2 (Cb h (fun _ ZL=>(hR.Dc ZL AJ)) rfl ⟨(t2 AY),trivial⟩ (fun _ e=>Bf (Bf (kpn 2 e rfl))) fun F3 h=>?_))
   rintro _ _ ⟨h85,A86,QY,o88,rfl,rfl⟩
   refine Bi (Dh #[iv F3.1,sv F3.2.1,iv F3.2.2.1,iv F3.2.2.2.1,Aa A86 F3.2.2.2.2.1 QY] 54 1 fun b90=>(kx 1 (K.mv3 (AQ 0 5 #[iv 9,sv noS,iv 0,iv r2.2.2.2,.slice (some ⟨b90,0,none⟩) 1 1] (FG (kx 1 (K.mv3 (Cb h (fun _ Bfo=>(Di.ok Bfo AJ)) rfl ⟨(t4 AY),trivial⟩ (fun _ e=>Bf (kpn 4 e rfl)) fun r91 h=>?_))))))))
   rintro _ _ ⟨rfl,rfl⟩
   exact Fy (Ad (K.mv3 (K.mv3 (DP (T:=54) (n:=1) (xs:=[(Tree.mk F3.1 F3.2.1 F3.2.2.1 F3.2.2.2.1 F3.2.2.2.2.1)]) (Cn.one (En (k:=F3.1) (t:=F3.2.1) (n:=F3.2.2.1) (a:=F3.2.2.2.1) 54 o88)) rfl rfl (By rfl) fun h93 R8=>(K.mv3 (K.Al (K.mv3 (B4 (9,(⟨#[]⟩:ByteArray),0,r2.2.2.2,[(Tree.mk F3.1 F3.2.1 F3.2.2.1 F3.2.2.2.1 F3.2.2.2.2.1)],r91,h93,(some ⟨b90,0,none⟩),1) ⟨h,R8⟩ sb rfl))))))))
  ·refine Bu (kx 1 (Cb h (fun _ Nk=>(Hv.ok Nk AJ)) rfl ⟨(t2 AY),trivial⟩ (fun _ e=>Bf (kpn 2 e rfl)) fun r95 h=>?_))
   rintro _ _ ⟨h96,KL,KW,Lc,rfl,rfl⟩
   exact Bi (K.Al (AQ 0 5 #[iv r95.1,sv r95.2.1,iv r95.2.2.1,iv r95.2.2.2.1,Aa KL r95.2.2.2.2.1 KW] (Ad (K.An (K.mv3 (K.mv3 (K.mv3 (B4 (r95.1,r95.2.1,r95.2.2.1,r95.2.2.2.1,r95.2.2.2.2.1,r95.2.2.2.2.2,h96,KL,KW) ⟨h,Lc⟩ sb rfl))))))))
def Gf.l0:Nat→(Rc:PE)→(Ac:List (Int×ByteArray×Int×Int))→(J7:(List Tree)→Int→Option (PR (List Tree×Int)))→(l10:List Tree)→(x15:Int)→Option (PR (List Tree×Int))
 | 0,_,_,_,_,_=>none
 | m16+1,Rc,Ac,J7,l10,x15=>(EM.f m16 Ac x15 (⟨#[125]⟩:ByteArray)).bind fun EC=>cond (!EC) (PR.bind (Rc.IL Ac x15) fun r19=>(apd 64 l10 [(Tree.mk r19.1 r19.2.1 r19.2.2.1 r19.2.2.2.1 r19.2.2.2.2.1)]).bind fun l28=>BG (fun (x33:Bool) (x34:Int)=>cond x33 (J7 l28 x34) (Gf.l0 m16 Rc Ac J7 l28 x34)) (fun J35=>(CH.f m16 Ac r19.2.2.2.2.2 (⟨#[44]⟩:ByteArray)).bind fun Ix=>cond (!Ix.1) ((CH.f m16 Ac Ix.2 (⟨#[59]⟩:ByteArray)).bind fun r39=>J35 (!r39.1) r39.2) (J35 false Ix.2))) (J7 l10 x15)
def Gf.g (Rc:PE) (k:Nat) (Ac:List (Int×ByteArray×Int×Int)) (Ag:Int):Option (PR (List Tree×Int)):=BG (fun (l1:List Tree) (x6:Int)=>PR.bind (Di.f k Ac x6 (⟨#[125]⟩:ByteArray)) fun r8=>some (PR.ok (l1,r8))) (fun J7=>Gf.l0 k Rc Ac J7 ([]) Ag)
theorem Gf.C2 {Rc:PE} (hR:Rc.Good) {k:Nat}:Gf.C (Gf.g Rc k):=by
 intro Ac Ag b0 Ax B5 Aw r h AJ
 refine C3 (args:=[pt b0]) Tryz.func125 rfl (By rfl) ?_
 intro A X hh_
 obtain ⟨AY,_⟩:=hh_
 unfold Gf.g at h
 refine K.eq (env':=[(0,pt b0)]) (l':=bk b0 #[Aa Aw Ac Ax,iv Ag] 93 :: X) rfl rfl (ksr (kx 1 (Ba (kx 1 (Ad ?_)))))
 obtain ⟨J7,hJ7,h⟩:=De h
 refine Df (τ:=(List Tree)×Int×Ab×Aq×Nat) (fun t=>[(0,pt b0),(3,Aa t.2.2.2.1 t.1 t.2.2.2.2)]) (fun t=>bk b0 #[Aa Aw Ac Ax,iv t.2.1] 93 :: t.2.2.1 :: X) (fun t=>J7 t.1 t.2.1=some r∧AK (AX 54) 54 t.2.2.1 (Aa t.2.2.2.1 t.1 t.2.2.2.2) t.1) ?_ ?_
 ·rintro ⟨l1,x6,h2,A3,k4⟩ ⟨h,o5⟩
  subst hJ7
  refine ksr (kx 1 (Cb h (fun _ hr8=>(Di.ok hr8 AJ)) rfl ⟨(.tail _ AY),trivial⟩ (fun _ e=>Bf (kpn 1 e rfl)) fun r8 h=>?_))
  rintro _ _ ⟨rfl,rfl⟩
  refine Fy (Ba (kx 2 (Ad (C9 ?_))))
  obtain rfl:=As h
  exact kdv (Aa A3 l1 k4) [h2,bk b0 #[Aa Aw Ac Ax,iv r8] 93] (K.An (BH (PR.okI ⟨h2,A3,k4,o5,rfl,rfl⟩)))
 ·skip
  refine C1 (Dl (K.An (Fx (τ:=(List Tree)×Int×Ab×Aq×Nat) (fun t=>[(0,pt b0),(3,Aa t.2.2.2.1 t.1 t.2.2.2.2)]) (fun t=>bk b0 #[Aa Aw Ac Ax,iv t.2.1] 93 :: t.2.2.1 :: X) (fun m t=>Gf.l0 m Rc Ac J7 t.1 t.2.1=some r∧AK (AX 54) 54 t.2.2.1 (Aa t.2.2.2.1 t.1 t.2.2.2.2) t.1) k ([],Ag,none_,none,0) ⟨h,(AK.nil (AX 54) 54 none_)⟩ sb rfl ?_)))
  clear h
  rintro m16 ⟨l10,x15,h11,A12,k13⟩ ⟨h,JP⟩
  cases m16 with
  | zero=>simp [Gf.l0] at h
  | succ m16 =>
   simp only [Gf.l0] at h
   refine B8 (ksr (kx 1 (bnd h fun EC Kz h=>(CG (EM.ok Kz AJ) rfl ⟨(.tail _ AY),trivial⟩ (kx 1 (Ad ?_))))))
   refine AU h (fun h=>?_) fun h=>?_
   ·refine BV (AM (C1 (ksr (kx 2 (Cb h (fun _ hr19=>(hR.IL hr19 AJ)) rfl ⟨(.tail _ AY),trivial⟩ (fun _ e=>Bf (B_ (Bf (B_ (Bf (kpn 1 e rfl)))))) fun r19 h=>?_)))))
    rintro _ _ ⟨h20,A21,k22,II,rfl,rfl⟩
    refine Bi (Dh #[iv r19.1,sv r19.2.1,iv r19.2.2.1,iv r19.2.2.2.1,Aa A21 r19.2.2.2.2.1 k22] 54 1 fun b25=>(K.An (K.An (DP (T:=54) (n:=1) (xs:=[(Tree.mk r19.1 r19.2.1 r19.2.2.1 r19.2.2.2.1 r19.2.2.2.2.1)]) (Cn.one (En (k:=r19.1) (t:=r19.2.1) (n:=r19.2.2.1) (a:=r19.2.2.2.1) 54 II)) rfl rfl (By rfl) fun h26 K9=>(K.Al (bnd h fun l28 Zf h=>(FQ rfl GO rfl Zf JP K9 fun h29 JB k31 o32=>(kx 1 (Ad ?_)))))))))
    obtain ⟨J35,Baq,h⟩:=De h
    refine Df (τ:=Bool×Int) (fun t=>[(0,pt b0),(3,Aa JB l28 k31),(19,bv t.1)]) (fun t=>h29 :: bk b0 #[Aa Aw Ac Ax,iv t.2] 93 :: X) (fun t=>J35 t.1 t.2=some r) ?_ ?_
    ·rintro ⟨x33,x34⟩ h
     subst Baq
     refine AU h (fun h=>?_) fun h=>?_
     ·exact Fv (Wi rfl (Dg (Fw (AM (K.An (B4 (l28,x34,h29,JB,k31) ⟨h,o32⟩ sb rfl))))))
     ·exact BV (B7 (AM (K.An (E3 m16 (l28,x34,h29,JB,k31) (Nat.lt_succ_self _) ⟨h,o32⟩ sb rfl))))
    ·skip
     refine Bu (kx 1 (K.An (bnd h fun Ix Pk h=>(CG (CH.ok Pk AJ) rfl ⟨(.tail _ AY),trivial⟩ (kx 2 ?_)))))
     refine Ee 15 h (fun h=>?_) fun h=>?_
     ·exact kx 1 (bnd h fun r39 hr39 h=>(CG (CH.ok hr39 AJ) rfl ⟨(.tail _ AY),trivial⟩ (kx 2 (Ad (K.An (B4 (!r39.1,r39.2) h sb rfl))))))
     ·exact kx 4 (Ad (K.An (B4 (false,Ix.2) h sb rfl)))
   ·exact Fv (Dg (Dg (Fw (AM (B4 (l10,x15,h11,A12,k13) ⟨h,JP⟩ sb rfl)))))
def IL.g (Rc:PE) (k:Nat) (Ac:List (Int×ByteArray×Int×Int)) (Ag:Int):Option (PR (Int×ByteArray×Int×Int×List Tree×Int)):=(Et.f k Ac Ag).bind fun r2=>BG (fun (x5:Int) (l6:List Tree) (x11:Int)=>PR.bind (Rc.Dc Ac x11 0) fun r13=>(apd 64 l6 [(Tree.mk r13.1 r13.2.1 r13.2.2.1 r13.2.2.2.1 r13.2.2.2.2.1)]).bind fun Ri=>some (PR.ok (x5,(⟨#[]⟩:ByteArray),0,r2.2.2.2,Ri,r13.2.2.2.2.2))) (fun J12=>(CH.f k Ac Ag (⟨#[91]⟩:ByteArray)).bind fun r27=>cond r27.1 (PR.bind (Rc.Dc Ac r27.2 0) fun r29=>PR.bind (Di.f k Ac r29.2.2.2.2.2 (⟨#[93]⟩:ByteArray)) fun r36=>PR.bind (Di.f k Ac r36 (⟨#[61]⟩:ByteArray)) fun r38=>J12 14 ([(Tree.mk r29.1 r29.2.1 r29.2.2.1 r29.2.2.2.1 r29.2.2.2.2.1)]) r38) ((cond (r2.1 == 1) ((Bh Ac (IntKind.i64.wrap (r27.2+1))).bind fun x57=>cond (x57.1 == 5) ((Bh Ac (IntKind.i64.wrap (r27.2+1))).bind fun x65=>some (x65.2.1.toList == (⟨#[61]⟩:ByteArray).toList)) (some false)) (some false):Option Bool).bind fun q42=>cond q42 (PR.bind (Hv.f k Ac r27.2) fun r44=>PR.bind (Di.f k Ac r44.2.2.2.2.2 (⟨#[61]⟩:ByteArray)) fun r52=>J12 14 ([(Tree.mk 5 r44.2.1 r44.2.2.1 r44.2.2.2.1 r44.2.2.2.2.1)]) r52) (J12 13 ([]) r27.2)))
theorem IL.C2 {Rc:PE} (hR:Rc.Good) {k:Nat}:IL.C (IL.g Rc k):=by
 intro Ac Ag b0 Ax B5 Aw r h AJ
 refine C3 (args:=[pt b0]) Tryz.func134 rfl (By rfl) ?_
 intro A X hh_
 obtain ⟨AY,_⟩:=hh_
 unfold IL.g at h
 refine K.eq (env':=[(0,pt b0)]) (l':=bk b0 #[Aa Aw Ac Ax,iv Ag] 93 :: X) rfl rfl (ksr (knp #[iv 0,sv noS,iv 0,iv 0,nS] 54 fun b1=>(Ba (kx 1 (K.An (bnd h fun r2 hr2 h=>(CG (Et.ok hr2 AJ) rfl ⟨(.tail _ AY),trivial⟩ (knp #[iv 0,sv noS,iv 0,iv 0] 96 fun b3=>(AQ 0 4 #[iv r2.1,sv r2.2.1,iv r2.2.2.1,iv r2.2.2.2] (Ba ?_))))))))))
 refine kx 1 (kld 0 3 rfl (kx 1 (knp #[iv 0,sv noS,iv 0,iv 0,nS] 54 fun b4=>(AQ 0 5 #[iv 14,sv noS,iv 0,iv r2.2.2.2,nS] (Ad ?_)))))
 obtain ⟨J12,YS,h⟩:=De h
 refine Df (τ:=Int×(List Tree)×Int×Ab×Aq×Nat) (fun t=>[(0,pt b0),(2,pt b1),(4,pt b4)]) (fun t=>bk b4 #[iv t.1,sv noS,iv 0,iv r2.2.2.2,Aa t.2.2.2.2.1 t.2.1 t.2.2.2.2.2] 54 :: bk b0 #[Aa Aw Ac Ax,iv t.2.2.1] 93 :: bk b1 #[iv 0,sv noS,iv 0,iv 0,nS] 54 :: t.2.2.2.1 :: X) (fun t=>J12 t.1 t.2.1 t.2.2.1=some r∧AK (AX 54) 54 t.2.2.2.1 (Aa t.2.2.2.2.1 t.2.1 t.2.2.2.2.2) t.2.1) ?_ ?_
 ·rintro ⟨x5,l6,x11,h7,A8,k9⟩ ⟨h,o10⟩
  subst YS
  refine B8 (kpr [(0,0),(1,3),(2,0),(3,1),(4,1)] [0] (Ar 1 (AP 0 4 rfl (Ar 1 (kpt (K.An (ocp h (fun _ Pe=>(hR.Dc Pe AJ)) rfl ⟨(t3 AY),trivial⟩ (fun _ e=>Bf (kpn 3 e rfl)) fun r13 h=>?_)))))))
  rintro _ _ ⟨h14,ML,k16,o17,rfl,rfl⟩
  refine Bi (Dm [2] rfl (kpt (HY #[iv r13.1,sv r13.2.1,iv r13.2.2.1,iv r13.2.2.2.1,Aa ML r13.2.2.2.2.1 k16] 54 1 fun b19=>(Dm [3] rfl (Ca (K.An (K.An (DP (T:=54) (n:=1) (xs:=[(Tree.mk r13.1 r13.2.1 r13.2.2.1 r13.2.2.2.1 r13.2.2.2.2.1)]) (Cn.one (En (k:=r13.1) (t:=r13.2.1) (n:=r13.2.2.1) (a:=r13.2.2.2.1) 54 o17)) rfl rfl (By rfl) fun h20 o21=>(K.Bx (bnd h fun Ri Bb5 h=>?_))))))))))
  refine FQ rfl GO rfl Bb5 o10 o21 fun h23 FF k25 JS=>(kx 1 (K.Al (AQ 4 1 #[iv x5,sv noS,iv 0,iv r2.2.2.2,Aa FF Ri k25] (Ba (CV 0 0 5 rfl (K.drop (K.Al (AQ 0 5 #[iv x5,sv noS,iv 0,iv r2.2.2.2,Aa FF Ri k25] (Ad (C9 ?_))))))))))
  obtain rfl:=As h
  exact Io 0 5 rfl [h23,bk b0 #[Aa Aw Ac Ax,iv r13.2.2.2.2.2] 93] (K.drop (BH (PR.okI ⟨h23,FF,k25,JS,rfl,rfl⟩)))
 ·skip
  refine C1 (ksr (kx 1 (K.Al (bnd h fun r27 K3 h=>(CG (CH.ok K3 AJ) rfl ⟨(t3 AY),trivial⟩ (kx 1 (Ad ?_)))))))
  refine AU h (fun h=>?_) fun h=>?_
  ·refine ksr (kx 1 (Cb h (fun _ Th=>(hR.Dc Th AJ)) rfl ⟨(t3 AY),trivial⟩ (fun _ e=>Bf (B_ (Bf (kpn 3 e rfl)))) fun r29 h=>?_))
   rintro _ _ ⟨h30,GL,k32,LU,rfl,rfl⟩
   refine Bi (K.mv3 (K.drop (Dh #[iv r29.1,sv r29.2.1,iv r29.2.2.1,iv r29.2.2.2.1,Aa GL r29.2.2.2.2.1 k32] 54 1 fun OH=>(kx 1 (K.mv3 (AQ 4 1 #[iv 14,sv noS,iv 0,iv r2.2.2.2,.slice (some ⟨OH,0,none⟩) 1 1] (Ba (kx 1 (K.mv3 (Cb h (fun _ LH=>(Di.ok LH AJ)) rfl ⟨(t4 AY),trivial⟩ (fun _ e=>Bf (B_ (Bf (kpn 4 e rfl)))) fun r36 h=>?_))))))))))
   rintro _ _ ⟨rfl,rfl⟩
   refine Fy (FG (kx 1 (Cb h (fun _ Pl=>(Di.ok Pl AJ)) rfl ⟨(t4 AY),trivial⟩ (fun _ e=>B_ (Bf (kpn 4 e rfl))) fun r38 h=>?_)))
   rintro _ _ ⟨rfl,rfl⟩
   exact Fy (knl (B7 (AM (K.mv3 (K.mv3 (DP (T:=54) (n:=1) (xs:=[(Tree.mk r29.1 r29.2.1 r29.2.2.1 r29.2.2.2.1 r29.2.2.2.2.1)]) (Cn.one (En (k:=r29.1) (t:=r29.2.1) (n:=r29.2.2.1) (a:=r29.2.2.2.1) 54 LU)) rfl rfl (By rfl) fun h40 o41=>(K.mv3 (K.Al (K.mv3 (B4 (14,[(Tree.mk r29.1 r29.2.1 r29.2.2.1 r29.2.2.2.1 r29.2.2.2.2.1)],r38,h40,(some ⟨OH,0,none⟩),1) ⟨h,o41⟩ sb rfl))))))))))
  ·refine bnd h fun q42 Zp h=>?_
   refine G_ [(0,pt b0),(2,pt b1),(4,pt b4),(23,bv q42)] (bk b0 #[Aa Aw Ac Ax,iv r27.2] 93 :: bk b4 #[iv 14,sv noS,iv 0,iv r2.2.2.2,nS] 54 :: bk b1 #[iv 0,sv noS,iv 0,iv 0,nS] 54 :: X) ?_ ?_
   ·clear Zp
    refine AU h (fun h=>?_) fun h=>?_
    ·refine ksr (kx 1 (Cb h (fun _ Pn=>(Hv.ok Pn AJ)) rfl ⟨(t2 AY),trivial⟩ (fun _ e=>Bf (B_ (Bf (kpn 2 e rfl)))) fun r44 h=>?_))
     rintro _ _ ⟨h45,O7,k47,Om,rfl,rfl⟩
     refine Bi (knp #[iv 0,sv noS,iv 0,iv 0,nS] 54 fun b50=>(AQ 0 5 #[iv r44.1,sv r44.2.1,iv r44.2.2.1,iv r44.2.2.2.1,Aa O7 r44.2.2.2.2.1 k47] (Ba (kx 1 (AQ 0 1 #[iv 5,sv r44.2.1,iv r44.2.2.1,iv r44.2.2.2.1,Aa O7 r44.2.2.2.2.1 k47] (Ba (CV 0 0 5 rfl (K.drop (Dh #[iv 5,sv r44.2.1,iv r44.2.2.1,iv r44.2.2.2.1,Aa O7 r44.2.2.2.2.1 k47] 54 1 fun Vs=>(kx 1 ?_))))))))))
     refine K.mv3 (AQ 4 1 #[iv 14,sv noS,iv 0,iv r2.2.2.2,.slice (some ⟨Vs,0,none⟩) 1 1] (FG (kx 1 (K.mv3 (Cb h (fun _ ZB=>(Di.ok ZB AJ)) rfl ⟨(t4 AY),trivial⟩ (fun _ e=>B_ (Bf (kpn 4 e rfl))) fun r52 h=>?_)))))
     rintro _ _ ⟨rfl,rfl⟩
     exact Fy (knl (B7 (AM (K.mv3 (K.mv3 (DP (T:=54) (n:=1) (xs:=[(Tree.mk 5 r44.2.1 r44.2.2.1 r44.2.2.2.1 r44.2.2.2.2.1)]) (Cn.one (En (k:=5) (t:=r44.2.1) (n:=r44.2.2.1) (a:=r44.2.2.2.1) 54 Om)) rfl rfl (By rfl) fun h54 Hu=>(K.mv3 (K.Al (K.mv3 (B4 (14,[(Tree.mk 5 r44.2.1 r44.2.2.1 r44.2.2.2.1 r44.2.2.2.2.1)],r52,h54,(some ⟨Vs,0,none⟩),1) ⟨h,Hu⟩ sb rfl))))))))))
    ·refine Bu (kx 1 (K.An (AQ 0 1 #[iv 13,sv noS,iv 0,iv r2.2.2.2,nS] (knl (B7 (AM (Dl (K.mv3 (K.mv3 (K.mv3 ?_))))))))))
     exact B4 (13,[],r27.2,none_,none,0) ⟨h,(AK.nil (AX 54) 54 none_)⟩ sb rfl
   ·have h:=Zp
    clear Zp
    refine Js [(0,0),(1,3),(2,0),(3,0),(4,0),(5,0),(6,0),(7,3),(8,0),(9,0),(10,0),(11,3),(12,0),(13,0),(14,0),(15,3),(16,0),(17,0),(18,0),(19,0),(20,0),(21,0),(22,3),(23,0),(24,0),(25,0),(26,3),(27,0)] [bk b0 #[Aa Aw Ac Ax,iv r27.2] 93,bk b3 #[iv r2.1,sv r2.2.1,iv r2.2.2.1,iv r2.2.2.2] 96,B5] (fun w h_=>⟨h_.sat.on _ (.head _),h_.sat.on _ (.tail _ (.tail _ (.head _))),h_.sat.on _ (t4 AY),trivial⟩) (Ar 1 (AP 1 0 rfl (Ar 2 ?_)))
    refine Ee 27 h (fun h=>?_) fun h=>?_
    ·refine Ar 3 (AP 0 0 rfl (Ar 3 (AP 0 1 rfl (Ar 1 (bnd h fun x57 Bhp h=>(TH (T:=96) (kd:=.i64) V2 rfl Bhp AJ fun p58 e59 y60=>?_))))))
     have e59:Elem _ p58 [iv x57.1,sv x57.2.1,iv x57.2.2.1,iv x57.2.2.2]:=e59
     refine Nu (off:=0) rfl e59 y60 fun p61 e62 y63=>?_
     have e62:Elem _ p61 [iv x57.1,sv x57.2.1,iv x57.2.2.1,iv x57.2.2.2]:=e62
     refine Mw rfl (by kernel_rfl) (by kernel_rfl) (by kernel_rfl) (by kernel_rfl) e62 (fun w h_=>h_.mem _ (.tail _ (.tail _ (.head _)))) (Ar 3 ?_)
     refine Ee 42 h (fun h=>?_) fun h=>?_
     ·refine Ar 3 (AP 0 0 rfl (Ar 3 (AP 0 1 rfl (Ar 1 (Ca (bnd h fun x65 Bht h=>(GQ (T:=96) (kd:=.i64) V2 rfl Bht AJ fun p66 e67 y68=>?_)))))))
      have e67:Elem _ p66 [iv x65.1,sv x65.2.1,iv x65.2.2.1,iv x65.2.2.2]:=e67
      refine K.Al (K.drop (Ha (off:=1) rfl e67 y68 fun p69 e70 y71=>?_))
      have e70:Elem _ p69 [sv x65.2.1,iv x65.2.2.1,iv x65.2.2.2]:=e70
      exact Ip rfl (by kernel_rfl) (by kernel_rfl) (by kernel_rfl) (by kernel_rfl) e70 (t3 AY) (kx 3 (Ad (Dd ⟨gr,gr,gr,gb (As h),trivial⟩)))
     ·exact Ar 3 (DQ (by kernel_rfl) (by kernel_rfl) (Ar 3 (DQ (by kernel_rfl) (by kernel_rfl) (Ar 1 (Ca (kx 6 (Ad (K.Al (K.drop (Dd ⟨gr,gr,gr,gb (As h),trivial⟩))))))))))
    ·refine Ar 3 (DQ (by kernel_rfl) (by kernel_rfl) (Ar 3 (DQ (by kernel_rfl) (by kernel_rfl) (Ar 3 (DQ (by kernel_rfl) (by kernel_rfl) (Ar 6 (DQ (by kernel_rfl) (by kernel_rfl) (Ar 3 (DQ (by kernel_rfl) (by kernel_rfl) (Ar 1 ?_))))))))))
     exact Ca (kx 6 (Ad (K.Al (K.drop (Dd ⟨gr,gr,gr,gb (As h),trivial⟩)))))
def DN.l0:Nat→(Rc:PE)→(Ac:List (Int×ByteArray×Int×Int))→(J14:(List Tree)→Int→Option (PR (List Tree×Int)))→(l15:List Tree)→(x20:Int)→Option (PR (List Tree×Int))
 | 0,_,_,_,_,_=>none
 | m21+1,Rc,Ac,J14,l15,x20=>(CH.f m21 Ac x20 (⟨#[44]⟩:ByteArray)).bind fun FB=>cond FB.1 (PR.bind (Rc.Dc Ac FB.2 0) fun Dj=>(apd 64 l15 [(Tree.mk Dj.1 Dj.2.1 Dj.2.2.1 Dj.2.2.2.1 Dj.2.2.2.2.1)]).bind fun Jh=>DN.l0 m21 Rc Ac J14 Jh Dj.2.2.2.2.2) (J14 l15 FB.2)
def DN.g (Rc:PE) (k:Nat) (Ac:List (Int×ByteArray×Int×Int)) (Ag:Int):Option (PR (List Tree×Int)):=PR.bind (Rc.Dc Ac Ag 0) fun r1=>BG (fun (l8:List Tree) (GX:Int)=>some (PR.ok (l8,GX))) (fun J14=>DN.l0 k Rc Ac J14 ([(Tree.mk r1.1 r1.2.1 r1.2.2.1 r1.2.2.2.1 r1.2.2.2.2.1)]) r1.2.2.2.2.2)
theorem DN.C2 {Rc:PE} (hR:Rc.Good) {k:Nat}:DN.C (DN.g Rc k):=by
 intro Ac Ag b0 Ax B5 Aw r h AJ
 refine C3 (args:=[pt b0]) Tryz.func43 rfl (By rfl) ?_
 intro A X hh_
 obtain ⟨AY,_⟩:=hh_
 unfold DN.g at h
 refine K.eq (env':=[(0,pt b0)]) (l':=bk b0 #[Aa Aw Ac Ax,iv Ag] 93 :: X) rfl rfl (ksr (kx 1 (Ba (kx 1 (Cb h (fun _ hr1=>(hR.Dc hr1 AJ)) rfl ⟨AY,trivial⟩ (fun _ e=>Bf (kpn 0 e rfl)) fun r1 h=>?_)))))
 rintro _ _ ⟨h2,A3,k4,o5,rfl,rfl⟩
 refine Bi (Dh #[iv r1.1,sv r1.2.1,iv r1.2.2.1,iv r1.2.2.2.1,Aa A3 r1.2.2.2.2.1 k4] 54 1 fun b7=>(kx 1 (Ad ?_)))
 obtain ⟨J14,LD,h⟩:=De h
 refine Df (τ:=(List Tree)×Int×Ab×Aq×Nat) (fun t=>[(3,Aa t.2.2.2.1 t.1 t.2.2.2.2)]) (fun t=>bk b0 #[Aa Aw Ac Ax,iv t.2.1] 93 :: t.2.2.1 :: X) (fun t=>J14 t.1 t.2.1=some r∧AK (AX 54) 54 t.2.2.1 (Aa t.2.2.2.1 t.1 t.2.2.2.2) t.1) ?_ ?_
 ·rintro ⟨l8,GX,h9,F5,k11⟩ ⟨h,Ht⟩
  subst LD
  refine ksr (kx 2 (Ad (C9 ?_)))
  obtain rfl:=As h
  exact kdv (Aa F5 l8 k11) [h9,bk b0 #[Aa Aw Ac Ax,iv GX] 93] (K.An (BH (PR.okI ⟨h9,F5,k11,Ht,rfl,rfl⟩)))
 ·skip
  refine C1 (K.An (K.An (DP (T:=54) (n:=1) (xs:=[(Tree.mk r1.1 r1.2.1 r1.2.2.1 r1.2.2.2.1 r1.2.2.2.2.1)]) (Cn.one (En (k:=r1.1) (t:=r1.2.1) (n:=r1.2.2.1) (a:=r1.2.2.2.1) 54 o5)) rfl rfl (By rfl) fun h22 II=>(K.An (Fx (τ:=(List Tree)×Int×Ab×Aq×Nat) (fun t=>[(0,pt b0),(3,Aa t.2.2.2.1 t.1 t.2.2.2.2)]) (fun t=>bk b0 #[Aa Aw Ac Ax,iv t.2.1] 93 :: t.2.2.1 :: X) (fun m t=>DN.l0 m Rc Ac J14 t.1 t.2.1=some r∧AK (AX 54) 54 t.2.2.1 (Aa t.2.2.2.1 t.1 t.2.2.2.2) t.1) k ([(Tree.mk r1.1 r1.2.1 r1.2.2.1 r1.2.2.2.1 r1.2.2.2.2.1)],r1.2.2.2.2.2,h22,(some ⟨b7,0,none⟩),1) ⟨h,II⟩ sb rfl ?_)))))
  clear h
  rintro m21 ⟨l15,x20,h16,Jl,k18⟩ ⟨h,o19⟩
  cases m21 with
  | zero=>simp [DN.l0] at h
  | succ m21 =>
   simp only [DN.l0] at h
   refine B8 (ksr (kx 1 (bnd h fun FB Pg h=>(CG (CH.ok Pg AJ) rfl ⟨(.tail _ AY),trivial⟩ (Ad ?_)))))
   refine AU h (fun h=>?_) fun h=>?_
   ·refine BV (AM (C1 (Bu (kx 2 (Cb h (fun _ Ng=>(hR.Dc Ng AJ)) rfl ⟨(.tail _ AY),trivial⟩ (fun _ e=>B_ (Bf (B_ (Bf (kpn 1 e rfl))))) fun Dj h=>?_)))))
    rintro _ _ ⟨h27,A28,k29,N2,rfl,rfl⟩
    refine Bi (Dh #[iv Dj.1,sv Dj.2.1,iv Dj.2.2.1,iv Dj.2.2.2.1,Aa A28 Dj.2.2.2.2.1 k29] 54 1 fun b32=>(K.An (K.An (DP (T:=54) (n:=1) (xs:=[(Tree.mk Dj.1 Dj.2.1 Dj.2.2.1 Dj.2.2.2.1 Dj.2.2.2.2.1)]) (Cn.one (En (k:=Dj.1) (t:=Dj.2.1) (n:=Dj.2.2.1) (a:=Dj.2.2.2.1) 54 N2)) rfl rfl (By rfl) fun h33 Is=>(K.Al (bnd h fun Jh Tb h=>(FQ rfl GO rfl Tb o19 Is fun h36 A37 k38 o39=>(kx 1 (knl (B7 ?_))))))))))
    exact AM (K.An (E3 m21 (Jh,Dj.2.2.2.2.2,h36,A37,k38) (Nat.lt_succ_self _) ⟨h,o39⟩ sb rfl))
   ·exact Fv (Dg (Dg (Fw (AM (B4 (l15,FB.2,h16,Jl,k18) ⟨h,o19⟩ sb rfl)))))
def PE.at:Nat→PE
 | 0=>⟨fun _ _ _=>none,fun _ _=>none,fun _ _=>none,fun _ _=>none,fun _ _=>none,fun _ _=>none⟩
 | k+1=>⟨Dc.g (PE.at k) k,IP.g (PE.at k) k,DX.g (PE.at k) k,Gf.g (PE.at k) k,IL.g (PE.at k) k,DN.g (PE.at k) k⟩
theorem PE.good:∀ k,(PE.at k).Good
 | 0=>⟨(by unfold Dc.C;intros;rename_i h _;cases (show (none:Option _)=some _ from h)),(by unfold IP.C;intros;rename_i h _;cases (show (none:Option _)=some _ from h)),(by unfold DX.C;intros;rename_i h _;cases (show (none:Option _)=some _ from h)),(by unfold Gf.C;intros;rename_i h _;cases (show (none:Option _)=some _ from h)),(by unfold IL.C;intros;rename_i h _;cases (show (none:Option _)=some _ from h)),(by unfold DN.C;intros;rename_i h _;cases (show (none:Option _)=some _ from h))⟩
 | k+1=>⟨Dc.C2 (k:=k) (PE.good k),IP.C2 (k:=k) (PE.good k),DX.C2 (k:=k) (PE.good k),Gf.C2 (k:=k) (PE.good k),IL.C2 (k:=k) (PE.good k),DN.C2 (k:=k) (PE.good k)⟩
def Dc.f (k:Nat):=Dc.g (PE.at k) k
theorem Dc.ok {k:Nat}:Dc.C (Dc.f k):=Dc.C2 (k:=k) (PE.good k)
def DX.f (k:Nat):=DX.g (PE.at k) k
theorem DX.ok {k:Nat}:DX.C (DX.f k):=DX.C2 (k:=k) (PE.good k)
def DN.f (k:Nat):=DN.g (PE.at k) k
theorem DN.ok {k:Nat}:DN.C (DN.f k):=DN.C2 (k:=k) (PE.good k)
structure PS where
 Du:List (Int×ByteArray×Int×Int)→Int→Bool→Option (PR (Int×ByteArray×Int×Int×List Tree×Int))
 IM:List (Int×ByteArray×Int×Int)→Int→Option (PR (Int×ByteArray×Int×Int×List Tree×Int))
 IQ:List (Int×ByteArray×Int×Int)→Int→Option (PR (Int×ByteArray×Int×Int×List Tree×Int))
 Gq:List (Int×ByteArray×Int×Int)→Int→Option (PR (List Tree×Int))
 IN:List (Int×ByteArray×Int×Int)→Int→Int→Option (PR (Int×ByteArray×Int×Int×List Tree×Int))
 Gr:List (Int×ByteArray×Int×Int)→Int→Option (PR (Int×ByteArray×Int×Int×List Tree×Int))
def Du.C (fC:List (Int×ByteArray×Int×Int)→Int→Bool→Option (PR (Int×ByteArray×Int×Int×List Tree×Int))):Prop:=∀ {Ac:List (Int×ByteArray×Int×Int)} {Ag:Int} {a1:Bool} {b0 Ax:Nat} {B5:Ab} {Aw:Aq} {r:PR (Int×ByteArray×Int×Int×List Tree×Int)} (h:fC Ac Ag a1=some r) (AJ:Bl F_ 4 B5 (Aa Aw Ac Ax) Ac),Ct Tryz.prog 26 #[pt b0,bv a1] [bk b0 #[Aa Aw Ac Ax,iv Ag] 93] [B5] (PR.Post Ii (fun (r:Int×ByteArray×Int×Int×List Tree×Int) e l1=>∃ (H0_:Ab) (A0_:Aq) (c0_:Nat),AK (AX 54) 54 H0_ (Aa A0_ r.2.2.2.2.1 c0_) r.2.2.2.2.1∧e=.returned (.agg #[iv r.1,sv r.2.1,iv r.2.2.1,iv r.2.2.2.1,Aa A0_ r.2.2.2.2.1 c0_])∧l1=[H0_,bk b0 #[Aa Aw Ac Ax,iv r.2.2.2.2.2] 93]) r)
def IM.C (fC:List (Int×ByteArray×Int×Int)→Int→Option (PR (Int×ByteArray×Int×Int×List Tree×Int))):Prop:=∀ {Ac:List (Int×ByteArray×Int×Int)} {Ag:Int} {b0 Ax:Nat} {B5:Ab} {Aw:Aq} {r:PR (Int×ByteArray×Int×Int×List Tree×Int)} (h:fC Ac Ag=some r) (AJ:Bl F_ 4 B5 (Aa Aw Ac Ax) Ac),Ct Tryz.prog 44 #[pt b0] [bk b0 #[Aa Aw Ac Ax,iv Ag] 93] [B5] (PR.Post Ii (fun (r:Int×ByteArray×Int×Int×List Tree×Int) e l1=>∃ (H0_:Ab) (A0_:Aq) (c0_:Nat),AK (AX 54) 54 H0_ (Aa A0_ r.2.2.2.2.1 c0_) r.2.2.2.2.1∧e=.returned (.agg #[iv r.1,sv r.2.1,iv r.2.2.1,iv r.2.2.2.1,Aa A0_ r.2.2.2.2.1 c0_])∧l1=[H0_,bk b0 #[Aa Aw Ac Ax,iv r.2.2.2.2.2] 93]) r)
def IQ.C (fC:List (Int×ByteArray×Int×Int)→Int→Option (PR (Int×ByteArray×Int×Int×List Tree×Int))):Prop:=∀ {Ac:List (Int×ByteArray×Int×Int)} {Ag:Int} {b0 Ax:Nat} {B5:Ab} {Aw:Aq} {r:PR (Int×ByteArray×Int×Int×List Tree×Int)} (h:fC Ac Ag=some r) (AJ:Bl F_ 4 B5 (Aa Aw Ac Ax) Ac),Ct Tryz.prog 45 #[pt b0] [bk b0 #[Aa Aw Ac Ax,iv Ag] 93] [B5] (PR.Post Ii (fun (r:Int×ByteArray×Int×Int×List Tree×Int) e l1=>∃ (H0_:Ab) (A0_:Aq) (c0_:Nat),AK (AX 54) 54 H0_ (Aa A0_ r.2.2.2.2.1 c0_) r.2.2.2.2.1∧e=.returned (.agg #[iv r.1,sv r.2.1,iv r.2.2.1,iv r.2.2.2.1,Aa A0_ r.2.2.2.2.1 c0_])∧l1=[H0_,bk b0 #[Aa Aw Ac Ax,iv r.2.2.2.2.2] 93]) r)
def Gq.C (fC:List (Int×ByteArray×Int×Int)→Int→Option (PR (List Tree×Int))):Prop:=∀ {Ac:List (Int×ByteArray×Int×Int)} {Ag:Int} {b0 Ax:Nat} {B5:Ab} {Aw:Aq} {r:PR (List Tree×Int)} (h:fC Ac Ag=some r) (AJ:Bl F_ 4 B5 (Aa Aw Ac Ax) Ac),Ct Tryz.prog 68 #[pt b0] [bk b0 #[Aa Aw Ac Ax,iv Ag] 93] [B5] (PR.Post Ii (fun (r:List Tree×Int) e l1=>∃ (H0_:Ab) (A0_:Aq) (c0_:Nat),AK (AX 54) 54 H0_ (Aa A0_ r.1 c0_) r.1∧e=.returned (Aa A0_ r.1 c0_)∧l1=[H0_,bk b0 #[Aa Aw Ac Ax,iv r.2] 93]) r)
def IN.C (fC:List (Int×ByteArray×Int×Int)→Int→Int→Option (PR (Int×ByteArray×Int×Int×List Tree×Int))):Prop:=∀ {Ac:List (Int×ByteArray×Int×Int)} {Ag a1:Int} {b0 Ax:Nat} {B5:Ab} {Aw:Aq} {r:PR (Int×ByteArray×Int×Int×List Tree×Int)} (h:fC Ac Ag a1=some r) (AJ:Bl F_ 4 B5 (Aa Aw Ac Ax) Ac),Ct Tryz.prog 69 #[pt b0,iv a1] [bk b0 #[Aa Aw Ac Ax,iv Ag] 93] [B5] (PR.Post Ii (fun (r:Int×ByteArray×Int×Int×List Tree×Int) e l1=>∃ (H0_:Ab) (A0_:Aq) (c0_:Nat),AK (AX 54) 54 H0_ (Aa A0_ r.2.2.2.2.1 c0_) r.2.2.2.2.1∧e=.returned (.agg #[iv r.1,sv r.2.1,iv r.2.2.1,iv r.2.2.2.1,Aa A0_ r.2.2.2.2.1 c0_])∧l1=[H0_,bk b0 #[Aa Aw Ac Ax,iv r.2.2.2.2.2] 93]) r)
def Gr.C (fC:List (Int×ByteArray×Int×Int)→Int→Option (PR (Int×ByteArray×Int×Int×List Tree×Int))):Prop:=∀ {Ac:List (Int×ByteArray×Int×Int)} {Ag:Int} {b0 Ax:Nat} {B5:Ab} {Aw:Aq} {r:PR (Int×ByteArray×Int×Int×List Tree×Int)} (h:fC Ac Ag=some r) (AJ:Bl F_ 4 B5 (Aa Aw Ac Ax) Ac),Ct Tryz.prog 70 #[pt b0] [bk b0 #[Aa Aw Ac Ax,iv Ag] 93] [B5] (PR.Post Ii (fun (r:Int×ByteArray×Int×Int×List Tree×Int) e l1=>∃ (H0_:Ab) (A0_:Aq) (c0_:Nat),AK (AX 54) 54 H0_ (Aa A0_ r.2.2.2.2.1 c0_) r.2.2.2.2.1∧e=.returned (.agg #[iv r.1,sv r.2.1,iv r.2.2.1,iv r.2.2.2.1,Aa A0_ r.2.2.2.2.1 c0_])∧l1=[H0_,bk b0 #[Aa Aw Ac Ax,iv r.2.2.2.2.2] 93]) r)
structure PS.Good (R:PS):Prop where
 Du:Du.C R.Du
 IM:IM.C R.IM
 IQ:IQ.C R.IQ
 Gq:Gq.C R.Gq
 IN:IN.C R.IN
 Gr:Gr.C R.Gr
def Du.l0:Nat→(Rc:PS)→(Ac:List (Int×ByteArray×Int×Int))→(a1:Bool)→(r2:Int×ByteArray×Int×Int)→(l4:List Tree)→(x9:Int)→Option (PR (Int×ByteArray×Int×Int×List Tree×Int))
 | 0,_,_,_,_,_,_=>none
 | m10+1,Rc,Ac,a1,r2,l4,x9=>(Et.f m10 Ac x9).bind fun r11=>(CH.f m10 Ac x9 (⟨#[59]⟩:ByteArray)).bind fun r13=>cond r13.1 (Du.l0 m10 Rc Ac a1 r2 l4 r13.2) ((CH.f m10 Ac r13.2 (⟨#[114,101,116,117,114,110]⟩:ByteArray)).bind fun BS=>cond BS.1 (BG (fun (l18:List Tree) (x23:Int)=>(CH.f m10 Ac x23 (⟨#[59]⟩:ByteArray)).bind fun r25=>(apd 64 l4 [(Tree.mk 30 (⟨#[]⟩:ByteArray) 0 r11.2.2.2 l18)]).bind fun l29=>some (PR.ok (20,(⟨#[]⟩:ByteArray),0,r2.2.2.2,l29,r25.2))) (fun MQ=>((N7.f m10 Ac BS.2).bind fun ED=>cond (!ED) ((EM.f m10 Ac BS.2 (⟨#[59]⟩:ByteArray)).bind fun r44=>some (!r44)) (some false):Option Bool).bind fun q34=>cond q34 (PR.bind (DN.f m10 Ac BS.2) fun r36=>MQ r36.1 r36.2) (MQ ([]) BS.2))) ((cond a1 ((EM.f m10 Ac BS.2 (⟨#[102,117,110,99,116,105,111,110]⟩:ByteArray)).bind fun Xg=>some Xg) (some false):Option Bool).bind fun Un=>cond Un (PR.bind (Rc.IM Ac BS.2) fun r47=>(apd 64 l4 [(Tree.mk r47.1 r47.2.1 r47.2.2.1 r47.2.2.2.1 r47.2.2.2.2.1)]).bind fun l56=>Du.l0 m10 Rc Ac a1 r2 l56 r47.2.2.2.2.2) ((N7.f m10 Ac BS.2).bind fun r61=>cond r61 (some (PR.ok (20,(⟨#[]⟩:ByteArray),0,r2.2.2.2,l4,BS.2))) (PR.bind (Rc.IQ Ac BS.2) fun FI=>(apd 64 l4 [(Tree.mk FI.1 FI.2.1 FI.2.2.1 FI.2.2.2.1 FI.2.2.2.2.1)]).bind fun Ny=>Du.l0 m10 Rc Ac a1 r2 Ny FI.2.2.2.2.2))))
def Du.g (Rc:PS) (k:Nat) (Ac:List (Int×ByteArray×Int×Int)) (Ag:Int) (a1:Bool):Option (PR (Int×ByteArray×Int×Int×List Tree×Int)):=(Et.f k Ac Ag).bind fun r2=>Du.l0 k Rc Ac a1 r2 ([]) Ag
theorem Du.C2 {Rc:PS} (hR:Rc.Good) {k:Nat}:Du.C (Du.g Rc k):=by
 intro Ac Ag a1 b0 Ax B5 Aw r h AJ
 refine C3 (args:=[pt b0,bv a1]) Tryz.func26 rfl (By rfl) ?_
 intro A X hh_
 obtain ⟨AY,_⟩:=hh_
 unfold Du.g at h
 refine K.eq (env':=[(0,pt b0),(1,bv a1)]) (l':=bk b0 #[Aa Aw Ac Ax,iv Ag] 93 :: X) rfl rfl (ksr (knp #[iv 0,sv noS,iv 0,iv 0,nS] 54 fun b1=>(Ba (kx 1 (K.An (bnd h fun r2 hr2 h=>(CG (Et.ok hr2 AJ) rfl ⟨(.tail _ AY),trivial⟩ (kx 2 (knp #[iv 0,sv noS,iv 0,iv 0,nS] 54 fun b3=>(AQ 0 5 #[iv 20,sv noS,iv 0,iv r2.2.2.2,nS] ?_))))))))))
 refine Ad (C1 (Dl (K.mv3 (K.mv3 (K.mv3 (Fx (τ:=(List Tree)×Int×Ab×Aq×Nat) (fun t=>[(0,pt b0),(1,bv a1),(4,pt b1),(5,pt b3)]) (fun t=>bk b3 #[iv 20,sv noS,iv 0,iv r2.2.2.2,Aa t.2.2.2.1 t.1 t.2.2.2.2] 54 :: bk b0 #[Aa Aw Ac Ax,iv t.2.1] 93 :: bk b1 #[iv 0,sv noS,iv 0,iv 0,nS] 54 :: t.2.2.1 :: X) (fun m t=>Du.l0 m Rc Ac a1 r2 t.1 t.2.1=some r∧AK (AX 54) 54 t.2.2.1 (Aa t.2.2.2.1 t.1 t.2.2.2.2) t.1) k ([],Ag,none_,none,0) ⟨h,(AK.nil (AX 54) 54 none_)⟩ sb rfl ?_))))))
 clear h
 rintro m10 ⟨l4,x9,h5,A6,k7⟩ ⟨h,o8⟩
 cases m10 with
 | zero=>simp [Du.l0] at h
 | succ m10 =>
  simp only [Du.l0] at h
  refine C1 (ksr (kx 1 (K.An (bnd h fun r11 Pd h=>(CG (Et.ok Pd AJ) rfl ⟨(t3 AY),trivial⟩ (knp #[iv 0,sv noS,iv 0,iv 0] 96 fun b12=>(AQ 0 4 #[iv r11.1,sv r11.2.1,iv r11.2.2.1,iv r11.2.2.2] (Ad (C1 (ksr ?_))))))))))
  refine kx 1 (K.An (bnd h fun r13 Pe h=>(CG (CH.ok Pe AJ) rfl ⟨(t4 AY),trivial⟩ (kx 1 (Ad ?_)))))
  refine AU h (fun h=>?_) fun h=>?_
  ·exact BV (B7 (B7 (AM (K.An (K.drop (K.mv3 (K.mv3 (K.Al (K.mv3 (E3 m10 (l4,r13.2,h5,A6,k7) (Nat.lt_succ_self _) ⟨h,o8⟩ sb rfl))))))))))
  ·refine ksr (kx 1 (bnd h fun BS LG h=>(CG (CH.ok LG AJ) rfl ⟨(t4 AY),trivial⟩ (kx 1 (Ad ?_)))))
   refine AU h (fun h=>?_) fun h=>?_
   ·refine ksr (kx 1 (kld 1 3 rfl (K.An (K.drop (kx 1 (knp #[iv 0,sv noS,iv 0,iv 0,nS] 54 fun b17=>(AQ 0 5 #[iv 30,sv noS,iv 0,iv r11.2.2.2,nS] (Ad ?_))))))))
    obtain ⟨MQ,YV,h⟩:=De h
    refine Df (τ:=(List Tree)×Int×Ab×Aq×Nat) (fun t=>[(0,pt b0),(4,pt b1),(5,pt b3),(7,pt b17)]) (fun t=>bk b17 #[iv 30,sv noS,iv 0,iv r11.2.2.2,Aa t.2.2.2.1 t.1 t.2.2.2.2] 54 :: bk b0 #[Aa Aw Ac Ax,iv t.2.1] 93 :: bk b3 #[iv 20,sv noS,iv 0,iv r2.2.2.2,Aa A6 l4 k7] 54 :: bk b1 #[iv 0,sv noS,iv 0,iv 0,nS] 54 :: h5 :: t.2.2.1 :: X) (fun t=>MQ t.1 t.2.1=some r∧AK (AX 54) 54 t.2.2.1 (Aa t.2.2.2.1 t.1 t.2.2.2.2) t.1) ?_ ?_
    ·rintro ⟨l18,x23,h19,A20,k21⟩ ⟨h,GU⟩
     subst YV
     refine ksr (kx 1 (K.An (bnd h fun r25 Ph h=>(CG (CH.ok Ph AJ) rfl ⟨(t5 AY),trivial⟩ (Ba (kx 1 (kld 2 4 rfl (CV 1 0 5 rfl (K.An (K.drop ?_))))))))))
     refine Dh #[iv 30,sv noS,iv 0,iv r11.2.2.2,Aa A20 l18 k21] 54 1 fun b26=>(K.mv5 (K.An (DP (T:=54) (n:=1) (xs:=[(Tree.mk 30 (⟨#[]⟩:ByteArray) 0 r11.2.2.2 l18)]) (Cn.one (En (k:=30) (t:=(⟨#[]⟩:ByteArray)) (n:=0) (a:=r11.2.2.2) 54 GU)) rfl rfl (By rfl) fun h27 TZ=>(K.Bx (bnd h fun l29 Bcb h=>(FQ rfl GO rfl Bcb o8 TZ fun h30 GL k32 LU=>(kx 1 (K.Al (AQ 4 1 #[iv 20,sv noS,iv 0,iv r2.2.2.2,Aa GL l29 k32] (Ba ?_))))))))))
     refine CV 0 0 5 rfl (K.drop (K.Al (AQ 0 5 #[iv 20,sv noS,iv 0,iv r2.2.2.2,Aa GL l29 k32] (Ad (C9 (Fu (Fu (DH (Fu ?_)))))))))
     obtain rfl:=As h
     exact Io 0 5 rfl [h30,bk b0 #[Aa Aw Ac Ax,iv r25.2] 93] (K.drop (BH (PR.okI ⟨h30,GL,k32,LU,rfl,rfl⟩)))
    ·skip
     refine bnd h fun q34 Zn h=>?_
     refine G_ [(0,pt b0),(4,pt b1),(5,pt b3),(7,pt b17),(37,bv q34)] (bk b17 #[iv 30,sv noS,iv 0,iv r11.2.2.2,nS] 54 :: bk b0 #[Aa Aw Ac Ax,iv BS.2] 93 :: bk b3 #[iv 20,sv noS,iv 0,iv r2.2.2.2,Aa A6 l4 k7] 54 :: bk b1 #[iv 0,sv noS,iv 0,iv 0,nS] 54 :: h5 :: X) ?_ ?_
     ·clear Zn
      refine AU h (fun h=>?_) fun h=>?_
      ·refine Bu (kx 1 (K.An (Cb h (fun _ LH=>(DN.ok LH AJ)) rfl ⟨(t4 AY),trivial⟩ (fun _ e=>Bf (B_ (B_ (Bf (B_ (kpn 4 e rfl)))))) fun r36 h=>?_)))
       rintro _ _ ⟨h37,JC,k39,M2,rfl,rfl⟩
       refine Bi (kx 1 (K.Al (AQ 4 1 #[iv 30,sv noS,iv 0,iv r11.2.2.2,Aa JC r36.1 k39] (Ad (K.An (K.mv5 (K.mv5 (K.mv5 (K.mv5 (K.mv5 ?_))))))))))
       exact B4 (r36.1,r36.2,h37,JC,k39) ⟨h,M2⟩ sb rfl
      ·exact BV (AM (Dl (K.mv5 (K.mv5 (K.mv5 (K.mv5 (K.mv5 (B4 ([],BS.2,none_,none,0) ⟨h,(AK.nil (AX 54) 54 none_)⟩ sb rfl))))))))
     ·have h:=Zn
      clear Zn
      refine Bu (kx 1 (K.An (bnd h fun ED Z5 h=>(CG (N7.ok Z5 AJ) rfl ⟨(t4 AY),trivial⟩ (kx 2 ?_)))))
      refine Ee 33 h (fun h=>?_) fun h=>?_
      ·exact kx 1 (bnd h fun r44 Pn h=>(CG (EM.ok Pn AJ) rfl ⟨(t4 AY),trivial⟩ (kx 2 (Ad (K.Bx (K.Bx (K.Bx (K.mv3 (K.Bx (Dd ⟨gr,gr,gr,gr,gb (As h),trivial⟩))))))))))
      ·exact kx 4 (Ad (K.Bx (K.Bx (K.Bx (K.mv3 (K.Bx (Dd ⟨gr,gr,gr,gr,gb (As h),trivial⟩)))))))
   ·refine bnd h fun Un Zq h=>?_
    refine G_ [(0,pt b0),(1,bv a1),(4,pt b1),(5,pt b3),(50,bv Un)] (bk b0 #[Aa Aw Ac Ax,iv BS.2] 93 :: bk b3 #[iv 20,sv noS,iv 0,iv r2.2.2.2,Aa A6 l4 k7] 54 :: bk b1 #[iv 0,sv noS,iv 0,iv 0,nS] 54 :: h5 :: X) ?_ ?_
    ·clear Zq
     refine AU h (fun h=>?_) fun h=>?_
     ·refine kpr [(0,0),(1,3),(2,0),(3,1),(4,1)] [1] (Ar 1 (AP 0 4 rfl (Ar 1 (kpt (ocp h (fun _ hr47=>(hR.IM hr47 AJ)) rfl ⟨(t3 AY),trivial⟩ (fun _ e=>B_ (B_ (Bf (B_ (kpn 3 e rfl))))) fun r47 h=>?_)))))
      rintro _ _ ⟨h48,A49,k50,o51,rfl,rfl⟩
      refine Bi (Dm [2] rfl (kpt (HY #[iv r47.1,sv r47.2.1,iv r47.2.2.1,iv r47.2.2.2.1,Aa A49 r47.2.2.2.2.1 k50] 54 1 fun b53=>(Dm [3] rfl (Ca (K.An (K.An (DP (T:=54) (n:=1) (xs:=[(Tree.mk r47.1 r47.2.1 r47.2.2.1 r47.2.2.2.1 r47.2.2.2.2.1)]) (Cn.one (En (k:=r47.1) (t:=r47.2.1) (n:=r47.2.2.1) (a:=r47.2.2.2.1) 54 o51)) rfl rfl (By rfl) fun h54 Hu=>(K.Bx (bnd h fun l56 Bck h=>?_))))))))))
      refine FQ rfl GO rfl Bck o8 Hu fun h57 Hg k59 o60=>(kx 1 (K.Al (AQ 4 1 #[iv 20,sv noS,iv 0,iv r2.2.2.2,Aa Hg l56 k59] (knl (B7 (B7 (AM (K.An (K.mv3 (K.mv3 ?_))))))))))
      exact K.mv3 (E3 m10 (l56,r47.2.2.2.2.2,h57,Hg,k59) (Nat.lt_succ_self _) ⟨h,o60⟩ sb rfl)
     ·refine ksr (kx 1 (bnd h fun r61 Bfg h=>(CG (N7.ok Bfg AJ) rfl ⟨(t3 AY),trivial⟩ (kx 1 (Ad ?_)))))
      refine AU h (fun h=>?_) fun h=>?_
      ·refine ksr (CV 1 0 5 rfl (K.An (K.drop (K.An (AQ 0 5 #[iv 20,sv noS,iv 0,iv r2.2.2.2,Aa A6 l4 k7] (Ad (C9 (Fu (Fu (DH ?_))))))))))
       refine Fu ?_
       obtain rfl:=As h
       exact Io 0 5 rfl [h5,bk b0 #[Aa Aw Ac Ax,iv BS.2] 93] (K.drop (K.An (BH (PR.okI ⟨h5,A6,k7,o8,rfl,rfl⟩))))
      ·refine kpr [(0,0),(1,3),(2,0),(3,1),(4,1)] [1] (Ar 1 (AP 0 4 rfl (Ar 1 (kpt (ocp h (fun _ ZE=>(hR.IQ ZE AJ)) rfl ⟨(t3 AY),trivial⟩ (fun _ e=>B_ (B_ (Bf (B_ (kpn 3 e rfl))))) fun FI h=>?_)))))
       rintro _ _ ⟨h64,XN,k66,o67,rfl,rfl⟩
       refine Bi (Dm [2] rfl (kpt (HY #[iv FI.1,sv FI.2.1,iv FI.2.2.1,iv FI.2.2.2.1,Aa XN FI.2.2.2.2.1 k66] 54 1 fun b69=>(Dm [3] rfl (Ca (K.An (K.An (DP (T:=54) (n:=1) (xs:=[(Tree.mk FI.1 FI.2.1 FI.2.2.1 FI.2.2.2.1 FI.2.2.2.2.1)]) (Cn.one (En (k:=FI.1) (t:=FI.2.1) (n:=FI.2.2.1) (a:=FI.2.2.2.1) 54 o67)) rfl rfl (By rfl) fun h70 N4=>(K.Bx (bnd h fun Ny VR h=>?_))))))))))
       refine FQ rfl GO rfl VR o8 N4 fun h73 Qr k75 R7=>(kx 1 (K.Al (AQ 4 1 #[iv 20,sv noS,iv 0,iv r2.2.2.2,Aa Qr Ny k75] (knl (B7 (B7 (AM (K.An (K.mv3 (K.mv3 ?_))))))))))
       exact K.mv3 (E3 m10 (Ny,FI.2.2.2.2.2,h73,Qr,k75) (Nat.lt_succ_self _) ⟨h,R7⟩ sb rfl)
    ·have h:=Zq
     clear Zq
     refine Bu (kx 2 ?_)
     refine Ee 52 h (fun h=>?_) fun h=>?_
     ·exact kx 1 (bnd h fun Xg ZK h=>(CG (EM.ok ZK AJ) rfl ⟨(t4 AY),trivial⟩ (K.An (K.drop (kx 2 (Ad (Dd ⟨gr,gr,gr,gr,gb (As h),trivial⟩)))))))
     ·exact kx 4 (Ad (K.An (K.drop (Dd ⟨gr,gr,gr,gr,gb (As h),trivial⟩))))
def IM.g (Rc:PS) (k:Nat) (Ac:List (Int×ByteArray×Int×Int)) (Ag:Int):Option (PR (Int×ByteArray×Int×Int×List Tree×Int)):=(Et.f k Ac Ag).bind fun r2=>PR.bind (Di.f k Ac Ag (⟨#[102,117,110,99,116,105,111,110]⟩:ByteArray)) fun r4=>PR.bind (Hv.f k Ac r4) fun r6=>PR.bind (Di.f k Ac r6.2.2.2.2.2 (⟨#[40]⟩:ByteArray)) fun r12=>BG (fun (x14:Int) (l15:List Tree)=>PR.bind (Di.f k Ac x14 (⟨#[41]⟩:ByteArray)) fun r21=>PR.bind (Rc.Du Ac r21 false) fun Fa=>(apd 64 l15 [(Tree.mk Fa.1 Fa.2.1 Fa.2.2.1 Fa.2.2.2.1 Fa.2.2.2.2.1)]).bind fun l32=>PR.bind (Di.f k Ac Fa.2.2.2.2.2 (⟨#[101,110,100]⟩:ByteArray)) fun Ix=>some (PR.ok (31,r6.2.1,((l15.length:Nat):Int),r2.2.2.2,l32,Ix))) (fun J20=>(EM.f k Ac r12 (⟨#[41]⟩:ByteArray)).bind fun r39=>cond (!r39) (PR.bind (HZ.f k Ac r12) fun Gs=>J20 Gs.2 Gs.1) (J20 r12 ([])))
theorem IM.C2 {Rc:PS} (hR:Rc.Good) {k:Nat}:IM.C (IM.g Rc k):=by
 intro Ac Ag b0 Ax B5 Aw r h AJ
 refine C3 (args:=[pt b0]) Tryz.func44 rfl (By rfl) ?_
 intro A X hh_
 obtain ⟨AY,_⟩:=hh_
 unfold IM.g at h
 refine K.eq (env':=[(0,pt b0)]) (l':=bk b0 #[Aa Aw Ac Ax,iv Ag] 93 :: X) rfl rfl (ksr (knp #[iv 0,sv noS,iv 0,iv 0,nS] 54 fun b1=>(Ba (kx 1 (K.An (bnd h fun r2 hr2 h=>(CG (Et.ok hr2 AJ) rfl ⟨(.tail _ AY),trivial⟩ (kx 2 (knp #[iv 0,sv noS,iv 0,iv 0,nS] 54 fun b3=>(AQ 0 5 #[iv 31,sv noS,iv 0,iv r2.2.2.2,nS] ?_))))))))))
 refine Ba (kx 1 (K.An (Cb h (fun _ hr4=>(Di.ok hr4 AJ)) rfl ⟨(t2 AY),trivial⟩ (fun _ e=>Bf (kpn 2 e rfl)) fun r4 h=>?_)))
 rintro _ _ ⟨rfl,rfl⟩
 refine Fy (Ba (kx 1 (Cb h (fun _ Nh=>(Hv.ok Nh AJ)) rfl ⟨(t2 AY),trivial⟩ (fun _ e=>Bf (kpn 2 e rfl)) fun r6 h=>?_)))
 rintro _ _ ⟨h7,A8,k9,o10,rfl,rfl⟩
 refine Bi (kx 2 (K.Al (AQ 1 1 #[iv 31,sv r6.2.1,iv 0,iv r2.2.2.2,nS] (K.An (K.drop (Ba (kx 1 (K.An (Cb h (fun _ Zv=>(Di.ok Zv AJ)) rfl ⟨(t2 AY),trivial⟩ (fun _ e=>Bf (kpn 2 e rfl)) fun r12 h=>?_)))))))))
 rintro _ _ ⟨rfl,rfl⟩
 refine Fy (Ad ?_)
 obtain ⟨J20,Bam,h⟩:=De h
 refine Df (τ:=Int×(List Tree)×Ab×Aq×Nat) (fun t=>[(0,pt b0),(2,pt b1),(3,pt b3)]) (fun t=>bk b0 #[Aa Aw Ac Ax,iv t.1] 93 :: bk b3 #[iv 31,sv r6.2.1,iv 0,iv r2.2.2.2,Aa t.2.2.2.1 t.2.1 t.2.2.2.2] 54 :: bk b1 #[iv 0,sv noS,iv 0,iv 0,nS] 54 :: t.2.2.1 :: X) (fun t=>J20 t.1 t.2.1=some r∧AK (AX 54) 54 t.2.2.1 (Aa t.2.2.2.1 t.2.1 t.2.2.2.2) t.2.1) ?_ ?_
 ·rintro ⟨x14,l15,h16,Jl,k18⟩ ⟨h,o19⟩
  subst Bam
  refine ksr (kx 1 (kld 1 4 rfl (kx 2 (K.An (AQ 2 1 #[iv 31,sv r6.2.1,iv ((l15.length:Nat):Int),iv r2.2.2.2,Aa Jl l15 k18] (Ba (kx 1 (K.An (Cb h (fun _ K0=>(Di.ok K0 AJ)) rfl ⟨(t3 AY),trivial⟩ (fun _ e=>Bf (kpn 3 e rfl)) fun r21 h=>?_)))))))))
  rintro _ _ ⟨rfl,rfl⟩
  refine Fy (Ad (B8 (kpr [(0,0),(1,3),(2,0),(3,1),(4,1)] [1] (Ar 1 (AP 0 4 rfl (Ar 1 (kpt (ocp h (fun _ Z1=>(hR.Du Z1 AJ)) rfl ⟨(t3 AY),trivial⟩ (fun _ e=>Bf (kpn 3 e rfl)) fun Fa h=>?_))))))))
  rintro _ _ ⟨h24,A25,k26,K9,rfl,rfl⟩
  refine Bi (Dm [2] rfl (kpt (HY #[iv Fa.1,sv Fa.2.1,iv Fa.2.2.1,iv Fa.2.2.2.1,Aa A25 Fa.2.2.2.2.1 k26] 54 1 fun b29=>(Dm [3] rfl (Ca (K.An (K.An (DP (T:=54) (n:=1) (xs:=[(Tree.mk Fa.1 Fa.2.1 Fa.2.2.1 Fa.2.2.2.1 Fa.2.2.2.2.1)]) (Cn.one (En (k:=Fa.1) (t:=Fa.2.1) (n:=Fa.2.2.1) (a:=Fa.2.2.2.1) 54 K9)) rfl rfl (By rfl) fun h30 Hd=>(K.Bx (bnd h fun l32 VQ h=>?_))))))))))
  refine FQ rfl GO rfl VQ o19 Hd fun h33 A34 GD Jj=>(kx 1 (K.Al (AQ 4 1 #[iv 31,sv r6.2.1,iv ((l15.length:Nat):Int),iv r2.2.2.2,Aa A34 l32 GD] (Ba (kx 1 (K.Al (Cb h (fun _ Pk=>(Di.ok Pk AJ)) rfl ⟨(t3 AY),trivial⟩ (fun _ e=>Bf (kpn 3 e rfl)) fun Ix h=>?_)))))))
  rintro _ _ ⟨rfl,rfl⟩
  refine Fy (Ba (CV 1 0 5 rfl (K.An (K.drop (K.Al (AQ 0 5 #[iv 31,sv r6.2.1,iv ((l15.length:Nat):Int),iv r2.2.2.2,Aa A34 l32 GD] (Ad (C9 ?_))))))))
  obtain rfl:=As h
  exact Io 0 5 rfl [h33,bk b0 #[Aa Aw Ac Ax,iv Ix] 93] (K.drop (K.An (BH (PR.okI ⟨h33,A34,GD,Jj,rfl,rfl⟩))))
 ·skip
  refine ksr (kx 1 (bnd h fun r39 hr39 h=>(CG (EM.ok hr39 AJ) rfl ⟨(t2 AY),trivial⟩ (kx 1 (Ad ?_)))))
  refine AU h (fun h=>?_) fun h=>?_
  ·refine Bu (kx 1 (Cb h (fun _ Pm=>(HZ.ok Pm AJ)) rfl ⟨(t2 AY),trivial⟩ (fun _ e=>Bf (kpn 2 e rfl)) fun Gs h=>?_))
   rintro _ _ ⟨h42,O6,Px,LV,rfl,rfl⟩
   exact Bi (kx 1 (K.Al (AQ 4 1 #[iv 31,sv r6.2.1,iv 0,iv r2.2.2.2,Aa O6 Gs.1 Px] (Ad (K.An (K.mv3 (K.Al (K.mv3 (B4 (Gs.2,Gs.1,h42,O6,Px) ⟨h,LV⟩ sb rfl)))))))))
  ·exact BV (AM (Dl (K.mv3 (K.mv3 (K.mv3 (B4 (r12,[],none_,none,0) ⟨h,(AK.nil (AX 54) 54 none_)⟩ sb rfl))))))
def IQ.g (Rc:PS) (k:Nat) (Ac:List (Int×ByteArray×Int×Int)) (Ag:Int):Option (PR (Int×ByteArray×Int×Int×List Tree×Int)):=(Et.f k Ac Ag).bind fun r2=>BG (fun (x5:Int) (x6:Int) (l7:List Tree) (x12:Int)=>some (PR.ok (x5,(⟨#[]⟩:ByteArray),x6,r2.2.2.2,l7,x12))) (fun J13=>(CH.f k Ac Ag (⟨#[100,111]⟩:ByteArray)).bind fun r14=>cond r14.1 (PR.bind (Rc.Du Ac r14.2 false) fun r16=>PR.bind (Di.f k Ac r16.2.2.2.2.2 (⟨#[101,110,100]⟩:ByteArray)) fun Fa=>J13 28 0 ([(Tree.mk r16.1 r16.2.1 r16.2.2.1 r16.2.2.2.1 r16.2.2.2.2.1)]) Fa) ((CH.f k Ac r14.2 (⟨#[119,104,105,108,101]⟩:ByteArray)).bind fun r27=>cond r27.1 (PR.bind (Dc.f k Ac r27.2 0) fun r29=>PR.bind (Di.f k Ac r29.2.2.2.2.2 (⟨#[100,111]⟩:ByteArray)) fun r36=>PR.bind (Rc.Du Ac r36 false) fun r38=>(apd 64 [(Tree.mk r29.1 r29.2.1 r29.2.2.1 r29.2.2.2.1 r29.2.2.2.2.1)] [(Tree.mk r38.1 r38.2.1 r38.2.2.1 r38.2.2.2.1 r38.2.2.2.2.1)]).bind fun l49=>PR.bind (Di.f k Ac r38.2.2.2.2.2 (⟨#[101,110,100]⟩:ByteArray)) fun Ib=>J13 25 0 l49 Ib) ((CH.f k Ac r27.2 (⟨#[105,102]⟩:ByteArray)).bind fun Gg=>cond Gg.1 (PR.bind (Rc.Gq Ac Gg.2) fun JV=>J13 24 0 JV.1 JV.2) ((CH.f k Ac Gg.2 (⟨#[102,111,114]⟩:ByteArray)).bind fun r64=>cond r64.1 (PR.bind (Rc.IN Ac r64.2 r2.2.2.2) fun Fb=>some (PR.ok (Fb.1,Fb.2.1,Fb.2.2.1,Fb.2.2.2.1,Fb.2.2.2.2.1,Fb.2.2.2.2.2))) ((CH.f k Ac r64.2 (⟨#[108,111,99,97,108]⟩:ByteArray)).bind fun Gh=>cond Gh.1 (PR.bind (HZ.f k Ac Gh.2) fun IR=>(CH.f k Ac IR.2 (⟨#[61]⟩:ByteArray)).bind fun r80=>cond r80.1 (PR.bind (DN.f k Ac r80.2) fun IS=>(apd 64 IR.1 IS.1).bind fun La=>J13 21 ((IR.1.length:Nat):Int) La IS.2) (J13 21 ((IR.1.length:Nat):Int) IR.1 r80.2)) ((CH.f k Ac Gh.2 (⟨#[98,114,101,97,107]⟩:ByteArray)).bind fun r93=>cond r93.1 (J13 29 0 ([]) r93.2) (PR.bind (Rc.Gr Ac r93.2) fun r95=>some (PR.ok (r95.1,r95.2.1,r95.2.2.1,r95.2.2.2.1,r95.2.2.2.2.1,r95.2.2.2.2.2)))))))))
theorem IQ.C2 {Rc:PS} (hR:Rc.Good) {k:Nat}:IQ.C (IQ.g Rc k):=by
 intro Ac Ag b0 Ax B5 Aw r h AJ
 refine C3 (args:=[pt b0]) Tryz.func45 rfl (By rfl) ?_
 intro A X hh_
 obtain ⟨AY,_⟩:=hh_
 unfold IQ.g at h
 refine K.eq (env':=[(0,pt b0)]) (l':=bk b0 #[Aa Aw Ac Ax,iv Ag] 93 :: X) rfl rfl (ksr (knp #[iv 0,sv noS,iv 0,iv 0,nS] 54 fun b1=>(Ba (kx 1 (K.An (bnd h fun r2 hr2 h=>(CG (Et.ok hr2 AJ) rfl ⟨(.tail _ AY),trivial⟩ (knp #[iv 0,sv noS,iv 0,iv 0] 96 fun b3=>(AQ 0 4 #[iv r2.1,sv r2.2.1,iv r2.2.2.1,iv r2.2.2.2] (Ba ?_))))))))))
 refine kx 1 (kld 0 3 rfl (kx 1 (knp #[iv 0,sv noS,iv 0,iv 0,nS] 54 fun b4=>(AQ 0 5 #[iv 0,sv noS,iv 0,iv r2.2.2.2,nS] (Ad ?_)))))
 obtain ⟨J13,Baf,h⟩:=De h
 refine Df (τ:=Int×Int×(List Tree)×Int×Ab×Aq×Nat) (fun t=>[(2,pt b1),(4,pt b4)]) (fun t=>bk b4 #[iv t.1,sv noS,iv t.2.1,iv r2.2.2.2,Aa t.2.2.2.2.2.1 t.2.2.1 t.2.2.2.2.2.2] 54 :: bk b0 #[Aa Aw Ac Ax,iv t.2.2.2.1] 93 :: bk b1 #[iv 0,sv noS,iv 0,iv 0,nS] 54 :: t.2.2.2.2.1 :: X) (fun t=>J13 t.1 t.2.1 t.2.2.1 t.2.2.2.1=some r∧AK (AX 54) 54 t.2.2.2.2.1 (Aa t.2.2.2.2.2.1 t.2.2.1 t.2.2.2.2.2.2) t.2.2.1) ?_ ?_
 ·rintro ⟨x5,x6,l7,x12,h8,A9,k10⟩ ⟨h,HU⟩
  subst Baf
  refine ksr (CV 0 0 5 rfl (K.drop (K.An (AQ 0 5 #[iv x5,sv noS,iv x6,iv r2.2.2.2,Aa A9 l7 k10] (Ad (C9 ?_))))))
  obtain rfl:=As h
  exact Io 0 5 rfl [h8,bk b0 #[Aa Aw Ac Ax,iv x12] 93] (K.drop (K.An (BH (PR.okI ⟨h8,A9,k10,HU,rfl,rfl⟩))))
 ·skip
  refine C1 (ksr (kx 1 (K.Al (bnd h fun r14 Zw h=>(CG (CH.ok Zw AJ) rfl ⟨(t3 AY),trivial⟩ (kx 1 (Ad ?_)))))))
  refine AU h (fun h=>?_) fun h=>?_
  ·refine ksr (kx 1 (Cb h (fun _ Ky=>(hR.Du Ky AJ)) rfl ⟨(t3 AY),trivial⟩ (fun _ e=>Bf (B_ (Bf (kpn 3 e rfl)))) fun r16 h=>?_))
   rintro _ _ ⟨h17,Jm,k19,o20,rfl,rfl⟩
   refine Bi (K.mv3 (K.drop (Dh #[iv r16.1,sv r16.2.1,iv r16.2.2.1,iv r16.2.2.2.1,Aa Jm r16.2.2.2.2.1 k19] 54 1 fun b22=>(kx 1 (K.mv3 (AQ 0 1 #[iv 28,sv noS,iv 0,iv r2.2.2.2,nS] (kx 1 (AQ 4 1 #[iv 28,sv noS,iv 0,iv r2.2.2.2,.slice (some ⟨b22,0,none⟩) 1 1] (FG (kx 1 ?_))))))))))
   refine K.mv3 (Cb h (fun _ Z1=>(Di.ok Z1 AJ)) rfl ⟨(t4 AY),trivial⟩ (fun _ e=>B_ (Bf (kpn 4 e rfl))) fun Fa h=>?_)
   rintro _ _ ⟨rfl,rfl⟩
   exact Fy (knl (B7 (AM (K.mv3 (K.mv3 (DP (T:=54) (n:=1) (xs:=[(Tree.mk r16.1 r16.2.1 r16.2.2.1 r16.2.2.2.1 r16.2.2.2.2.1)]) (Cn.one (En (k:=r16.1) (t:=r16.2.1) (n:=r16.2.2.1) (a:=r16.2.2.2.1) 54 o20)) rfl rfl (By rfl) fun h25 JS=>(K.mv3 (K.Al (K.mv3 (B4 (28,0,[(Tree.mk r16.1 r16.2.1 r16.2.2.1 r16.2.2.2.1 r16.2.2.2.2.1)],Fa,h25,(some ⟨b22,0,none⟩),1) ⟨h,JS⟩ sb rfl))))))))))
  ·refine ksr (kx 1 (bnd h fun r27 K3 h=>(CG (CH.ok K3 AJ) rfl ⟨(t3 AY),trivial⟩ (kx 1 (Ad ?_)))))
   refine AU h (fun h=>?_) fun h=>?_
   ·refine ksr (kx 1 (Cb h (fun _ Th=>(Dc.ok Th AJ)) rfl ⟨(t3 AY),trivial⟩ (fun _ e=>Bf (B_ (Bf (kpn 3 e rfl)))) fun r29 h=>?_))
    rintro _ _ ⟨h30,GL,k32,LU,rfl,rfl⟩
    refine Bi (K.mv3 (K.drop (Dh #[iv r29.1,sv r29.2.1,iv r29.2.2.1,iv r29.2.2.2.1,Aa GL r29.2.2.2.2.1 k32] 54 1 fun OH=>(kx 1 (K.mv3 (AQ 0 1 #[iv 25,sv noS,iv 0,iv r2.2.2.2,nS] (kx 1 (AQ 4 1 #[iv 25,sv noS,iv 0,iv r2.2.2.2,.slice (some ⟨OH,0,none⟩) 1 1] (Ba (kx 1 ?_))))))))))
    refine K.mv3 (Cb h (fun _ LH=>(Di.ok LH AJ)) rfl ⟨(t4 AY),trivial⟩ (fun _ e=>Bf (B_ (Bf (kpn 4 e rfl)))) fun r36 h=>?_)
    rintro _ _ ⟨rfl,rfl⟩
    refine Fy (Ad (B8 (kpr [(0,0),(1,3),(2,0),(3,1),(4,1)] [1] (Ar 1 (AP 0 4 rfl (Ar 1 (kpt (ocp h (fun _ Pl=>(hR.Du Pl AJ)) rfl ⟨(t4 AY),trivial⟩ (fun _ e=>Bf (B_ (Bf (kpn 4 e rfl)))) fun r38 h=>?_))))))))
    rintro _ _ ⟨h39,Mj,k41,R1,rfl,rfl⟩
    refine Bi (Dm [2] rfl (kpt (HY #[iv r38.1,sv r38.2.1,iv r38.2.2.1,iv r38.2.2.2.1,Aa Mj r38.2.2.2.2.1 k41] 54 1 fun b44=>(Dm [3] rfl (Ca (K.An (K.An (DP (T:=54) (n:=1) (xs:=[(Tree.mk r38.1 r38.2.1 r38.2.2.1 r38.2.2.2.1 r38.2.2.2.2.1)]) (Cn.one (En (k:=r38.1) (t:=r38.2.1) (n:=r38.2.2.1) (a:=r38.2.2.2.1) 54 R1)) rfl rfl (By rfl) fun h45 Ua=>(K.Bx (K.Bx ?_))))))))))
    refine DP (T:=54) (n:=1) (xs:=[(Tree.mk r29.1 r29.2.1 r29.2.2.1 r29.2.2.2.1 r29.2.2.2.2.1)]) (Cn.one (En (k:=r29.1) (t:=r29.2.1) (n:=r29.2.2.1) (a:=r29.2.2.2.1) 54 LU)) rfl rfl (By rfl) fun h47 Om=>(K.An (K.An (bnd h fun l49 hl49 h=>(FQ rfl GO rfl hl49 Om Ua fun h50 KK k52 N3=>(kx 1 (K.Al (AQ 4 1 #[iv 25,sv noS,iv 0,iv r2.2.2.2,Aa KK l49 k52] (FG (kx 1 (K.Al ?_))))))))))
    refine Cb h (fun _ Tj=>(Di.ok Tj AJ)) rfl ⟨(t3 AY),trivial⟩ (fun _ e=>B_ (Bf (kpn 3 e rfl))) fun Ib h=>?_
    rintro _ _ ⟨rfl,rfl⟩
    exact Fy (knl (B7 (AM (K.Al (K.mv3 (K.Al (K.mv3 (B4 (25,0,l49,Ib,h50,KK,k52) ⟨h,N3⟩ sb rfl))))))))
   ·refine ksr (kx 1 (bnd h fun Gg ZD h=>(CG (CH.ok ZD AJ) rfl ⟨(t3 AY),trivial⟩ (kx 1 (Ad ?_)))))
    refine AU h (fun h=>?_) fun h=>?_
    ·refine Bu (kx 1 (Cb h (fun _ Tm=>(hR.Gq Tm AJ)) rfl ⟨(t3 AY),trivial⟩ (fun _ e=>B_ (Bf (kpn 3 e rfl))) fun JV h=>?_))
     rintro _ _ ⟨h59,S2,T2,Ub,rfl,rfl⟩
     refine Bi (K.mv3 (K.drop (kx 1 (K.Al (AQ 0 1 #[iv 24,sv noS,iv 0,iv r2.2.2.2,nS] (kx 1 (AQ 4 1 #[iv 24,sv noS,iv 0,iv r2.2.2.2,Aa S2 JV.1 T2] (knl (B7 (AM ?_))))))))))
     exact K.An (K.mv3 (K.mv3 (K.mv3 (B4 (24,0,JV.1,JV.2,h59,S2,T2) ⟨h,Ub⟩ sb rfl))))
    ·refine ksr (kx 1 (bnd h fun r64 ZF h=>(CG (CH.ok ZF AJ) rfl ⟨(t3 AY),trivial⟩ (kx 1 (Ad ?_)))))
     refine AU h (fun h=>?_) fun h=>?_
     ·refine ksr (kx 2 (kld 2 3 rfl (K.An (K.drop (K.An (K.drop (Cb h (fun _ ZG=>(hR.IN ZG AJ)) rfl ⟨(.tail _ AY),trivial⟩ (fun _ e=>Bf (B_ (Bf (kpn 1 e rfl)))) fun Fb h=>?_)))))))
      rintro _ _ ⟨N_,Hh,k69,KA,rfl,rfl⟩
      refine Bi (K.Al (AQ 0 5 #[iv Fb.1,sv Fb.2.1,iv Fb.2.2.1,iv Fb.2.2.2.1,Aa Hh Fb.2.2.2.2.1 k69] (Ad (C9 (Fu (DH ?_))))))
      obtain rfl:=As h
      exact Io 0 5 rfl [N_,bk b0 #[Aa Aw Ac Ax,iv Fb.2.2.2.2.2] 93] (K.drop (BH (PR.okI ⟨N_,Hh,k69,KA,rfl,rfl⟩)))
     ·refine ksr (kx 1 (bnd h fun Gh Tn h=>(CG (CH.ok Tn AJ) rfl ⟨(t3 AY),trivial⟩ (K.Al (K.drop (kx 1 (Ad ?_)))))))
      refine AU h (fun h=>?_) fun h=>?_
      ·refine ksr (kx 1 (Cb h (fun _ ZJ=>(HZ.ok ZJ AJ)) rfl ⟨(t2 AY),trivial⟩ (fun _ e=>Bf (B_ (Bf (kpn 2 e rfl)))) fun IR h=>?_))
       rintro _ _ ⟨h75,Lm,LL,o78,rfl,rfl⟩
       refine Bi (kx 1 (K.Al (AQ 0 1 #[iv 21,sv noS,iv 0,iv r2.2.2.2,nS] (kx 1 (AQ 4 1 #[iv 21,sv noS,iv 0,iv r2.2.2.2,Aa Lm IR.1 LL] (Ba (kx 1 (kld 0 4 rfl (kx 2 (AQ 2 1 #[iv 21,sv noS,iv ((IR.1.length:Nat):Int),iv r2.2.2.2,Aa Lm IR.1 LL] ?_))))))))))
       refine Ba (kx 1 (K.Al (bnd h fun r80 Pq h=>(CG (CH.ok Pq AJ) rfl ⟨(t3 AY),trivial⟩ (Ad ?_)))))
       refine AU h (fun h=>?_) fun h=>?_
       ·refine kpr [(0,0),(1,3),(2,0),(3,1)] [1] (Ar 1 (AP 0 4 rfl (Ar 1 (kpt (ocp h (fun _ Nj=>(DN.ok Nj AJ)) rfl ⟨(t3 AY),trivial⟩ (fun _ e=>B_ (Bf (kpn 3 e rfl))) fun IS h=>?_)))))
        rintro _ _ ⟨OZ,A84,We,o86,rfl,rfl⟩
        refine Bi (Dm [2] rfl (Ca (K.mv3 (bnd h fun La Bcv h=>(FQ rfl GO rfl Bcv o78 o86 fun h89 Vc k91 o92=>(kx 1 (K.Al (AQ 4 1 #[iv 21,sv noS,iv ((IR.1.length:Nat):Int),iv r2.2.2.2,Aa Vc La k91] (knl (B7 ?_))))))))))
        exact AM (K.An (K.mv3 (K.mv3 (K.mv3 (B4 (21,((IR.1.length:Nat):Int),La,IS.2,h89,Vc,k91) ⟨h,o92⟩ sb rfl)))))
       ·exact BV (B7 (AM (K.Al (K.mv3 (K.Al (K.mv3 (B4 (21,((IR.1.length:Nat):Int),IR.1,r80.2,h75,Lm,LL) ⟨h,o78⟩ sb rfl)))))))
      ·refine ksr (kx 1 (bnd h fun r93 To h=>(CG (CH.ok To AJ) rfl ⟨(t2 AY),trivial⟩ (kx 1 (Ad ?_)))))
       refine AU h (fun h=>?_) fun h=>?_
       ·refine Bu (kx 1 (K.An (AQ 0 1 #[iv 29,sv noS,iv 0,iv r2.2.2.2,nS] (knl (B7 (AM (Dl (K.mv3 (K.mv3 (K.mv3 ?_))))))))))
        exact B4 (29,0,[],r93.2,none_,none,0) ⟨h,(AK.nil (AX 54) 54 none_)⟩ sb rfl
       ·refine ksr (kx 1 (Cb h (fun _ Nk=>(hR.Gr Nk AJ)) rfl ⟨(t2 AY),trivial⟩ (fun _ e=>Bf (B_ (Bf (kpn 2 e rfl)))) fun r95 h=>?_))
        rintro _ _ ⟨h96,KL,KW,Lc,rfl,rfl⟩
        refine Bi (K.Al (K.drop (K.Al (AQ 0 5 #[iv r95.1,sv r95.2.1,iv r95.2.2.1,iv r95.2.2.2.1,Aa KL r95.2.2.2.2.1 KW] (Ad (C9 (Fu (DH ?_))))))))
        obtain rfl:=As h
        exact Io 0 5 rfl [h96,bk b0 #[Aa Aw Ac Ax,iv r95.2.2.2.2.2] 93] (K.drop (BH (PR.okI ⟨h96,KL,KW,Lc,rfl,rfl⟩)))
def Gq.l0:Nat→(Rc:PS)→(Ac:List (Int×ByteArray×Int×Int))→(J7:(List Tree)→Int→Option (PR (List Tree×Int)))→(JN:List Tree)→(x38:Int)→Option (PR (List Tree×Int))
 | 0,_,_,_,_,_=>none
 | m39+1,Rc,Ac,J7,JN,x38=>PR.bind (Dc.f m39 Ac x38 0) fun r40=>(apd 64 JN [(Tree.mk r40.1 r40.2.1 r40.2.2.1 r40.2.2.2.1 r40.2.2.2.2.1)]).bind fun l49=>PR.bind (Di.f m39 Ac r40.2.2.2.2.2 (⟨#[116,104,101,110]⟩:ByteArray)) fun Ib=>PR.bind (Rc.Du Ac Ib false) fun Gg=>(apd 64 l49 [(Tree.mk Gg.1 Gg.2.1 Gg.2.2.1 Gg.2.2.2.1 Gg.2.2.2.2.1)]).bind fun TM=>(CH.f m39 Ac Gg.2.2.2.2.2 (⟨#[101,108,115,101,105,102]⟩:ByteArray)).bind fun Gt=>cond (!Gt.1) (J7 TM Gt.2) (Gq.l0 m39 Rc Ac J7 TM Gt.2)
def Gq.g (Rc:PS) (k:Nat) (Ac:List (Int×ByteArray×Int×Int)) (Ag:Int):Option (PR (List Tree×Int)):=BG (fun (l1:List Tree) (x6:Int)=>BG (fun (l8:List Tree) (GX:Int)=>PR.bind (Di.f k Ac GX (⟨#[101,110,100]⟩:ByteArray)) fun BS=>some (PR.ok (l8,BS))) (fun J14=>(CH.f k Ac x6 (⟨#[101,108,115,101]⟩:ByteArray)).bind fun EC=>cond EC.1 (PR.bind (Rc.Du Ac EC.2 false) fun r19=>(apd 64 l1 [(Tree.mk r19.1 r19.2.1 r19.2.2.1 r19.2.2.2.1 r19.2.2.2.2.1)]).bind fun l28=>J14 l28 r19.2.2.2.2.2) (J14 l1 EC.2))) (fun J7=>Gq.l0 k Rc Ac J7 ([]) Ag)
theorem Gq.C2 {Rc:PS} (hR:Rc.Good) {k:Nat}:Gq.C (Gq.g Rc k):=by
 intro Ac Ag b0 Ax B5 Aw r h AJ
 refine C3 (args:=[pt b0]) Tryz.func68 rfl (By rfl) ?_
 intro A X hh_
 obtain ⟨AY,_⟩:=hh_
 unfold Gq.g at h
 refine K.eq (env':=[(0,pt b0)]) (l':=bk b0 #[Aa Aw Ac Ax,iv Ag] 93 :: X) rfl rfl (ksr (kx 1 (Ba (kx 1 (Ad ?_)))))
 obtain ⟨J7,hJ7,h⟩:=De h
 refine Df (τ:=(List Tree)×Int×Ab×Aq×Nat) (fun t=>[(0,pt b0),(3,Aa t.2.2.2.1 t.1 t.2.2.2.2)]) (fun t=>bk b0 #[Aa Aw Ac Ax,iv t.2.1] 93 :: t.2.2.1 :: X) (fun t=>J7 t.1 t.2.1=some r∧AK (AX 54) 54 t.2.2.1 (Aa t.2.2.2.1 t.1 t.2.2.2.2) t.1) ?_ ?_
 ·rintro ⟨l1,x6,h2,A3,k4⟩ ⟨h,o5⟩
  subst hJ7
  obtain ⟨J14,LD,h⟩:=De h
  refine Df (τ:=(List Tree)×Int×Ab×Aq×Nat) (fun t=>[(0,pt b0),(3,Aa t.2.2.2.1 t.1 t.2.2.2.2)]) (fun t=>bk b0 #[Aa Aw Ac Ax,iv t.2.1] 93 :: t.2.2.1 :: X) (fun t=>J14 t.1 t.2.1=some r∧AK (AX 54) 54 t.2.2.1 (Aa t.2.2.2.1 t.1 t.2.2.2.2) t.1) ?_ ?_
  ·rintro ⟨l8,GX,h9,F5,k11⟩ ⟨h,Ht⟩
   subst LD
   refine ksr (kx 1 (Cb h (fun _ LG=>(Di.ok LG AJ)) rfl ⟨(.tail _ AY),trivial⟩ (fun _ e=>Bf (kpn 1 e rfl)) fun BS h=>?_))
   rintro _ _ ⟨rfl,rfl⟩
   refine Fy (Ba (kx 2 (Ad (C9 ?_))))
   obtain rfl:=As h
   exact kdv (Aa F5 l8 k11) [h9,bk b0 #[Aa Aw Ac Ax,iv BS] 93] (K.An (BH (PR.okI ⟨h9,F5,k11,Ht,rfl,rfl⟩)))
  ·skip
   refine ksr (kx 1 (bnd h fun EC Kz h=>(CG (CH.ok Kz AJ) rfl ⟨(.tail _ AY),trivial⟩ (Ad ?_))))
   refine AU h (fun h=>?_) fun h=>?_
   ·refine Bu (kx 2 (Cb h (fun _ hr19=>(hR.Du hr19 AJ)) rfl ⟨(.tail _ AY),trivial⟩ (fun _ e=>Bf (kpn 1 e rfl)) fun r19 h=>?_))
    rintro _ _ ⟨h20,A21,k22,II,rfl,rfl⟩
    refine Bi (Dh #[iv r19.1,sv r19.2.1,iv r19.2.2.1,iv r19.2.2.2.1,Aa A21 r19.2.2.2.2.1 k22] 54 1 fun b25=>(K.An (K.An (DP (T:=54) (n:=1) (xs:=[(Tree.mk r19.1 r19.2.1 r19.2.2.1 r19.2.2.2.1 r19.2.2.2.2.1)]) (Cn.one (En (k:=r19.1) (t:=r19.2.1) (n:=r19.2.2.1) (a:=r19.2.2.2.1) 54 II)) rfl rfl (By rfl) fun h26 K9=>(K.Al (bnd h fun l28 Zf h=>(FQ rfl GO rfl Zf o5 K9 fun h29 JB k31 o32=>(kx 1 (Ad (K.An ?_))))))))))
    exact B4 (l28,r19.2.2.2.2.2,h29,JB,k31) ⟨h,o32⟩ sb rfl
   ·exact BV (AM (B4 (l1,EC.2,h2,A3,k4) ⟨h,o5⟩ sb rfl))
 ·skip
  refine C1 (Dl (K.An (Fx (τ:=(List Tree)×Int×Ab×Aq×Nat) (fun t=>[(0,pt b0),(3,Aa t.2.2.2.1 t.1 t.2.2.2.2)]) (fun t=>bk b0 #[Aa Aw Ac Ax,iv t.2.1] 93 :: t.2.2.1 :: X) (fun m t=>Gq.l0 m Rc Ac J7 t.1 t.2.1=some r∧AK (AX 54) 54 t.2.2.1 (Aa t.2.2.2.1 t.1 t.2.2.2.2) t.1) k ([],Ag,none_,none,0) ⟨h,(AK.nil (AX 54) 54 none_)⟩ sb rfl ?_)))
  clear h
  rintro m39 ⟨JN,x38,h34,A35,QW⟩ ⟨h,PD⟩
  cases m39 with
  | zero=>simp [Gq.l0] at h
  | succ m39 =>
   simp only [Gq.l0] at h
   refine C1 (ksr (kx 2 (Cb h (fun _ Ti=>(Dc.ok Ti AJ)) rfl ⟨(.tail _ AY),trivial⟩ (fun _ e=>Bf (B_ (Bf (B_ (Bf (kpn 1 e rfl)))))) fun r40 h=>?_)))
   rintro _ _ ⟨h41,A42,k43,T_,rfl,rfl⟩
   refine Bi (Dh #[iv r40.1,sv r40.2.1,iv r40.2.2.1,iv r40.2.2.2.1,Aa A42 r40.2.2.2.2.1 k43] 54 1 fun b46=>(K.An (K.An (DP (T:=54) (n:=1) (xs:=[(Tree.mk r40.1 r40.2.1 r40.2.2.1 r40.2.2.2.1 r40.2.2.2.2.1)]) (Cn.one (En (k:=r40.1) (t:=r40.2.1) (n:=r40.2.2.1) (a:=r40.2.2.2.1) 54 T_)) rfl rfl (By rfl) fun h47 Om=>(K.Al (bnd h fun l49 hl49 h=>(FQ rfl GO rfl hl49 PD Om fun h50 KK k52 N3=>(kx 1 (Ba (kx 1 ?_))))))))))
   refine K.An (Cb h (fun _ Tj=>(Di.ok Tj AJ)) rfl ⟨(.tail _ AY),trivial⟩ (fun _ e=>Bf (B_ (Bf (B_ (Bf (kpn 1 e rfl)))))) fun Ib h=>?_)
   rintro _ _ ⟨rfl,rfl⟩
   refine Fy (Ba (kx 2 (Cb h (fun _ ZD=>(hR.Du ZD AJ)) rfl ⟨(.tail _ AY),trivial⟩ (fun _ e=>Bf (B_ (Bf (B_ (Bf (kpn 1 e rfl)))))) fun Gg h=>?_)))
   rintro _ _ ⟨h57,Hg,k59,o60,rfl,rfl⟩
   refine Bi (Dh #[iv Gg.1,sv Gg.2.1,iv Gg.2.2.1,iv Gg.2.2.2.1,Aa Hg Gg.2.2.2.2.1 k59] 54 1 fun b62=>(K.An (K.An (DP (T:=54) (n:=1) (xs:=[(Tree.mk Gg.1 Gg.2.1 Gg.2.2.1 Gg.2.2.2.1 Gg.2.2.2.2.1)]) (Cn.one (En (k:=Gg.1) (t:=Gg.2.1) (n:=Gg.2.2.1) (a:=Gg.2.2.2.1) 54 o60)) rfl rfl (By rfl) fun h63 R6=>(K.Al (bnd h fun TM Bco h=>(FQ rfl GO rfl Bco N3 R6 fun h66 A67 k68 o69=>(kx 1 (Ba (kx 1 ?_))))))))))
   refine K.An (bnd h fun Gt ZH h=>(CG (CH.ok ZH AJ) rfl ⟨(.tail _ AY),trivial⟩ (kx 1 (Ad ?_))))
   refine AU h (fun h=>?_) fun h=>?_
   ·exact Fv (Wi rfl (Dg (Fw (AM (B4 (TM,Gt.2,h66,A67,k68) ⟨h,o69⟩ sb rfl)))))
   ·exact BV (B7 (AM (E3 m39 (TM,Gt.2,h66,A67,k68) (Nat.lt_succ_self _) ⟨h,o69⟩ sb rfl)))
def IN.g (Rc:PS) (k:Nat) (Ac:List (Int×ByteArray×Int×Int)) (Ag:Int) (a1:Int):Option (PR (Int×ByteArray×Int×Int×List Tree×Int)):=PR.bind (Hv.f k Ac Ag) fun r2=>BG (fun (x10:Int) (x11:Int) (l12:List Tree) (x17:Int)=>PR.bind (Di.f k Ac x17 (⟨#[100,111]⟩:ByteArray)) fun r19=>PR.bind (Rc.Du Ac r19 false) fun r21=>(apd 64 l12 [(Tree.mk r21.1 r21.2.1 r21.2.2.1 r21.2.2.2.1 r21.2.2.2.2.1)]).bind fun Jt=>PR.bind (Di.f k Ac r21.2.2.2.2.2 (⟨#[101,110,100]⟩:ByteArray)) fun Iw=>some (PR.ok (x10,(⟨#[]⟩:ByteArray),x11,a1,Jt,Iw))) (fun JD=>(CH.f k Ac r2.2.2.2.2.2 (⟨#[61]⟩:ByteArray)).bind fun Ix=>cond Ix.1 (PR.bind (Dc.f k Ac Ix.2 0) fun r39=>(apd 64 [(Tree.mk r2.1 r2.2.1 r2.2.2.1 r2.2.2.2.1 r2.2.2.2.2.1)] [(Tree.mk r39.1 r39.2.1 r39.2.2.1 r39.2.2.2.1 r39.2.2.2.2.1)]).bind fun l50=>PR.bind (Di.f k Ac r39.2.2.2.2.2 (⟨#[44]⟩:ByteArray)) fun r55=>PR.bind (Dc.f k Ac r55 0) fun r57=>(apd 64 l50 [(Tree.mk r57.1 r57.2.1 r57.2.2.1 r57.2.2.2.1 r57.2.2.2.2.1)]).bind fun TN=>(CH.f k Ac r57.2.2.2.2.2 (⟨#[44]⟩:ByteArray)).bind fun r71=>cond r71.1 (PR.bind (Dc.f k Ac r71.2 0) fun r73=>(apd 64 TN [(Tree.mk r73.1 r73.2.1 r73.2.2.1 r73.2.2.2.1 r73.2.2.2.2.1)]).bind fun K_=>JD 26 0 K_ r73.2.2.2.2.2) (JD 26 0 TN r71.2)) (BG (fun (x87:Int) (La:List Tree)=>PR.bind (Di.f k Ac x87 (⟨#[105,110]⟩:ByteArray)) fun Xh=>PR.bind (DN.f k Ac Xh) fun PW=>(apd 64 La PW.1).bind fun Re=>JD 27 ((La.length:Nat):Int) Re PW.2) (fun Vm=>(CH.f k Ac Ix.2 (⟨#[44]⟩:ByteArray)).bind fun Uq=>cond Uq.1 (PR.bind (HZ.f k Ac Uq.2) fun Xe=>(apd 64 [(Tree.mk r2.1 r2.2.1 r2.2.2.1 r2.2.2.2.1 r2.2.2.2.2.1)] Xe.1).bind fun Nv=>Vm Xe.2 Nv) (Vm Uq.2 ([(Tree.mk r2.1 r2.2.1 r2.2.2.1 r2.2.2.2.1 r2.2.2.2.2.1)])))))
theorem IN.C2 {Rc:PS} (hR:Rc.Good) {k:Nat}:IN.C (IN.g Rc k):=by
 intro Ac Ag a1 b0 Ax B5 Aw r h AJ
 refine C3 (args:=[pt b0,iv a1]) Tryz.func69 rfl (By rfl) ?_
 intro A X hh_
 obtain ⟨AY,_⟩:=hh_
 unfold IN.g at h
 refine K.eq (env':=[(0,pt b0),(1,iv a1)]) (l':=bk b0 #[Aa Aw Ac Ax,iv Ag] 93 :: X) rfl rfl (ksr (knp #[iv 0,sv noS,iv 0,iv 0,nS] 54 fun b1=>(Ba (kx 2 (K.An (Cb h (fun _ hr2=>(Hv.ok hr2 AJ)) rfl ⟨(.tail _ AY),trivial⟩ (fun _ e=>Bf (kpn 1 e rfl)) fun r2 h=>?_))))))
 rintro _ _ ⟨h3,A4,k5,o6,rfl,rfl⟩
 refine Bi (Dh #[iv r2.1,sv r2.2.1,iv r2.2.2.1,iv r2.2.2.2.1,Aa A4 r2.2.2.2.2.1 k5] 54 1 fun b8=>(kx 1 (knp #[iv 0,sv noS,iv 0,iv 0,nS] 54 fun b9=>(AQ 0 5 #[iv 27,sv noS,iv 0,iv a1,.slice (some ⟨b8,0,none⟩) 1 1] (Ad ?_)))))
 obtain ⟨JD,YT,h⟩:=De h
 refine Df (τ:=Int×Int×(List Tree)×Int×Ab×Aq×Nat) (fun t=>[(0,pt b0),(4,pt b1),(5,pt b9)]) (fun t=>bk b9 #[iv t.1,sv noS,iv t.2.1,iv a1,Aa t.2.2.2.2.2.1 t.2.2.1 t.2.2.2.2.2.2] 54 :: bk b0 #[Aa Aw Ac Ax,iv t.2.2.2.1] 93 :: bk b1 #[iv 0,sv noS,iv 0,iv 0,nS] 54 :: t.2.2.2.2.1 :: X) (fun t=>JD t.1 t.2.1 t.2.2.1 t.2.2.2.1=some r∧AK (AX 54) 54 t.2.2.2.2.1 (Aa t.2.2.2.2.2.1 t.2.2.1 t.2.2.2.2.2.2) t.2.2.1) ?_ ?_
 ·rintro ⟨x10,x11,l12,x17,h13,Hf,k15⟩ ⟨h,o16⟩
  subst YT
  refine ksr (kx 1 (K.An (Cb h (fun _ hr19=>(Di.ok hr19 AJ)) rfl ⟨(t3 AY),trivial⟩ (fun _ e=>Bf (kpn 3 e rfl)) fun r19 h=>?_)))
  rintro _ _ ⟨rfl,rfl⟩
  refine Fy (Ad (B8 (kpr [(0,0),(1,3),(2,0),(3,1),(4,1)] [1] (Ar 1 (AP 0 4 rfl (Ar 1 (kpt (ocp h (fun _ K0=>(hR.Du K0 AJ)) rfl ⟨(t3 AY),trivial⟩ (fun _ e=>Bf (kpn 3 e rfl)) fun r21 h=>?_))))))))
  rintro _ _ ⟨h22,A23,k24,Hc,rfl,rfl⟩
  refine Bi (Dm [2] rfl (kpt (HY #[iv r21.1,sv r21.2.1,iv r21.2.2.1,iv r21.2.2.2.1,Aa A23 r21.2.2.2.2.1 k24] 54 1 fun b27=>(Dm [3] rfl (Ca (K.An (K.An (DP (T:=54) (n:=1) (xs:=[(Tree.mk r21.1 r21.2.1 r21.2.2.1 r21.2.2.2.1 r21.2.2.2.2.1)]) (Cn.one (En (k:=r21.1) (t:=r21.2.1) (n:=r21.2.2.1) (a:=r21.2.2.2.1) 54 Hc)) rfl rfl (By rfl) fun h28 o29=>(K.Bx (bnd h fun Jt Zg h=>?_))))))))))
  refine FQ rfl GO rfl Zg o16 o29 fun h31 MN k33 Is=>(kx 1 (K.Al (AQ 4 1 #[iv x10,sv noS,iv x11,iv a1,Aa MN Jt k33] (Ba (kx 1 (K.Al (Cb h (fun _ Pj=>(Di.ok Pj AJ)) rfl ⟨(t3 AY),trivial⟩ (fun _ e=>Bf (kpn 3 e rfl)) fun Iw h=>?_)))))))
  rintro _ _ ⟨rfl,rfl⟩
  refine Fy (Ba (CV 1 0 5 rfl (K.An (K.drop (K.Al (AQ 0 5 #[iv x10,sv noS,iv x11,iv a1,Aa MN Jt k33] (Ad (C9 ?_))))))))
  obtain rfl:=As h
  exact Io 0 5 rfl [h31,bk b0 #[Aa Aw Ac Ax,iv Iw] 93] (K.drop (K.An (BH (PR.okI ⟨h31,MN,k33,Is,rfl,rfl⟩))))
 ·skip
  refine ksr (kx 1 (K.mv3 (bnd h fun Ix Pk h=>(CG (CH.ok Pk AJ) rfl ⟨(t4 AY),trivial⟩ (Ad ?_)))))
  refine AU h (fun h=>?_) fun h=>?_
  ·refine ksr (kx 1 (K.An (AQ 0 1 #[iv 26,sv noS,iv 0,iv a1,.slice (some ⟨b8,0,none⟩) 1 1] (Ad (B8 (kpr [(0,0),(1,3),(2,0),(3,1),(4,1)] [0] (Ar 1 (AP 0 4 rfl (Ar 1 (kpt ?_))))))))))
   refine K.An (ocp h (fun _ hr39=>(Dc.ok hr39 AJ)) rfl ⟨(t4 AY),trivial⟩ (fun _ e=>Bf (Bf (kpn 4 e rfl))) fun r39 h=>?_)
   rintro _ _ ⟨h40,Qq,k42,R3,rfl,rfl⟩
   refine Bi (Dm [2] rfl (kpt (HY #[iv r39.1,sv r39.2.1,iv r39.2.2.1,iv r39.2.2.2.1,Aa Qq r39.2.2.2.2.1 k42] 54 1 fun b45=>(Dm [3] rfl (Ca (K.An (K.An (DP (T:=54) (n:=1) (xs:=[(Tree.mk r39.1 r39.2.1 r39.2.2.1 r39.2.2.2.1 r39.2.2.2.2.1)]) (Cn.one (En (k:=r39.1) (t:=r39.2.1) (n:=r39.2.2.1) (a:=r39.2.2.2.1) 54 R3)) rfl rfl (By rfl) fun h46 Ol=>(K.Bx (K.Bx ?_))))))))))
   refine DP (T:=54) (n:=1) (xs:=[(Tree.mk r2.1 r2.2.1 r2.2.2.1 r2.2.2.2.1 r2.2.2.2.2.1)]) (Cn.one (En (k:=r2.1) (t:=r2.2.1) (n:=r2.2.2.1) (a:=r2.2.2.2.1) 54 o6)) rfl rfl (By rfl) fun h48 o49=>(K.An (K.An (bnd h fun l50 Bch h=>(FQ rfl GO rfl Bch o49 Ol fun h51 A52 k53 o54=>(kx 1 (K.Al (AQ 4 1 #[iv 26,sv noS,iv 0,iv a1,Aa A52 l50 k53] (Ba (kx 1 (K.Al ?_))))))))))
   refine Cb h (fun _ Tl=>(Di.ok Tl AJ)) rfl ⟨(t3 AY),trivial⟩ (fun _ e=>Bf (Bf (kpn 3 e rfl))) fun r55 h=>?_
   rintro _ _ ⟨rfl,rfl⟩
   refine Fy (Ad (B8 (kpr [(0,0),(1,3),(2,0),(3,1),(4,1)] [1] (Ar 1 (AP 0 4 rfl (Ar 1 (kpt (ocp h (fun _ Bfe=>(Dc.ok Bfe AJ)) rfl ⟨(t3 AY),trivial⟩ (fun _ e=>Bf (Bf (kpn 3 e rfl))) fun r57 h=>?_))))))))
   rintro _ _ ⟨h58,A59,k60,o61,rfl,rfl⟩
   refine Bi (Dm [2] rfl (kpt (HY #[iv r57.1,sv r57.2.1,iv r57.2.2.1,iv r57.2.2.2.1,Aa A59 r57.2.2.2.2.1 k60] 54 1 fun b63=>(Dm [3] rfl (Ca (K.An (K.An (DP (T:=54) (n:=1) (xs:=[(Tree.mk r57.1 r57.2.1 r57.2.2.1 r57.2.2.2.1 r57.2.2.2.2.1)]) (Cn.one (En (k:=r57.1) (t:=r57.2.1) (n:=r57.2.2.1) (a:=r57.2.2.2.1) 54 o61)) rfl rfl (By rfl) fun h64 o65=>(K.mv3 (bnd h fun TN Bcr h=>?_))))))))))
   refine FQ rfl GO rfl Bcr o54 o65 fun N_ Hh k69 KA=>(kx 1 (K.Al (AQ 4 1 #[iv 26,sv noS,iv 0,iv a1,Aa Hh TN k69] (Ba (kx 1 (K.Al (bnd h fun r71 Bfi h=>(CG (CH.ok Bfi AJ) rfl ⟨(t3 AY),trivial⟩ (Ad ?_)))))))))
   refine AU h (fun h=>?_) fun h=>?_
   ·refine kpr [(0,0),(1,3),(2,0),(3,1),(4,1)] [1] (Ar 1 (AP 0 4 rfl (Ar 1 (kpt (ocp h (fun _ ZI=>(Dc.ok ZI AJ)) rfl ⟨(t3 AY),trivial⟩ (fun _ e=>Bf (kpn 3 e rfl)) fun r73 h=>?_)))))
    rintro _ _ ⟨h74,A75,QX,PH,rfl,rfl⟩
    refine Bi (Dm [2] rfl (kpt (HY #[iv r73.1,sv r73.2.1,iv r73.2.2.1,iv r73.2.2.2.1,Aa A75 r73.2.2.2.2.1 QX] 54 1 fun b79=>(Dm [3] rfl (Ca (K.An (K.An (DP (T:=54) (n:=1) (xs:=[(Tree.mk r73.1 r73.2.1 r73.2.2.1 r73.2.2.2.1 r73.2.2.2.2.1)]) (Cn.one (En (k:=r73.1) (t:=r73.2.1) (n:=r73.2.2.1) (a:=r73.2.2.2.1) 54 PH)) rfl rfl (By rfl) fun h80 Uc=>(K.mv3 (bnd h fun K_ VT h=>?_))))))))))
    exact FQ rfl GO rfl VT KA Uc fun OZ A84 We o86=>(kx 1 (K.Al (AQ 4 1 #[iv 26,sv noS,iv 0,iv a1,Aa A84 K_ We] (Ad (K.An (K.mv3 (K.mv3 (K.mv3 (B4 (26,0,K_,r73.2.2.2.2.2,OZ,A84,We) ⟨h,o86⟩ sb rfl)))))))))
   ·exact BV (AM (K.Al (K.mv3 (K.Al (K.mv3 (B4 (26,0,TN,r71.2,N_,Hh,k69) ⟨h,KA⟩ sb rfl))))))
  ·obtain ⟨Vm,Ba4,h⟩:=De h
   refine Df (τ:=Int×(List Tree)×Ab×Aq×Nat) (fun t=>[(0,pt b0),(4,pt b1),(5,pt b9)]) (fun t=>bk b0 #[Aa Aw Ac Ax,iv t.1] 93 :: bk b9 #[iv 27,sv noS,iv 0,iv a1,Aa t.2.2.2.1 t.2.1 t.2.2.2.2] 54 :: bk b1 #[iv 0,sv noS,iv 0,iv 0,nS] 54 :: t.2.2.1 :: X) (fun t=>Vm t.1 t.2.1=some r∧AK (AX 54) 54 t.2.2.1 (Aa t.2.2.2.1 t.2.1 t.2.2.2.2) t.2.1) ?_ ?_
   ·rintro ⟨x87,La,h89,Vc,k91⟩ ⟨h,o92⟩
    subst Ba4
    refine ksr (kx 1 (kld 1 4 rfl (kx 2 (K.An (AQ 2 1 #[iv 27,sv noS,iv ((La.length:Nat):Int),iv a1,Aa Vc La k91] (Ba (kx 1 (K.An (Cb h (fun _ Bfq=>(Di.ok Bfq AJ)) rfl ⟨(t3 AY),trivial⟩ (fun _ e=>Bf (Bf (kpn 3 e rfl))) fun Xh h=>?_)))))))))
    rintro _ _ ⟨rfl,rfl⟩
    refine Fy (Ad (kpr [(0,0),(1,3),(2,0),(3,1)] [1] (Ar 1 (AP 0 4 rfl (Ar 1 (kpt (ocp h (fun _ Bfr=>(DN.ok Bfr AJ)) rfl ⟨(t3 AY),trivial⟩ (fun _ e=>Bf (kpn 3 e rfl)) fun PW h=>?_)))))))
    rintro _ _ ⟨h97,A98,k99,WB,rfl,rfl⟩
    refine Bi (Dm [2] rfl (Ca (K.Bx (bnd h fun Re Bbt h=>(FQ rfl GO rfl Bbt o92 WB fun A8w Ag6 Apk Bmu=>(kx 1 (K.Al (AQ 4 1 #[iv 27,sv noS,iv ((La.length:Nat):Int),iv a1,Aa Ag6 Re Apk] (Ad (K.An ?_))))))))))
    exact K.mv3 (K.mv3 (K.mv3 (B4 (27,((La.length:Nat):Int),Re,PW.2,A8w,Ag6,Apk) ⟨h,Bmu⟩ sb rfl)))
   ·skip
    refine ksr (kx 1 (bnd h fun Uq Bdf h=>(CG (CH.ok Bdf AJ) rfl ⟨(t4 AY),trivial⟩ (Ad ?_))))
    refine AU h (fun h=>?_) fun h=>?_
    ·refine kpr [(0,0),(1,3),(2,0),(3,1)] [1] (Ar 1 (AP 0 4 rfl (Ar 1 (kpt (ocp h (fun _ Bdi=>(HZ.ok Bdi AJ)) rfl ⟨(t4 AY),trivial⟩ (fun _ e=>Bf (Bf (kpn 4 e rfl))) fun Xe h=>?_)))))
     rintro _ _ ⟨Byb,Bw1,Bz4,Bmw,rfl,rfl⟩
     refine Bi (Dm [2] rfl (Ca (K.Bx (K.Bx (DP (T:=54) (n:=1) (xs:=[(Tree.mk r2.1 r2.2.1 r2.2.2.1 r2.2.2.2.1 r2.2.2.2.2.1)]) (Cn.one (En (k:=r2.1) (t:=r2.2.1) (n:=r2.2.2.1) (a:=r2.2.2.2.1) 54 o6)) rfl rfl (By rfl) fun Byh Acf=>(K.An (K.An (bnd h fun Nv VP h=>(FQ rfl GO rfl VP Acf Bmw fun A9a Ahe Apr Bm2=>(kx 1 ?_))))))))))
     exact K.Al (AQ 4 1 #[iv 27,sv noS,iv 0,iv a1,Aa Ahe Nv Apr] (Ad (K.An (K.mv3 (K.Al (K.mv3 (B4 (Xe.2,Nv,A9a,Ahe,Apr) ⟨h,Bm2⟩ sb rfl)))))))
    ·exact BV (AM (K.mv3 (K.mv3 (DP (T:=54) (n:=1) (xs:=[(Tree.mk r2.1 r2.2.1 r2.2.2.1 r2.2.2.2.1 r2.2.2.2.2.1)]) (Cn.one (En (k:=r2.1) (t:=r2.2.1) (n:=r2.2.2.1) (a:=r2.2.2.2.1) 54 o6)) rfl rfl (By rfl) fun h122 PA=>(K.mv3 (K.mv3 (K.mv3 (B4 (Uq.2,[(Tree.mk r2.1 r2.2.1 r2.2.2.1 r2.2.2.2.1 r2.2.2.2.2.1)],h122,(some ⟨b8,0,none⟩),1) ⟨h,PA⟩ sb rfl))))))))
def Gr.l0:Nat→(Ac:List (Int×ByteArray×Int×Int))→(NM:(List Tree)→Int→Option (PR (Int×ByteArray×Int×Int×List Tree×Int)))→(x42:Int)→(x43:ByteArray)→(x44:Int)→(x45:Int)→(l46:List Tree)→(l51:List Tree)→(x56:Int)→Option (PR (Int×ByteArray×Int×Int×List Tree×Int))
 | 0,_,_,_,_,_,_,_,_,_=>none
 | Hq+1,Ac,NM,x42,x43,x44,x45,l46,l51,x56=>BG (fun (_:Unit)=>(apd 64 l51 [(Tree.mk x42 x43 x44 x45 l46)]).bind fun Rk=>(CH.f Hq Ac x56 (⟨#[44]⟩:ByteArray)).bind fun Fc=>cond (!Fc.1) (NM Rk Fc.2) (PR.bind (DX.f Hq Ac Fc.2) fun Gt=>Gr.l0 Hq Ac NM Gt.1 Gt.2.1 Gt.2.2.1 Gt.2.2.2.1 Gt.2.2.2.2.1 Rk Gt.2.2.2.2.2)) (fun Vk=>(PM.f Hq x42 x43 x44 x45 l46).bind fun r76=>cond (!r76) (PR.bind (JT.f Hq Ac x56 x45) fun Xg=>Vk ()) (Vk ()))
def Gr.g (Rc:PS) (k:Nat) (Ac:List (Int×ByteArray×Int×Int)) (Ag:Int):Option (PR (Int×ByteArray×Int×Int×List Tree×Int)):=PR.bind (DX.f k Ac Ag) fun r2=>((EM.f k Ac r2.2.2.2.2.2 (⟨#[61]⟩:ByteArray)).bind fun r80=>cond (!r80) ((EM.f k Ac r2.2.2.2.2.2 (⟨#[44]⟩:ByteArray)).bind fun IS=>some (!IS)) (some false):Option Bool).bind fun q9=>cond q9 (BG (fun (_:Unit)=>some (PR.ok (23,(⟨#[]⟩:ByteArray),0,r2.2.2.2.1,[(Tree.mk r2.1 r2.2.1 r2.2.2.1 r2.2.2.2.1 r2.2.2.2.2.1)],r2.2.2.2.2.2))) (fun J11=>cond (r2.1 != 8) ((Et.f k Ac r2.2.2.2.2.2).bind fun r16=>PR.bind (JT.f k Ac r2.2.2.2.2.2 r16.2.2.2) fun EC=>J11 ()) (J11 ()))) (BG (fun (KZ:List Tree) (x25:Int)=>PR.bind (Di.f k Ac x25 (⟨#[61]⟩:ByteArray)) fun r27=>PR.bind (DN.f k Ac r27) fun r29=>(apd 64 KZ r29.1).bind fun Jh=>some (PR.ok (22,(⟨#[]⟩:ByteArray),((KZ.length:Nat):Int),r2.2.2.2.1,Jh,r29.2))) (fun NM=>Gr.l0 k Ac NM r2.1 r2.2.1 r2.2.2.1 r2.2.2.2.1 r2.2.2.2.2.1 ([]) r2.2.2.2.2.2))
theorem Gr.C2 {Rc:PS} (hR:Rc.Good) {k:Nat}:Gr.C (Gr.g Rc k):=by
 intro Ac Ag b0 Ax B5 Aw r h AJ
 refine C3 (args:=[pt b0]) Tryz.func70 rfl (By rfl) ?_
 intro A X hh_
 obtain ⟨AY,_⟩:=hh_
 unfold Gr.g at h
 refine K.eq (env':=[(0,pt b0)]) (l':=bk b0 #[Aa Aw Ac Ax,iv Ag] 93 :: X) rfl rfl (ksr (knp #[iv 0,sv noS,iv 0,iv 0,nS] 54 fun b1=>(Ba (kx 1 (K.An (Cb h (fun _ hr2=>(DX.ok hr2 AJ)) rfl ⟨(.tail _ AY),trivial⟩ (fun _ e=>Bf (kpn 1 e rfl)) fun r2 h=>?_))))))
 rintro _ _ ⟨h3,A4,k5,o6,rfl,rfl⟩
 refine Bi (knp #[iv 0,sv noS,iv 0,iv 0,nS] 54 fun b8=>(AQ 0 5 #[iv r2.1,sv r2.2.1,iv r2.2.2.1,iv r2.2.2.2.1,Aa A4 r2.2.2.2.2.1 k5] (Ad (B8 (bnd h fun q9 hq9 h=>?_)))))
 refine G_ [(0,pt b0),(2,pt b1),(3,pt b8),(15,bv q9)] (bk b8 #[iv r2.1,sv r2.2.1,iv r2.2.2.1,iv r2.2.2.2.1,Aa A4 r2.2.2.2.2.1 k5] 54 :: h3 :: bk b0 #[Aa Aw Ac Ax,iv r2.2.2.2.2.2] 93 :: bk b1 #[iv 0,sv noS,iv 0,iv 0,nS] 54 :: X) ?_ ?_
 ·clear hq9
  refine AU h (fun h=>?_) fun h=>?_
  ·obtain ⟨J11,YR,h⟩:=De h
   refine Df (τ:=Unit) (fun t=>[(2,pt b1),(3,pt b8)]) (fun t=>bk b8 #[iv r2.1,sv r2.2.1,iv r2.2.2.1,iv r2.2.2.2.1,Aa A4 r2.2.2.2.2.1 k5] 54 :: h3 :: bk b0 #[Aa Aw Ac Ax,iv r2.2.2.2.2.2] 93 :: bk b1 #[iv 0,sv noS,iv 0,iv 0,nS] 54 :: X) (fun t=>J11 ()=some r) ?_ ?_
   ·rintro ⟨⟩ h
    subst YR
    refine ksr (kx 1 (kld 0 3 rfl (CV 0 0 5 rfl (K.drop (Dh #[iv r2.1,sv r2.2.1,iv r2.2.2.1,iv r2.2.2.2.1,Aa A4 r2.2.2.2.2.1 k5] 54 1 fun b12=>(kx 1 (K.mv3 (AQ 0 5 #[iv 23,sv noS,iv 0,iv r2.2.2.2.1,.slice (some ⟨b12,0,none⟩) 1 1] (Ad (C9 ?_))))))))))
    refine DH (K.Al (K.Al (DP (T:=54) (n:=1) (xs:=[(Tree.mk r2.1 r2.2.1 r2.2.2.1 r2.2.2.2.1 r2.2.2.2.2.1)]) (Cn.one (En (k:=r2.1) (t:=r2.2.1) (n:=r2.2.2.1) (a:=r2.2.2.2.1) 54 o6)) rfl rfl (By rfl) fun h13 JP=>?_)))
    obtain rfl:=As h
    exact Io 1 5 rfl [h13,bk b0 #[Aa Aw Ac Ax,iv r2.2.2.2.2.2] 93] (K.An (K.drop (BH (PR.okI ⟨h13,(some ⟨b12,0,none⟩),1,JP,rfl,rfl⟩))))
   ·skip
    refine ksr (kx 1 (kld 0 0 rfl (kx 1 (Ad ?_))))
    refine AU h (fun h=>?_) fun h=>?_
    ·refine Bu (kx 2 (K.Al (bnd h fun r16 Ky h=>(CG (Et.ok Ky AJ) rfl ⟨(t3 AY),trivial⟩ (kx 1 (Cb h (fun _ Kz=>(JT.ok Kz AJ)) rfl ⟨(t3 AY),trivial⟩ (fun _ e=>Bf (Bf (kpn 3 e rfl))) fun EC h=>?_))))))
     rintro _ _ ⟨rfl,rfl⟩
     exact Fy (Ad (K.mv3 (K.An (K.mv3 (K.mv3 (B4 () h sb rfl))))))
    ·exact BV (AM (B4 () h sb rfl))
  ·refine BV (AM (ksr (kx 1 (kld 0 3 rfl (kx 1 (knp #[iv 0,sv noS,iv 0,iv 0,nS] 54 fun b19=>(AQ 0 5 #[iv 22,sv noS,iv 0,iv r2.2.2.2.1,nS] (Ad ?_))))))))
   obtain ⟨NM,Bao,h⟩:=De h
   refine Df (τ:=(List Tree)×Int×Ab×Aq×Nat) (fun t=>[(0,pt b0),(2,pt b1),(4,pt b19)]) (fun t=>bk b19 #[iv 22,sv noS,iv 0,iv r2.2.2.2.1,Aa t.2.2.2.1 t.1 t.2.2.2.2] 54 :: bk b0 #[Aa Aw Ac Ax,iv t.2.1] 93 :: bk b1 #[iv 0,sv noS,iv 0,iv 0,nS] 54 :: t.2.2.1 :: X) (fun t=>NM t.1 t.2.1=some r∧AK (AX 54) 54 t.2.2.1 (Aa t.2.2.2.1 t.1 t.2.2.2.2) t.1) ?_ ?_
   ·rintro ⟨KZ,x25,h21,I4,k23⟩ ⟨h,JR⟩
    subst Bao
    refine ksr (kx 1 (kld 0 4 rfl (kx 2 (AQ 2 1 #[iv 22,sv noS,iv ((KZ.length:Nat):Int),iv r2.2.2.2.1,Aa I4 KZ k23] (Ba (kx 1 (K.An (Cb h (fun _ K3=>(Di.ok K3 AJ)) rfl ⟨(t3 AY),trivial⟩ (fun _ e=>Bf (kpn 3 e rfl)) fun r27 h=>?_))))))))
    rintro _ _ ⟨rfl,rfl⟩
    refine Fy (Ad (B8 (kpr [(0,0),(1,3),(2,0),(3,1)] [1] (Ar 1 (AP 0 4 rfl (Ar 1 (kpt (ocp h (fun _ Th=>(DN.ok Th AJ)) rfl ⟨(t3 AY),trivial⟩ (fun _ e=>Bf (kpn 3 e rfl)) fun r29 h=>?_))))))))
    rintro _ _ ⟨h30,GL,k32,LU,rfl,rfl⟩
    refine Bi (Dm [2] rfl (Ca (K.Bx (bnd h fun Jh Tb h=>(FQ rfl GO rfl Tb JR LU fun h36 A37 k38 o39=>(kx 1 (K.Al (AQ 4 1 #[iv 22,sv noS,iv ((KZ.length:Nat):Int),iv r2.2.2.2.1,Aa A37 Jh k38] (Ba (CV 0 0 5 rfl ?_))))))))))
    refine K.drop (K.Al (AQ 0 5 #[iv 22,sv noS,iv ((KZ.length:Nat):Int),iv r2.2.2.2.1,Aa A37 Jh k38] (Ad (C9 ?_))))
    obtain rfl:=As h
    exact Io 0 5 rfl [h36,bk b0 #[Aa Aw Ac Ax,iv r29.2] 93] (K.drop (BH (PR.okI ⟨h36,A37,k38,o39,rfl,rfl⟩)))
   ·skip
    refine ksr (CV 1 0 5 rfl (K.An (K.drop (knp #[iv 0,sv noS,iv 0,iv 0,nS] 54 fun b40=>(AQ 0 5 #[iv r2.1,sv r2.2.1,iv r2.2.2.1,iv r2.2.2.2.1,Aa A4 r2.2.2.2.2.1 k5] (Ad (C1 (Dl (K.mv3 (K.mv5 ?_))))))))))
    refine K.mv5 (K.mv5 (K.mv5 (Fx (τ:=Int×ByteArray×Int×Int×(List Tree)×(List Tree)×Int×Nat×Ab×Aq×Nat×Ab×Aq×Nat) (fun t=>[(0,pt b0),(2,pt b1),(4,pt b19),(5,pt t.2.2.2.2.2.2.2.1)]) (fun t=>bk t.2.2.2.2.2.2.2.1 #[iv t.1,sv t.2.1,iv t.2.2.1,iv t.2.2.2.1,Aa t.2.2.2.2.2.2.2.2.2.1 t.2.2.2.2.1 t.2.2.2.2.2.2.2.2.2.2.1] 54 :: bk b19 #[iv 22,sv noS,iv 0,iv r2.2.2.2.1,Aa t.2.2.2.2.2.2.2.2.2.2.2.2.1 t.2.2.2.2.2.1 t.2.2.2.2.2.2.2.2.2.2.2.2.2] 54 :: bk b0 #[Aa Aw Ac Ax,iv t.2.2.2.2.2.2.1] 93 :: bk b1 #[iv 0,sv noS,iv 0,iv 0,nS] 54 :: t.2.2.2.2.2.2.2.2.1 :: t.2.2.2.2.2.2.2.2.2.2.2.1 :: X) (fun m t=>Gr.l0 m Ac NM t.1 t.2.1 t.2.2.1 t.2.2.2.1 t.2.2.2.2.1 t.2.2.2.2.2.1 t.2.2.2.2.2.2.1=some r∧AK (AX 54) 54 t.2.2.2.2.2.2.2.2.1 (Aa t.2.2.2.2.2.2.2.2.2.1 t.2.2.2.2.1 t.2.2.2.2.2.2.2.2.2.2.1) t.2.2.2.2.1∧AK (AX 54) 54 t.2.2.2.2.2.2.2.2.2.2.2.1 (Aa t.2.2.2.2.2.2.2.2.2.2.2.2.1 t.2.2.2.2.2.1 t.2.2.2.2.2.2.2.2.2.2.2.2.2) t.2.2.2.2.2.1) k (r2.1,r2.2.1,r2.2.2.1,r2.2.2.2.1,r2.2.2.2.2.1,[],r2.2.2.2.2.2,b40,h3,A4,k5,none_,none,0) ⟨h,o6,(AK.nil (AX 54) 54 none_)⟩ sb rfl ?_)))
    clear h
    rintro Hq ⟨x42,x43,x44,x45,l46,l51,x56,b41,h47,A48,k49,h52,Kl,k54⟩ ⟨h,R4,Hu⟩
    cases Hq with
    | zero=>simp [Gr.l0] at h
    | succ Hq =>
     simp only [Gr.l0] at h
     refine B8 (C1 ?_)
     obtain ⟨Vk,Bat,h⟩:=De h
     refine Df (τ:=Unit) (fun t=>[(0,pt b0),(2,pt b1),(4,pt b19),(5,pt b41)]) (fun t=>bk b41 #[iv x42,sv x43,iv x44,iv x45,Aa A48 l46 k49] 54 :: bk b19 #[iv 22,sv noS,iv 0,iv r2.2.2.2.1,Aa Kl l51 k54] 54 :: bk b0 #[Aa Aw Ac Ax,iv x56] 93 :: bk b1 #[iv 0,sv noS,iv 0,iv 0,nS] 54 :: h47 :: h52 :: X) (fun t=>Vk ()=some r) ?_ ?_
     ·rintro ⟨⟩ h
      subst Bat
      refine ksr (kx 1 (kld 1 4 rfl (CV 0 0 5 rfl (Dh #[iv x42,sv x43,iv x44,iv x45,Aa A48 l46 k49] 54 1 fun b59=>(K.mv5 (K.An (DP (T:=54) (n:=1) (xs:=[(Tree.mk x42 x43 x44 x45 l46)]) (Cn.one (En (k:=x42) (t:=x43) (n:=x44) (a:=x45) 54 R4)) rfl rfl (By rfl) fun h60 o61=>(K.mv5 (bnd h fun Rk Bcn h=>(FQ rfl GO rfl Bcn Hu o61 fun h63 A64 k65 o66=>?_))))))))))
      refine kx 1 (K.Al (AQ 4 1 #[iv 22,sv noS,iv 0,iv r2.2.2.2.1,Aa A64 Rk k65] (Ba (kx 1 (K.mv3 (bnd h fun Fc Ni h=>(CG (CH.ok Ni AJ) rfl ⟨(t4 AY),trivial⟩ (kx 1 (Ad ?_)))))))))
      refine AU h (fun h=>?_) fun h=>?_
      ·refine Fv (Wi rfl (Dg (Dg (Fw (AM (K.mv3 (K.drop (K.Al (K.mv3 (K.Al ?_))))))))))
       exact K.mv3 (B4 (Rk,Fc.2,h63,A64,k65) ⟨h,o66⟩ sb rfl)
      ·refine BV (B7 (AM (B8 (ksr (CV 3 0 5 rfl (K.mv3 (K.drop (FG (knp #[iv 0,sv noS,iv 0,iv 0,nS] 54 fun b69=>(AQ 0 5 #[iv x42,sv x43,iv x44,iv x45,Aa A48 l46 k49] ?_))))))))))
       refine FG (kx 1 (K.An (Cb h (fun _ ZH=>(DX.ok ZH AJ)) rfl ⟨(t4 AY),trivial⟩ (fun _ e=>Bf (B_ (Bf (kpn 4 e rfl)))) fun Gt h=>?_)))
       rintro _ _ ⟨h71,S4,T3,PG,rfl,rfl⟩
       exact Bi (K.Al (AQ 0 5 #[iv Gt.1,sv Gt.2.1,iv Gt.2.2.1,iv Gt.2.2.2.1,Aa S4 Gt.2.2.2.2.1 T3] (Ad (K.Bx (K.Al (K.mv5 (K.Bx (K.mv5 (K.mv5 (E3 Hq (Gt.1,Gt.2.1,Gt.2.2.1,Gt.2.2.2.1,Gt.2.2.2.2.1,Rk,Gt.2.2.2.2.2,b69,h71,S4,T3,h63,A64,k65) (Nat.lt_succ_self _) ⟨h,PG,o66⟩ sb rfl))))))))))
     ·skip
      refine ksr (CV 0 0 5 rfl (bnd h fun r76 Bfl h=>(G2 (PM.ok Bfl (AK.rd R4)) ⟨(.tail _ (.tail _ (.tail _ (.tail _ (.head _))))),trivial⟩ (kx 1 (Ad ?_)))))
      refine AU h (fun h=>?_) fun h=>?_
      ·refine Bu (kx 2 (kld 0 3 rfl (K.Al (Cb h (fun _ ZK=>(JT.ok ZK AJ)) rfl ⟨(t5 AY),trivial⟩ (fun _ e=>Bf (B_ (Bf (Bf (B_ (Bf (kpn 5 e rfl))))))) fun Xg h=>?_))))
       rintro _ _ ⟨rfl,rfl⟩
       exact Fy (Ad (K.mv5 (K.mv5 (K.mv5 (K.mv3 (K.mv5 (K.mv5 (B4 () h sb rfl))))))))
      ·exact BV (AM (B4 () h sb rfl))
 ·have h:=hq9
  clear hq9
  refine Bu (kx 1 (K.Al (bnd h fun r80 Pq h=>(CG (EM.ok Pq AJ) rfl ⟨(t3 AY),trivial⟩ (kx 2 ?_)))))
  refine Ee 11 h (fun h=>?_) fun h=>?_
  ·exact kx 1 (bnd h fun IS Nj h=>(CG (EM.ok Nj AJ) rfl ⟨(t3 AY),trivial⟩ (kx 2 (Ad (K.mv3 (K.An (K.mv3 (K.mv3 (Dd ⟨gr,gr,gr,gb (As h),trivial⟩)))))))))
  ·exact kx 4 (Ad (K.mv3 (K.An (K.mv3 (K.mv3 (Dd ⟨gr,gr,gr,gb (As h),trivial⟩))))))
def PS.at:Nat→PS
 | 0=>⟨fun _ _ _=>none,fun _ _=>none,fun _ _=>none,fun _ _=>none,fun _ _ _=>none,fun _ _=>none⟩
 | k+1=>⟨Du.g (PS.at k) k,IM.g (PS.at k) k,IQ.g (PS.at k) k,Gq.g (PS.at k) k,IN.g (PS.at k) k,Gr.g (PS.at k) k⟩
theorem PS.good:∀ k,(PS.at k).Good
 | 0=>⟨(by unfold Du.C;intros;rename_i h _;cases (show (none:Option _)=some _ from h)),(by unfold IM.C;intros;rename_i h _;cases (show (none:Option _)=some _ from h)),(by unfold IQ.C;intros;rename_i h _;cases (show (none:Option _)=some _ from h)),(by unfold Gq.C;intros;rename_i h _;cases (show (none:Option _)=some _ from h)),(by unfold IN.C;intros;rename_i h _;cases (show (none:Option _)=some _ from h)),(by unfold Gr.C;intros;rename_i h _;cases (show (none:Option _)=some _ from h))⟩
 | k+1=>⟨Du.C2 (k:=k) (PS.good k),IM.C2 (k:=k) (PS.good k),IQ.C2 (k:=k) (PS.good k),Gq.C2 (k:=k) (PS.good k),IN.C2 (k:=k) (PS.good k),Gr.C2 (k:=k) (PS.good k)⟩
def Du.f (k:Nat):=Du.g (PS.at k) k
theorem Du.ok {k:Nat}:Du.C (Du.f k):=Du.C2 (k:=k) (PS.good k)
structure H1 where
 Ef:Int→ByteArray→Int→Int→List Tree→Option (Int)
def Ef.C (fC:Int→ByteArray→Int→Int→List Tree→Option (Int)):Prop:=∀ {Ac Fl Af r:Int} {Ag:ByteArray} {At:List Tree} {B9:Ab} {Bm:Aq} {Bt:Nat} (h:fC Ac Ag Fl Af At=some r) (Cj:RdR (AX 54) B9 (Aa Bm At Bt) At),Ct Tryz.prog 17 #[.agg #[iv Ac,sv Ag,iv Fl,iv Af,Aa Bm At Bt]] [] [B9] (fun e l1=>e=.returned (iv r)∧l1=[])
structure H1.Good (R:H1):Prop where
 Ef:Ef.C R.Ef
def Ef.l0:Nat→(Rc:H1)→(At:List Tree)→(J3:Int→Option (Int))→(x4:Int)→(x5:Int)→Option (Int)
 | 0,_,_,_,_,_=>none
 | m6+1,Rc,At,J3,x4,x5=>cond (decide (x5 < ((At.length:Nat):Int))) ((Bh At x5).bind fun x8=>(Rc.Ef x8.kind x8.text x8.n x8.at_ x8.kids).bind fun r18=>Ef.l0 m6 Rc At J3 (if r18 > x4 then r18 else x4) (IntKind.i64.wrap (x5+1))) (J3 x4)
def Ef.g (Rc:H1) (k:Nat) (Ac:Int) (Ag:ByteArray) (Fl:Int) (Af:Int) (At:List Tree):Option (Int):=BG (fun (x2:Int)=>some (IntKind.i64.wrap (x2+1))) (fun J3=>Ef.l0 k Rc At J3 0 0)
theorem Ef.C2 {Rc:H1} (hR:Rc.Good) {k:Nat}:Ef.C (Ef.g Rc k):=by
 intro Ac Fl Af r Ag At B9 Bm Bt h Cj
 refine C3 (args:=[.agg #[iv Ac,sv Ag,iv Fl,iv Af,Aa Bm At Bt]]) Tryz.func17 rfl (By rfl) ?_
 intro A X hh_
 obtain ⟨Pc,_⟩:=hh_
 unfold Ef.g at h
 refine ksr (knp #[iv Ac,sv Ag,iv Fl,iv Af,Aa Bm At Bt] 54 fun b1=>(kx 1 (Ba (kx 1 (Ad ?_)))))
 obtain ⟨J3,hJ3,h⟩:=De h
 refine Df (τ:=Int) (fun t=>[(3,iv t)]) (fun t=>X) (fun t=>J3 t=some r) ?_ ?_
 ·rintro x2 h
  subst hJ3
  refine ksr (kx 3 (Ad (C9 ?_)))
  obtain rfl:=As h
  exact kdn rfl
 ·skip
  refine ksr (kx 1 (kld 0 4 rfl (K.drop (kx 2 (Ad (C1 (Fx (τ:=Int×Int) (fun t=>[(3,iv t.1),(7,Aa Bm At Bt),(8,iv ((At.length:Nat):Int)),(9,iv t.2)]) (fun t=>X) (fun m t=>Ef.l0 m Rc At J3 t.1 t.2=some r) k (0,0) h sb rfl ?_)))))))
  clear h
  rintro m6 ⟨x4,x5⟩ h
  cases m6 with
  | zero=>simp [Ef.l0] at h
  | succ m6 =>
   simp only [Ef.l0] at h
   refine ksr (kx 1 (Ad (B8 ?_)))
   refine AU h (fun h=>?_) fun h=>?_
   ·refine BV (AM (B8 (C1 (ksr (bnd h fun x8 hx8 h=>(DI (T:=54) (kd:=.i64) (R:=(AX 54)) rfl hx8 Cj fun p9 u12 q13 e10 y11=>?_))))))
    obtain ⟨Hf,k15,rfl,o16⟩:=DF 54 q13
    refine Fq rfl e10 Pc (knp #[iv 0,sv noS,iv 0,iv 0,nS] 54 fun b17=>(AQ 0 5 #[iv x8.kind,sv x8.text,iv x8.n,iv x8.at_,Aa Hf x8.kids k15] (FG (kx 1 (CV 0 0 5 rfl (K.drop (bnd h fun r18 Bd7 h=>(G2 (hR.Ef Bd7 o16) ⟨Pc,trivial⟩ (kx 2 (knl ?_))))))))))
    exact B7 (AM (Bu (kx 2 (Ad (E3 m6 ((if r18 > x4 then r18 else x4),IntKind.i64.wrap (x5+1)) (Nat.lt_succ_self _) h sb rfl)))))
   ·exact Fv (Dg (Dg (Fw (AM (B4 x4 h sb rfl)))))
def H1.at:Nat→H1
 | 0=>⟨fun _ _ _ _ _=>none⟩
 | k+1=>⟨Ef.g (H1.at k) k⟩
theorem H1.good:∀ k,(H1.at k).Good
 | 0=>⟨(by unfold Ef.C;intros;rename_i h _;cases (show (none:Option _)=some _ from h))⟩
 | k+1=>⟨Ef.C2 (k:=k) (H1.good k)⟩
def Ef.f (k:Nat):=Ef.g (H1.at k) k
theorem Ef.ok {k:Nat}:Ef.C (Ef.f k):=Ef.C2 (k:=k) (H1.good k)
def LY.f (k:Nat) (a0:ByteArray):Option (Int×ByteArray×Int×Int×List Tree×Int×Int):=(TR.f k a0).bind fun r3=>cond (r3.2.1 != 0) (some (0,(⟨#[]⟩:ByteArray),0,0,[],r3.2.1,r3.2.2)) (PR.elim (Du.f k r3.1 0 true) (fun QO=>some (0,(⟨#[]⟩:ByteArray),0,0,[],4,QO)) fun r10=>BG (fun (_:Unit)=>some (r10.1,r10.2.1,r10.2.2.1,r10.2.2.2.1,r10.2.2.2.2.1,0,0)) (fun Vi=>(Et.f k r3.1 r10.2.2.2.2.2).bind fun EC=>cond (EC.1 != 6) ((Et.f k r3.1 r10.2.2.2.2.2).bind fun r19=>PR.elim (JT.f k r3.1 r10.2.2.2.2.2 r19.2.2.2) (fun i21=>some (0,(⟨#[]⟩:ByteArray),0,0,[],4,i21)) fun r20=>Vi ()) (Vi ())))
theorem LY.ok {k:Nat} {a0:ByteArray} {G:Ab} {r:Int×ByteArray×Int×Int×List Tree×Int×Int} (h:LY.f k a0=some r) (hG:EE G): Ct Tryz.prog 15 #[sv a0] [] [G] (fun e l1=>∃ (H0_:Ab) (A0_:Aq) (c0_:Nat),AK (AX 54) 54 H0_ (Aa A0_ r.2.2.2.2.1 c0_) r.2.2.2.2.1∧e=.returned (.tuple #[.agg #[iv r.1,sv r.2.1,iv r.2.2.1,iv r.2.2.2.1,Aa A0_ r.2.2.2.2.1 c0_],.agg #[iv r.2.2.2.2.2.1,iv r.2.2.2.2.2.2]])∧l1=[H0_]):=by
 refine Akp (args:=[sv a0]) Tryz.func15 rfl (By rfl) ?_
 intro A X hh_
 obtain ⟨BU,_⟩:=hh_
 unfold LY.f at h
 refine ksr (knp #[iv 0,sv noS,iv 0,iv 0,nS] 54 fun b1=>(knp #[iv 0,iv 0] 28 fun b2=>(Ba (kx 1 (bnd h fun r3 hr3 h=>(Bz (TR.ok hr3 hG) rfl ⟨(t2 BU),trivial⟩ ?_))))))
 rintro _ _ ⟨h4,A5,k6,o7,rfl,rfl⟩
 refine Fy (kx 4 (K.An (AQ 0 2 #[iv r3.2.1,iv r3.2.2] (Ad (B8 (ksr (kx 1 (kld 0 0 rfl (kx 1 (Ad ?_))))))))))
 refine AU h (fun h=>?_) fun h=>?_
 ·refine B8 (Aax (kpr [(0,0),(1,3),(2,1)] [0] (Ar 1 (GR 0 0 2 rfl (kpt (K.Al (ost 0 5 #[iv 0,sv noS,iv 0,iv 0,nS] (Dm [1] rfl (Ca (K.An ?_))))))))))
  refine AQ 0 2 #[iv r3.2.1,iv r3.2.2] (K.Al (K.drop (knl (Aay (AM (C9 (DH ?_)))))))
  obtain rfl:=As h
  exact Aru (v:=.tuple #[.agg #[iv 0,sv noS,iv 0,iv 0,nS],.agg #[iv r3.2.1,iv r3.2.2]]) [.val (iv 0),.val (sv noS),.val (iv 0),.val (iv 0),.val (nS),.val (iv r3.2.1),.val (iv r3.2.2)] [.ld ⟨b1,0,none⟩ (iv 0),.ld ⟨b1,1,none⟩ (sv noS),.ld ⟨b1,2,none⟩ (iv 0),.ld ⟨b1,3,none⟩ (iv 0),.ld ⟨b1,4,none⟩ (nS),.ld ⟨b2,0,none⟩ (iv r3.2.1),.ld ⟨b2,1,none⟩ (iv r3.2.2)] [none_] (by kernel_rfl) (by kernel_rfl) ⟨⟨1,_,_,_,rfl,rfl,rfl⟩,⟨1,_,_,_,rfl,rfl,rfl⟩,⟨1,_,_,_,rfl,rfl,rfl⟩,⟨1,_,_,_,rfl,rfl,rfl⟩,⟨1,_,_,_,rfl,rfl,rfl⟩,⟨0,_,_,_,rfl,rfl,rfl⟩,⟨0,_,_,_,rfl,rfl,rfl⟩,trivial⟩ (Dl (K.An (K.drop (K.An (K.drop (BH ⟨none_,none,0,(AK.nil (AX 54) 54 none_),rfl,rfl⟩))))))
 ·refine BV (AM (ksr (kx 1 (Ar0 { target:=.fn (.func 25) #[pt b1,pt b2],args:=#[] } (by kernel_rfl) (by kernel_rfl) (by kernel_rfl) (Ba (kx 2 (knp #[Aa A5 r3.1 k6,iv 0] 93 fun b9=>(kx 1 (Ba (kx 1 ?_))))))))))
  rcases W_ h with ⟨QO,LF,h⟩ | ⟨r10,LF,h⟩
  ·refine Bz (Du.ok LF (Ah.rd o7)) rfl ⟨(.tail _ (.head _)),trivial⟩ ?_
   rintro _ _ ⟨rfl,rfl⟩
   refine WA (Bf (K.An (K.drop (K.An ?_))))
   obtain rfl:=As h
   exact Wh (v:=.tuple #[.agg #[iv 0,sv noS,iv 0,iv 0,nS],.agg #[iv 4,iv QO]]) (bk b1 #[iv 0,sv noS,iv 0,iv 0,nS] 54 :: bk b2 #[iv 4,iv QO] 28 :: X) (fun _=>by kernel_rfl) (fun w_ hw_=>Au0 hw_) [.val (iv 0),.val (sv noS),.val (iv 0),.val (iv 0),.val (nS),.val (iv 4),.val (iv QO)] [.ld ⟨b1,0,none⟩ (iv 0),.ld ⟨b1,1,none⟩ (sv noS),.ld ⟨b1,2,none⟩ (iv 0),.ld ⟨b1,3,none⟩ (iv 0),.ld ⟨b1,4,none⟩ (nS),.ld ⟨b2,0,none⟩ (iv 4),.ld ⟨b2,1,none⟩ (iv QO)] [none_] (by kernel_rfl) (by kernel_rfl) ⟨⟨0,_,_,_,rfl,rfl,rfl⟩,⟨0,_,_,_,rfl,rfl,rfl⟩,⟨0,_,_,_,rfl,rfl,rfl⟩,⟨0,_,_,_,rfl,rfl,rfl⟩,⟨0,_,_,_,rfl,rfl,rfl⟩,⟨1,_,_,_,rfl,rfl,rfl⟩,⟨1,_,_,_,rfl,rfl,rfl⟩,trivial⟩ fun w_ hw_=>(⟨⟨none_,none,0,(AK.nil (AX 54) 54 none_),rfl,rfl⟩,St.TY 1 hw_.tail.tail⟩)
  refine Bz (Du.ok LF (Ah.rd o7)) rfl ⟨(.tail _ (.head _)),trivial⟩ ?_
  rintro _ _ ⟨h11,A12,k13,JP,rfl,rfl⟩
  refine Bi (K.Bx (AQ 0 5 #[iv r10.1,sv r10.2.1,iv r10.2.2.1,iv r10.2.2.2.1,Aa A12 r10.2.2.2.2.1 k13] (Ad ?_)))
  obtain ⟨Vi,Bag,h⟩:=De h
  refine Df (τ:=Unit) (fun t=>[(2,pt b1),(3,pt b2)]) (fun t=>bk b1 #[iv r10.1,sv r10.2.1,iv r10.2.2.1,iv r10.2.2.2.1,Aa A12 r10.2.2.2.2.1 k13] 54 :: h11 :: bk b2 #[iv r3.2.1,iv r3.2.2] 28 :: X) (fun t=>Vi ()=some r) ?_ ?_
  ·rintro ⟨⟩ h
   subst Bag
   refine ksr (CV 0 0 5 rfl (kx 1 (AQ 0 5 #[iv r10.1,sv r10.2.1,iv r10.2.2.1,iv r10.2.2.2.1,Aa A12 r10.2.2.2.2.1 k13] (K.Al (AQ 0 2 #[iv 0,iv 0] (Ad (C9 ?_)))))))
   obtain rfl:=As h
   exact Art (fun _=>by kernel_rfl) (Bqk (pt b1) (pt b2)) (v:=.tuple #[.agg #[iv r10.1,sv r10.2.1,iv r10.2.2.1,iv r10.2.2.2.1,Aa A12 r10.2.2.2.2.1 k13],.agg #[iv 0,iv 0]]) [.val (iv r10.1),.val (sv r10.2.1),.val (iv r10.2.2.1),.val (iv r10.2.2.2.1),.val (Aa A12 r10.2.2.2.2.1 k13),.val (iv 0),.val (iv 0)] [.ld ⟨b1,0,none⟩ (iv r10.1),.ld ⟨b1,1,none⟩ (sv r10.2.1),.ld ⟨b1,2,none⟩ (iv r10.2.2.1),.ld ⟨b1,3,none⟩ (iv r10.2.2.2.1),.ld ⟨b1,4,none⟩ (Aa A12 r10.2.2.2.2.1 k13),.ld ⟨b2,0,none⟩ (iv 0),.ld ⟨b2,1,none⟩ (iv 0)] [h11] (by kernel_rfl) (by kernel_rfl) ⟨⟨1,_,_,_,rfl,rfl,rfl⟩,⟨1,_,_,_,rfl,rfl,rfl⟩,⟨1,_,_,_,rfl,rfl,rfl⟩,⟨1,_,_,_,rfl,rfl,rfl⟩,⟨1,_,_,_,rfl,rfl,rfl⟩,⟨0,_,_,_,rfl,rfl,rfl⟩,⟨0,_,_,_,rfl,rfl,rfl⟩,trivial⟩ (K.drop (K.drop (Arv ⟨h11,A12,k13,JP,rfl,rfl⟩)))
  ·skip
   refine ksr (kx 1 (K.Al (bnd h fun EC Kz h=>(CG (Et.ok Kz (Ah.rd o7)) rfl ⟨(.tail _ (.tail _ (.tail _ (.head _)))),trivial⟩ (kx 2 (Ad ?_))))))
   refine AU h (fun h=>?_) fun h=>?_
   ·refine Bu (kx 2 (bnd h fun r19 hr19 h=>(CG (Et.ok hr19 (Ah.rd o7)) rfl ⟨(.tail _ (.tail _ (.tail _ (.head _)))),trivial⟩ (kx 1 ?_))))
    rcases W_ h with ⟨i21,Pf,h⟩ | ⟨r20,Pf,h⟩
    ·refine Bz (JT.ok Pf (Ah.rd o7)) rfl ⟨(.tail _ (.tail _ (.tail _ (.head _)))),trivial⟩ ?_
     rintro _ _ ⟨rfl,rfl⟩
     refine WA (Bf (K.An (K.drop (K.Al (K.drop ?_)))))
     obtain rfl:=As h
     exact Wh (v:=.tuple #[.agg #[iv 0,sv noS,iv 0,iv 0,nS],.agg #[iv 4,iv i21]]) (bk b1 #[iv 0,sv noS,iv 0,iv 0,nS] 54 :: bk b2 #[iv 4,iv i21] 28 :: X) (fun _=>by kernel_rfl) (fun w_ hw_=>Au0 hw_) [.val (iv 0),.val (sv noS),.val (iv 0),.val (iv 0),.val (nS),.val (iv 4),.val (iv i21)] [.ld ⟨b1,0,none⟩ (iv 0),.ld ⟨b1,1,none⟩ (sv noS),.ld ⟨b1,2,none⟩ (iv 0),.ld ⟨b1,3,none⟩ (iv 0),.ld ⟨b1,4,none⟩ (nS),.ld ⟨b2,0,none⟩ (iv 4),.ld ⟨b2,1,none⟩ (iv i21)] [none_] (by kernel_rfl) (by kernel_rfl) ⟨⟨0,_,_,_,rfl,rfl,rfl⟩,⟨0,_,_,_,rfl,rfl,rfl⟩,⟨0,_,_,_,rfl,rfl,rfl⟩,⟨0,_,_,_,rfl,rfl,rfl⟩,⟨0,_,_,_,rfl,rfl,rfl⟩,⟨1,_,_,_,rfl,rfl,rfl⟩,⟨1,_,_,_,rfl,rfl,rfl⟩,trivial⟩ fun w_ hw_=>(⟨⟨none_,none,0,(AK.nil (AX 54) 54 none_),rfl,rfl⟩,St.TY 1 hw_.tail.tail⟩)
    exact CG (JT.ok Pf (Ah.rd o7)) rfl ⟨(.tail _ (.tail _ (.tail _ (.head _)))),trivial⟩ (K.drop (K.mv3 (K.drop (Ad (B4 () h sb rfl)))))
   ·exact BV (AM (K.drop (K.mv3 (K.drop (B4 () h sb rfl)))))
abbrev Tk:=Int×ByteArray×Int×Int
inductive PV (α:Type) where
 | ok (a:α) (r:List Tk)
 | bad (at_:Int)
def PV.bind {α β:Type} (x:Option (PV α)) (f:α→List Tk→Option (PV β)):Option (PV β) :=
 match x with
 | none=>none
 | some (.ok a r)=>f a r
 | some (.bad i)=>some (.bad i)
def hd (ts:List Tk):Tk:=ts.headD (6,⟨#[]⟩,0,0)
def isT (w:ByteArray) (t:Tk):Bool:=(t.1 == 2 || t.1 == 5) && t.2.1.toList == w.toList
def AB (w:ByteArray) (ts:List Tk):Bool:=isT w (hd ts)
def E_ (w:ByteArray) (ts:List Tk):Option (PV Unit):=if AB w ts then some (.ok () ts.tail) else some (.bad (hd ts).2.2.2)
abbrev Ed:ByteArray:=⟨#[59]⟩
abbrev G0:ByteArray:=⟨#[44]⟩
abbrev G1:ByteArray:=⟨#[61]⟩
abbrev Pz:ByteArray:=⟨#[40]⟩
abbrev JM:ByteArray:=⟨#[41]⟩
abbrev T7:ByteArray:=⟨#[91]⟩
abbrev kRb:ByteArray:=⟨#[93]⟩
abbrev kLc:ByteArray:=⟨#[123]⟩
abbrev QZ:ByteArray:=⟨#[125]⟩
abbrev Aau:ByteArray:=⟨#[46]⟩
abbrev T6:ByteArray:=⟨#[35]⟩
abbrev P0:ByteArray:=⟨#[45]⟩
abbrev T9:ByteArray:=⟨#[114,101,116,117,114,110]⟩
abbrev Nt:ByteArray:=⟨#[102,117,110,99,116,105,111,110]⟩
abbrev EV:ByteArray:=⟨#[101,110,100]⟩
abbrev T4:ByteArray:=⟨#[101,108,115,101]⟩
abbrev T5:ByteArray:=⟨#[101,108,115,101,105,102]⟩
abbrev Jf:ByteArray:=⟨#[100,111]⟩
abbrev Arq:ByteArray:=⟨#[119,104,105,108,101]⟩
abbrev kIf:ByteArray:=⟨#[105,102]⟩
abbrev Arl:ByteArray:=⟨#[116,104,101,110]⟩
abbrev Aq5:ByteArray:=⟨#[102,111,114]⟩
abbrev kIn:ByteArray:=⟨#[105,110]⟩
abbrev Aq7:ByteArray:=⟨#[108,111,99,97,108]⟩
abbrev Aqw:ByteArray:=⟨#[98,114,101,97,107]⟩
abbrev Aq8:ByteArray:=⟨#[110,105,108]⟩
abbrev Arp:ByteArray:=⟨#[116,114,117,101]⟩
abbrev Aq3:ByteArray:=⟨#[102,97,108,115,101]⟩
abbrev T8:ByteArray:=⟨#[110,111,116]⟩
abbrev kOr:ByteArray:=⟨#[111,114]⟩
abbrev Aqt:ByteArray:=⟨#[97,110,100]⟩
abbrev kLt:ByteArray:=⟨#[60]⟩
abbrev kGt:ByteArray:=⟨#[62]⟩
abbrev kLe:ByteArray:=⟨#[60,61]⟩
abbrev kGe:ByteArray:=⟨#[62,61]⟩
abbrev kNe:ByteArray:=⟨#[126,61]⟩
abbrev Aqy:ByteArray:=⟨#[61,61]⟩
abbrev Aqx:ByteArray:=⟨#[46,46]⟩
abbrev Arc:ByteArray:=⟨#[43]⟩
abbrev Arj:ByteArray:=⟨#[42]⟩
abbrev Ari:ByteArray:=⟨#[47,47]⟩
abbrev Ara:ByteArray:=⟨#[37]⟩
abbrev noB:ByteArray:=⟨#[]⟩
def It (kind:Int) (ts:List Tk):Option (PV Tree) :=
 if (hd ts).1=1 then some (.ok (.mk kind (hd ts).2.1 0 (hd ts).2.2.2 []) ts.tail) else some (.bad (hd ts).2.2.2)
def G3:Nat→List Tree→List Tk→Option (PV (List Tree))
 | 0,_,_=>none
 | f+1,acc,ts=>if AB G0 ts then PV.bind (It 6 ts.tail) fun n r=>G3 f (acc++[n]) r else some (.ok acc ts)
def LX (f:Nat) (ts:List Tk):Option (PV (List Tree)):=PV.bind (It 6 ts) fun n r=>G3 f [n] r
def D_ (ts:List Tk):Int :=
 if AB kOr ts then 1 else if AB Aqt ts then 2
 else if AB kLt ts || AB kGt ts || AB kLe ts || AB kGe ts || AB kNe ts || AB Aqy ts then 3
 else if AB Aqx ts then 4 else if AB Arc ts || AB P0 ts then 5 else if AB Arj ts || AB Ari ts || AB Ara ts then 6 else 0
def Gk (ts:List Tk):Bool:=(hd ts).1 == 6 || AB EV ts || AB T4 ts || AB T5 ts
mutual
def D7:Nat→Int→List Tk→Option (PV Tree)
 | 0,_,_=>none
 | f+1,least,ts=>PV.bind (Fs f ts) fun n r=>F1 f least n r
def F1:Nat→Int→Tree→List Tk→Option (PV Tree)
 | 0,_,_,_=>none
 | f+1,least,n,ts =>
  if D_ ts≤least then some (.ok n ts)
  else PV.bind (D7 f (if D_ ts=4 then 3 else D_ ts) ts.tail) fun m r=>F1 f least (.mk 11 (hd ts).2.1 0 n.at_ [n,m]) r
def Fs:Nat→List Tk→Option (PV Tree)
 | 0,_=>none
 | f+1,ts =>
  if (hd ts).1=3 then some (.ok (.mk 4 noB (hd ts).2.2.1 (hd ts).2.2.2 []) ts.tail)
  else if (hd ts).1=4 then some (.ok (.mk 5 (hd ts).2.1 0 (hd ts).2.2.2 []) ts.tail)
  else if AB Aq8 ts then some (.ok (.mk 1 noB 0 (hd ts).2.2.2 []) ts.tail)
  else if AB Arp ts then some (.ok (.mk 2 noB 0 (hd ts).2.2.2 []) ts.tail)
  else if AB Aq3 ts then some (.ok (.mk 3 noB 0 (hd ts).2.2.2 []) ts.tail)
  else if AB T8 ts || AB T6 ts || AB P0 ts then PV.bind (D7 f 7 ts.tail) fun m r=>some (.ok (.mk 10 (hd ts).2.1 0 (hd ts).2.2.2 [m]) r)
  else if AB kLc ts then PV.bind (Fr f [] ts.tail) fun l r=>some (.ok (.mk 12 noB 0 (hd ts).2.2.2 l) r)
  else EL f ts
def Fr:Nat→List Tree→List Tk→Option (PV (List Tree))
 | 0,_,_=>none
 | f+1,acc,ts =>
  if AB QZ ts then some (.ok acc ts.tail)
  else PV.bind (F8 f ts) fun x r =>
   if AB G0 r then Fr f (acc++[x]) r.tail
   else if AB Ed r then Fr f (acc++[x]) r.tail
   else PV.bind (E_ QZ r) fun _ r=>some (.ok (acc++[x]) r)
def F8:Nat→List Tk→Option (PV Tree)
 | 0,_=>none
 | f+1,ts =>
  if AB T7 ts then
   PV.bind (D7 f 0 ts.tail) fun k r=>PV.bind (E_ kRb r) fun _ r=>PV.bind (E_ G1 r) fun _ r=>PV.bind (D7 f 0 r) fun v r=>some (.ok (.mk 14 noB 0 (hd ts).2.2.2 [k,v]) r)
  else if (hd ts).1=1∧(hd ts.tail).1=5∧(hd ts.tail).2.1.toList=G1.toList then
   PV.bind (D7 f 0 ts.tail.tail) fun v r=>some (.ok (.mk 14 noB 0 (hd ts).2.2.2 [.mk 5 (hd ts).2.1 0 (hd ts).2.2.2 [],v]) r)
  else PV.bind (D7 f 0 ts) fun v r=>some (.ok (.mk 13 noB 0 (hd ts).2.2.2 [v]) r)
def EL:Nat→List Tk→Option (PV Tree)
 | 0,_=>none
 | f+1,ts =>
  if AB Pz ts then PV.bind (D7 f 0 ts.tail) fun e r=>PV.bind (E_ JM r) fun _ r=>EB f (hd ts).2.2.2 (.mk 9 noB 0 (hd ts).2.2.2 [e]) r
  else PV.bind (It 6 ts) fun n r=>EB f (hd ts).2.2.2 n r
def EB:Nat→Int→Tree→List Tk→Option (PV Tree)
 | 0,_,_,_=>none
 | f+1,at_,n,ts =>
  if AB T7 ts then PV.bind (D7 f 0 ts.tail) fun e r=>PV.bind (E_ kRb r) fun _ r=>EB f at_ (.mk 7 noB 0 at_ [n,e]) r
  else if AB Aau ts then PV.bind (It 5 ts.tail) fun e r=>EB f at_ (.mk 7 noB 0 at_ [n,e]) r
  else if AB Pz ts then
   PV.bind (if AB JM ts.tail then some (.ok [] ts.tail) else DT f ts.tail) fun l r=>PV.bind (E_ JM r) fun _ r=>EB f at_ (.mk 8 noB 0 at_ (n :: l)) r
  else some (.ok n ts)
def DT:Nat→List Tk→Option (PV (List Tree))
 | 0,_=>none
 | f+1,ts=>PV.bind (D7 f 0 ts) fun e r=>F0 f [e] r
def F0:Nat→List Tree→List Tk→Option (PV (List Tree))
 | 0,_,_=>none
 | f+1,acc,ts=>if AB G0 ts then PV.bind (D7 f 0 ts.tail) fun e r=>F0 f (acc++[e]) r else some (.ok acc ts)
end
mutual
def DM:Nat→Bool→List Tk→Option (PV Tree)
 | 0,_,_=>none
 | f+1,chunk,ts=>Dt f chunk (hd ts).2.2.2 [] ts
def Dt:Nat→Bool→Int→List Tree→List Tk→Option (PV Tree)
 | 0,_,_,_,_=>none
 | f+1,chunk,at_,acc,ts =>
  if AB Ed ts then Dt f chunk at_ acc ts.tail
  else if AB T9 ts then
   PV.bind (if Gk ts.tail || AB Ed ts.tail then some (.ok [] ts.tail) else DT f ts.tail) fun l r =>
    some (.ok (.mk 20 noB 0 at_ (acc++[.mk 30 noB 0 (hd ts).2.2.2 l])) (if AB Ed r then r.tail else r))
  else if chunk && AB Nt ts then PV.bind (EY f ts) fun x r=>Dt f chunk at_ (acc++[x]) r
  else if Gk ts then some (.ok (.mk 20 noB 0 at_ acc) ts)
  else PV.bind (EK f ts) fun x r=>Dt f chunk at_ (acc++[x]) r
def EY:Nat→List Tk→Option (PV Tree)
 | 0,_=>none
 | f+1,ts =>
  PV.bind (It 6 ts.tail) fun nm r=>PV.bind (E_ Pz r) fun _ r =>
   PV.bind (if AB JM r then some (.ok [] r) else LX f r) fun ps r=>PV.bind (E_ JM r) fun _ r =>
    PV.bind (DM f false r) fun b r=>PV.bind (E_ EV r) fun _ r=>some (.ok (.mk 31 nm.text ps.length (hd ts).2.2.2 (ps++[b])) r)
/-- do, a block, end. -/
def E9:Nat→List Tk→Option (PV Tree)
 | 0,_=>none
 | f+1,ts=>PV.bind (E_ Jf ts) fun _ r=>PV.bind (DM f false r) fun b r=>PV.bind (E_ EV r) fun _ r=>some (.ok b r)
def EK:Nat→List Tk→Option (PV Tree)
 | 0,_=>none
 | f+1,ts =>
  if AB Jf ts then PV.bind (E9 f ts) fun b r=>some (.ok (.mk 28 noB 0 (hd ts).2.2.2 [b]) r)
  else if AB Arq ts then PV.bind (D7 f 0 ts.tail) fun e r=>PV.bind (E9 f r) fun b r=>some (.ok (.mk 25 noB 0 (hd ts).2.2.2 [e,b]) r)
  else if AB kIf ts then PV.bind (Fz f [] ts.tail) fun l r=>some (.ok (.mk 24 noB 0 (hd ts).2.2.2 l) r)
  else if AB Aq5 ts then F9 f (hd ts).2.2.2 ts.tail
  else if AB Aq7 ts then
   PV.bind (LX f ts.tail) fun l r=>PV.bind (if AB G1 r then DT f r.tail else some (.ok [] r)) fun es r=>some (.ok (.mk 21 noB l.length (hd ts).2.2.2 (l++es)) r)
  else if AB Aqw ts then some (.ok (.mk 29 noB 0 (hd ts).2.2.2 []) ts.tail)
  else FA f ts
def Fz:Nat→List Tree→List Tk→Option (PV (List Tree))
 | 0,_,_=>none
 | f+1,acc,ts =>
  PV.bind (D7 f 0 ts) fun e r=>PV.bind (E_ Arl r) fun _ r=>PV.bind (DM f false r) fun b r =>
   if AB T5 r then Fz f (acc++[e]++[b]) r.tail
   else if AB T4 r then PV.bind (DM f false r.tail) fun c r=>PV.bind (E_ EV r) fun _ r=>some (.ok (acc++[e]++[b]++[c]) r)
   else PV.bind (E_ EV r) fun _ r=>some (.ok (acc++[e]++[b]) r)
def F9:Nat→Int→List Tk→Option (PV Tree)
 | 0,_,_=>none
 | f+1,at_,ts =>
  PV.bind (It 6 ts) fun n r =>
   if AB G1 r then
    PV.bind (D7 f 0 r.tail) fun a r=>PV.bind (E_ G0 r) fun _ r=>PV.bind (D7 f 0 r) fun b r =>
     PV.bind (if AB G0 r then PV.bind (D7 f 0 r.tail) fun c r=>some (.ok [c] r) else some (.ok [] r)) fun cs r=>PV.bind (E9 f r) fun bd r =>
      some (.ok (.mk 26 noB 0 at_ ([n]++[a]++[b]++cs++[bd])) r)
   else
    PV.bind (G3 f [n] r) fun l r=>PV.bind (E_ kIn r) fun _ r=>PV.bind (DT f r) fun es r=>PV.bind (E9 f r) fun bd r =>
     some (.ok (.mk 27 noB l.length at_ (l++es++[bd])) r)
def FA:Nat→List Tk→Option (PV Tree)
 | 0,_=>none
 | f+1,ts =>
  PV.bind (EL f ts) fun e r =>
   if AB G1 r || AB G0 r then
    PV.bind (EZ f [] e r) fun l r=>PV.bind (E_ G1 r) fun _ r=>PV.bind (DT f r) fun es r=>some (.ok (.mk 22 noB l.length e.at_ (l++es)) r)
   else if e.kind=8 then some (.ok (.mk 23 noB 0 e.at_ [e]) r) else some (.bad (hd r).2.2.2)
/-- The targets of an assignment, from e on. -/
def EZ:Nat→List Tree→Tree→List Tk→Option (PV (List Tree))
 | 0,_,_,_=>none
 | f+1,acc,e,ts =>
  if e.kind=6∨e.kind=7 then
   if AB G0 ts then PV.bind (EL f ts.tail) fun e' r=>EZ f (acc++[e]) e' r else some (.ok (acc++[e]) ts)
  else some (.bad e.at_)
end
def Good:List Tk→Prop
 | []=>False
 | [t]=>t.1=6
 | t :: u :: ts=>t.1≠6∧Good (u :: ts)
theorem Good.tail {ts:List Tk} (h:Good ts) (h6:(hd ts).1≠6):Good ts.tail∧ts.tail.length+1=ts.length∧ts.tail <:+ ts:=by
 cases ts with
 | nil=>exact h.elim
 | cons t ts =>
  cases ts with
  | nil=>exact absurd h h6
  | cons u ts=>exact ⟨h.2,rfl,List.suffix_cons t _⟩
theorem AW {w:ByteArray} {ts:List Tk} (h:AB w ts=true):(hd ts).1≠6:=by
 unfold AB isT at h
 intro h6
 rw [h6] at h
 simp at h
def Fwd {α:Type} (n:Nat) (ts:List Tk):PV α→Prop
 | .ok _ r=>Good r∧r.length+n≤ts.length∧r <:+ ts
 | .bad _=>True
def Step {α:Type} (n:Nat) (ts:List Tk) (x:Option (PV α)):Prop:=Good ts→∀ v,x=some v→Fwd n ts v
section
variable {α β:Type} {n m:Nat} {ts:List Tk} {x:Option (PV α)} {f:α→List Tk→Option (PV β)}
theorem bind_some {v:PV β} (h:PV.bind x f=some v):(∃ i,x=some (.bad i)∧v=.bad i)∨∃ a r,x=some (.ok a r)∧f a r=some v:=by
 unfold PV.bind at h
 split at h
 ·cases h
 ·exact .inr ⟨_,_,rfl,h⟩
 ·exact .inl ⟨_,rfl,(As h).symm⟩
theorem CN (h1:Step n ts x) (h2:∀ a r,Step m r (f a r)):Step (n+m) ts (PV.bind x f):=fun hg v hv=>by
 rcases bind_some hv with ⟨i,_,rfl⟩ | ⟨a,r,hx,hf⟩
 ·trivial
 ·obtain ⟨g1,g2,g3⟩:=h1 hg _ hx
  have:=h2 a r g1 v hf
  cases v with
  | bad=>trivial
  | ok b s =>
   obtain ⟨g4,g5,g6⟩:=this
   exact ⟨g4,by omega,g6.trans g3⟩
theorem D6 (h:Step n ts x) (hm:m≤n):Step m ts x:=fun hg v hv=>by
 have:=h hg v hv
 cases v with
 | bad=>trivial
 | ok b s=>exact ⟨this.1,by have:=this.2.1;omega,this.2.2⟩
theorem step_none:Step n ts (none:Option (PV α)):=fun _ _ h=>by cases h
theorem step_bad {i:Int}:Step n ts (some (.bad i):Option (PV α)):=fun _ _ h=>by cases h;trivial
theorem step_ok {a:α}:Step 0 ts (some (.ok a ts)):=fun hg _ h=>by cases h;exact ⟨hg,Nat.le_refl _,List.suffix_refl _⟩
theorem DU (h6:(hd ts).1≠6) (h:Step m ts.tail x):Step (m+1) ts x:=fun hg v hv=>by
 obtain ⟨g1,g2,g3⟩:=hg.tail h6
 have:=h g1 v hv
 cases v with
 | bad=>trivial
 | ok b s=>exact ⟨this.1,by have:=this.2.1;omega,this.2.2.trans g3⟩
theorem D0 {c:Prop} [Decidable c] {y z:Option (PV α)} (h1:c→Step n ts y) (h2:¬ c→Step n ts z):Step n ts (if c then y else z):=by
 by_cases h:c
 ·rw [if_pos h];exact h1 h
 ·rw [if_neg h];exact h2 h
theorem Ew (w:ByteArray) (ts:List Tk):Step 1 ts (E_ w ts):=D0 (fun h=>DU (AW h) step_ok) fun _=>step_bad
theorem J6 (k:Int) (ts:List Tk):Step 1 ts (It k ts):=D0 (fun h=>DU (by omega) step_ok) fun _=>step_bad
theorem U6:∀ (f:Nat) (acc:List Tree) (ts:List Tk),Step 0 ts (G3 f acc ts)
 | 0,_,_=>step_none
 | f+1,acc,ts=>by
  unfold G3
  exact D0 (fun h=>D6 (DU (AW h) (CN (J6 6 _) fun _ _=>U6 f _ _)) (Nat.zero_le _)) fun _=>step_ok
theorem U5 (f:Nat) (ts:List Tk):Step 1 ts (LX f ts):=CN (J6 6 ts) fun _ _=>U6 f _ _
end
structure A0u (f:Nat):Prop where
 exp:∀ least ts,Step 1 ts (D7 f least ts)
 loop:∀ least n ts,Step 0 ts (F1 f least n ts)
 operand:∀ ts,Step 1 ts (Fs f ts)
 fields:∀ acc ts,Step 1 ts (Fr f acc ts)
 field:∀ ts,Step 1 ts (F8 f ts)
 El:∀ ts,Step 1 ts (EL f ts)
 DA:∀ at_ n ts,Step 0 ts (EB f at_ n ts)
 Do:∀ ts,Step 1 ts (DT f ts)
 Gz:∀ acc ts,Step 0 ts (F0 f acc ts)
theorem OI {ts:List Tk} (h:D_ ts≠0):(hd ts).1≠6:=by
 intro h6
 have hf:∀ w,AB w ts=false:=fun w=>by
  cases hw:AB w ts with
  | false=>rfl
  | true=>exact absurd h6 (AW hw)
 exact h (by simp [D_,hf])
theorem Yf (ts:List Tk):0≤D_ ts∧D_ ts≤6:=by
 unfold D_
 repeat' split
 all_goals omega
theorem KG:∀ f,A0u f
 | 0=>by constructor <;> intros <;> (first | unfold D7 | unfold F1 | unfold Fs | unfold Fr | unfold F8 | unfold EL | unfold EB | unfold DT | unfold F0) <;> exact step_none
 | f+1=>by
  have ih:=KG f
  constructor
  ·intro least ts;unfold D7
   exact CN (ih.operand ts) fun _ _=>ih.loop _ _ _
  ·intro least n ts;unfold F1
   refine D0 (fun _=>step_ok) fun h=>?_
   by_cases h0:D_ ts=0
   ·-- a least below 0 is never asked for; then nothing is eaten
    intro hg v hv
    by_cases h6:(hd ts).1=6
    ·rcases bind_some hv with ⟨i,_,rfl⟩ | ⟨a,r,hx,hf⟩
     ·trivial
     ·exfalso
      cases ts with
      | nil=>exact hg
      | cons t ts =>
       cases ts with
       | nil =>
        have hx':D7 f (if D_ [t]=4 then 3 else D_ [t]) []=some (.ok a r):=hx
        clear hx hf hv
        cases f with
        | zero=>unfold D7 at hx';cases hx'
        | succ f =>
         unfold D7 at hx'
         rcases bind_some hx' with ⟨i,_,he⟩ | ⟨a',r',hx,hf⟩
         ·cases he
         ·cases f with
          | zero=>unfold Fs at hx;cases hx
          | succ f =>
           unfold Fs at hx
           simp only [hd,List.headD_nil,AB,isT] at hx
           cases f with
           | zero=>unfold EL at hx;simp at hx
           | succ f=>unfold EL at hx;simp [AB,isT,hd,It,PV.bind] at hx
       | cons u ts=>exact hg.1 h6
    ·exact (D6 (DU h6 (CN (ih.exp _ _) fun _ _=>ih.loop _ _ _)) (Nat.zero_le _)) hg v hv
   ·exact D6 (DU (OI h0) (CN (ih.exp _ _) fun _ _=>ih.loop _ _ _)) (Nat.zero_le _)
  ·intro ts;unfold Fs
   refine D0 (fun h=>DU (by omega) step_ok) fun _=>?_
   refine D0 (fun h=>DU (by omega) step_ok) fun _=>?_
   refine D0 (fun h=>DU (AW h) step_ok) fun _=>?_
   refine D0 (fun h=>DU (AW h) step_ok) fun _=>?_
   refine D0 (fun h=>DU (AW h) step_ok) fun _=>?_
   refine D0 (fun h=>?_) fun _=>?_
   ·have h6:(hd ts).1≠6:=by
     simp only [Bool.or_eq_true] at h
     rcases h with (h | h) | h <;> exact AW h
    exact D6 (DU h6 (CN (ih.exp _ _) fun _ _=>step_ok)) (by omega)
   refine D0 (fun h=>?_) fun _=>?_
   ·exact D6 (DU (AW h) (CN (ih.fields _ _) fun _ _=>step_ok)) (by omega)
   ·exact ih.El ts
  ·intro acc ts;unfold Fr
   refine D0 (fun h=>DU (AW h) step_ok) fun _=>?_
   refine D6 (CN (m:=0) (ih.field ts) fun x r=>?_) (by omega)
   refine D0 (fun h=>D6 (DU (AW h) (ih.fields _ _)) (by omega)) fun _=>?_
   refine D0 (fun h=>D6 (DU (AW h) (ih.fields _ _)) (by omega)) fun _=>?_
   exact D6 (CN (Ew _ _) fun _ _=>step_ok) (by omega)
  ·intro ts;unfold F8
   refine D0 (fun h=>?_) fun _=>?_
   ·exact D6 (DU (AW h) (CN (ih.exp _ _) fun _ _=>CN (Ew _ _) fun _ _=>CN (Ew _ _) fun _ _=>CN (ih.exp _ _) fun _ _=>step_ok)) (by omega)
   refine D0 (fun h=>?_) fun _=>?_
   ·obtain ⟨h1,h2,_⟩:=h
    exact D6 (DU (by omega) (DU (by omega) (CN (ih.exp _ _) fun _ _=>step_ok))) (by omega)
   ·exact CN (ih.exp _ _) fun _ _=>step_ok
  ·intro ts;unfold EL
   refine D0 (fun h=>?_) fun _=>?_
   ·exact D6 (DU (AW h) (CN (ih.exp _ _) fun _ _=>CN (Ew _ _) fun _ _=>ih.DA _ _ _)) (by omega)
   ·exact CN (J6 _ _) fun _ _=>ih.DA _ _ _
  ·intro at_ n ts;unfold EB
   refine D0 (fun h=>?_) fun _=>?_
   ·exact D6 (DU (AW h) (CN (ih.exp _ _) fun _ _=>CN (Ew _ _) fun _ _=>ih.DA _ _ _)) (by omega)
   refine D0 (fun h=>?_) fun _=>?_
   ·exact D6 (DU (AW h) (CN (J6 _ _) fun _ _=>ih.DA _ _ _)) (by omega)
   refine D0 (fun h=>?_) fun _=>step_ok
   ·refine D6 (DU (AW h) (CN (n:=0) ?_ fun _ _=>CN (Ew _ _) fun _ _=>ih.DA _ _ _)) (by omega)
    exact D0 (fun _=>step_ok) fun _=>D6 (ih.Do _) (by omega)
  ·intro ts;unfold DT
   exact CN (ih.exp _ _) fun _ _=>ih.Gz _ _
  ·intro acc ts;unfold F0
   exact D0 (fun h=>D6 (DU (AW h) (CN (ih.exp _ _) fun _ _=>ih.Gz _ _)) (by omega)) fun _=>step_ok
structure A0v (f:Nat):Prop where
 block:∀ c ts,Step 0 ts (DM f c ts)
 Es:∀ c at_ acc ts,Step 0 ts (Dt f c at_ acc ts)
 function:∀ ts,(hd ts).1≠6→Step 1 ts (EY f ts)
 body:∀ ts,Step 1 ts (E9 f ts)
 stat:∀ ts,Step 1 ts (EK f ts)
 branches:∀ acc ts,Step 1 ts (Fz f acc ts)
 for_:∀ at_ ts,Step 1 ts (F9 f at_ ts)
 plain:∀ ts,Step 1 ts (FA f ts)
 targets:∀ acc e ts,Step 0 ts (EZ f acc e ts)
theorem stepS:∀ f,A0v f
 | 0=>by constructor <;> intros <;> (first | unfold DM | unfold Dt | unfold EY | unfold E9 | unfold EK | unfold Fz | unfold F9 | unfold FA | unfold EZ) <;> exact step_none
 | f+1=>by
  have ih:=stepS f
  have ie:=KG f
  constructor
  ·intro c ts;unfold DM
   exact ih.Es _ _ _ _
  ·intro c at_ acc ts;unfold Dt
   refine D0 (fun h=>D6 (DU (AW h) (ih.Es _ _ _ _)) (by omega)) fun _=>?_
   refine D0 (fun h=>?_) fun _=>?_
   ·refine D6 (DU (AW h) (CN (n:=0) (m:=0) ?_ fun l r=>?_)) (by omega)
    ·exact D0 (fun _=>step_ok) fun _=>D6 (ie.Do _) (by omega)
    ·by_cases h:AB Ed r=true
     ·rw [if_pos h];exact D6 (DU (AW h) step_ok) (by omega)
     ·rw [if_neg h];exact step_ok
   refine D0 (fun h=>?_) fun _=>?_
   ·simp only [Bool.and_eq_true] at h
    exact D6 (CN (ih.function _ (AW h.2)) fun _ _=>ih.Es _ _ _ _) (by omega)
   refine D0 (fun _=>step_ok) fun _=>?_
   exact D6 (CN (ih.stat _) fun _ _=>ih.Es _ _ _ _) (by omega)
  ·intro ts h6;unfold EY
   refine D6 (DU h6 (CN (J6 _ _) fun _ _=>CN (Ew _ _) fun _ r=>CN (n:=0) ?_ fun _ _=>CN (Ew _ _) fun _ _=>CN (ih.block _ _) fun _ _=>CN (Ew _ _) fun _ _=>step_ok)) (by omega)
   exact D0 (fun _=>step_ok) fun _=>D6 (U5 f r) (by omega)
  ·intro ts;unfold E9
   exact D6 (CN (Ew _ _) fun _ _=>CN (ih.block _ _) fun _ _=>CN (Ew _ _) fun _ _=>step_ok) (by omega)
  ·intro ts;unfold EK
   refine D0 (fun h=>CN (ih.body _) fun _ _=>step_ok) fun _=>?_
   refine D0 (fun h=>D6 (DU (AW h) (CN (ie.exp _ _) fun _ _=>CN (ih.body _) fun _ _=>step_ok)) (by omega)) fun _=>?_
   refine D0 (fun h=>D6 (DU (AW h) (CN (ih.branches _ _) fun _ _=>step_ok)) (by omega)) fun _=>?_
   refine D0 (fun h=>D6 (DU (AW h) (ih.for_ _ _)) (by omega)) fun _=>?_
   refine D0 (fun h=>?_) fun _=>?_
   ·refine D6 (DU (AW h) (CN (U5 f _) fun _ r=>CN (n:=0) ?_ fun _ _=>step_ok)) (by omega)
    exact D0 (fun h=>D6 (DU (AW h) (ie.Do _)) (by omega)) fun _=>step_ok
   refine D0 (fun h=>DU (AW h) step_ok) fun _=>ih.plain _
  ·intro acc ts;unfold Fz
   refine D6 (CN (ie.exp _ _) fun _ _=>CN (Ew _ _) fun _ _=>CN (m:=0) (ih.block _ _) fun _ r=>?_) (by omega)
   refine D0 (fun h=>D6 (DU (AW h) (ih.branches _ _)) (by omega)) fun _=>?_
   refine D0 (fun h=>D6 (DU (AW h) (CN (ih.block _ _) fun _ _=>CN (Ew _ _) fun _ _=>step_ok)) (by omega)) fun _=>?_
   exact D6 (CN (Ew _ _) fun _ _=>step_ok) (by omega)
  ·intro at_ ts;unfold F9
   refine D6 (CN (m:=0) (J6 _ _) fun n r=>?_) (by omega)
   refine D0 (fun h=>?_) fun _=>?_
   ·refine D6 (DU (AW h) (CN (ie.exp _ _) fun _ _=>CN (Ew _ _) fun _ _=>CN (ie.exp _ _) fun _ r=>CN (n:=0) ?_ fun _ _=>CN (ih.body _) fun _ _=>step_ok)) (by omega)
    exact D0 (fun h=>D6 (DU (AW h) (CN (ie.exp _ _) fun _ _=>step_ok)) (by omega)) fun _=>step_ok
   ·exact D6 (CN (U6 _ _ _) fun _ _=>CN (Ew _ _) fun _ _=>CN (ie.Do _) fun _ _=>CN (ih.body _) fun _ _=>step_ok) (by omega)
  ·intro ts;unfold FA
   refine D6 (CN (m:=0) (ie.El _) fun e r=>?_) (by omega)
   refine D0 (fun h=>?_) fun _=>?_
   ·exact D6 (CN (ih.targets _ _ _) fun _ _=>CN (Ew _ _) fun _ _=>CN (ie.Do _) fun _ _=>step_ok) (by omega)
   ·exact D0 (fun _=>step_ok) fun _=>step_bad
  ·intro acc e ts;unfold EZ
   refine D0 (fun _=>?_) fun _=>step_bad
   exact D0 (fun h=>D6 (DU (AW h) (CN (ie.El _) fun _ _=>ih.targets _ _ _)) (by omega)) fun _=>step_ok
theorem CO {α β:Type} {n:Nat} {ts:List Tk} {x:Option (PV α)} {f:α→List Tk→Option (PV β)} (hg:Good ts) (h1:∃ v,x=some v) (hs:Step n ts x) (h2:∀ a r,Good r→r.length+n≤ts.length→∃ v,f a r=some v):∃ v,PV.bind x f=some v:=by
 obtain ⟨v,rfl⟩:=h1
 cases v with
 | bad i=>exact ⟨_,rfl⟩
 | ok a r =>
  obtain ⟨g1,g2,_⟩:=hs hg _ rfl
  exact h2 a r g1 g2
theorem DE {α:Type} {c:Prop} [Decidable c] {y z:Option (PV α)} (h1:c→∃ v,y=some v) (h2:¬ c→∃ v,z=some v):∃ v,(if c then y else z)=some v:=by
 by_cases h:c
 ·rw [if_pos h];exact h1 h
 ·rw [if_neg h];exact h2 h
theorem IW (w:ByteArray) (ts:List Tk):∃ v,E_ w ts=some v:=DE (fun _=>⟨_,rfl⟩) fun _=>⟨_,rfl⟩
theorem Qi (k:Int) (ts:List Tk):∃ v,It k ts=some v:=DE (fun _=>⟨_,rfl⟩) fun _=>⟨_,rfl⟩
theorem RZ:∀ (f:Nat) (acc:List Tree) (ts:List Tk),Good ts→16 * ts.length+1≤f→∃ v,G3 f acc ts=some v
 | 0,_,_,_,h=>by omega
 | f+1,acc,ts,hg,h=>by
  unfold G3
  refine DE (fun hc=>?_) fun _=>⟨_,rfl⟩
  obtain ⟨g1,g2,_⟩:=hg.tail (AW hc)
  exact CO g1 (Qi _ _) (J6 _ _) fun a r hr hl=>RZ f _ r hr (by omega)
structure A0y (f:Nat):Prop where
 exp:∀ least ts,0≤least→Good ts→16 * ts.length+5≤f→∃ v,D7 f least ts=some v
 loop:∀ least n ts,0≤least→Good ts→16 * ts.length+1≤f→∃ v,F1 f least n ts=some v
 operand:∀ ts,Good ts→16 * ts.length+4≤f→∃ v,Fs f ts=some v
 fields:∀ acc ts,Good ts→16 * ts.length+7≤f→∃ v,Fr f acc ts=some v
 field:∀ ts,Good ts→16 * ts.length+6≤f→∃ v,F8 f ts=some v
 El:∀ ts,Good ts→16 * ts.length+3≤f→∃ v,EL f ts=some v
 DA:∀ at_ n ts,Good ts→16 * ts.length+1≤f→∃ v,EB f at_ n ts=some v
 Do:∀ ts,Good ts→16 * ts.length+6≤f→∃ v,DT f ts=some v
 Gz:∀ acc ts,Good ts→16 * ts.length+1≤f→∃ v,F0 f acc ts=some v
theorem H5:∀ f,A0y f
 | 0=>by constructor <;> intros <;> omega
 | f+1=>by
  have ih:=H5 f
  have st:=KG f
  constructor
  ·intro least ts hl hg h;unfold D7
   exact CO hg (ih.operand _ hg (by omega)) (st.operand _) fun a r hr hn=>ih.loop _ _ _ hl hr (by omega)
  ·intro least n ts hl hg h;unfold F1
   refine DE (fun _=>⟨_,rfl⟩) fun hb=>?_
   obtain ⟨g1,g2,_⟩:=hg.tail (OI (by omega))
   exact CO g1 (ih.exp _ _ (by split <;> omega) g1 (by omega)) (st.exp _ _) fun a r hr hn=>ih.loop _ _ _ hl hr (by omega)
  ·intro ts hg h;unfold Fs
   refine DE (fun _=>⟨_,rfl⟩) fun _=>DE (fun _=>⟨_,rfl⟩) fun _=>DE (fun _=>⟨_,rfl⟩) fun _=>DE (fun _=>⟨_,rfl⟩) fun _=>DE (fun _=>⟨_,rfl⟩) fun _=>DE (fun hc=>?_) fun _=>DE (fun hc=>?_) fun _=>ih.El _ hg (by omega)
   ·have h6:(hd ts).1≠6:=by
     simp only [Bool.or_eq_true] at hc
     rcases hc with (h | h) | h <;> exact AW h
    obtain ⟨g1,g2,_⟩:=hg.tail h6
    exact CO g1 (ih.exp _ _ (by omega) g1 (by omega)) (st.exp _ _) fun a r _ _=>⟨_,rfl⟩
   ·obtain ⟨g1,g2,_⟩:=hg.tail (AW hc)
    exact CO g1 (ih.fields _ _ g1 (by omega)) (st.fields _ _) fun a r _ _=>⟨_,rfl⟩
  ·intro acc ts hg h;unfold Fr
   refine DE (fun _=>⟨_,rfl⟩) fun _=>CO hg (ih.field _ hg (by omega)) (st.field _) fun x r hr hn=>?_
   refine DE (fun hc=>?_) fun _=>DE (fun hc=>?_) fun _=>CO hr (IW _ _) (Ew _ _) fun _ _ _ _=>⟨_,rfl⟩
   ·obtain ⟨g1,g2,_⟩:=hr.tail (AW hc)
    exact ih.fields _ _ g1 (by omega)
   ·obtain ⟨g1,g2,_⟩:=hr.tail (AW hc)
    exact ih.fields _ _ g1 (by omega)
  ·intro ts hg h;unfold F8
   refine DE (fun hc=>?_) fun _=>DE (fun hc=>?_) fun _=>CO hg (ih.exp _ _ (by omega) hg (by omega)) (st.exp _ _) fun _ _ _ _=>⟨_,rfl⟩
   ·obtain ⟨g1,g2,_⟩:=hg.tail (AW hc)
    exact CO g1 (ih.exp _ _ (by omega) g1 (by omega)) (st.exp _ _) fun _ r hr hn=>CO hr (IW _ _) (Ew _ _) fun _ r2 hr2 hn2=>CO hr2 (IW _ _) (Ew _ _) fun _ r3 hr3 hn3=>CO hr3 (ih.exp _ _ (by omega) hr3 (by omega)) (st.exp _ _) fun _ _ _ _=>⟨_,rfl⟩
   ·obtain ⟨h1,h2,_⟩:=hc
    obtain ⟨g1,g2,_⟩:=hg.tail (by omega)
    obtain ⟨g3,g4,_⟩:=g1.tail (by omega)
    exact CO g3 (ih.exp _ _ (by omega) g3 (by omega)) (st.exp _ _) fun _ _ _ _=>⟨_,rfl⟩
  ·intro ts hg h;unfold EL
   refine DE (fun hc=>?_) fun _=>CO hg (Qi _ _) (J6 _ _) fun _ r hr hn=>ih.DA _ _ _ hr (by omega)
   obtain ⟨g1,g2,_⟩:=hg.tail (AW hc)
   exact CO g1 (ih.exp _ _ (by omega) g1 (by omega)) (st.exp _ _) fun _ r hr hn=>CO hr (IW _ _) (Ew _ _) fun _ r2 hr2 hn2=>ih.DA _ _ _ hr2 (by omega)
  ·intro at_ n ts hg h;unfold EB
   refine DE (fun hc=>?_) fun _=>DE (fun hc=>?_) fun _=>DE (fun hc=>?_) fun _=>⟨_,rfl⟩
   ·obtain ⟨g1,g2,_⟩:=hg.tail (AW hc)
    exact CO g1 (ih.exp _ _ (by omega) g1 (by omega)) (st.exp _ _) fun _ r hr hn=>CO hr (IW _ _) (Ew _ _) fun _ r2 hr2 hn2=>ih.DA _ _ _ hr2 (by omega)
   ·obtain ⟨g1,g2,_⟩:=hg.tail (AW hc)
    exact CO g1 (Qi _ _) (J6 _ _) fun _ r hr hn=>ih.DA _ _ _ hr (by omega)
   ·obtain ⟨g1,g2,_⟩:=hg.tail (AW hc)
    exact CO (n:=0) g1 (DE (fun _=>⟨_,rfl⟩) fun _=>ih.Do _ g1 (by omega)) (D0 (fun _=>step_ok) fun _=>D6 (st.Do _) (by omega)) fun _ r hr hn=>CO hr (IW _ _) (Ew _ _) fun _ r2 hr2 hn2=>ih.DA _ _ _ hr2 (by omega)
  ·intro ts hg h;unfold DT
   exact CO hg (ih.exp _ _ (by omega) hg (by omega)) (st.exp _ _) fun _ r hr hn=>ih.Gz _ _ hr (by omega)
  ·intro acc ts hg h;unfold F0
   refine DE (fun hc=>?_) fun _=>⟨_,rfl⟩
   obtain ⟨g1,g2,_⟩:=hg.tail (AW hc)
   exact CO g1 (ih.exp _ _ (by omega) g1 (by omega)) (st.exp _ _) fun _ r hr hn=>ih.Gz _ _ hr (by omega)
structure A01 (f:Nat):Prop where
 block:∀ c ts,Good ts→16 * ts.length+9≤f→∃ v,DM f c ts=some v
 Es:∀ c at_ acc ts,Good ts→16 * ts.length+8≤f→∃ v,Dt f c at_ acc ts=some v
 function:∀ ts,(hd ts).1≠6→Good ts→16 * ts.length+7≤f→∃ v,EY f ts=some v
 body:∀ ts,Good ts→16 * ts.length+6≤f→∃ v,E9 f ts=some v
 stat:∀ ts,Good ts→16 * ts.length+7≤f→∃ v,EK f ts=some v
 branches:∀ acc ts,Good ts→16 * ts.length+6≤f→∃ v,Fz f acc ts=some v
 for_:∀ at_ ts,Good ts→16 * ts.length+1≤f→∃ v,F9 f at_ ts=some v
 plain:∀ ts,Good ts→16 * ts.length+6≤f→∃ v,FA f ts=some v
 targets:∀ acc e ts,Good ts→16 * ts.length+1≤f→∃ v,EZ f acc e ts=some v
theorem Ie:∀ f,A01 f
 | 0=>by constructor <;> intros <;> omega
 | f+1=>by
  have ih:=Ie f
  have ie:=H5 f
  have se:=KG f
  have ss:=stepS f
  constructor
  ·intro c ts hg h;unfold DM
   exact ih.Es _ _ _ _ hg (by omega)
  ·intro c at_ acc ts hg h;unfold Dt
   refine DE (fun hc=>?_) fun _=>DE (fun hc=>?_) fun _=>DE (fun hc=>?_) fun _=>DE (fun _=>⟨_,rfl⟩) fun _=>?_
   ·obtain ⟨g1,g2,_⟩:=hg.tail (AW hc)
    exact ih.Es _ _ _ _ g1 (by omega)
   ·obtain ⟨g1,g2,_⟩:=hg.tail (AW hc)
    exact CO (n:=0) g1 (DE (fun _=>⟨_,rfl⟩) fun _=>ie.Do _ g1 (by omega)) (D0 (fun _=>step_ok) fun _=>D6 (se.Do _) (by omega)) fun _ r hr hn=>⟨_,rfl⟩
   ·simp only [Bool.and_eq_true] at hc
    exact CO hg (ih.function _ (AW hc.2) hg (by omega)) (ss.function _ (AW hc.2)) fun _ r hr hn=>ih.Es _ _ _ _ hr (by omega)
   ·exact CO hg (ih.stat _ hg (by omega)) (ss.stat _) fun _ r hr hn=>ih.Es _ _ _ _ hr (by omega)
  ·intro ts h6 hg h;unfold EY
   obtain ⟨g1,g2,_⟩:=hg.tail h6
   exact CO g1 (Qi _ _) (J6 _ _) fun _ r hr hn=>CO hr (IW _ _) (Ew _ _) fun _ r2 hr2 hn2 =>
    CO (n:=0) hr2 (DE (fun _=>⟨_,rfl⟩) fun _=>CO hr2 (Qi _ _) (J6 _ _) fun _ r hr hn=>RZ _ _ _ hr (by omega)) (D0 (fun _=>step_ok) fun _=>D6 (U5 f r2) (by omega)) fun _ r3 hr3 hn3 =>
     CO hr3 (IW _ _) (Ew _ _) fun _ r4 hr4 hn4=>CO hr4 (ih.block _ _ hr4 (by omega)) (ss.block _ _) fun _ r5 hr5 hn5=>CO hr5 (IW _ _) (Ew _ _) fun _ _ _ _=>⟨_,rfl⟩
  ·intro ts hg h;unfold E9
   exact CO hg (IW _ _) (Ew _ _) fun _ r hr hn=>CO hr (ih.block _ _ hr (by omega)) (ss.block _ _) fun _ r5 hr5 hn5=>CO hr5 (IW _ _) (Ew _ _) fun _ _ _ _=>⟨_,rfl⟩
  ·intro ts hg h;unfold EK
   refine DE (fun hc=>?_) fun _=>DE (fun hc=>?_) fun _=>DE (fun hc=>?_) fun _=>DE (fun hc=>?_) fun _=>DE (fun hc=>?_) fun _=>DE (fun hc=>⟨_,rfl⟩) fun _=>ih.plain _ hg (by omega)
   ·exact CO hg (ih.body _ hg (by omega)) (ss.body _) fun _ _ _ _=>⟨_,rfl⟩
   ·obtain ⟨g1,g2,_⟩:=hg.tail (AW hc)
    exact CO g1 (ie.exp _ _ (by omega) g1 (by omega)) (se.exp _ _) fun _ r hr hn=>CO hr (ih.body _ hr (by omega)) (ss.body _) fun _ _ _ _=>⟨_,rfl⟩
   ·obtain ⟨g1,g2,_⟩:=hg.tail (AW hc)
    exact CO g1 (ih.branches _ _ g1 (by omega)) (ss.branches _ _) fun _ _ _ _=>⟨_,rfl⟩
   ·obtain ⟨g1,g2,_⟩:=hg.tail (AW hc)
    exact ih.for_ _ _ g1 (by omega)
   ·obtain ⟨g1,g2,_⟩:=hg.tail (AW hc)
    refine CO g1 (CO g1 (Qi _ _) (J6 _ _) fun _ r hr hn=>RZ _ _ _ hr (by omega)) (U5 f _) fun _ r hr hn=>?_
    refine CO (n:=0) hr (DE (fun hc=>?_) fun _=>⟨_,rfl⟩) (D0 (fun h=>D6 (DU (AW h) (se.Do _)) (by omega)) fun _=>step_ok) fun _ _ _ _=>⟨_,rfl⟩
    obtain ⟨g3,g4,_⟩:=hr.tail (AW hc)
    exact ie.Do _ g3 (by omega)
  ·intro acc ts hg h;unfold Fz
   refine CO hg (ie.exp _ _ (by omega) hg (by omega)) (se.exp _ _) fun _ r hr hn=>CO hr (IW _ _) (Ew _ _) fun _ r2 hr2 hn2=>CO hr2 (ih.block _ _ hr2 (by omega)) (ss.block _ _) fun _ r3 hr3 hn3=>?_
   refine DE (fun hc=>?_) fun _=>DE (fun hc=>?_) fun _=>CO hr3 (IW _ _) (Ew _ _) fun _ _ _ _=>⟨_,rfl⟩
   ·obtain ⟨g1,g2,_⟩:=hr3.tail (AW hc)
    exact ih.branches _ _ g1 (by omega)
   ·obtain ⟨g1,g2,_⟩:=hr3.tail (AW hc)
    exact CO g1 (ih.block _ _ g1 (by omega)) (ss.block _ _) fun _ r4 hr4 hn4=>CO hr4 (IW _ _) (Ew _ _) fun _ _ _ _=>⟨_,rfl⟩
  ·intro at_ ts hg h;unfold F9
   refine CO hg (Qi _ _) (J6 _ _) fun n r hr hn=>DE (fun hc=>?_) fun _=>?_
   ·obtain ⟨g1,g2,_⟩:=hr.tail (AW hc)
    refine CO g1 (ie.exp _ _ (by omega) g1 (by omega)) (se.exp _ _) fun _ r2 hr2 hn2=>CO hr2 (IW _ _) (Ew _ _) fun _ r3 hr3 hn3=>CO hr3 (ie.exp _ _ (by omega) hr3 (by omega)) (se.exp _ _) fun _ r4 hr4 hn4=>?_
    refine CO (n:=0) hr4 (DE (fun hc=>?_) fun _=>⟨_,rfl⟩) (D0 (fun h=>D6 (DU (AW h) (CN (se.exp _ _) fun _ _=>step_ok)) (by omega)) fun _=>step_ok) fun _ r5 hr5 hn5=>CO hr5 (ih.body _ hr5 (by omega)) (ss.body _) fun _ _ _ _=>⟨_,rfl⟩
    obtain ⟨g3,g4,_⟩:=hr4.tail (AW hc)
    exact CO g3 (ie.exp _ _ (by omega) g3 (by omega)) (se.exp _ _) fun _ _ _ _=>⟨_,rfl⟩
   ·exact CO hr (RZ _ _ _ hr (by omega)) (U6 _ _ _) fun _ r2 hr2 hn2=>CO hr2 (IW _ _) (Ew _ _) fun _ r3 hr3 hn3=>CO hr3 (ie.Do _ hr3 (by omega)) (se.Do _) fun _ r4 hr4 hn4=>CO hr4 (ih.body _ hr4 (by omega)) (ss.body _) fun _ _ _ _=>⟨_,rfl⟩
  ·intro ts hg h;unfold FA
   refine CO hg (ie.El _ hg (by omega)) (se.El _) fun e r hr hn=>DE (fun hc=>?_) fun _=>DE (fun _=>⟨_,rfl⟩) fun _=>⟨_,rfl⟩
   exact CO hr (ih.targets _ _ _ hr (by omega)) (ss.targets _ _ _) fun _ r2 hr2 hn2=>CO hr2 (IW _ _) (Ew _ _) fun _ r3 hr3 hn3=>CO hr3 (ie.Do _ hr3 (by omega)) (se.Do _) fun _ _ _ _=>⟨_,rfl⟩
  ·intro acc e ts hg h;unfold EZ
   refine DE (fun _=>DE (fun hc=>?_) fun _=>⟨_,rfl⟩) fun _=>⟨_,rfl⟩
   obtain ⟨g1,g2,_⟩:=hg.tail (AW hc)
   exact CO g1 (ie.El _ g1 (by omega)) (se.El _) fun _ r hr hn=>ih.targets _ _ _ hr (by omega)
end
end Go.Proofs.YtkdjiehclahliaaGreatDoor
