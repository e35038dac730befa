/- Texts of mine for genSound_card, part 3. -/
import Derived.Test.YtkdjiehclahliaaGreatDoorGsB
set_option linter.unusedSimpArgs false
set_option linter.unusedVariables false
set_option linter.unusedSectionVars false
namespace Go.Proofs.YtkdjiehclahliaaGreatDoor
set_option maxRecDepth 100000
section
open Go Go.RowKit
def Ajg.f (_k:Nat) (Aac:List (Int×ByteArray×Int×Int)) (Aad:Int):Option (Int×ByteArray×Int×Int):=(Ack Aac Aad).bind fun x2=>some (x2.1,x2.2.1,x2.2.2.1,x2.2.2.2)
theorem Ajg.ok {k b0 Aau:Nat} {Aac:List (Int×ByteArray×Int×Int)} {Aad:Int} {Adb:Aaa} {Aas:TyO} {r:Int×ByteArray×Int×Int} (h:Ajg.f k Aac Aad=some r) (Abe:RdT e96 4 Adb (slW Aas Aac Aau) Aac): Ct Tryz.prog 27 #[pt b0] [bk b0 #[slW Aas Aac Aau,iv Aad] 93] [Adb] (fun e l1=>e=.returned (.agg #[iv r.1,sv r.2.1,iv r.2.2.1,iv r.2.2.2])∧l1=[bk b0 #[slW Aas Aac Aau,iv Aad] 93]):=by
 refine Afi (args:=[pt b0]) Tryz.func27 rfl (Ac0 rfl) ?_
 intro A X hh_
 obtain ⟨Abr,_⟩:=hh_
 unfold Ajg.f at h
 refine K.eq (env':=[(0,pt b0)]) (l':=bk b0 #[slW Aas Aac Aau,iv Aad] 93 :: X) rfl rfl (ksr (knp #[iv 0,sv noS,iv 0,iv 0] 96 fun b1=>(knt (Acx (kpr [(0,0),(1,0),(2,0),(3,3),(4,0),(5,0),(6,0),(7,3)] [1] (kpx 3 (kpd 0 0 rfl (kpx 3 (kpd 0 1 rfl (kpz ?_))))))))))
 refine bnd h fun x2 hx2 h=>(Anq (T:=96) (kd:=.i64) Ble rfl hx2 Abe fun p3 e4 y5=>?_)
 have e4:Elem _ p3 [iv x2.1,sv x2.2.1,iv x2.2.2.1,iv x2.2.2.2]:=e4
 refine keN rfl e4 (t2 Abr) (kst 0 4 #[iv x2.1,sv x2.2.1,iv x2.2.2.1,iv x2.2.2.2] (knt (Aem ?_)))
 obtain rfl:=Aam h
 exact kda 0 4 rfl [bk b0 #[slW Aas Aac Aau,iv Aad] 93] (K.drop (Adq ⟨rfl,rfl⟩))
def Akh.f (k:Nat) (Aac:List (Int×ByteArray×Int×Int)) (Aad:Int) (a1:ByteArray):Option (Bool):=(Ajg.f k Aac Aad).bind fun r1=>(cond (r1.1 == 2) (some (r1.2.1.toList == a1.toList)) (cond (r1.1 == 5) (some (r1.2.1.toList == a1.toList)) (some false)):Option Bool).bind fun q3=>some (q3)
theorem Akh.ok {k b0 Aau:Nat} {Aac:List (Int×ByteArray×Int×Int)} {Aad:Int} {a1:ByteArray} {Adb:Aaa} {Aas:TyO} {r:Bool} (h:Akh.f k Aac Aad a1=some r) (Abe:RdT e96 4 Adb (slW Aas Aac Aau) Aac): Ct Tryz.prog 42 #[pt b0,sv a1] [bk b0 #[slW Aas Aac Aau,iv Aad] 93] [Adb] (fun e l1=>e=.returned (bv r)∧l1=[bk b0 #[slW Aas Aac Aau,iv Aad] 93]):=by
 refine Afi (args:=[pt b0,sv a1]) Tryz.func42 rfl (Ac0 rfl) ?_
 intro A X hh_
 obtain ⟨Abr,_⟩:=hh_
 unfold Akh.f at h
 refine K.eq (env':=[(0,pt b0),(1,sv a1)]) (l':=bk b0 #[slW Aas Aac Aau,iv Aad] 93 :: X) rfl rfl (ksr (kx 1 (Abz (kx 1 (bnd h fun r1 hr1 h=>(kc1 (Ajg.ok hr1 Abe) rfl ⟨Abr,trivial⟩ (knp #[iv 0,sv noS,iv 0,iv 0] 96 fun b2=>(kst 0 4 #[iv r1.1,sv r1.2.1,iv r1.2.2.1,iv r1.2.2.2] (knt (bnd h fun q3 hq3 h=>?_))))))))))
 refine Ak3 [(4,bv q3)] (bk b0 #[slW Aas Aac Aau,iv Aad] 93 :: X) ?_ ?_
 ·clear hq3
  refine Aem ?_
  obtain rfl:=Aam h
  exact kdn rfl
 ·have h:=hq3
  clear hq3
  refine Ab6 (kx 1 (kld 0 0 rfl (kx 2 ?_)))
  refine kcs 11 h (fun h=>?_) fun h=>?_
  ·exact kx 6 (kld 0 1 rfl (K.drop (kx 4 (knt (Afa ⟨gb (Aam h),trivial⟩)))))
  ·refine kx 1 (kld 0 0 rfl (kx 3 ?_))
   refine kcs 16 h (fun h=>?_) fun h=>?_
   ·exact kx 1 (kld 0 1 rfl (K.drop (kx 4 (knt (Afa ⟨gb (Aam h),trivial⟩)))))
   ·exact kx 6 (knt (K.drop (Afa ⟨gb (Aam h),trivial⟩)))
def Af0.f (k:Nat) (Aac:List (Int×ByteArray×Int×Int)) (Aad:Int) (a1:ByteArray):Option (Bool×Int):=(Akh.f k Aac Aad a1).bind fun r1=>cond r1 (some (true,IntKind.i64.wrap (Aad+1))) (some (false,Aad))
theorem Af0.ok {k b0 Aau:Nat} {Aac:List (Int×ByteArray×Int×Int)} {Aad:Int} {a1:ByteArray} {Adb:Aaa} {Aas:TyO} {r:Bool×Int} (h:Af0.f k Aac Aad a1=some r) (Abe:RdT e96 4 Adb (slW Aas Aac Aau) Aac): Ct Tryz.prog 40 #[pt b0,sv a1] [bk b0 #[slW Aas Aac Aau,iv Aad] 93] [Adb] (fun e l1=>e=.returned (bv r.1)∧l1=[bk b0 #[slW Aas Aac Aau,iv r.2] 93]):=by
 refine Afi (args:=[pt b0,sv a1]) Tryz.func40 rfl (Ac0 rfl) ?_
 intro A X hh_
 obtain ⟨Abr,_⟩:=hh_
 unfold Af0.f at h
 refine K.eq (env':=[(0,pt b0),(1,sv a1)]) (l':=bk b0 #[slW Aas Aac Aau,iv Aad] 93 :: X) rfl rfl (ksr (kx 1 (knt (Acx (ksr (kx 2 (bnd h fun r1 hr1 h=>(kc1 (Akh.ok hr1 Abe) rfl ⟨Abr,trivial⟩ (knt ?_)))))))))
 refine kcn h (fun h=>?_) fun h=>?_
 ·refine ksr (kx 3 (kld 0 1 rfl (kx 3 (kst 1 1 #[slW Aas Aac Aau,iv (IntKind.i64.wrap (Aad+1))] (Abz (kx 1 (knt (Aem (Afx ?_)))))))))
  obtain rfl:=Aam h
  exact kdn rfl
 ·refine Adl (Abi (ksr (kx 1 (knt (Aem ?_)))))
  obtain rfl:=Aam h
  exact kdn rfl
def Aqq (i:Int):Value:=.iface 90 (.agg #[.int .i64 4,.int .i64 i])
def Auc.f (_k:Nat) (Aac:List (Int×ByteArray×Int×Int)) (Aad:Int) (a1:Int):Option (PR (Unit)):=some (PR.bad a1)
theorem Auc.ok {k b0 Aau:Nat} {Aac:List (Int×ByteArray×Int×Int)} {Aad a1:Int} {Adb:Aaa} {Aas:TyO} {r:PR (Unit)} (h:Auc.f k Aac Aad a1=some r) (Abe:RdT e96 4 Adb (slW Aas Aac Aau) Aac): Ct Tryz.prog 28 #[pt b0,iv a1] [bk b0 #[slW Aas Aac Aau,iv Aad] 93] [Adb] (PR.Post Aqq (fun (r:Unit) e l1=>e=.returned (.tuple #[])∧l1=[bk b0 #[slW Aas Aac Aau,iv Aad] 93]) r):=by
 refine Afi (args:=[pt b0,iv a1]) Tryz.func28 rfl (Ac0 rfl) ?_
 intro A X hh_
 obtain ⟨Abr,_⟩:=hh_
 unfold Auc.f at h
 refine K.eq (env':=[(0,pt b0),(1,iv a1)]) (l':=bk b0 #[slW Aas Aac Aau,iv Aad] 93 :: X) rfl rfl (Ab6 (kx 3 ?_))
 obtain rfl:=Aam h
 exact Cfq (v:=Aqq a1) (by kernel_rfl) (by kernel_rfl) (by kernel_rfl) (Cfg [] (K.drop (Adq PR.B6q)))
def Ag2.f (k:Nat) (Aac:List (Int×ByteArray×Int×Int)) (Aad:Int) (a1:ByteArray):Option (PR (Int)):=(Af0.f k Aac Aad a1).bind fun r1=>cond (!r1.1) ((Ajg.f k Aac r1.2).bind fun r3=>PR.bind (Auc.f k Aac r1.2 r3.2.2.2) fun r4=>some (PR.ok (r1.2))) (some (PR.ok (r1.2)))
theorem Ag2.ok {k b0 Aau:Nat} {Aac:List (Int×ByteArray×Int×Int)} {Aad:Int} {a1:ByteArray} {Adb:Aaa} {Aas:TyO} {r:PR (Int)} (h:Ag2.f k Aac Aad a1=some r) (Abe:RdT e96 4 Adb (slW Aas Aac Aau) Aac): Ct Tryz.prog 65 #[pt b0,sv a1] [bk b0 #[slW Aas Aac Aau,iv Aad] 93] [Adb] (PR.Post Aqq (fun (r:Int) e l1=>e=.returned (.tuple #[])∧l1=[bk b0 #[slW Aas Aac Aau,iv r] 93]) r):=by
 refine Afi (args:=[pt b0,sv a1]) Tryz.func65 rfl (Ac0 rfl) ?_
 intro A X hh_
 obtain ⟨Abr,_⟩:=hh_
 unfold Ag2.f at h
 refine K.eq (env':=[(0,pt b0),(1,sv a1)]) (l':=bk b0 #[slW Aas Aac Aau,iv Aad] 93 :: X) rfl rfl (ksr (kx 2 (bnd h fun r1 hr1 h=>(kc1 (Af0.ok hr1 Abe) rfl ⟨Abr,trivial⟩ (kx 1 (knt ?_))))))
 refine kcn h (fun h=>?_) fun h=>?_
 ·refine Ab6 (kx 2 (bnd h fun r3 hr3 h=>(kc1 (Ajg.ok hr3 Abe) rfl ⟨Abr,trivial⟩ (kx 1 (kcp h (fun _ hr4=>(Auc.ok hr4 Abe)) rfl ⟨Abr,trivial⟩ (fun _ e=>kpn 0 e rfl) fun r4 h=>?_)))))
  rintro _ _ ⟨rfl,rfl⟩
  refine Alj (knl (Afg ?_))
  obtain rfl:=Aam h
  exact Bmv ⟨rfl,rfl⟩ rfl
 ·refine Adl (Afg ?_)
  obtain rfl:=Aam h
  exact Bmv ⟨rfl,rfl⟩ rfl
def Ap0.f (k:Nat) (Aac:List (Int×ByteArray×Int×Int)) (Aad:Int):Option (PR (Int×ByteArray×Int×Int×List Tree×Int)):=(Ajg.f k Aac Aad).bind fun r2=>Adj (fun (_:Unit)=>some (PR.ok (6,r2.2.1,0,r2.2.2.2,[],IntKind.i64.wrap (Aad+1)))) (fun J4=>cond (r2.1 != 1) (PR.bind (Auc.f k Aac Aad r2.2.2.2) fun r6=>J4 ()) (J4 ()))
theorem Ap0.ok {k b0 Aau:Nat} {Aac:List (Int×ByteArray×Int×Int)} {Aad:Int} {Adb:Aaa} {Aas:TyO} {r:PR (Int×ByteArray×Int×Int×List Tree×Int)} (h:Ap0.f k Aac Aad=some r) (Abe:RdT e96 4 Adb (slW Aas Aac Aau) Aac): Ct Tryz.prog 66 #[pt b0] [bk b0 #[slW Aas Aac Aau,iv Aad] 93] [Adb] (PR.Post Aqq (fun (r:Int×ByteArray×Int×Int×List Tree×Int) e l1=>∃ (H0_:Aaa) (A0_:TyO) (c0_:Nat),Abf (Abt 54) 54 H0_ (slW A0_ r.2.2.2.2.1 c0_) r.2.2.2.2.1∧e=.returned (.agg #[iv r.1,sv r.2.1,iv r.2.2.1,iv r.2.2.2.1,slW A0_ r.2.2.2.2.1 c0_])∧l1=[H0_,bk b0 #[slW Aas Aac Aau,iv r.2.2.2.2.2] 93]) r):=by
 refine Afi (args:=[pt b0]) Tryz.func66 rfl (Ac0 rfl) ?_
 intro A X hh_
 obtain ⟨Abr,_⟩:=hh_
 unfold Ap0.f at h
 refine K.eq (env':=[(0,pt b0)]) (l':=bk b0 #[slW Aas Aac Aau,iv Aad] 93 :: X) rfl rfl (ksr (knp #[iv 0,sv noS,iv 0,iv 0,nS] 54 fun b1=>(Abz (kx 1 (K.mv1 (bnd h fun r2 hr2 h=>(kc1 (Ajg.ok hr2 Abe) rfl ⟨(.tail _ Abr),trivial⟩ (knp #[iv 0,sv noS,iv 0,iv 0] 96 fun b3=>(kst 0 4 #[iv r2.1,sv r2.2.1,iv r2.2.2.1,iv r2.2.2.2] (knt ?_))))))))))
 obtain ⟨J4,hJ4,h⟩:=Ags h
 refine Agt (τ:=Unit) (fun t=>[(0,pt b0),(2,pt b1),(3,pt b3)]) (fun t=>bk b3 #[iv r2.1,sv r2.2.1,iv r2.2.2.1,iv r2.2.2.2] 96 :: bk b0 #[slW Aas Aac Aau,iv Aad] 93 :: bk b1 #[iv 0,sv noS,iv 0,iv 0,nS] 54 :: X) (fun t=>J4 ()=some r) ?_ ?_
 ·rintro ⟨⟩ h
  subst hJ4
  refine ksr (kx 3 (kld 1 1 rfl (kx 3 (K.mv1 (kst 1 1 #[slW Aas Aac Aau,iv (IntKind.i64.wrap (Aad+1))] (Abz (kx 1 (kld 1 1 rfl (kx 1 (kld 1 3 rfl ?_))))))))))
  refine K.mv1 (K.drop (kx 1 (K.mv1 (kst 0 5 #[iv 6,sv r2.2.1,iv 0,iv r2.2.2.2,nS] (knt (Aem ?_))))))
  obtain rfl:=Aam h
  exact kda 0 5 rfl [none_,bk b0 #[slW Aas Aac Aau,iv (IntKind.i64.wrap (Aad+1))] 93] (Ag6 (K.mv1 (K.drop (Adq (PR.okI ⟨none_,none,0,(Abf.nil (Abt 54) 54 none_),rfl,rfl⟩)))))
 ·skip
  refine ksr (kx 1 (kld 0 0 rfl (kx 1 (knt ?_))))
  refine kcn h (fun h=>?_) fun h=>?_
  ·refine Ab6 (kx 2 (kld 0 3 rfl (K.mv1 (kcp h (fun _ hr6=>(Auc.ok hr6 Abe)) rfl ⟨(t2 Abr),trivial⟩ (fun _ e=>Ab5 (kpn 2 e rfl)) fun r6 h=>?_))))
   rintro _ _ ⟨rfl,rfl⟩
   exact Alj (knt (K.mv2 (K.mv1 (K.mv2 (Ac1 () h sb rfl)))))
  ·exact Adl (Abi (Ac1 () h sb rfl))
theorem Ao8:An8 Tryz.prog 52 54 5 64 Tryz.t54 (.agg #[iv 0,sv noS,iv 0,iv 0,nS]):=⟨by kernel_rfl,by kernel_rfl,by kernel_rfl,by kernel_rfl,by kernel_rfl,by kernel_rfl,by decide⟩
def Aqa.l0:Nat→(Aac:List (Int×ByteArray×Int×Int))→(J14:(List Tree)→Int→Option (PR (List Tree×Int)))→(l15:List Tree)→(x20:Int)→Option (PR (List Tree×Int))
 | 0,_,_,_,_=>none
 | m21+1,Aac,J14,l15,x20=>(Af0.f m21 Aac x20 (⟨#[44]⟩:ByteArray)).bind fun r24=>cond r24.1 (PR.bind (Ap0.f m21 Aac r24.2) fun r26=>(apd 64 l15 [(Tree.mk r26.1 r26.2.1 r26.2.2.1 r26.2.2.2.1 r26.2.2.2.2.1)]).bind fun l35=>Aqa.l0 m21 Aac J14 l35 r26.2.2.2.2.2) (J14 l15 r24.2)
def Aqa.f (k:Nat) (Aac:List (Int×ByteArray×Int×Int)) (Aad:Int):Option (PR (List Tree×Int)):=PR.bind (Ap0.f k Aac Aad) fun r1=>Adj (fun (l8:List Tree) (x13:Int)=>some (PR.ok (l8,x13))) (fun J14=>Aqa.l0 k Aac J14 ([(Tree.mk r1.1 r1.2.1 r1.2.2.1 r1.2.2.2.1 r1.2.2.2.2.1)]) r1.2.2.2.2.2)
theorem Aqa.ok {k b0 Aau:Nat} {Aac:List (Int×ByteArray×Int×Int)} {Aad:Int} {Adb:Aaa} {Aas:TyO} {r:PR (List Tree×Int)} (h:Aqa.f k Aac Aad=some r) (Abe:RdT e96 4 Adb (slW Aas Aac Aau) Aac): Ct Tryz.prog 67 #[pt b0] [bk b0 #[slW Aas Aac Aau,iv Aad] 93] [Adb] (PR.Post Aqq (fun (r:List Tree×Int) e l1=>∃ (H0_:Aaa) (A0_:TyO) (c0_:Nat),Abf (Abt 54) 54 H0_ (slW A0_ r.1 c0_) r.1∧e=.returned (slW A0_ r.1 c0_)∧l1=[H0_,bk b0 #[slW Aas Aac Aau,iv r.2] 93]) r):=by
 refine Afi (args:=[pt b0]) Tryz.func67 rfl (Ac0 rfl) ?_
 intro A X hh_
 obtain ⟨Abr,_⟩:=hh_
 unfold Aqa.f at h
 refine K.eq (env':=[(0,pt b0)]) (l':=bk b0 #[slW Aas Aac Aau,iv Aad] 93 :: X) rfl rfl (ksr (kx 1 (Abz (kx 1 (kcp h (fun _ hr1=>(Ap0.ok hr1 Abe)) rfl ⟨Abr,trivial⟩ (fun _ e=>Ab5 (kpn 0 e rfl)) fun r1 h=>?_)))))
 rintro _ _ ⟨h2,A3,k4,o5,rfl,rfl⟩
 refine Ach (kns #[iv r1.1,sv r1.2.1,iv r1.2.2.1,iv r1.2.2.2.1,slW A3 r1.2.2.2.2.1 k4] 54 1 fun b7=>(kx 1 (knt ?_)))
 obtain ⟨J14,Ax5,h⟩:=Ags h
 refine Agt (τ:=(List Tree)×Int×Aaa×TyO×Nat) (fun t=>[(3,slW t.2.2.2.1 t.1 t.2.2.2.2)]) (fun t=>bk b0 #[slW Aas Aac Aau,iv t.2.1] 93 :: t.2.2.1 :: X) (fun t=>J14 t.1 t.2.1=some r∧Abf (Abt 54) 54 t.2.2.1 (slW t.2.2.2.1 t.1 t.2.2.2.2) t.1) ?_ ?_
 ·rintro ⟨l8,x13,h9,A10,k11⟩ ⟨h,o12⟩
  subst Ax5
  refine ksr (kx 2 (knt (Aem ?_)))
  obtain rfl:=Aam h
  exact kdv (slW A10 l8 k11) [h9,bk b0 #[slW Aas Aac Aau,iv x13] 93] (K.mv1 (Adq (PR.okI ⟨h9,A10,k11,o12,rfl,rfl⟩)))
 ·skip
  refine Aez (K.mv1 (K.mv1 (Aip (T:=54) (n:=1) (xs:=[(Tree.mk r1.1 r1.2.1 r1.2.2.1 r1.2.2.2.1 r1.2.2.2.2.1)]) (Ael.one (Ai9 (k:=r1.1) (t:=r1.2.1) (n:=r1.2.2.1) (a:=r1.2.2.2.1) 54 o5)) rfl rfl (Ac0 rfl) fun h22 o23=>(K.mv1 (Akb (τ:=(List Tree)×Int×Aaa×TyO×Nat) (fun t=>[(0,pt b0),(3,slW t.2.2.2.1 t.1 t.2.2.2.2)]) (fun t=>bk b0 #[slW Aas Aac Aau,iv t.2.1] 93 :: t.2.2.1 :: X) (fun m t=>Aqa.l0 m Aac J14 t.1 t.2.1=some r∧Abf (Abt 54) 54 t.2.2.1 (slW t.2.2.2.1 t.1 t.2.2.2.2) t.1) k ([(Tree.mk r1.1 r1.2.1 r1.2.2.1 r1.2.2.2.1 r1.2.2.2.2.1)],r1.2.2.2.2.2,h22,(some ⟨b7,0,none⟩),1) ⟨h,o23⟩ sb rfl ?_)))))
  clear h
  rintro m21 ⟨l15,x20,h16,A17,k18⟩ ⟨h,o19⟩
  cases m21 with
  | zero=>simp [Aqa.l0] at h
  | succ m21 =>
   simp only [Aqa.l0] at h
   refine Acx (ksr (kx 1 (bnd h fun r24 A7f h=>(kc1 (Af0.ok A7f Abe) rfl ⟨(.tail _ Abr),trivial⟩ (knt ?_)))))
   refine kcn h (fun h=>?_) fun h=>?_
   ·refine Adl (Abi (Aez (Ab6 (kx 2 (kcp h (fun _ A1i=>(Ap0.ok A1i Abe)) rfl ⟨(.tail _ Abr),trivial⟩ (fun _ e=>Ad4 (Ab5 (Ad4 (Ab5 (kpn 1 e rfl))))) fun r26 h=>?_)))))
    rintro _ _ ⟨h27,A28,k29,o30,rfl,rfl⟩
    refine Ach (kns #[iv r26.1,sv r26.2.1,iv r26.2.2.1,iv r26.2.2.2.1,slW A28 r26.2.2.2.2.1 k29] 54 1 fun b32=>(K.mv1 (K.mv1 (Aip (T:=54) (n:=1) (xs:=[(Tree.mk r26.1 r26.2.1 r26.2.2.1 r26.2.2.2.1 r26.2.2.2.2.1)]) (Ael.one (Ai9 (k:=r26.1) (t:=r26.2.1) (n:=r26.2.2.1) (a:=r26.2.2.2.1) 54 o30)) rfl rfl (Ac0 rfl) fun h33 o34=>(K.mv2 (bnd h fun l35 Bfl h=>(Amd rfl Ao8 rfl Bfl o19 o34 fun h36 A37 k38 o39=>(kx 1 (knl (Ade ?_))))))))))
    exact Abi (K.mv1 (Ai4 m21 (l35,r26.2.2.2.2.2,h36,A37,k38) (Nat.lt_succ_self _) ⟨h,o39⟩ sb rfl))
   ·exact Aj9 (Agh (Agh (Aka (Abi (Ac1 (l15,r24.2,h16,A17,k18) ⟨h,o19⟩ sb rfl)))))
def A2t.f (k:Nat) (Aac:List (Int×ByteArray×Int×Int)) (Aad:Int):Option (Bool):=((Ajg.f k Aac Aad).bind fun r2=>cond (r2.1 == 6) (some true) ((Akh.f k Aac Aad (⟨#[101,110,100]⟩:ByteArray)).bind fun r4=>cond r4 (some true) ((Akh.f k Aac Aad (⟨#[101,108,115,101]⟩:ByteArray)).bind fun r6=>cond r6 (some true) ((Akh.f k Aac Aad (⟨#[101,108,115,101,105,102]⟩:ByteArray)).bind fun r8=>some r8))):Option Bool).bind fun q1=>some (q1)
theorem A2t.ok {k b0 Aau:Nat} {Aac:List (Int×ByteArray×Int×Int)} {Aad:Int} {Adb:Aaa} {Aas:TyO} {r:Bool} (h:A2t.f k Aac Aad=some r) (Abe:RdT e96 4 Adb (slW Aas Aac Aau) Aac): Ct Tryz.prog 41 #[pt b0] [bk b0 #[slW Aas Aac Aau,iv Aad] 93] [Adb] (fun e l1=>e=.returned (bv r)∧l1=[bk b0 #[slW Aas Aac Aau,iv Aad] 93]):=by
 refine Afi (args:=[pt b0]) Tryz.func41 rfl (Ac0 rfl) ?_
 intro A X hh_
 obtain ⟨Abr,_⟩:=hh_
 unfold A2t.f at h
 refine K.eq (env':=[(0,pt b0)]) (l':=bk b0 #[slW Aas Aac Aau,iv Aad] 93 :: X) rfl rfl (ksr (kx 1 (knt (bnd h fun q1 hq1 h=>?_))))
 refine Ak3 [(2,bv q1)] (bk b0 #[slW Aas Aac Aau,iv Aad] 93 :: X) ?_ ?_
 ·clear hq1
  refine Aem ?_
  obtain rfl:=Aam h
  exact kdn rfl
 ·have h:=hq1
  clear hq1
  refine Ab6 (kx 1 (bnd h fun r2 hr2 h=>(kc1 (Ajg.ok hr2 Abe) rfl ⟨Abr,trivial⟩ (kx 3 ?_))))
  refine kcs 7 h (fun h=>?_) fun h=>?_
  ·exact kx 12 (knt (Afa ⟨gb (Aam h),trivial⟩))
  ·refine kx 1 (bnd h fun r4 hr4 h=>(kc1 (Akh.ok hr4 Abe) rfl ⟨Abr,trivial⟩ (kx 2 ?_)))
   refine kcs 11 h (fun h=>?_) fun h=>?_
   ·exact kx 8 (knt (Afa ⟨gb (Aam h),trivial⟩))
   ·refine kx 1 (bnd h fun r6 hr6 h=>(kc1 (Akh.ok hr6 Abe) rfl ⟨Abr,trivial⟩ (kx 2 ?_)))
    refine kcs 15 h (fun h=>?_) fun h=>?_
    ·exact kx 4 (knt (Afa ⟨gb (Aam h),trivial⟩))
    ·exact kx 1 (bnd h fun r8 hr8 h=>(kc1 (Akh.ok hr8 Abe) rfl ⟨Abr,trivial⟩ (kx 2 (knt (Afa ⟨gb (Aam h),trivial⟩)))))
def A85.f (_k:Nat) (Aac:Int) (Aad:ByteArray) (Aj3:Int) (Aae:Int):Option (Int):=(cond (Aac != 5) (some (Aac != 2)) (some false):Option Bool).bind fun q2=>cond q2 (some (0)) (cond (Aad.toList == (⟨#[111,114]⟩:ByteArray).toList) (some (1)) (cond (Aad.toList == (⟨#[97,110,100]⟩:ByteArray).toList) (some (2)) (Adj (fun (x6:Bool)=>cond x6 (some (3)) (cond (Aad.toList == (⟨#[46,46]⟩:ByteArray).toList) (some (4)) (Adj (fun (x10:Bool)=>cond x10 (some (5)) (Adj (fun (x13:Bool)=>cond x13 (some (6)) (some (0))) (fun J14=>cond (Aad.toList == (⟨#[42]⟩:ByteArray).toList) (J14 (Aad.toList == (⟨#[42]⟩:ByteArray).toList)) (cond (Aad.toList == (⟨#[47,47]⟩:ByteArray).toList) (J14 (Aad.toList == (⟨#[47,47]⟩:ByteArray).toList)) (J14 (Aad.toList == (⟨#[37]⟩:ByteArray).toList)))))) (fun J11=>cond (Aad.toList == (⟨#[43]⟩:ByteArray).toList) (J11 (Aad.toList == (⟨#[43]⟩:ByteArray).toList)) (J11 (Aad.toList == (⟨#[45]⟩:ByteArray).toList)))))) (fun J7=>cond (Aad.toList == (⟨#[60]⟩:ByteArray).toList) (J7 (Aad.toList == (⟨#[60]⟩:ByteArray).toList)) (cond (Aad.toList == (⟨#[62]⟩:ByteArray).toList) (J7 (Aad.toList == (⟨#[62]⟩:ByteArray).toList)) (cond (Aad.toList == (⟨#[60,61]⟩:ByteArray).toList) (J7 (Aad.toList == (⟨#[60,61]⟩:ByteArray).toList)) (cond (Aad.toList == (⟨#[62,61]⟩:ByteArray).toList) (J7 (Aad.toList == (⟨#[62,61]⟩:ByteArray).toList)) (cond (Aad.toList == (⟨#[126,61]⟩:ByteArray).toList) (J7 (Aad.toList == (⟨#[126,61]⟩:ByteArray).toList)) (J7 (Aad.toList == (⟨#[61,61]⟩:ByteArray).toList))))))))))
theorem A85.ok {k:Nat} {Aac Aj3 Aae r:Int} {Aad:ByteArray} (h:A85.f k Aac Aad Aj3 Aae=some r): Ct Tryz.prog 105 #[.agg #[iv Aac,sv Aad,iv Aj3,iv Aae]] [] [] (fun e l1=>e=.returned (iv r)∧l1=[]):=by
 refine Afi (args:=[.agg #[iv Aac,sv Aad,iv Aj3,iv Aae]]) Tryz.func105 rfl (Ac0 rfl) ?_
 intro A X hh_
 unfold A85.f at h
 refine ksr (knp #[iv Aac,sv Aad,iv Aj3,iv Aae] 96 fun b1=>(kx 1 (knt (Acx (bnd h fun q2 hq2 h=>?_)))))
 refine Ak3 [(1,pt b1),(10,bv q2)] (bk b1 #[iv Aac,sv Aad,iv Aj3,iv Aae] 96 :: X) ?_ ?_
 ·clear hq2
  refine kcn h (fun h=>?_) fun h=>?_
  ·refine ksr (kx 1 (knt (Aem (Afx ?_))))
   obtain rfl:=Aam h
   exact K.drop (kdn rfl)
  ·refine Adl (Abi (Acx (ksr (kx 1 (kld 0 1 rfl (K.drop (knt (Aez (ksr (kx 2 ?_))))))))))
   refine knt ?_
   refine kcn h (fun h=>?_) fun h=>?_
   ·refine ksr (kx 1 (knt (Aem (Ahj (Afx ?_)))))
    obtain rfl:=Aam h
    exact kdn rfl
   ·refine ksr (kx 2 (knt ?_))
    refine kcn h (fun h=>?_) fun h=>?_
    ·refine ksr (kx 1 (knt (Aem (Ahj (Afx ?_)))))
     obtain rfl:=Aam h
     exact kdn rfl
    ·obtain ⟨J7,hJ7,h⟩:=Ags h
     refine Agt (τ:=Bool) (fun t=>[(12,sv Aad),(17,bv t)]) (fun t=>X) (fun t=>J7 t=some r) ?_ ?_
     ·rintro x6 h
      subst hJ7
      refine kcn h (fun h=>?_) fun h=>?_
      ·refine ksr (kx 1 (knt (Aem (Ahj (Afx ?_)))))
       obtain rfl:=Aam h
       exact kdn rfl
      ·refine ksr (kx 2 (knt ?_))
       refine kcn h (fun h=>?_) fun h=>?_
       ·refine ksr (kx 1 (knt (Aem (Ahj (Afx ?_)))))
        obtain rfl:=Aam h
        exact kdn rfl
       ·obtain ⟨J11,Btl,h⟩:=Ags h
        refine Agt (τ:=Bool) (fun t=>[(12,sv Aad),(26,bv t)]) (fun t=>X) (fun t=>J11 t=some r) ?_ ?_
        ·rintro x10 h
         subst Btl
         refine kcn h (fun h=>?_) fun h=>?_
         ·refine ksr (kx 1 (knt (Aem (Ahj (Afx ?_)))))
          obtain rfl:=Aam h
          exact kdn rfl
         ·obtain ⟨J14,Ax5,h⟩:=Ags h
          refine Agt (τ:=Bool) (fun t=>[(29,bv t)]) (fun t=>X) (fun t=>J14 t=some r) ?_ ?_
          ·rintro x13 h
           subst Ax5
           refine kcn h (fun h=>?_) fun h=>?_
           ·refine ksr (kx 1 (knt (Aem (Ahj (Afx ?_)))))
            obtain rfl:=Aam h
            exact kdn rfl
           ·refine Adl (Ade (Abi (ksr (kx 1 (knt (Aem ?_))))))
            obtain rfl:=Aam h
            exact kdn rfl
          ·skip
           refine ksr (kx 2 (knt ?_))
           refine kcn h (fun h=>?_) fun h=>?_
           ·exact Adl (Abi (Ac1 (Aad.toList == (⟨#[42]⟩:ByteArray).toList) h sb rfl))
           ·refine ksr (kx 2 (knt ?_))
            refine kcn h (fun h=>?_) fun h=>?_
            ·exact Adl (Abi (Ac1 (Aad.toList == (⟨#[47,47]⟩:ByteArray).toList) h sb rfl))
            ·exact Ab6 (kx 2 (knt (Ac1 (Aad.toList == (⟨#[37]⟩:ByteArray).toList) h sb rfl)))
        ·skip
         refine ksr (kx 2 (knt ?_))
         refine kcn h (fun h=>?_) fun h=>?_
         ·exact Adl (Abi (Ac1 (Aad.toList == (⟨#[43]⟩:ByteArray).toList) h sb rfl))
         ·exact Ab6 (kx 2 (knt (Ac1 (Aad.toList == (⟨#[45]⟩:ByteArray).toList) h sb rfl)))
     ·skip
      refine ksr (kx 2 (knt ?_))
      refine kcn h (fun h=>?_) fun h=>?_
      ·exact Adl (Abi (Ac1 (Aad.toList == (⟨#[60]⟩:ByteArray).toList) h sb rfl))
      ·refine ksr (kx 2 (knt ?_))
       refine kcn h (fun h=>?_) fun h=>?_
       ·exact Adl (Abi (Ac1 (Aad.toList == (⟨#[62]⟩:ByteArray).toList) h sb rfl))
       ·refine ksr (kx 2 (knt ?_))
        refine kcn h (fun h=>?_) fun h=>?_
        ·exact Adl (Abi (Ac1 (Aad.toList == (⟨#[60,61]⟩:ByteArray).toList) h sb rfl))
        ·refine ksr (kx 2 (knt ?_))
         refine kcn h (fun h=>?_) fun h=>?_
         ·exact Adl (Abi (Ac1 (Aad.toList == (⟨#[62,61]⟩:ByteArray).toList) h sb rfl))
         ·refine ksr (kx 2 (knt ?_))
          refine kcn h (fun h=>?_) fun h=>?_
          ·exact Adl (Abi (Ac1 (Aad.toList == (⟨#[126,61]⟩:ByteArray).toList) h sb rfl))
          ·exact Ab6 (kx 2 (knt (Ac1 (Aad.toList == (⟨#[61,61]⟩:ByteArray).toList) h sb rfl)))
 ·have h:=hq2
  clear hq2
  refine Ab6 (kx 1 (kld 0 0 rfl (kx 2 ?_)))
  refine kcs 6 h (fun h=>?_) fun h=>?_
  ·exact kx 1 (kld 0 0 rfl (kx 2 (knt (Afa ⟨gr,gb (Aam h),trivial⟩))))
  ·exact kx 4 (knt (Afa ⟨gr,gb (Aam h),trivial⟩))
def A9a.f (_k:Nat) (Aac:Int) (Aad:ByteArray) (Aj3:Int) (Aae:Int) (Aax:List Tree):Option (Bool):=(cond (Aac == 6) (some true) (some (Aac == 7)):Option Bool).bind fun q2=>some (q2)
theorem A9a.ok {k Ac3:Nat} {Aac Aj3 Aae:Int} {Aad:ByteArray} {Aax:List Tree} {Adk:Aaa} {Ac2:TyO} {r:Bool} (h:A9a.f k Aac Aad Aj3 Aae Aax=some r) (Aeo:RdR (Abt 54) Adk (slW Ac2 Aax Ac3) Aax): Ct Tryz.prog 107 #[.agg #[iv Aac,sv Aad,iv Aj3,iv Aae,slW Ac2 Aax Ac3]] [] [Adk] (fun e l1=>e=.returned (bv r)∧l1=[]):=by
 refine Afi (args:=[.agg #[iv Aac,sv Aad,iv Aj3,iv Aae,slW Ac2 Aax Ac3]]) Tryz.func107 rfl (Ac0 rfl) ?_
 intro A X hh_
 obtain ⟨Bfo,_⟩:=hh_
 unfold A9a.f at h
 refine ksr (knp #[iv Aac,sv Aad,iv Aj3,iv Aae,slW Ac2 Aax Ac3] 54 fun b1=>(kx 1 (knt (bnd h fun q2 hq2 h=>?_))))
 refine Ak3 [(2,bv q2)] (X) ?_ ?_
 ·clear hq2
  refine Aem ?_
  obtain rfl:=Aam h
  exact kdn rfl
 ·have h:=hq2
  clear hq2
  refine Ab6 (kx 1 (kld 0 0 rfl (kx 2 ?_)))
  refine kcs 6 h (fun h=>?_) fun h=>?_
  ·exact kx 5 (knt (K.drop (Afa ⟨gb (Aam h),trivial⟩)))
  ·exact kx 1 (kld 0 0 rfl (K.drop (kx 3 (knt (Afa ⟨gb (Aam h),trivial⟩)))))
theorem St.Bho {A:World} {X:List Aaa} {w:World}:∀ (n:Nat),St A X w→St A (List.replicate n none_++X) w
 | 0,h=>h
 | n+1,h=>by
  have:=St.Bho n h
  exact ⟨⟨fun _ _ h=>(by cases h),fun _ _ _=>.inl rfl,this.sat⟩,this.os,this.tape,this.output,this.size⟩
theorem Dbr (p q:Value) (w:World) :
  CallsD Tryz.prog 25 #[p,q] .returning w fun e u' w'=>e=.returned (.tuple #[])∧u'=.returning∧w=w':=by
 refine callsD_of_wpS Tryz.func25 rfl fun c₀ cs hu=>?_
 apply wpS_seq
 apply wpS_region
 simp [wpOpsS,go_sem,recoverD,hu,Tryz.ntmps25,Exit.thenS,Array.replicate_succ]
 refine wpS_of_wp ?_
 go_wp2
 cases c₀
 simp_all [bodyPostS,results,Tryz.results25]
theorem Civ {A w:World} {X:List Aaa} {p q:Nat} {x0 x1 x2 x3 x4 y0 y1:Value} {i:Int} (hw:St A (blk p (.cells #[x0,x1,x2,x3,x4] 54 (0,0)) :: blk q (.cells #[y0,y1] 28 (0,0)) :: X) w) :
  CallsD Tryz.prog 25 #[.pointer (some ⟨p,0,none⟩),.pointer (some ⟨q,0,none⟩)] (.panicking [{ v:=Aqq i,recovered:=false }]) w fun e u' w'=>e=.returned (.tuple #[])∧settle u'=.returning∧St A (blk p (.cells #[.int .i64 (0:Int),.string (⟨#[]⟩:ByteArray),.int .i64 (0:Int),.int .i64 (0:Int),.slice none 0 0] 54 (0,0)) :: blk q (.cells #[.int .i64 (4:Int),.int .i64 i] 28 (0,0)) :: X) w':=by
 refine callsD_of_wpS Tryz.func25 rfl fun c₀ cs hu=>?_
 apply wpS_seq
 apply wpS_region
 simp [wpOpsS,go_sem,recoverD,hu,Tryz.ntmps25,Exit.thenS,Array.replicate_succ]
 refine wpS_of_wp ?_
 refine (?_:K [] A Tryz.f25.ntmps [(0,.pointer (some ⟨p,0,none⟩)),(1,.pointer (some ⟨q,0,none⟩)),(5,.iface 90 (.agg #[.int .i64 (4:Int),.int .i64 i]))] (blk p (.cells #[x0,x1,x2,x3,x4] 54 (0,0)) :: blk q (.cells #[y0,y1] 28 (0,0)) :: X) _) _ w ⟨rfl,rfl,?_⟩ hw
 rotate_left
 ·intro j v hj
  simp only [Env.get] at hj
  match j with
  | 0=>cases hj;rfl
  | 1=>cases hj;rfl
  | 2=>cases hj
  | 3=>cases hj
  | 4=>cases hj
  | 5=>cases hj;rfl
  | j+6=>cases hj
 refine Aez ?_
 refine Acx ?_
 refine Ab6 ?_
 refine Bm4 1 [(0,.pointer (some ⟨p,0,none⟩)),(1,.pointer (some ⟨q,0,none⟩)),(5,.iface 90 (.agg #[.int .i64 (4:Int),.int .i64 i])),(7,.bool false)] (by kernel_rfl) ?_
 refine Aww ?_
 refine Abi ?_
 refine Bmm (by kernel_rfl) ?_
 refine Acx ?_
 refine Ab6 ?_
 refine Bm4 3 [(0,.pointer (some ⟨p,0,none⟩)),(1,.pointer (some ⟨q,0,none⟩)),(5,.iface 90 (.agg #[.int .i64 (4:Int),.int .i64 i])),(9,.bool true),(10,.agg #[.int .i64 (4:Int),.int .i64 i])] (by kernel_rfl) ?_
 refine Aww ?_
 refine Abi ?_
 refine Bmo (by kernel_rfl) ?_
 refine Acx ?_
 refine Ab6 ?_
 refine Bm2 (.cells #[.int .i64 (0:Int),.int .i64 (0:Int)] 90 (0,0)) (fun b=>.pointer (some ⟨b,0,none⟩)) (by kernel_rfl) (by kernel_rfl) (fun _=>by kernel_rfl) fun b1=>?_
 refine Bgy (cs':=#[.int .i64 (4:Int),.int .i64 i]) [.st ⟨b1,0,none⟩ (.int .i64 (4:Int)),.st ⟨b1,1,none⟩ (.int .i64 i)] (by kernel_rfl) (by kernel_rfl) (by kernel_rfl) ⟨rfl,rfl,trivial⟩ (by kernel_rfl) ?_
 refine Aww ?_
 refine Abi ?_
 refine Bgv [(0,0),(1,3),(2,1)] (fun w=>Amx [blk b1 (.cells #[.int .i64 (4:Int),.int .i64 i] 90 (0,0))] w) (by kernel_rfl) (by kernel_rfl) (fun _ _ d _ _ h=>by cases d <;> exact h) (fun w h_=>⟨h_.sat.on _ (.head _),trivial⟩) ?_
 simp only [Akr,List.filterMap_cons,List.filterMap_nil,List.getElem?_toArray,List.getElem?_cons_zero,List.getElem?_cons_succ,Option.map_some,List.drop_succ_cons,List.drop_zero,Aa4,Acg]
 refine Cft 1 [(0,.pointer (some ⟨p,0,none⟩)),(1,.pointer (some ⟨q,0,none⟩)),(3,.pointer (some ⟨b1,0,none⟩)),(11,.agg #[.int .i64 (0:Int),.string (⟨#[]⟩:ByteArray),.int .i64 (0:Int),.int .i64 (0:Int),.slice none 0 0])] (by kernel_rfl) (by kernel_rfl) ?_
 refine Bm7 (v:=.agg #[.int .i64 (4:Int),.int .i64 i]) [blk b1 (.cells #[.int .i64 (4:Int),.int .i64 i] 90 (0,0))] [.val (.int .i64 (4:Int)),.val (.int .i64 i)] [.ld ⟨b1,0,none⟩ (.int .i64 (4:Int)),.ld ⟨b1,1,none⟩ (.int .i64 i)] (by kernel_rfl) (by kernel_rfl) (by kernel_rfl) (fun _ h=>h) ⟨⟨0,_,_,_,rfl,rfl,rfl⟩,⟨0,_,_,_,rfl,rfl,rfl⟩,trivial⟩ ?_
 refine Bxm (by kernel_rfl) ?_
 refine K.mv1 ?_
 refine Bn0 (cs':=#[.int .i64 (0:Int),.string (⟨#[]⟩:ByteArray),.int .i64 (0:Int),.int .i64 (0:Int),.slice none 0 0]) [.st ⟨p,0,none⟩ (.int .i64 (0:Int)),.st ⟨p,1,none⟩ (.string (⟨#[]⟩:ByteArray)),.st ⟨p,2,none⟩ (.int .i64 (0:Int)),.st ⟨p,3,none⟩ (.int .i64 (0:Int)),.st ⟨p,4,none⟩ (.slice none 0 0)] (by kernel_rfl) (by kernel_rfl) ⟨rfl,rfl,rfl,rfl,rfl,trivial⟩ (by kernel_rfl) ?_
 refine A8f (fun w h_=>⟨h_.sat.on _ (.tail _ (.head _)),trivial⟩) ?_
 refine Bxh ?_
 refine K.mv2 ?_
 refine Bgy (cs':=#[.int .i64 (4:Int),.int .i64 i]) [.st ⟨q,0,none⟩ (.int .i64 (4:Int)),.st ⟨q,1,none⟩ (.int .i64 i)] (by kernel_rfl) (by kernel_rfl) (by kernel_rfl) ⟨rfl,rfl,trivial⟩ (by kernel_rfl) ?_
 refine K.mv2 ?_
 refine K.drop ?_
 refine Aww ?_
 refine Ade ?_
 refine K.mv1 ?_
 intro a' w' ha' hw'
 have hd:=ha'.defers
 simp [bodyPostS,results,Tryz.results25,hd,settle]
 exact hw'
structure PE where
 Agw:List (Int×ByteArray×Int×Int)→Int→Int→Option (PR (Int×ByteArray×Int×Int×List Tree×Int))
 Asb:List (Int×ByteArray×Int×Int)→Int→Option (PR (Int×ByteArray×Int×Int×List Tree×Int))
 Aiu:List (Int×ByteArray×Int×Int)→Int→Option (PR (Int×ByteArray×Int×Int×List Tree×Int))
 Anl:List (Int×ByteArray×Int×Int)→Int→Option (PR (List Tree×Int))
 Ar8:List (Int×ByteArray×Int×Int)→Int→Option (PR (Int×ByteArray×Int×Int×List Tree×Int))
 Aim:List (Int×ByteArray×Int×Int)→Int→Option (PR (List Tree×Int))
def Agw.C (fC:List (Int×ByteArray×Int×Int)→Int→Int→Option (PR (Int×ByteArray×Int×Int×List Tree×Int))):Prop:=∀ {Aac:List (Int×ByteArray×Int×Int)} {Aad a1:Int} {b0 Aau:Nat} {Adb:Aaa} {Aas:TyO} {r:PR (Int×ByteArray×Int×Int×List Tree×Int)} (h:fC Aac Aad a1=some r) (Abe:RdT e96 4 Adb (slW Aas Aac Aau) Aac),Ct Tryz.prog 64 #[pt b0,iv a1] [bk b0 #[slW Aas Aac Aau,iv Aad] 93] [Adb] (PR.Post Aqq (fun (r:Int×ByteArray×Int×Int×List Tree×Int) e l1=>∃ (H0_:Aaa) (A0_:TyO) (c0_:Nat),Abf (Abt 54) 54 H0_ (slW A0_ r.2.2.2.2.1 c0_) r.2.2.2.2.1∧e=.returned (.agg #[iv r.1,sv r.2.1,iv r.2.2.1,iv r.2.2.2.1,slW A0_ r.2.2.2.2.1 c0_])∧l1=[H0_,bk b0 #[slW Aas Aac Aau,iv r.2.2.2.2.2] 93]) r)
def Asb.C (fC:List (Int×ByteArray×Int×Int)→Int→Option (PR (Int×ByteArray×Int×Int×List Tree×Int))):Prop:=∀ {Aac:List (Int×ByteArray×Int×Int)} {Aad:Int} {b0 Aau:Nat} {Adb:Aaa} {Aas:TyO} {r:PR (Int×ByteArray×Int×Int×List Tree×Int)} (h:fC Aac Aad=some r) (Abe:RdT e96 4 Adb (slW Aas Aac Aau) Aac),Ct Tryz.prog 104 #[pt b0] [bk b0 #[slW Aas Aac Aau,iv Aad] 93] [Adb] (PR.Post Aqq (fun (r:Int×ByteArray×Int×Int×List Tree×Int) e l1=>∃ (H0_:Aaa) (A0_:TyO) (c0_:Nat),Abf (Abt 54) 54 H0_ (slW A0_ r.2.2.2.2.1 c0_) r.2.2.2.2.1∧e=.returned (.agg #[iv r.1,sv r.2.1,iv r.2.2.1,iv r.2.2.2.1,slW A0_ r.2.2.2.2.1 c0_])∧l1=[H0_,bk b0 #[slW Aas Aac Aau,iv r.2.2.2.2.2] 93]) r)
def Aiu.C (fC:List (Int×ByteArray×Int×Int)→Int→Option (PR (Int×ByteArray×Int×Int×List Tree×Int))):Prop:=∀ {Aac:List (Int×ByteArray×Int×Int)} {Aad:Int} {b0 Aau:Nat} {Adb:Aaa} {Aas:TyO} {r:PR (Int×ByteArray×Int×Int×List Tree×Int)} (h:fC Aac Aad=some r) (Abe:RdT e96 4 Adb (slW Aas Aac Aau) Aac),Ct Tryz.prog 106 #[pt b0] [bk b0 #[slW Aas Aac Aau,iv Aad] 93] [Adb] (PR.Post Aqq (fun (r:Int×ByteArray×Int×Int×List Tree×Int) e l1=>∃ (H0_:Aaa) (A0_:TyO) (c0_:Nat),Abf (Abt 54) 54 H0_ (slW A0_ r.2.2.2.2.1 c0_) r.2.2.2.2.1∧e=.returned (.agg #[iv r.1,sv r.2.1,iv r.2.2.1,iv r.2.2.2.1,slW A0_ r.2.2.2.2.1 c0_])∧l1=[H0_,bk b0 #[slW Aas Aac Aau,iv r.2.2.2.2.2] 93]) r)
def Anl.C (fC:List (Int×ByteArray×Int×Int)→Int→Option (PR (List Tree×Int))):Prop:=∀ {Aac:List (Int×ByteArray×Int×Int)} {Aad:Int} {b0 Aau:Nat} {Adb:Aaa} {Aas:TyO} {r:PR (List Tree×Int)} (h:fC Aac Aad=some r) (Abe:RdT e96 4 Adb (slW Aas Aac Aau) Aac),Ct Tryz.prog 125 #[pt b0] [bk b0 #[slW Aas Aac Aau,iv Aad] 93] [Adb] (PR.Post Aqq (fun (r:List Tree×Int) e l1=>∃ (H0_:Aaa) (A0_:TyO) (c0_:Nat),Abf (Abt 54) 54 H0_ (slW A0_ r.1 c0_) r.1∧e=.returned (slW A0_ r.1 c0_)∧l1=[H0_,bk b0 #[slW Aas Aac Aau,iv r.2] 93]) r)
def Ar8.C (fC:List (Int×ByteArray×Int×Int)→Int→Option (PR (Int×ByteArray×Int×Int×List Tree×Int))):Prop:=∀ {Aac:List (Int×ByteArray×Int×Int)} {Aad:Int} {b0 Aau:Nat} {Adb:Aaa} {Aas:TyO} {r:PR (Int×ByteArray×Int×Int×List Tree×Int)} (h:fC Aac Aad=some r) (Abe:RdT e96 4 Adb (slW Aas Aac Aau) Aac),Ct Tryz.prog 134 #[pt b0] [bk b0 #[slW Aas Aac Aau,iv Aad] 93] [Adb] (PR.Post Aqq (fun (r:Int×ByteArray×Int×Int×List Tree×Int) e l1=>∃ (H0_:Aaa) (A0_:TyO) (c0_:Nat),Abf (Abt 54) 54 H0_ (slW A0_ r.2.2.2.2.1 c0_) r.2.2.2.2.1∧e=.returned (.agg #[iv r.1,sv r.2.1,iv r.2.2.1,iv r.2.2.2.1,slW A0_ r.2.2.2.2.1 c0_])∧l1=[H0_,bk b0 #[slW Aas Aac Aau,iv r.2.2.2.2.2] 93]) r)
def Aim.C (fC:List (Int×ByteArray×Int×Int)→Int→Option (PR (List Tree×Int))):Prop:=∀ {Aac:List (Int×ByteArray×Int×Int)} {Aad:Int} {b0 Aau:Nat} {Adb:Aaa} {Aas:TyO} {r:PR (List Tree×Int)} (h:fC Aac Aad=some r) (Abe:RdT e96 4 Adb (slW Aas Aac Aau) Aac),Ct Tryz.prog 43 #[pt b0] [bk b0 #[slW Aas Aac Aau,iv Aad] 93] [Adb] (PR.Post Aqq (fun (r:List Tree×Int) e l1=>∃ (H0_:Aaa) (A0_:TyO) (c0_:Nat),Abf (Abt 54) 54 H0_ (slW A0_ r.1 c0_) r.1∧e=.returned (slW A0_ r.1 c0_)∧l1=[H0_,bk b0 #[slW Aas Aac Aau,iv r.2] 93]) r)
structure PE.Good (R:PE):Prop where
 Agw:Agw.C R.Agw
 Asb:Asb.C R.Asb
 Aiu:Aiu.C R.Aiu
 Anl:Anl.C R.Anl
 Ar8:Ar8.C R.Ar8
 Aim:Aim.C R.Aim
def Agw.l0:Nat→(Rc:PE)→(Aac:List (Int×ByteArray×Int×Int))→(a1:Int)→(r2:Int×ByteArray×Int×Int×List Tree×Int)→(x9:Int)→(x10:ByteArray)→(x11:Int)→(l12:List Tree)→(x17:Int)→Option (PR (Int×ByteArray×Int×Int×List Tree×Int))
 | 0,_,_,_,_,_,_,_,_,_=>none
 | m18+1,Rc,Aac,a1,r2,x9,x10,x11,l12,x17=>(Ajg.f m18 Aac x17).bind fun r19=>(A85.f m18 r19.1 r19.2.1 r19.2.2.1 r19.2.2.2).bind fun r21=>cond (decide (r21≤a1)) (some (PR.ok (x9,x10,x11,r2.2.2.2.1,l12,x17))) (Adj (fun (x23:Int)=>PR.bind (Rc.Agw Aac (IntKind.i64.wrap (x17+1)) x23) fun r25=>Agw.l0 m18 Rc Aac a1 r2 11 r19.2.1 0 ([(Tree.mk x9 x10 x11 r2.2.2.2.1 l12),(Tree.mk r25.1 r25.2.1 r25.2.2.1 r25.2.2.2.1 r25.2.2.2.2.1)]) r25.2.2.2.2.2) (fun J24=>cond (r21 == 4) (J24 (IntKind.i64.wrap (r21 - 1))) (J24 r21)))
def Agw.g (Rc:PE) (k:Nat) (Aac:List (Int×ByteArray×Int×Int)) (Aad:Int) (a1:Int):Option (PR (Int×ByteArray×Int×Int×List Tree×Int)):=PR.bind (Rc.Asb Aac Aad) fun r2=>Agw.l0 k Rc Aac a1 r2 r2.1 r2.2.1 r2.2.2.1 r2.2.2.2.2.1 r2.2.2.2.2.2
theorem Agw.okg {Rc:PE} (hR:Rc.Good) {k:Nat}:Agw.C (Agw.g Rc k):=by
 intro Aac Aad a1 b0 Aau Adb Aas r h Abe
 refine Afi (args:=[pt b0,iv a1]) Tryz.func64 rfl (Ac0 rfl) ?_
 intro A X hh_
 obtain ⟨Abr,_⟩:=hh_
 unfold Agw.g at h
 refine K.eq (env':=[(0,pt b0),(1,iv a1)]) (l':=bk b0 #[slW Aas Aac Aau,iv Aad] 93 :: X) rfl rfl (ksr (knp #[iv 0,sv noS,iv 0,iv 0,nS] 54 fun b1=>(Abz (kx 1 (K.mv1 (kcp h (fun _ hr2=>(hR.Asb hr2 Abe)) rfl ⟨(.tail _ Abr),trivial⟩ (fun _ e=>Ab5 (kpn 1 e rfl)) fun r2 h=>?_))))))
 rintro _ _ ⟨h3,A4,k5,o6,rfl,rfl⟩
 refine Ach (knp #[iv 0,sv noS,iv 0,iv 0,nS] 54 fun b8=>(kst 0 5 #[iv r2.1,sv r2.2.1,iv r2.2.2.1,iv r2.2.2.2.1,slW A4 r2.2.2.2.2.1 k5] (knt (Aez (K.mv1 (K.mv3 (K.mv3 (K.mv3 (Akb (τ:=Int×ByteArray×Int×(List Tree)×Int×Aaa×TyO×Nat) (fun t=>[(0,pt b0),(1,iv a1),(4,pt b1),(5,pt b8)]) (fun t=>bk b8 #[iv t.1,sv t.2.1,iv t.2.2.1,iv r2.2.2.2.1,slW t.2.2.2.2.2.2.1 t.2.2.2.1 t.2.2.2.2.2.2.2] 54 :: bk b0 #[slW Aas Aac Aau,iv t.2.2.2.2.1] 93 :: bk b1 #[iv 0,sv noS,iv 0,iv 0,nS] 54 :: t.2.2.2.2.2.1 :: X) (fun m t=>Agw.l0 m Rc Aac a1 r2 t.1 t.2.1 t.2.2.1 t.2.2.2.1 t.2.2.2.2.1=some r∧Abf (Abt 54) 54 t.2.2.2.2.2.1 (slW t.2.2.2.2.2.2.1 t.2.2.2.1 t.2.2.2.2.2.2.2) t.2.2.2.1) k (r2.1,r2.2.1,r2.2.2.1,r2.2.2.2.2.1,r2.2.2.2.2.2,h3,A4,k5) ⟨h,o6⟩ sb rfl ?_)))))))))
 clear h
 rintro m18 ⟨x9,x10,x11,l12,x17,h13,A14,k15⟩ ⟨h,o16⟩
 cases m18 with
 | zero=>simp [Agw.l0] at h
 | succ m18 =>
  simp only [Agw.l0] at h
  refine Aez (ksr (kx 1 (K.mv1 (bnd h fun r19 hr19 h=>(kc1 (Ajg.ok hr19 Abe) rfl ⟨(t3 Abr),trivial⟩ (knp #[iv 0,sv noS,iv 0,iv 0] 96 fun b20=>(kst 0 4 #[iv r19.1,sv r19.2.1,iv r19.2.2.1,iv r19.2.2.2] (Abz (kla 0 0 4 rfl (bnd h fun r21 Avx h=>?_))))))))))
  refine kcv (A85.ok Avx) trivial (kx 1 (knt (Acx (ksr (kx 3 (knt ?_))))))
  refine kcn h (fun h=>?_) fun h=>?_
  ·refine ksr (kla 2 0 5 rfl (K.drop (K.mv1 (K.drop (K.mv1 (kst 0 5 #[iv x9,sv x10,iv x11,iv r2.2.2.2.1,slW A14 l12 k15] (knt (Aem (Afx (Ahj ?_))))))))))
   refine Afx (Ahj ?_)
   obtain rfl:=Aam h
   exact kda 0 5 rfl [h13,bk b0 #[slW Aas Aac Aau,iv x17] 93] (K.drop (K.mv1 (Adq (PR.okI ⟨h13,A14,k15,o16,rfl,rfl⟩))))
  ·refine Adl (Abi (ksr (kx 3 (kld 1 1 rfl (kx 3 (K.mv1 (kst 1 1 #[slW Aas Aac Aau,iv (IntKind.i64.wrap (x17+1))] (Abz (kx 2 (knt ?_))))))))))
   obtain ⟨J24,Bfg,h⟩:=Ags h
   refine Agt (τ:=Int) (fun t=>[(0,pt b0),(1,iv a1),(4,pt b1),(5,pt b8),(6,pt b20),(8,iv t)]) (fun t=>bk b0 #[slW Aas Aac Aau,iv (IntKind.i64.wrap (x17+1))] 93 :: bk b20 #[iv r19.1,sv r19.2.1,iv r19.2.2.1,iv r19.2.2.2] 96 :: bk b8 #[iv x9,sv x10,iv x11,iv r2.2.2.2.1,slW A14 l12 k15] 54 :: bk b1 #[iv 0,sv noS,iv 0,iv 0,nS] 54 :: h13 :: X) (fun t=>J24 t=some r) ?_ ?_
   ·rintro x23 h
    subst Bfg
    refine kpr [(0,0),(1,3),(2,0),(3,3),(4,3),(5,0),(6,0),(7,1),(8,1)] [1,2] (kpx 1 (kpd 0 1 rfl (kpx 1 (kpd 1 3 rfl (kpa 1 0 5 rfl (kpx 2 (kpt (ocp h (fun _ Bfu=>(hR.Agw Bfu Abe)) rfl ⟨(t4 Abr),trivial⟩ (fun _ e=>Ad4 (Ab5 (Ad4 (kpn 4 e rfl)))) fun r25 h=>?_))))))))
    rintro _ _ ⟨h26,A27,k28,o29,rfl,rfl⟩
    refine Ach (kan [2,3] rfl (kpt (ons #[iv x9,sv x10,iv x11,iv r2.2.2.2.1,slW A14 l12 k15,iv r25.1,sv r25.2.1,iv r25.2.2.1,iv r25.2.2.2.1,slW A27 r25.2.2.2.2.1 k28] 54 2 fun b31=>(kan [3,4] rfl (kpz (kx 1 (K.mv4 (kst 0 5 #[iv 11,sv r19.2.1,iv 0,iv r2.2.2.2.1,.slice (some ⟨b31,0,none⟩) 2 2] (K.mv4 (K.drop ?_))))))))))
    refine knl (Ade (Abi (K.mv2 (K.mv5 (Av0 fun p32=>(K.mv2 (Aip (T:=54) (n:=2) (xs:=[(Tree.mk x9 x10 x11 r2.2.2.2.1 l12),(Tree.mk r25.1 r25.2.1 r25.2.2.1 r25.2.2.2.1 r25.2.2.2.2.1)]) (Ael.cons (Ai9 (k:=x9) (t:=x10) (n:=x11) (a:=r2.2.2.2.1) 54 o16) p32 (Ael.one (Ai9 (k:=r25.1) (t:=r25.2.1) (n:=r25.2.2.1) (a:=r25.2.2.2.1) 54 o29))) rfl rfl (Ac0 rfl) fun h33 o34=>(K.mv3 (K.mv3 (K.mv3 ?_))))))))))
    exact Ai4 m18 (11,r19.2.1,0,[(Tree.mk x9 x10 x11 r2.2.2.2.1 l12),(Tree.mk r25.1 r25.2.1 r25.2.2.1 r25.2.2.2.1 r25.2.2.2.2.1)],r25.2.2.2.2.2,h33,(some ⟨b31,0,none⟩),2) (Nat.lt_succ_self _) ⟨h,o34⟩ sb rfl
   ·skip
    refine ksr (kx 2 (knt ?_))
    refine kcn h (fun h=>?_) fun h=>?_
    ·exact Ab6 (kx 3 (knt (Ac1 (IntKind.i64.wrap (r21 - 1)) h sb rfl)))
    ·exact Adl (Abi (Ac1 r21 h sb rfl))
def Asb.g (Rc:PE) (k:Nat) (Aac:List (Int×ByteArray×Int×Int)) (Aad:Int):Option (PR (Int×ByteArray×Int×Int×List Tree×Int)):=(Ajg.f k Aac Aad).bind fun r2=>Adj (fun (x5:Int) (x6:ByteArray) (x7:Int)=>some (PR.ok (x5,x6,x7,r2.2.2.2,[],IntKind.i64.wrap (Aad+1)))) (fun J8=>cond (r2.1 == 3) (J8 4 (⟨#[]⟩:ByteArray) r2.2.2.1) (cond (r2.1 == 4) (J8 5 r2.2.1 0) ((Akh.f k Aac Aad (⟨#[110,105,108]⟩:ByteArray)).bind fun r11=>cond r11 (J8 1 (⟨#[]⟩:ByteArray) 0) ((Akh.f k Aac Aad (⟨#[116,114,117,101]⟩:ByteArray)).bind fun r13=>cond r13 (J8 2 (⟨#[]⟩:ByteArray) 0) ((Akh.f k Aac Aad (⟨#[102,97,108,115,101]⟩:ByteArray)).bind fun r15=>cond r15 (J8 3 (⟨#[]⟩:ByteArray) 0) (Adj (fun (x17:Bool) (x18:Int)=>cond x17 (PR.bind (Rc.Agw Aac x18 7) fun r21=>some (PR.ok (10,r2.2.1,0,r2.2.2.2,[(Tree.mk r21.1 r21.2.1 r21.2.2.1 r21.2.2.2.1 r21.2.2.2.2.1)],r21.2.2.2.2.2))) ((Af0.f k Aac x18 (⟨#[123]⟩:ByteArray)).bind fun r30=>cond r30.1 (PR.bind (Rc.Anl Aac r30.2) fun r32=>some (PR.ok (12,(⟨#[]⟩:ByteArray),0,r2.2.2.2,r32.1,r32.2))) (PR.bind (Rc.Aiu Aac r30.2) fun r38=>some (PR.ok (r38.1,r38.2.1,r38.2.2.1,r38.2.2.2.1,r38.2.2.2.2.1,r38.2.2.2.2.2))))) (fun J19=>(Af0.f k Aac Aad (⟨#[110,111,116]⟩:ByteArray)).bind fun r44=>cond r44.1 (J19 r44.1 r44.2) ((Af0.f k Aac r44.2 (⟨#[35]⟩:ByteArray)).bind fun r46=>cond r46.1 (J19 r46.1 r46.2) ((Af0.f k Aac r46.2 (⟨#[45]⟩:ByteArray)).bind fun r48=>J19 r48.1 r48.2)))))))))
theorem Asb.okg {Rc:PE} (hR:Rc.Good) {k:Nat}:Asb.C (Asb.g Rc k):=by
 intro Aac Aad b0 Aau Adb Aas r h Abe
 refine Afi (args:=[pt b0]) Tryz.func104 rfl (Ac0 rfl) ?_
 intro A X hh_
 obtain ⟨Abr,_⟩:=hh_
 unfold Asb.g at h
 refine K.eq (env':=[(0,pt b0)]) (l':=bk b0 #[slW Aas Aac Aau,iv Aad] 93 :: X) rfl rfl (ksr (knp #[iv 0,sv noS,iv 0,iv 0,nS] 54 fun b1=>(Abz (kx 1 (K.mv1 (bnd h fun r2 hr2 h=>(kc1 (Ajg.ok hr2 Abe) rfl ⟨(.tail _ Abr),trivial⟩ (knp #[iv 0,sv noS,iv 0,iv 0] 96 fun b3=>(kst 0 4 #[iv r2.1,sv r2.2.1,iv r2.2.2.1,iv r2.2.2.2] (Abz ?_))))))))))
 refine kx 1 (kld 0 3 rfl (kx 1 (knp #[iv 0,sv noS,iv 0,iv 0,nS] 54 fun b4=>(kst 0 5 #[iv 0,sv noS,iv 0,iv r2.2.2.2,nS] (knt ?_)))))
 obtain ⟨J8,hJ8,h⟩:=Ags h
 refine Agt (τ:=Int×ByteArray×Int) (fun t=>[(0,pt b0),(2,pt b1),(4,pt b4)]) (fun t=>bk b4 #[iv t.1,sv t.2.1,iv t.2.2,iv r2.2.2.2,nS] 54 :: bk b0 #[slW Aas Aac Aau,iv Aad] 93 :: bk b1 #[iv 0,sv noS,iv 0,iv 0,nS] 54 :: X) (fun t=>J8 t.1 t.2.1 t.2.2=some r) ?_ ?_
 ·rintro ⟨x5,x6,x7⟩ h
  subst hJ8
  refine ksr (kx 3 (kld 1 1 rfl (kx 3 (K.mv1 (kst 1 1 #[slW Aas Aac Aau,iv (IntKind.i64.wrap (Aad+1))] (Abz (kla 1 0 5 rfl (K.mv1 (K.drop (K.mv1 ?_))))))))))
  refine kst 0 5 #[iv x5,sv x6,iv x7,iv r2.2.2.2,nS] (knt (Aem ?_))
  obtain rfl:=Aam h
  exact kda 0 5 rfl [none_,bk b0 #[slW Aas Aac Aau,iv (IntKind.i64.wrap (Aad+1))] 93] (Ag6 (K.mv1 (K.drop (Adq (PR.okI ⟨none_,none,0,(Abf.nil (Abt 54) 54 none_),rfl,rfl⟩)))))
 ·skip
  refine Aez (ksr (kx 1 (kld 1 0 rfl (kx 2 (knt ?_)))))
  refine kcn h (fun h=>?_) fun h=>?_
  ·refine kpr [(0,0),(1,3),(2,0),(3,1)] [1] (kpx 1 (kpd 0 2 rfl (kpx 1 (kpt (ost 0 1 #[iv 4,sv noS,iv 0,iv r2.2.2.2,nS] (kan [1] rfl (kpz (kx 1 (kst 2 1 #[iv 4,sv noS,iv r2.2.2.1,iv r2.2.2.2,nS] (K.mv1 ?_))))))))))
   exact K.drop (knl (Ade (Abi (Ac1 (4,(⟨#[]⟩:ByteArray),r2.2.2.1) h sb rfl))))
  ·refine ksr (kx 1 (kld 1 0 rfl (kx 2 (knt ?_))))
   refine kcn h (fun h=>?_) fun h=>?_
   ·refine kpr [(0,0),(1,3),(2,0),(3,1)] [1] (kpx 1 (kpd 0 1 rfl (kpx 1 (kpt (ost 0 1 #[iv 5,sv noS,iv 0,iv r2.2.2.2,nS] (kan [1] rfl (kpz (kx 1 (kst 1 1 #[iv 5,sv r2.2.1,iv 0,iv r2.2.2.2,nS] (K.mv1 ?_))))))))))
    exact K.drop (knl (Ade (Abi (Ac1 (5,r2.2.1,0) h sb rfl))))
   ·refine ksr (kx 1 (K.mv2 (bnd h fun r11 A6y h=>(kc1 (Akh.ok A6y Abe) rfl ⟨(t3 Abr),trivial⟩ (kx 1 (knt ?_))))))
    refine kcn h (fun h=>?_) fun h=>?_
    ·exact Ab6 (kx 1 (K.mv1 (kst 0 1 #[iv 1,sv noS,iv 0,iv r2.2.2.2,nS] (K.mv2 (K.drop (knl (Ade (Abi (Ac1 (1,(⟨#[]⟩:ByteArray),0) h sb rfl)))))))))
    ·refine ksr (kx 1 (bnd h fun r13 A7b h=>(kc1 (Akh.ok A7b Abe) rfl ⟨(t3 Abr),trivial⟩ (kx 1 (knt ?_)))))
     refine kcn h (fun h=>?_) fun h=>?_
     ·exact Ab6 (kx 1 (K.mv1 (kst 0 1 #[iv 2,sv noS,iv 0,iv r2.2.2.2,nS] (K.mv2 (K.drop (knl (Ade (Abi (Ac1 (2,(⟨#[]⟩:ByteArray),0) h sb rfl)))))))))
     ·refine ksr (kx 1 (bnd h fun r15 Ayb h=>(kc1 (Akh.ok Ayb Abe) rfl ⟨(t3 Abr),trivial⟩ (kx 1 (knt ?_)))))
      refine kcn h (fun h=>?_) fun h=>?_
      ·exact Ab6 (kx 1 (K.mv1 (kst 0 1 #[iv 3,sv noS,iv 0,iv r2.2.2.2,nS] (K.mv2 (K.drop (knl (Ade (Abi (Ac1 (3,(⟨#[]⟩:ByteArray),0) h sb rfl)))))))))
      ·obtain ⟨J19,Btp,h⟩:=Ags h
       refine Agt (τ:=Bool×Int) (fun t=>[(0,pt b0),(2,pt b1),(3,pt b3),(40,bv t.1)]) (fun t=>bk b0 #[slW Aas Aac Aau,iv t.2] 93 :: bk b3 #[iv r2.1,sv r2.2.1,iv r2.2.2.1,iv r2.2.2.2] 96 :: bk b1 #[iv 0,sv noS,iv 0,iv 0,nS] 54 :: X) (fun t=>J19 t.1 t.2=some r) ?_ ?_
       ·rintro ⟨x17,x18⟩ h
        subst Btp
        refine kcn h (fun h=>?_) fun h=>?_
        ·refine Acx (kpr [(0,0),(1,3),(2,0),(3,3),(4,0),(5,1),(6,1)] [1] (kpx 1 (kpd 0 1 rfl (kpx 1 (kpd 0 3 rfl (kpx 1 (kpt (ocp h (fun _ Avx=>(hR.Agw Avx Abe)) rfl ⟨(t2 Abr),trivial⟩ (fun _ e=>Ab5 (Ad4 (Ab5 (kpn 2 e rfl)))) fun r21 h=>?_))))))))
         rintro _ _ ⟨h22,A23,k24,o25,rfl,rfl⟩
         refine Ach (kan [2] rfl (kpt (ons #[iv r21.1,sv r21.2.1,iv r21.2.2.1,iv r21.2.2.2.1,slW A23 r21.2.2.2.2.1 k24] 54 1 fun b27=>(kan [3] rfl (kpz (kx 1 (K.mv4 (kst 0 5 #[iv 10,sv r2.2.1,iv 0,iv r2.2.2.2,.slice (some ⟨b27,0,none⟩) 1 1] (K.mv4 (K.drop ?_))))))))))
         refine knt (Aem (Ahj (Afx (K.mv2 (K.mv2 (Aip (T:=54) (n:=1) (xs:=[(Tree.mk r21.1 r21.2.1 r21.2.2.1 r21.2.2.2.1 r21.2.2.2.2.1)]) (Ael.one (Ai9 (k:=r21.1) (t:=r21.2.1) (n:=r21.2.2.1) (a:=r21.2.2.2.1) 54 o25)) rfl rfl (Ac0 rfl) fun h28 o29=>?_))))))
         obtain rfl:=Aam h
         exact kda 1 5 rfl [h28,bk b0 #[slW Aas Aac Aau,iv r21.2.2.2.2.2] 93] (K.mv1 (K.drop (Adq (PR.okI ⟨h28,(some ⟨b27,0,none⟩),1,o29,rfl,rfl⟩))))
        ·refine ksr (kx 1 (bnd h fun r30 Bu6 h=>(kc1 (Af0.ok Bu6 Abe) rfl ⟨(t2 Abr),trivial⟩ (kx 1 (knt ?_)))))
         refine kcn h (fun h=>?_) fun h=>?_
         ·refine Acx (kpr [(0,0),(1,3),(2,0),(3,1)] [1] (kpx 1 (kpd 0 3 rfl (kpx 1 (kpt (ocp h (fun _ A7i=>(hR.Anl A7i Abe)) rfl ⟨(t2 Abr),trivial⟩ (fun _ e=>Ab5 (Ad4 (Ab5 (kpn 2 e rfl)))) fun r32 h=>?_))))))
          rintro _ _ ⟨h33,A34,k35,o36,rfl,rfl⟩
          refine Ach (kan [2] rfl (kpz (kx 1 (K.mv3 (kst 0 5 #[iv 12,sv noS,iv 0,iv r2.2.2.2,slW A34 r32.1 k35] (K.mv3 (K.drop (knt (Aem (Ahj ?_))))))))))
          refine Afx ?_
          obtain rfl:=Aam h
          exact kda 0 5 rfl [h33,bk b0 #[slW Aas Aac Aau,iv r32.2] 93] (K.drop (Adq (PR.okI ⟨h33,A34,k35,o36,rfl,rfl⟩)))
         ·refine ksr (kx 1 (kcp h (fun _ A7l=>(hR.Aiu A7l Abe)) rfl ⟨(t2 Abr),trivial⟩ (fun _ e=>Ab5 (Ad4 (Ab5 (kpn 2 e rfl)))) fun r38 h=>?_))
          rintro _ _ ⟨h39,A40,k41,o42,rfl,rfl⟩
          refine Ach (K.mv2 (K.drop (K.mv2 (kst 0 5 #[iv r38.1,sv r38.2.1,iv r38.2.2.1,iv r38.2.2.2.1,slW A40 r38.2.2.2.2.1 k41] (knt (Aem (Ahj (Afx ?_))))))))
          obtain rfl:=Aam h
          exact kda 0 5 rfl [h39,bk b0 #[slW Aas Aac Aau,iv r38.2.2.2.2.2] 93] (K.drop (Adq (PR.okI ⟨h39,A40,k41,o42,rfl,rfl⟩)))
       ·skip
        refine ksr (kx 1 (bnd h fun r44 A7o h=>(kc1 (Af0.ok A7o Abe) rfl ⟨(t3 Abr),trivial⟩ (K.mv1 (K.drop (kx 1 (knt ?_)))))))
        refine kcn h (fun h=>?_) fun h=>?_
        ·exact Adl (Abi (Ac1 (r44.1,r44.2) h sb rfl))
        ·refine ksr (kx 1 (bnd h fun r46 Bvd h=>(kc1 (Af0.ok Bvd Abe) rfl ⟨(t2 Abr),trivial⟩ (kx 1 (knt ?_)))))
         refine kcn h (fun h=>?_) fun h=>?_
         ·exact Adl (Abi (Ac1 (r46.1,r46.2) h sb rfl))
         ·exact Ab6 (kx 1 (bnd h fun r48 Bve h=>(kc1 (Af0.ok Bve Abe) rfl ⟨(t2 Abr),trivial⟩ (kx 1 (knt (Ac1 (r48.1,r48.2) h sb rfl))))))
def Aiu.l0:Nat→(Rc:PE)→(Aac:List (Int×ByteArray×Int×Int))→(r2:Int×ByteArray×Int×Int)→(x15:Int)→(x16:ByteArray)→(x17:Int)→(x18:Int)→(l19:List Tree)→(x24:Int)→Option (PR (Int×ByteArray×Int×Int×List Tree×Int))
 | 0,_,_,_,_,_,_,_,_,_=>none
 | m25+1,Rc,Aac,r2,x15,x16,x17,x18,l19,x24=>(Af0.f m25 Aac x24 (⟨#[91]⟩:ByteArray)).bind fun r26=>cond r26.1 (PR.bind (Rc.Agw Aac r26.2 0) fun r28=>PR.bind (Ag2.f m25 Aac r28.2.2.2.2.2 (⟨#[93]⟩:ByteArray)) fun r35=>Aiu.l0 m25 Rc Aac r2 7 (⟨#[]⟩:ByteArray) 0 r2.2.2.2 ([(Tree.mk x15 x16 x17 x18 l19),(Tree.mk r28.1 r28.2.1 r28.2.2.1 r28.2.2.2.1 r28.2.2.2.2.1)]) r35) ((Af0.f m25 Aac r26.2 (⟨#[46]⟩:ByteArray)).bind fun r40=>cond r40.1 (PR.bind (Ap0.f m25 Aac r40.2) fun r42=>Aiu.l0 m25 Rc Aac r2 7 (⟨#[]⟩:ByteArray) 0 r2.2.2.2 ([(Tree.mk x15 x16 x17 x18 l19),(Tree.mk 5 r42.2.1 r42.2.2.1 r42.2.2.2.1 r42.2.2.2.2.1)]) r42.2.2.2.2.2) ((Af0.f m25 Aac r40.2 (⟨#[40]⟩:ByteArray)).bind fun r53=>cond r53.1 (Adj (fun (l56:List Tree) (x61:Int)=>PR.bind (Ag2.f m25 Aac x61 (⟨#[41]⟩:ByteArray)) fun r63=>Aiu.l0 m25 Rc Aac r2 8 (⟨#[]⟩:ByteArray) 0 r2.2.2.2 l56 r63) (fun J62=>(Akh.f m25 Aac r53.2 (⟨#[41]⟩:ByteArray)).bind fun r65=>cond (!r65) (PR.bind (Rc.Aim Aac r53.2) fun r67=>(apd 64 [(Tree.mk x15 x16 x17 x18 l19)] r67.1).bind fun l75=>J62 l75 r67.2) (J62 ([(Tree.mk x15 x16 x17 x18 l19)]) r53.2))) (some (PR.ok (x15,x16,x17,x18,l19,r53.2)))))
def Aiu.g (Rc:PE) (k:Nat) (Aac:List (Int×ByteArray×Int×Int)) (Aad:Int):Option (PR (Int×ByteArray×Int×Int×List Tree×Int)):=(Ajg.f k Aac Aad).bind fun r2=>Adj (fun (x4:Int) (x5:ByteArray) (x6:Int) (x7:Int) (l8:List Tree) (x13:Int)=>Aiu.l0 k Rc Aac r2 x4 x5 x6 x7 l8 x13) (fun J14=>(Af0.f k Aac Aad (⟨#[40]⟩:ByteArray)).bind fun r82=>cond r82.1 (PR.bind (Rc.Agw Aac r82.2 0) fun r84=>PR.bind (Ag2.f k Aac r84.2.2.2.2.2 (⟨#[41]⟩:ByteArray)) fun r91=>J14 9 (⟨#[]⟩:ByteArray) 0 r2.2.2.2 ([(Tree.mk r84.1 r84.2.1 r84.2.2.1 r84.2.2.2.1 r84.2.2.2.2.1)]) r91) (PR.bind (Ap0.f k Aac r82.2) fun r95=>J14 r95.1 r95.2.1 r95.2.2.1 r95.2.2.2.1 r95.2.2.2.2.1 r95.2.2.2.2.2))
theorem Aiu.okg {Rc:PE} (hR:Rc.Good) {k:Nat}:Aiu.C (Aiu.g Rc k):=by
 intro Aac Aad b0 Aau Adb Aas r h Abe
 refine Afi (args:=[pt b0]) Tryz.func106 rfl (Ac0 rfl) ?_
 intro A X hh_
 obtain ⟨Abr,_⟩:=hh_
 unfold Aiu.g at h
 refine K.eq (env':=[(0,pt b0)]) (l':=bk b0 #[slW Aas Aac Aau,iv Aad] 93 :: X) rfl rfl (ksr (knp #[iv 0,sv noS,iv 0,iv 0,nS] 54 fun b1=>(Abz (kx 1 (K.mv1 (bnd h fun r2 hr2 h=>(kc1 (Ajg.ok hr2 Abe) rfl ⟨(.tail _ Abr),trivial⟩ (kx 2 (Abz (knp #[iv 0,sv noS,iv 0,iv 0,nS] 54 fun b3=>?_))))))))))
 refine knt ?_
 obtain ⟨J14,Ax5,h⟩:=Ags h
 refine Agt (τ:=Int×ByteArray×Int×Int×(List Tree)×Int×Aaa×TyO×Nat) (fun t=>[(0,pt b0),(2,pt b1),(3,iv r2.2.2.2),(4,pt b3)]) (fun t=>bk b3 #[iv t.1,sv t.2.1,iv t.2.2.1,iv t.2.2.2.1,slW t.2.2.2.2.2.2.2.1 t.2.2.2.2.1 t.2.2.2.2.2.2.2.2] 54 :: bk b0 #[slW Aas Aac Aau,iv t.2.2.2.2.2.1] 93 :: bk b1 #[iv 0,sv noS,iv 0,iv 0,nS] 54 :: t.2.2.2.2.2.2.1 :: X) (fun t=>J14 t.1 t.2.1 t.2.2.1 t.2.2.2.1 t.2.2.2.2.1 t.2.2.2.2.2.1=some r∧Abf (Abt 54) 54 t.2.2.2.2.2.2.1 (slW t.2.2.2.2.2.2.2.1 t.2.2.2.2.1 t.2.2.2.2.2.2.2.2) t.2.2.2.2.1) ?_ ?_
 ·rintro ⟨x4,x5,x6,x7,l8,x13,h9,A10,k11⟩ ⟨h,o12⟩
  subst Ax5
  refine Aez (Akb (τ:=Int×ByteArray×Int×Int×(List Tree)×Int×Aaa×TyO×Nat) (fun t=>[(0,pt b0),(2,pt b1),(3,iv r2.2.2.2),(4,pt b3)]) (fun t=>bk b3 #[iv t.1,sv t.2.1,iv t.2.2.1,iv t.2.2.2.1,slW t.2.2.2.2.2.2.2.1 t.2.2.2.2.1 t.2.2.2.2.2.2.2.2] 54 :: bk b0 #[slW Aas Aac Aau,iv t.2.2.2.2.2.1] 93 :: bk b1 #[iv 0,sv noS,iv 0,iv 0,nS] 54 :: t.2.2.2.2.2.2.1 :: X) (fun m t=>Aiu.l0 m Rc Aac r2 t.1 t.2.1 t.2.2.1 t.2.2.2.1 t.2.2.2.2.1 t.2.2.2.2.2.1=some r∧Abf (Abt 54) 54 t.2.2.2.2.2.2.1 (slW t.2.2.2.2.2.2.2.1 t.2.2.2.2.1 t.2.2.2.2.2.2.2.2) t.2.2.2.2.1) k (x4,x5,x6,x7,l8,x13,h9,A10,k11) ⟨h,o12⟩ sb rfl ?_)
  clear h
  rintro m25 ⟨x15,x16,x17,x18,l19,x24,h20,A21,k22⟩ ⟨h,o23⟩
  cases m25 with
  | zero=>simp [Aiu.l0] at h
  | succ m25 =>
   simp only [Aiu.l0] at h
   refine Aez (Aez (ksr (kx 1 (K.mv1 (bnd h fun r26 A1i h=>(kc1 (Af0.ok A1i Abe) rfl ⟨(t3 Abr),trivial⟩ (kx 1 (knt ?_))))))))
   refine kcn h (fun h=>?_) fun h=>?_
   ·refine Acx (kpr [(0,0),(1,3),(2,0),(3,1)] [1] (kpx 1 (kpa 0 0 5 rfl (kpx 1 (kpt (ocp h (fun _ Bfv=>(hR.Agw Bfv Abe)) rfl ⟨(t3 Abr),trivial⟩ (fun _ e=>Ab5 (Ad4 (Ad4 (Ab5 (Ad4 (kpn 3 e rfl)))))) fun r28 h=>?_))))))
    rintro _ _ ⟨h29,A30,k31,o32,rfl,rfl⟩
    refine Ach (kan [2] rfl (kpz (kns #[iv x15,sv x16,iv x17,iv x18,slW A21 l19 k22,iv r28.1,sv r28.2.1,iv r28.2.2.1,iv r28.2.2.2.1,slW A30 r28.2.2.2.2.1 k31] 54 2 fun b34=>(kx 1 (K.mv3 (kst 0 5 #[iv 7,sv noS,iv 0,iv r2.2.2.2,.slice (some ⟨b34,0,none⟩) 2 2] (knr (kx 1 (K.mv3 (kcp h (fun _ A7j=>(Ag2.ok A7j Abe)) rfl ⟨(t5 Abr),trivial⟩ (fun _ e=>Ad4 (Ad4 (Ab5 (Ad4 (kpn 5 e rfl))))) fun r35 h=>?_))))))))))
    rintro _ _ ⟨rfl,rfl⟩
    refine Alj (knl (Ade (Ade (Abi (K.mv3 (K.mv5 (Av0 fun p37=>(K.mv3 (Aip (T:=54) (n:=2) (xs:=[(Tree.mk x15 x16 x17 x18 l19),(Tree.mk r28.1 r28.2.1 r28.2.2.1 r28.2.2.2.1 r28.2.2.2.2.1)]) (Ael.cons (Ai9 (k:=x15) (t:=x16) (n:=x17) (a:=x18) 54 o23) p37 (Ael.one (Ai9 (k:=r28.1) (t:=r28.2.1) (n:=r28.2.2.1) (a:=r28.2.2.2.1) 54 o32))) rfl rfl (Ac0 rfl) fun h38 o39=>(K.mv3 ?_))))))))))
    exact K.mv2 (K.mv3 (Ai4 m25 (7,(⟨#[]⟩:ByteArray),0,r2.2.2.2,[(Tree.mk x15 x16 x17 x18 l19),(Tree.mk r28.1 r28.2.1 r28.2.2.1 r28.2.2.2.1 r28.2.2.2.2.1)],r35,h38,(some ⟨b34,0,none⟩),2) (Nat.lt_succ_self _) ⟨h,o39⟩ sb rfl))
   ·refine ksr (kx 1 (bnd h fun r40 Bfy h=>(kc1 (Af0.ok Bfy Abe) rfl ⟨(t3 Abr),trivial⟩ (kx 1 (knt ?_)))))
    refine kcn h (fun h=>?_) fun h=>?_
    ·refine ksr (kx 1 (kcp h (fun _ Bu9=>(Ap0.ok Bu9 Abe)) rfl ⟨(t3 Abr),trivial⟩ (fun _ e=>Ab5 (Ad4 (Ad4 (Ab5 (Ad4 (kpn 3 e rfl)))))) fun r42 h=>?_))
     rintro _ _ ⟨h43,A44,k45,o46,rfl,rfl⟩
     refine Ach (knp #[iv 0,sv noS,iv 0,iv 0,nS] 54 fun b48=>(kst 0 5 #[iv r42.1,sv r42.2.1,iv r42.2.2.1,iv r42.2.2.2.1,slW A44 r42.2.2.2.2.1 k45] (Abz (kx 1 (kst 0 1 #[iv 5,sv r42.2.1,iv r42.2.2.1,iv r42.2.2.2.1,slW A44 r42.2.2.2.2.1 k45] (knr (kx 1 (kla 3 0 5 rfl (kla 0 0 5 rfl (K.drop ?_))))))))))
     refine kns #[iv x15,sv x16,iv x17,iv x18,slW A21 l19 k22,iv 5,sv r42.2.1,iv r42.2.2.1,iv r42.2.2.2.1,slW A44 r42.2.2.2.2.1 k45] 54 2 fun b49=>(kx 1 (K.mv3 (kst 0 5 #[iv 7,sv noS,iv 0,iv r2.2.2.2,.slice (some ⟨b49,0,none⟩) 2 2] (knl (Ade (Ade (Abi (K.mv2 (K.mv5 (Av0 fun p50=>?_))))))))))
     exact K.mv2 (Aip (T:=54) (n:=2) (xs:=[(Tree.mk x15 x16 x17 x18 l19),(Tree.mk 5 r42.2.1 r42.2.2.1 r42.2.2.2.1 r42.2.2.2.2.1)]) (Ael.cons (Ai9 (k:=x15) (t:=x16) (n:=x17) (a:=x18) 54 o23) p50 (Ael.one (Ai9 (k:=5) (t:=r42.2.1) (n:=r42.2.2.1) (a:=r42.2.2.2.1) 54 o46))) rfl rfl (Ac0 rfl) fun h51 o52=>(K.mv3 (K.mv3 (K.mv3 (Ai4 m25 (7,(⟨#[]⟩:ByteArray),0,r2.2.2.2,[(Tree.mk x15 x16 x17 x18 l19),(Tree.mk 5 r42.2.1 r42.2.2.1 r42.2.2.2.1 r42.2.2.2.2.1)],r42.2.2.2.2.2,h51,(some ⟨b49,0,none⟩),2) (Nat.lt_succ_self _) ⟨h,o52⟩ sb rfl)))))
    ·refine ksr (kx 1 (bnd h fun r53 Bvi h=>(kc1 (Af0.ok Bvi Abe) rfl ⟨(t3 Abr),trivial⟩ (kx 1 (knt ?_)))))
     refine kcn h (fun h=>?_) fun h=>?_
     ·refine ksr (kx 1 (kla 1 0 5 rfl (kns #[iv x15,sv x16,iv x17,iv x18,slW A21 l19 k22] 54 1 fun b55=>(kx 1 (K.mv2 (kst 0 5 #[iv 8,sv noS,iv 0,iv r2.2.2.2,.slice (some ⟨b55,0,none⟩) 1 1] (knt ?_)))))))
      obtain ⟨J62,Cvr,h⟩:=Ags h
      refine Agt (τ:=(List Tree)×Int×Aaa×TyO×Nat) (fun t=>[(0,pt b0),(2,pt b1),(3,iv r2.2.2.2),(4,pt b3)]) (fun t=>bk b3 #[iv 8,sv noS,iv 0,iv r2.2.2.2,slW t.2.2.2.1 t.1 t.2.2.2.2] 54 :: bk b0 #[slW Aas Aac Aau,iv t.2.1] 93 :: bk b1 #[iv 0,sv noS,iv 0,iv 0,nS] 54 :: t.2.2.1 :: X) (fun t=>J62 t.1 t.2.1=some r∧Abf (Abt 54) 54 t.2.2.1 (slW t.2.2.2.1 t.1 t.2.2.2.2) t.1) ?_ ?_
      ·rintro ⟨l56,x61,h57,A58,k59⟩ ⟨h,o60⟩
       subst Cvr
       refine Ab6 (kx 1 (K.mv1 (kcp h (fun _ Bvk=>(Ag2.ok Bvk Abe)) rfl ⟨(t3 Abr),trivial⟩ (fun _ e=>Ad4 (Ad4 (Ab5 (Ad4 (kpn 3 e rfl))))) fun r63 h=>?_)))
       rintro _ _ ⟨rfl,rfl⟩
       exact Alj (knl (Ade (Ade (Abi (K.mv3 (K.mv3 (K.mv2 (K.mv3 (Ai4 m25 (8,(⟨#[]⟩:ByteArray),0,r2.2.2.2,l56,r63,h57,A58,k59) (Nat.lt_succ_self _) ⟨h,o60⟩ sb rfl)))))))))
      ·skip
       refine ksr (kx 1 (K.mv2 (bnd h fun r65 C0b h=>(kc1 (Akh.ok C0b Abe) rfl ⟨(t4 Abr),trivial⟩ (kx 1 (knt ?_))))))
       refine kcn h (fun h=>?_) fun h=>?_
       ·refine kpr [(0,0),(1,3),(2,0),(3,1)] [1] (kpx 1 (kpd 0 4 rfl (kpx 1 (kpt (ocp h (fun _ A1l=>(hR.Aim A1l Abe)) rfl ⟨(t4 Abr),trivial⟩ (fun _ e=>Ab5 (Ad4 (Ad4 (Ab5 (Ad4 (kpn 4 e rfl)))))) fun r67 h=>?_)))))
        rintro _ _ ⟨h68,A69,k70,o71,rfl,rfl⟩
        refine Ach (kan [2] rfl (kpz (K.mv5 (K.mv4 (Aip (T:=54) (n:=1) (xs:=[(Tree.mk x15 x16 x17 x18 l19)]) (Ael.one (Ai9 (k:=x15) (t:=x16) (n:=x17) (a:=x18) 54 o23)) rfl rfl (Ac0 rfl) fun h73 o74=>(K.mv1 (K.mv1 (bnd h fun l75 Bl7 h=>(Amd rfl Ao8 rfl Bl7 o74 o71 fun h76 A77 k78 o79=>(kx 1 ?_))))))))))
        exact K.mv2 (kst 4 1 #[iv 8,sv noS,iv 0,iv r2.2.2.2,slW A77 l75 k78] (knt (K.mv1 (K.mv3 (K.mv3 (K.mv3 (Ac1 (l75,r67.2,h76,A77,k78) ⟨h,o79⟩ sb rfl)))))))
       ·exact Adl (Abi (K.mv4 (K.mv3 (Aip (T:=54) (n:=1) (xs:=[(Tree.mk x15 x16 x17 x18 l19)]) (Ael.one (Ai9 (k:=x15) (t:=x16) (n:=x17) (a:=x18) 54 o23)) rfl rfl (Ac0 rfl) fun h80 o81=>(K.mv3 (K.mv2 (K.mv3 (Ac1 ([(Tree.mk x15 x16 x17 x18 l19)],r53.2,h80,(some ⟨b55,0,none⟩),1) ⟨h,o81⟩ sb rfl))))))))
     ·refine ksr (kla 1 0 5 rfl (K.mv1 (K.drop (K.mv1 (kst 0 5 #[iv x15,sv x16,iv x17,iv x18,slW A21 l19 k22] (knt (Aem (Ahj (Ahj (Afx ?_))))))))))
      refine Ahj ?_
      obtain rfl:=Aam h
      exact kda 0 5 rfl [h20,bk b0 #[slW Aas Aac Aau,iv r53.2] 93] (K.drop (K.mv1 (Adq (PR.okI ⟨h20,A21,k22,o23,rfl,rfl⟩))))
 ·skip
  refine ksr (kx 1 (K.mv1 (bnd h fun r82 A1n h=>(kc1 (Af0.ok A1n Abe) rfl ⟨(t2 Abr),trivial⟩ (knt ?_)))))
  refine kcn h (fun h=>?_) fun h=>?_
  ·refine ksr (kx 2 (kcp h (fun _ Bf6=>(hR.Agw Bf6 Abe)) rfl ⟨(t2 Abr),trivial⟩ (fun _ e=>Ab5 (Ab5 (kpn 2 e rfl))) fun r84 h=>?_))
   rintro _ _ ⟨h85,A86,k87,o88,rfl,rfl⟩
   refine Ach (kns #[iv r84.1,sv r84.2.1,iv r84.2.2.1,iv r84.2.2.2.1,slW A86 r84.2.2.2.2.1 k87] 54 1 fun b90=>(kx 1 (K.mv3 (kst 0 5 #[iv 9,sv noS,iv 0,iv r2.2.2.2,.slice (some ⟨b90,0,none⟩) 1 1] (knr (kx 1 (K.mv3 (kcp h (fun _ C0m=>(Ag2.ok C0m Abe)) rfl ⟨(t4 Abr),trivial⟩ (fun _ e=>Ab5 (kpn 4 e rfl)) fun r91 h=>?_))))))))
   rintro _ _ ⟨rfl,rfl⟩
   exact Alj (knt (K.mv3 (K.mv3 (Aip (T:=54) (n:=1) (xs:=[(Tree.mk r84.1 r84.2.1 r84.2.2.1 r84.2.2.2.1 r84.2.2.2.2.1)]) (Ael.one (Ai9 (k:=r84.1) (t:=r84.2.1) (n:=r84.2.2.1) (a:=r84.2.2.2.1) 54 o88)) rfl rfl (Ac0 rfl) fun h93 o94=>(K.mv3 (K.mv2 (K.mv3 (Ac1 (9,(⟨#[]⟩:ByteArray),0,r2.2.2.2,[(Tree.mk r84.1 r84.2.1 r84.2.2.1 r84.2.2.2.1 r84.2.2.2.2.1)],r91,h93,(some ⟨b90,0,none⟩),1) ⟨h,o94⟩ sb rfl))))))))
  ·refine Ab6 (kx 1 (kcp h (fun _ A1s=>(Ap0.ok A1s Abe)) rfl ⟨(t2 Abr),trivial⟩ (fun _ e=>Ab5 (kpn 2 e rfl)) fun r95 h=>?_))
   rintro _ _ ⟨h96,A97,k98,o99,rfl,rfl⟩
   exact Ach (K.mv2 (kst 0 5 #[iv r95.1,sv r95.2.1,iv r95.2.2.1,iv r95.2.2.2.1,slW A97 r95.2.2.2.2.1 k98] (knt (K.mv1 (K.mv3 (K.mv3 (K.mv3 (Ac1 (r95.1,r95.2.1,r95.2.2.1,r95.2.2.2.1,r95.2.2.2.2.1,r95.2.2.2.2.2,h96,A97,k98) ⟨h,o99⟩ sb rfl))))))))
def Anl.l0:Nat→(Rc:PE)→(Aac:List (Int×ByteArray×Int×Int))→(J7:(List Tree)→Int→Option (PR (List Tree×Int)))→(l10:List Tree)→(x15:Int)→Option (PR (List Tree×Int))
 | 0,_,_,_,_,_=>none
 | m16+1,Rc,Aac,J7,l10,x15=>(Akh.f m16 Aac x15 (⟨#[125]⟩:ByteArray)).bind fun r17=>cond (!r17) (PR.bind (Rc.Ar8 Aac x15) fun r19=>(apd 64 l10 [(Tree.mk r19.1 r19.2.1 r19.2.2.1 r19.2.2.2.1 r19.2.2.2.2.1)]).bind fun l28=>Adj (fun (x33:Bool) (x34:Int)=>cond x33 (J7 l28 x34) (Anl.l0 m16 Rc Aac J7 l28 x34)) (fun J35=>(Af0.f m16 Aac r19.2.2.2.2.2 (⟨#[44]⟩:ByteArray)).bind fun r37=>cond (!r37.1) ((Af0.f m16 Aac r37.2 (⟨#[59]⟩:ByteArray)).bind fun r39=>J35 (!r39.1) r39.2) (J35 false r37.2))) (J7 l10 x15)
def Anl.g (Rc:PE) (k:Nat) (Aac:List (Int×ByteArray×Int×Int)) (Aad:Int):Option (PR (List Tree×Int)):=Adj (fun (l1:List Tree) (x6:Int)=>PR.bind (Ag2.f k Aac x6 (⟨#[125]⟩:ByteArray)) fun r8=>some (PR.ok (l1,r8))) (fun J7=>Anl.l0 k Rc Aac J7 ([]) Aad)
theorem Anl.okg {Rc:PE} (hR:Rc.Good) {k:Nat}:Anl.C (Anl.g Rc k):=by
 intro Aac Aad b0 Aau Adb Aas r h Abe
 refine Afi (args:=[pt b0]) Tryz.func125 rfl (Ac0 rfl) ?_
 intro A X hh_
 obtain ⟨Abr,_⟩:=hh_
 unfold Anl.g at h
 refine K.eq (env':=[(0,pt b0)]) (l':=bk b0 #[slW Aas Aac Aau,iv Aad] 93 :: X) rfl rfl (ksr (kx 1 (Abz (kx 1 (knt ?_)))))
 obtain ⟨J7,hJ7,h⟩:=Ags h
 refine Agt (τ:=(List Tree)×Int×Aaa×TyO×Nat) (fun t=>[(0,pt b0),(3,slW t.2.2.2.1 t.1 t.2.2.2.2)]) (fun t=>bk b0 #[slW Aas Aac Aau,iv t.2.1] 93 :: t.2.2.1 :: X) (fun t=>J7 t.1 t.2.1=some r∧Abf (Abt 54) 54 t.2.2.1 (slW t.2.2.2.1 t.1 t.2.2.2.2) t.1) ?_ ?_
 ·rintro ⟨l1,x6,h2,A3,k4⟩ ⟨h,o5⟩
  subst hJ7
  refine ksr (kx 1 (kcp h (fun _ hr8=>(Ag2.ok hr8 Abe)) rfl ⟨(.tail _ Abr),trivial⟩ (fun _ e=>Ab5 (kpn 1 e rfl)) fun r8 h=>?_))
  rintro _ _ ⟨rfl,rfl⟩
  refine Alj (Abz (kx 2 (knt (Aem ?_))))
  obtain rfl:=Aam h
  exact kdv (slW A3 l1 k4) [h2,bk b0 #[slW Aas Aac Aau,iv r8] 93] (K.mv1 (Adq (PR.okI ⟨h2,A3,k4,o5,rfl,rfl⟩)))
 ·skip
  refine Aez (Ag6 (K.mv1 (Akb (τ:=(List Tree)×Int×Aaa×TyO×Nat) (fun t=>[(0,pt b0),(3,slW t.2.2.2.1 t.1 t.2.2.2.2)]) (fun t=>bk b0 #[slW Aas Aac Aau,iv t.2.1] 93 :: t.2.2.1 :: X) (fun m t=>Anl.l0 m Rc Aac J7 t.1 t.2.1=some r∧Abf (Abt 54) 54 t.2.2.1 (slW t.2.2.2.1 t.1 t.2.2.2.2) t.1) k ([],Aad,none_,none,0) ⟨h,(Abf.nil (Abt 54) 54 none_)⟩ sb rfl ?_)))
  clear h
  rintro m16 ⟨l10,x15,h11,A12,k13⟩ ⟨h,o14⟩
  cases m16 with
  | zero=>simp [Anl.l0] at h
  | succ m16 =>
   simp only [Anl.l0] at h
   refine Acx (ksr (kx 1 (bnd h fun r17 Avv h=>(kc1 (Akh.ok Avv Abe) rfl ⟨(.tail _ Abr),trivial⟩ (kx 1 (knt ?_))))))
   refine kcn h (fun h=>?_) fun h=>?_
   ·refine Adl (Abi (Aez (ksr (kx 2 (kcp h (fun _ hr19=>(hR.Ar8 hr19 Abe)) rfl ⟨(.tail _ Abr),trivial⟩ (fun _ e=>Ab5 (Ad4 (Ab5 (Ad4 (Ab5 (kpn 1 e rfl)))))) fun r19 h=>?_)))))
    rintro _ _ ⟨h20,A21,k22,o23,rfl,rfl⟩
    refine Ach (kns #[iv r19.1,sv r19.2.1,iv r19.2.2.1,iv r19.2.2.2.1,slW A21 r19.2.2.2.2.1 k22] 54 1 fun b25=>(K.mv1 (K.mv1 (Aip (T:=54) (n:=1) (xs:=[(Tree.mk r19.1 r19.2.1 r19.2.2.1 r19.2.2.2.1 r19.2.2.2.2.1)]) (Ael.one (Ai9 (k:=r19.1) (t:=r19.2.1) (n:=r19.2.2.1) (a:=r19.2.2.2.1) 54 o23)) rfl rfl (Ac0 rfl) fun h26 o27=>(K.mv2 (bnd h fun l28 Bt3 h=>(Amd rfl Ao8 rfl Bt3 o14 o27 fun h29 A30 k31 o32=>(kx 1 (knt ?_)))))))))
    obtain ⟨J35,Cvn,h⟩:=Ags h
    refine Agt (τ:=Bool×Int) (fun t=>[(0,pt b0),(3,slW A30 l28 k31),(19,bv t.1)]) (fun t=>h29 :: bk b0 #[slW Aas Aac Aau,iv t.2] 93 :: X) (fun t=>J35 t.1 t.2=some r) ?_ ?_
    ·rintro ⟨x33,x34⟩ h
     subst Cvn
     refine kcn h (fun h=>?_) fun h=>?_
     ·exact Aj9 (Bmu rfl (Agh (Aka (Abi (K.mv1 (Ac1 (l28,x34,h29,A30,k31) ⟨h,o32⟩ sb rfl))))))
     ·exact Adl (Ade (Abi (K.mv1 (Ai4 m16 (l28,x34,h29,A30,k31) (Nat.lt_succ_self _) ⟨h,o32⟩ sb rfl))))
    ·skip
     refine Ab6 (kx 1 (K.mv1 (bnd h fun r37 A7k h=>(kc1 (Af0.ok A7k Abe) rfl ⟨(.tail _ Abr),trivial⟩ (kx 2 ?_)))))
     refine kcs 15 h (fun h=>?_) fun h=>?_
     ·exact kx 1 (bnd h fun r39 hr39 h=>(kc1 (Af0.ok hr39 Abe) rfl ⟨(.tail _ Abr),trivial⟩ (kx 2 (knt (K.mv1 (Ac1 (!r39.1,r39.2) h sb rfl))))))
     ·exact kx 4 (knt (K.mv1 (Ac1 (false,r37.2) h sb rfl)))
   ·exact Aj9 (Agh (Agh (Aka (Abi (Ac1 (l10,x15,h11,A12,k13) ⟨h,o14⟩ sb rfl)))))
def Ar8.g (Rc:PE) (k:Nat) (Aac:List (Int×ByteArray×Int×Int)) (Aad:Int):Option (PR (Int×ByteArray×Int×Int×List Tree×Int)):=(Ajg.f k Aac Aad).bind fun r2=>Adj (fun (x5:Int) (l6:List Tree) (x11:Int)=>PR.bind (Rc.Agw Aac x11 0) fun r13=>(apd 64 l6 [(Tree.mk r13.1 r13.2.1 r13.2.2.1 r13.2.2.2.1 r13.2.2.2.2.1)]).bind fun l22=>some (PR.ok (x5,(⟨#[]⟩:ByteArray),0,r2.2.2.2,l22,r13.2.2.2.2.2))) (fun J12=>(Af0.f k Aac Aad (⟨#[91]⟩:ByteArray)).bind fun r27=>cond r27.1 (PR.bind (Rc.Agw Aac r27.2 0) fun r29=>PR.bind (Ag2.f k Aac r29.2.2.2.2.2 (⟨#[93]⟩:ByteArray)) fun r36=>PR.bind (Ag2.f k Aac r36 (⟨#[61]⟩:ByteArray)) fun r38=>J12 14 ([(Tree.mk r29.1 r29.2.1 r29.2.2.1 r29.2.2.2.1 r29.2.2.2.2.1)]) r38) ((cond (r2.1 == 1) ((Ack Aac (IntKind.i64.wrap (r27.2+1))).bind fun x57=>cond (x57.1 == 5) ((Ack Aac (IntKind.i64.wrap (r27.2+1))).bind fun x65=>some (x65.2.1.toList == (⟨#[61]⟩:ByteArray).toList)) (some false)) (some false):Option Bool).bind fun q42=>cond q42 (PR.bind (Ap0.f k Aac r27.2) fun r44=>PR.bind (Ag2.f k Aac r44.2.2.2.2.2 (⟨#[61]⟩:ByteArray)) fun r52=>J12 14 ([(Tree.mk 5 r44.2.1 r44.2.2.1 r44.2.2.2.1 r44.2.2.2.2.1)]) r52) (J12 13 ([]) r27.2)))
theorem Ar8.okg {Rc:PE} (hR:Rc.Good) {k:Nat}:Ar8.C (Ar8.g Rc k):=by
 intro Aac Aad b0 Aau Adb Aas r h Abe
 refine Afi (args:=[pt b0]) Tryz.func134 rfl (Ac0 rfl) ?_
 intro A X hh_
 obtain ⟨Abr,_⟩:=hh_
 unfold Ar8.g at h
 refine K.eq (env':=[(0,pt b0)]) (l':=bk b0 #[slW Aas Aac Aau,iv Aad] 93 :: X) rfl rfl (ksr (knp #[iv 0,sv noS,iv 0,iv 0,nS] 54 fun b1=>(Abz (kx 1 (K.mv1 (bnd h fun r2 hr2 h=>(kc1 (Ajg.ok hr2 Abe) rfl ⟨(.tail _ Abr),trivial⟩ (knp #[iv 0,sv noS,iv 0,iv 0] 96 fun b3=>(kst 0 4 #[iv r2.1,sv r2.2.1,iv r2.2.2.1,iv r2.2.2.2] (Abz ?_))))))))))
 refine kx 1 (kld 0 3 rfl (kx 1 (knp #[iv 0,sv noS,iv 0,iv 0,nS] 54 fun b4=>(kst 0 5 #[iv 14,sv noS,iv 0,iv r2.2.2.2,nS] (knt ?_)))))
 obtain ⟨J12,Btm,h⟩:=Ags h
 refine Agt (τ:=Int×(List Tree)×Int×Aaa×TyO×Nat) (fun t=>[(0,pt b0),(2,pt b1),(4,pt b4)]) (fun t=>bk b4 #[iv t.1,sv noS,iv 0,iv r2.2.2.2,slW t.2.2.2.2.1 t.2.1 t.2.2.2.2.2] 54 :: bk b0 #[slW Aas Aac Aau,iv t.2.2.1] 93 :: bk b1 #[iv 0,sv noS,iv 0,iv 0,nS] 54 :: t.2.2.2.1 :: X) (fun t=>J12 t.1 t.2.1 t.2.2.1=some r∧Abf (Abt 54) 54 t.2.2.2.1 (slW t.2.2.2.2.1 t.2.1 t.2.2.2.2.2) t.2.1) ?_ ?_
 ·rintro ⟨x5,l6,x11,h7,A8,k9⟩ ⟨h,o10⟩
  subst Btm
  refine Acx (kpr [(0,0),(1,3),(2,0),(3,1),(4,1)] [0] (kpx 1 (kpd 0 4 rfl (kpx 1 (kpt (K.mv1 (ocp h (fun _ A7b=>(hR.Agw A7b Abe)) rfl ⟨(t3 Abr),trivial⟩ (fun _ e=>Ab5 (kpn 3 e rfl)) fun r13 h=>?_)))))))
  rintro _ _ ⟨h14,A15,k16,o17,rfl,rfl⟩
  refine Ach (kan [2] rfl (kpt (ons #[iv r13.1,sv r13.2.1,iv r13.2.2.1,iv r13.2.2.2.1,slW A15 r13.2.2.2.2.1 k16] 54 1 fun b19=>(kan [3] rfl (kpz (K.mv1 (K.mv1 (Aip (T:=54) (n:=1) (xs:=[(Tree.mk r13.1 r13.2.1 r13.2.2.1 r13.2.2.2.1 r13.2.2.2.2.1)]) (Ael.one (Ai9 (k:=r13.1) (t:=r13.2.1) (n:=r13.2.2.1) (a:=r13.2.2.2.1) 54 o17)) rfl rfl (Ac0 rfl) fun h20 o21=>(K.mv4 (bnd h fun l22 Cwz h=>?_))))))))))
  refine Amd rfl Ao8 rfl Cwz o10 o21 fun h23 A24 k25 o26=>(kx 1 (K.mv2 (kst 4 1 #[iv x5,sv noS,iv 0,iv r2.2.2.2,slW A24 l22 k25] (Abz (kla 0 0 5 rfl (K.drop (K.mv2 (kst 0 5 #[iv x5,sv noS,iv 0,iv r2.2.2.2,slW A24 l22 k25] (knt (Aem ?_))))))))))
  obtain rfl:=Aam h
  exact kda 0 5 rfl [h23,bk b0 #[slW Aas Aac Aau,iv r13.2.2.2.2.2] 93] (K.drop (Adq (PR.okI ⟨h23,A24,k25,o26,rfl,rfl⟩)))
 ·skip
  refine Aez (ksr (kx 1 (K.mv2 (bnd h fun r27 Avy h=>(kc1 (Af0.ok Avy Abe) rfl ⟨(t3 Abr),trivial⟩ (kx 1 (knt ?_)))))))
  refine kcn h (fun h=>?_) fun h=>?_
  ·refine ksr (kx 1 (kcp h (fun _ Bfw=>(hR.Agw Bfw Abe)) rfl ⟨(t3 Abr),trivial⟩ (fun _ e=>Ab5 (Ad4 (Ab5 (kpn 3 e rfl)))) fun r29 h=>?_))
   rintro _ _ ⟨h30,A31,k32,o33,rfl,rfl⟩
   refine Ach (K.mv3 (K.drop (kns #[iv r29.1,sv r29.2.1,iv r29.2.2.1,iv r29.2.2.2.1,slW A31 r29.2.2.2.2.1 k32] 54 1 fun b35=>(kx 1 (K.mv3 (kst 4 1 #[iv 14,sv noS,iv 0,iv r2.2.2.2,.slice (some ⟨b35,0,none⟩) 1 1] (Abz (kx 1 (K.mv3 (kcp h (fun _ Ayc=>(Ag2.ok Ayc Abe)) rfl ⟨(t4 Abr),trivial⟩ (fun _ e=>Ab5 (Ad4 (Ab5 (kpn 4 e rfl)))) fun r36 h=>?_))))))))))
   rintro _ _ ⟨rfl,rfl⟩
   refine Alj (knr (kx 1 (kcp h (fun _ A7l=>(Ag2.ok A7l Abe)) rfl ⟨(t4 Abr),trivial⟩ (fun _ e=>Ad4 (Ab5 (kpn 4 e rfl))) fun r38 h=>?_)))
   rintro _ _ ⟨rfl,rfl⟩
   exact Alj (knl (Ade (Abi (K.mv3 (K.mv3 (Aip (T:=54) (n:=1) (xs:=[(Tree.mk r29.1 r29.2.1 r29.2.2.1 r29.2.2.2.1 r29.2.2.2.2.1)]) (Ael.one (Ai9 (k:=r29.1) (t:=r29.2.1) (n:=r29.2.2.1) (a:=r29.2.2.2.1) 54 o33)) rfl rfl (Ac0 rfl) fun h40 o41=>(K.mv3 (K.mv2 (K.mv3 (Ac1 (14,[(Tree.mk r29.1 r29.2.1 r29.2.2.1 r29.2.2.2.1 r29.2.2.2.2.1)],r38,h40,(some ⟨b35,0,none⟩),1) ⟨h,o41⟩ sb rfl))))))))))
  ·refine bnd h fun q42 A6w h=>?_
   refine Ak3 [(0,pt b0),(2,pt b1),(4,pt b4),(23,bv q42)] (bk b0 #[slW Aas Aac Aau,iv r27.2] 93 :: bk b4 #[iv 14,sv noS,iv 0,iv r2.2.2.2,nS] 54 :: bk b1 #[iv 0,sv noS,iv 0,iv 0,nS] 54 :: X) ?_ ?_
   ·clear A6w
    refine kcn h (fun h=>?_) fun h=>?_
    ·refine ksr (kx 1 (kcp h (fun _ A7o=>(Ap0.ok A7o Abe)) rfl ⟨(t2 Abr),trivial⟩ (fun _ e=>Ab5 (Ad4 (Ab5 (kpn 2 e rfl)))) fun r44 h=>?_))
     rintro _ _ ⟨h45,A46,k47,o48,rfl,rfl⟩
     refine Ach (knp #[iv 0,sv noS,iv 0,iv 0,nS] 54 fun b50=>(kst 0 5 #[iv r44.1,sv r44.2.1,iv r44.2.2.1,iv r44.2.2.2.1,slW A46 r44.2.2.2.2.1 k47] (Abz (kx 1 (kst 0 1 #[iv 5,sv r44.2.1,iv r44.2.2.1,iv r44.2.2.2.1,slW A46 r44.2.2.2.2.1 k47] (Abz (kla 0 0 5 rfl (K.drop (kns #[iv 5,sv r44.2.1,iv r44.2.2.1,iv r44.2.2.2.1,slW A46 r44.2.2.2.2.1 k47] 54 1 fun b51=>(kx 1 ?_))))))))))
     refine K.mv3 (kst 4 1 #[iv 14,sv noS,iv 0,iv r2.2.2.2,.slice (some ⟨b51,0,none⟩) 1 1] (knr (kx 1 (K.mv3 (kcp h (fun _ Bvh=>(Ag2.ok Bvh Abe)) rfl ⟨(t4 Abr),trivial⟩ (fun _ e=>Ad4 (Ab5 (kpn 4 e rfl))) fun r52 h=>?_)))))
     rintro _ _ ⟨rfl,rfl⟩
     exact Alj (knl (Ade (Abi (K.mv3 (K.mv3 (Aip (T:=54) (n:=1) (xs:=[(Tree.mk 5 r44.2.1 r44.2.2.1 r44.2.2.2.1 r44.2.2.2.2.1)]) (Ael.one (Ai9 (k:=5) (t:=r44.2.1) (n:=r44.2.2.1) (a:=r44.2.2.2.1) 54 o48)) rfl rfl (Ac0 rfl) fun h54 o55=>(K.mv3 (K.mv2 (K.mv3 (Ac1 (14,[(Tree.mk 5 r44.2.1 r44.2.2.1 r44.2.2.2.1 r44.2.2.2.2.1)],r52,h54,(some ⟨b51,0,none⟩),1) ⟨h,o55⟩ sb rfl))))))))))
    ·refine Ab6 (kx 1 (K.mv1 (kst 0 1 #[iv 13,sv noS,iv 0,iv r2.2.2.2,nS] (knl (Ade (Abi (Ag6 (K.mv3 (K.mv3 (K.mv3 ?_))))))))))
     exact Ac1 (13,[],r27.2,none_,none,0) ⟨h,(Abf.nil (Abt 54) 54 none_)⟩ sb rfl
   ·have h:=A6w
    clear A6w
    refine Arz [(0,0),(1,3),(2,0),(3,0),(4,0),(5,0),(6,0),(7,3),(8,0),(9,0),(10,0),(11,3),(12,0),(13,0),(14,0),(15,3),(16,0),(17,0),(18,0),(19,0),(20,0),(21,0),(22,3),(23,0),(24,0),(25,0),(26,3),(27,0)] [bk b0 #[slW Aas Aac Aau,iv r27.2] 93,bk b3 #[iv r2.1,sv r2.2.1,iv r2.2.2.1,iv r2.2.2.2] 96,Adb] (fun w h_=>⟨h_.sat.on _ (.head _),h_.sat.on _ (.tail _ (.tail _ (.head _))),h_.sat.on _ (t4 Abr),trivial⟩) (kpx 1 (kpd 1 0 rfl (kpx 2 ?_)))
    refine kcs 27 h (fun h=>?_) fun h=>?_
    ·refine kpx 3 (kpd 0 0 rfl (kpx 3 (kpd 0 1 rfl (kpx 1 (bnd h fun x57 C2z h=>(A4h (T:=96) (kd:=.i64) Ble rfl C2z Abe fun p58 e59 y60=>?_))))))
     have e59:Elem _ p58 [iv x57.1,sv x57.2.1,iv x57.2.2.1,iv x57.2.2.2]:=e59
     refine Bbq (off:=0) rfl e59 y60 fun p61 e62 y63=>?_
     have e62:Elem _ p61 [iv x57.1,sv x57.2.1,iv x57.2.2.1,iv x57.2.2.2]:=e62
     refine A2j rfl (by kernel_rfl) (by kernel_rfl) (by kernel_rfl) (by kernel_rfl) e62 (fun w h_=>h_.mem _ (.tail _ (.tail _ (.head _)))) (kpx 3 ?_)
     refine kcs 42 h (fun h=>?_) fun h=>?_
     ·refine kpx 3 (kpd 0 0 rfl (kpx 3 (kpd 0 1 rfl (kpx 1 (kpz (bnd h fun x65 Bv9 h=>(Anq (T:=96) (kd:=.i64) Ble rfl Bv9 Abe fun p66 e67 y68=>?_)))))))
      have e67:Elem _ p66 [iv x65.1,sv x65.2.1,iv x65.2.2.1,iv x65.2.2.2]:=e67
      refine K.mv2 (K.drop (Api (off:=1) rfl e67 y68 fun p69 e70 y71=>?_))
      have e70:Elem _ p69 [sv x65.2.1,iv x65.2.2.1,iv x65.2.2.2]:=e70
      exact Aqx rfl (by kernel_rfl) (by kernel_rfl) (by kernel_rfl) (by kernel_rfl) e70 (t3 Abr) (kx 3 (knt (Afa ⟨gr,gr,gr,gb (Aam h),trivial⟩)))
     ·exact kpx 3 (Ajq (by kernel_rfl) (by kernel_rfl) (kpx 3 (Ajq (by kernel_rfl) (by kernel_rfl) (kpx 1 (kpz (kx 6 (knt (K.mv2 (K.drop (Afa ⟨gr,gr,gr,gb (Aam h),trivial⟩))))))))))
    ·refine kpx 3 (Ajq (by kernel_rfl) (by kernel_rfl) (kpx 3 (Ajq (by kernel_rfl) (by kernel_rfl) (kpx 3 (Ajq (by kernel_rfl) (by kernel_rfl) (kpx 6 (Ajq (by kernel_rfl) (by kernel_rfl) (kpx 3 (Ajq (by kernel_rfl) (by kernel_rfl) (kpx 1 ?_))))))))))
     exact kpz (kx 6 (knt (K.mv2 (K.drop (Afa ⟨gr,gr,gr,gb (Aam h),trivial⟩)))))
def Aim.l0:Nat→(Rc:PE)→(Aac:List (Int×ByteArray×Int×Int))→(J14:(List Tree)→Int→Option (PR (List Tree×Int)))→(l15:List Tree)→(x20:Int)→Option (PR (List Tree×Int))
 | 0,_,_,_,_,_=>none
 | m21+1,Rc,Aac,J14,l15,x20=>(Af0.f m21 Aac x20 (⟨#[44]⟩:ByteArray)).bind fun r24=>cond r24.1 (PR.bind (Rc.Agw Aac r24.2 0) fun r26=>(apd 64 l15 [(Tree.mk r26.1 r26.2.1 r26.2.2.1 r26.2.2.2.1 r26.2.2.2.2.1)]).bind fun l35=>Aim.l0 m21 Rc Aac J14 l35 r26.2.2.2.2.2) (J14 l15 r24.2)
def Aim.g (Rc:PE) (k:Nat) (Aac:List (Int×ByteArray×Int×Int)) (Aad:Int):Option (PR (List Tree×Int)):=PR.bind (Rc.Agw Aac Aad 0) fun r1=>Adj (fun (l8:List Tree) (x13:Int)=>some (PR.ok (l8,x13))) (fun J14=>Aim.l0 k Rc Aac J14 ([(Tree.mk r1.1 r1.2.1 r1.2.2.1 r1.2.2.2.1 r1.2.2.2.2.1)]) r1.2.2.2.2.2)
theorem Aim.okg {Rc:PE} (hR:Rc.Good) {k:Nat}:Aim.C (Aim.g Rc k):=by
 intro Aac Aad b0 Aau Adb Aas r h Abe
 refine Afi (args:=[pt b0]) Tryz.func43 rfl (Ac0 rfl) ?_
 intro A X hh_
 obtain ⟨Abr,_⟩:=hh_
 unfold Aim.g at h
 refine K.eq (env':=[(0,pt b0)]) (l':=bk b0 #[slW Aas Aac Aau,iv Aad] 93 :: X) rfl rfl (ksr (kx 1 (Abz (kx 1 (kcp h (fun _ hr1=>(hR.Agw hr1 Abe)) rfl ⟨Abr,trivial⟩ (fun _ e=>Ab5 (kpn 0 e rfl)) fun r1 h=>?_)))))
 rintro _ _ ⟨h2,A3,k4,o5,rfl,rfl⟩
 refine Ach (kns #[iv r1.1,sv r1.2.1,iv r1.2.2.1,iv r1.2.2.2.1,slW A3 r1.2.2.2.2.1 k4] 54 1 fun b7=>(kx 1 (knt ?_)))
 obtain ⟨J14,Ax5,h⟩:=Ags h
 refine Agt (τ:=(List Tree)×Int×Aaa×TyO×Nat) (fun t=>[(3,slW t.2.2.2.1 t.1 t.2.2.2.2)]) (fun t=>bk b0 #[slW Aas Aac Aau,iv t.2.1] 93 :: t.2.2.1 :: X) (fun t=>J14 t.1 t.2.1=some r∧Abf (Abt 54) 54 t.2.2.1 (slW t.2.2.2.1 t.1 t.2.2.2.2) t.1) ?_ ?_
 ·rintro ⟨l8,x13,h9,A10,k11⟩ ⟨h,o12⟩
  subst Ax5
  refine ksr (kx 2 (knt (Aem ?_)))
  obtain rfl:=Aam h
  exact kdv (slW A10 l8 k11) [h9,bk b0 #[slW Aas Aac Aau,iv x13] 93] (K.mv1 (Adq (PR.okI ⟨h9,A10,k11,o12,rfl,rfl⟩)))
 ·skip
  refine Aez (K.mv1 (K.mv1 (Aip (T:=54) (n:=1) (xs:=[(Tree.mk r1.1 r1.2.1 r1.2.2.1 r1.2.2.2.1 r1.2.2.2.2.1)]) (Ael.one (Ai9 (k:=r1.1) (t:=r1.2.1) (n:=r1.2.2.1) (a:=r1.2.2.2.1) 54 o5)) rfl rfl (Ac0 rfl) fun h22 o23=>(K.mv1 (Akb (τ:=(List Tree)×Int×Aaa×TyO×Nat) (fun t=>[(0,pt b0),(3,slW t.2.2.2.1 t.1 t.2.2.2.2)]) (fun t=>bk b0 #[slW Aas Aac Aau,iv t.2.1] 93 :: t.2.2.1 :: X) (fun m t=>Aim.l0 m Rc Aac J14 t.1 t.2.1=some r∧Abf (Abt 54) 54 t.2.2.1 (slW t.2.2.2.1 t.1 t.2.2.2.2) t.1) k ([(Tree.mk r1.1 r1.2.1 r1.2.2.1 r1.2.2.2.1 r1.2.2.2.2.1)],r1.2.2.2.2.2,h22,(some ⟨b7,0,none⟩),1) ⟨h,o23⟩ sb rfl ?_)))))
  clear h
  rintro m21 ⟨l15,x20,h16,A17,k18⟩ ⟨h,o19⟩
  cases m21 with
  | zero=>simp [Aim.l0] at h
  | succ m21 =>
   simp only [Aim.l0] at h
   refine Acx (ksr (kx 1 (bnd h fun r24 A7f h=>(kc1 (Af0.ok A7f Abe) rfl ⟨(.tail _ Abr),trivial⟩ (knt ?_)))))
   refine kcn h (fun h=>?_) fun h=>?_
   ·refine Adl (Abi (Aez (Ab6 (kx 2 (kcp h (fun _ A1i=>(hR.Agw A1i Abe)) rfl ⟨(.tail _ Abr),trivial⟩ (fun _ e=>Ad4 (Ab5 (Ad4 (Ab5 (kpn 1 e rfl))))) fun r26 h=>?_)))))
    rintro _ _ ⟨h27,A28,k29,o30,rfl,rfl⟩
    refine Ach (kns #[iv r26.1,sv r26.2.1,iv r26.2.2.1,iv r26.2.2.2.1,slW A28 r26.2.2.2.2.1 k29] 54 1 fun b32=>(K.mv1 (K.mv1 (Aip (T:=54) (n:=1) (xs:=[(Tree.mk r26.1 r26.2.1 r26.2.2.1 r26.2.2.2.1 r26.2.2.2.2.1)]) (Ael.one (Ai9 (k:=r26.1) (t:=r26.2.1) (n:=r26.2.2.1) (a:=r26.2.2.2.1) 54 o30)) rfl rfl (Ac0 rfl) fun h33 o34=>(K.mv2 (bnd h fun l35 Bfl h=>(Amd rfl Ao8 rfl Bfl o19 o34 fun h36 A37 k38 o39=>(kx 1 (knl (Ade ?_))))))))))
    exact Abi (K.mv1 (Ai4 m21 (l35,r26.2.2.2.2.2,h36,A37,k38) (Nat.lt_succ_self _) ⟨h,o39⟩ sb rfl))
   ·exact Aj9 (Agh (Agh (Aka (Abi (Ac1 (l15,r24.2,h16,A17,k18) ⟨h,o19⟩ sb rfl)))))
def PE.at:Nat→PE
 | 0=>⟨fun _ _ _=>none,fun _ _=>none,fun _ _=>none,fun _ _=>none,fun _ _=>none,fun _ _=>none⟩
 | k+1=>⟨Agw.g (PE.at k) k,Asb.g (PE.at k) k,Aiu.g (PE.at k) k,Anl.g (PE.at k) k,Ar8.g (PE.at k) k,Aim.g (PE.at k) k⟩
theorem PE.good:∀ k,(PE.at k).Good
 | 0=>⟨(by unfold Agw.C;intros;rename_i h _;cases (show (none:Option _)=some _ from h)),(by unfold Asb.C;intros;rename_i h _;cases (show (none:Option _)=some _ from h)),(by unfold Aiu.C;intros;rename_i h _;cases (show (none:Option _)=some _ from h)),(by unfold Anl.C;intros;rename_i h _;cases (show (none:Option _)=some _ from h)),(by unfold Ar8.C;intros;rename_i h _;cases (show (none:Option _)=some _ from h)),(by unfold Aim.C;intros;rename_i h _;cases (show (none:Option _)=some _ from h))⟩
 | k+1=>⟨Agw.okg (k:=k) (PE.good k),Asb.okg (k:=k) (PE.good k),Aiu.okg (k:=k) (PE.good k),Anl.okg (k:=k) (PE.good k),Ar8.okg (k:=k) (PE.good k),Aim.okg (k:=k) (PE.good k)⟩
def Agw.f (k:Nat):=Agw.g (PE.at k) k
theorem Agw.ok {k:Nat}:Agw.C (Agw.f k):=Agw.okg (k:=k) (PE.good k)
def Aiu.f (k:Nat):=Aiu.g (PE.at k) k
theorem Aiu.ok {k:Nat}:Aiu.C (Aiu.f k):=Aiu.okg (k:=k) (PE.good k)
def Aim.f (k:Nat):=Aim.g (PE.at k) k
theorem Aim.ok {k:Nat}:Aim.C (Aim.f k):=Aim.okg (k:=k) (PE.good k)
structure PS where
 Ahi:List (Int×ByteArray×Int×Int)→Int→Bool→Option (PR (Int×ByteArray×Int×Int×List Tree×Int))
 Ar9:List (Int×ByteArray×Int×Int)→Int→Option (PR (Int×ByteArray×Int×Int×List Tree×Int))
 Ase:List (Int×ByteArray×Int×Int)→Int→Option (PR (Int×ByteArray×Int×Int×List Tree×Int))
 An6:List (Int×ByteArray×Int×Int)→Int→Option (PR (List Tree×Int))
 Asa:List (Int×ByteArray×Int×Int)→Int→Int→Option (PR (Int×ByteArray×Int×Int×List Tree×Int))
 An7:List (Int×ByteArray×Int×Int)→Int→Option (PR (Int×ByteArray×Int×Int×List Tree×Int))
def Ahi.C (fC:List (Int×ByteArray×Int×Int)→Int→Bool→Option (PR (Int×ByteArray×Int×Int×List Tree×Int))):Prop:=∀ {Aac:List (Int×ByteArray×Int×Int)} {Aad:Int} {a1:Bool} {b0 Aau:Nat} {Adb:Aaa} {Aas:TyO} {r:PR (Int×ByteArray×Int×Int×List Tree×Int)} (h:fC Aac Aad a1=some r) (Abe:RdT e96 4 Adb (slW Aas Aac Aau) Aac),Ct Tryz.prog 26 #[pt b0,bv a1] [bk b0 #[slW Aas Aac Aau,iv Aad] 93] [Adb] (PR.Post Aqq (fun (r:Int×ByteArray×Int×Int×List Tree×Int) e l1=>∃ (H0_:Aaa) (A0_:TyO) (c0_:Nat),Abf (Abt 54) 54 H0_ (slW A0_ r.2.2.2.2.1 c0_) r.2.2.2.2.1∧e=.returned (.agg #[iv r.1,sv r.2.1,iv r.2.2.1,iv r.2.2.2.1,slW A0_ r.2.2.2.2.1 c0_])∧l1=[H0_,bk b0 #[slW Aas Aac Aau,iv r.2.2.2.2.2] 93]) r)
def Ar9.C (fC:List (Int×ByteArray×Int×Int)→Int→Option (PR (Int×ByteArray×Int×Int×List Tree×Int))):Prop:=∀ {Aac:List (Int×ByteArray×Int×Int)} {Aad:Int} {b0 Aau:Nat} {Adb:Aaa} {Aas:TyO} {r:PR (Int×ByteArray×Int×Int×List Tree×Int)} (h:fC Aac Aad=some r) (Abe:RdT e96 4 Adb (slW Aas Aac Aau) Aac),Ct Tryz.prog 44 #[pt b0] [bk b0 #[slW Aas Aac Aau,iv Aad] 93] [Adb] (PR.Post Aqq (fun (r:Int×ByteArray×Int×Int×List Tree×Int) e l1=>∃ (H0_:Aaa) (A0_:TyO) (c0_:Nat),Abf (Abt 54) 54 H0_ (slW A0_ r.2.2.2.2.1 c0_) r.2.2.2.2.1∧e=.returned (.agg #[iv r.1,sv r.2.1,iv r.2.2.1,iv r.2.2.2.1,slW A0_ r.2.2.2.2.1 c0_])∧l1=[H0_,bk b0 #[slW Aas Aac Aau,iv r.2.2.2.2.2] 93]) r)
def Ase.C (fC:List (Int×ByteArray×Int×Int)→Int→Option (PR (Int×ByteArray×Int×Int×List Tree×Int))):Prop:=∀ {Aac:List (Int×ByteArray×Int×Int)} {Aad:Int} {b0 Aau:Nat} {Adb:Aaa} {Aas:TyO} {r:PR (Int×ByteArray×Int×Int×List Tree×Int)} (h:fC Aac Aad=some r) (Abe:RdT e96 4 Adb (slW Aas Aac Aau) Aac),Ct Tryz.prog 45 #[pt b0] [bk b0 #[slW Aas Aac Aau,iv Aad] 93] [Adb] (PR.Post Aqq (fun (r:Int×ByteArray×Int×Int×List Tree×Int) e l1=>∃ (H0_:Aaa) (A0_:TyO) (c0_:Nat),Abf (Abt 54) 54 H0_ (slW A0_ r.2.2.2.2.1 c0_) r.2.2.2.2.1∧e=.returned (.agg #[iv r.1,sv r.2.1,iv r.2.2.1,iv r.2.2.2.1,slW A0_ r.2.2.2.2.1 c0_])∧l1=[H0_,bk b0 #[slW Aas Aac Aau,iv r.2.2.2.2.2] 93]) r)
def An6.C (fC:List (Int×ByteArray×Int×Int)→Int→Option (PR (List Tree×Int))):Prop:=∀ {Aac:List (Int×ByteArray×Int×Int)} {Aad:Int} {b0 Aau:Nat} {Adb:Aaa} {Aas:TyO} {r:PR (List Tree×Int)} (h:fC Aac Aad=some r) (Abe:RdT e96 4 Adb (slW Aas Aac Aau) Aac),Ct Tryz.prog 68 #[pt b0] [bk b0 #[slW Aas Aac Aau,iv Aad] 93] [Adb] (PR.Post Aqq (fun (r:List Tree×Int) e l1=>∃ (H0_:Aaa) (A0_:TyO) (c0_:Nat),Abf (Abt 54) 54 H0_ (slW A0_ r.1 c0_) r.1∧e=.returned (slW A0_ r.1 c0_)∧l1=[H0_,bk b0 #[slW Aas Aac Aau,iv r.2] 93]) r)
def Asa.C (fC:List (Int×ByteArray×Int×Int)→Int→Int→Option (PR (Int×ByteArray×Int×Int×List Tree×Int))):Prop:=∀ {Aac:List (Int×ByteArray×Int×Int)} {Aad a1:Int} {b0 Aau:Nat} {Adb:Aaa} {Aas:TyO} {r:PR (Int×ByteArray×Int×Int×List Tree×Int)} (h:fC Aac Aad a1=some r) (Abe:RdT e96 4 Adb (slW Aas Aac Aau) Aac),Ct Tryz.prog 69 #[pt b0,iv a1] [bk b0 #[slW Aas Aac Aau,iv Aad] 93] [Adb] (PR.Post Aqq (fun (r:Int×ByteArray×Int×Int×List Tree×Int) e l1=>∃ (H0_:Aaa) (A0_:TyO) (c0_:Nat),Abf (Abt 54) 54 H0_ (slW A0_ r.2.2.2.2.1 c0_) r.2.2.2.2.1∧e=.returned (.agg #[iv r.1,sv r.2.1,iv r.2.2.1,iv r.2.2.2.1,slW A0_ r.2.2.2.2.1 c0_])∧l1=[H0_,bk b0 #[slW Aas Aac Aau,iv r.2.2.2.2.2] 93]) r)
def An7.C (fC:List (Int×ByteArray×Int×Int)→Int→Option (PR (Int×ByteArray×Int×Int×List Tree×Int))):Prop:=∀ {Aac:List (Int×ByteArray×Int×Int)} {Aad:Int} {b0 Aau:Nat} {Adb:Aaa} {Aas:TyO} {r:PR (Int×ByteArray×Int×Int×List Tree×Int)} (h:fC Aac Aad=some r) (Abe:RdT e96 4 Adb (slW Aas Aac Aau) Aac),Ct Tryz.prog 70 #[pt b0] [bk b0 #[slW Aas Aac Aau,iv Aad] 93] [Adb] (PR.Post Aqq (fun (r:Int×ByteArray×Int×Int×List Tree×Int) e l1=>∃ (H0_:Aaa) (A0_:TyO) (c0_:Nat),Abf (Abt 54) 54 H0_ (slW A0_ r.2.2.2.2.1 c0_) r.2.2.2.2.1∧e=.returned (.agg #[iv r.1,sv r.2.1,iv r.2.2.1,iv r.2.2.2.1,slW A0_ r.2.2.2.2.1 c0_])∧l1=[H0_,bk b0 #[slW Aas Aac Aau,iv r.2.2.2.2.2] 93]) r)
structure PS.Good (R:PS):Prop where
 Ahi:Ahi.C R.Ahi
 Ar9:Ar9.C R.Ar9
 Ase:Ase.C R.Ase
 An6:An6.C R.An6
 Asa:Asa.C R.Asa
 An7:An7.C R.An7
def Ahi.l0:Nat→(Rc:PS)→(Aac:List (Int×ByteArray×Int×Int))→(a1:Bool)→(r2:Int×ByteArray×Int×Int)→(l4:List Tree)→(x9:Int)→Option (PR (Int×ByteArray×Int×Int×List Tree×Int))
 | 0,_,_,_,_,_,_=>none
 | m10+1,Rc,Aac,a1,r2,l4,x9=>(Ajg.f m10 Aac x9).bind fun r11=>(Af0.f m10 Aac x9 (⟨#[59]⟩:ByteArray)).bind fun r13=>cond r13.1 (Ahi.l0 m10 Rc Aac a1 r2 l4 r13.2) ((Af0.f m10 Aac r13.2 (⟨#[114,101,116,117,114,110]⟩:ByteArray)).bind fun r15=>cond r15.1 (Adj (fun (l18:List Tree) (x23:Int)=>(Af0.f m10 Aac x23 (⟨#[59]⟩:ByteArray)).bind fun r25=>(apd 64 l4 [(Tree.mk 30 (⟨#[]⟩:ByteArray) 0 r11.2.2.2 l18)]).bind fun l29=>some (PR.ok (20,(⟨#[]⟩:ByteArray),0,r2.2.2.2,l29,r25.2))) (fun J24=>((A2t.f m10 Aac r15.2).bind fun r42=>cond (!r42) ((Akh.f m10 Aac r15.2 (⟨#[59]⟩:ByteArray)).bind fun r44=>some (!r44)) (some false):Option Bool).bind fun q34=>cond q34 (PR.bind (Aim.f m10 Aac r15.2) fun r36=>J24 r36.1 r36.2) (J24 ([]) r15.2))) ((cond a1 ((Akh.f m10 Aac r15.2 (⟨#[102,117,110,99,116,105,111,110]⟩:ByteArray)).bind fun r78=>some r78) (some false):Option Bool).bind fun q45=>cond q45 (PR.bind (Rc.Ar9 Aac r15.2) fun r47=>(apd 64 l4 [(Tree.mk r47.1 r47.2.1 r47.2.2.1 r47.2.2.2.1 r47.2.2.2.2.1)]).bind fun l56=>Ahi.l0 m10 Rc Aac a1 r2 l56 r47.2.2.2.2.2) ((A2t.f m10 Aac r15.2).bind fun r61=>cond r61 (some (PR.ok (20,(⟨#[]⟩:ByteArray),0,r2.2.2.2,l4,r15.2))) (PR.bind (Rc.Ase Aac r15.2) fun r63=>(apd 64 l4 [(Tree.mk r63.1 r63.2.1 r63.2.2.1 r63.2.2.2.1 r63.2.2.2.2.1)]).bind fun l72=>Ahi.l0 m10 Rc Aac a1 r2 l72 r63.2.2.2.2.2))))
def Ahi.g (Rc:PS) (k:Nat) (Aac:List (Int×ByteArray×Int×Int)) (Aad:Int) (a1:Bool):Option (PR (Int×ByteArray×Int×Int×List Tree×Int)):=(Ajg.f k Aac Aad).bind fun r2=>Ahi.l0 k Rc Aac a1 r2 ([]) Aad
theorem Ahi.okg {Rc:PS} (hR:Rc.Good) {k:Nat}:Ahi.C (Ahi.g Rc k):=by
 intro Aac Aad a1 b0 Aau Adb Aas r h Abe
 refine Afi (args:=[pt b0,bv a1]) Tryz.func26 rfl (Ac0 rfl) ?_
 intro A X hh_
 obtain ⟨Abr,_⟩:=hh_
 unfold Ahi.g at h
 refine K.eq (env':=[(0,pt b0),(1,bv a1)]) (l':=bk b0 #[slW Aas Aac Aau,iv Aad] 93 :: X) rfl rfl (ksr (knp #[iv 0,sv noS,iv 0,iv 0,nS] 54 fun b1=>(Abz (kx 1 (K.mv1 (bnd h fun r2 hr2 h=>(kc1 (Ajg.ok hr2 Abe) rfl ⟨(.tail _ Abr),trivial⟩ (kx 2 (knp #[iv 0,sv noS,iv 0,iv 0,nS] 54 fun b3=>(kst 0 5 #[iv 20,sv noS,iv 0,iv r2.2.2.2,nS] ?_))))))))))
 refine knt (Aez (Ag6 (K.mv3 (K.mv3 (K.mv3 (Akb (τ:=(List Tree)×Int×Aaa×TyO×Nat) (fun t=>[(0,pt b0),(1,bv a1),(4,pt b1),(5,pt b3)]) (fun t=>bk b3 #[iv 20,sv noS,iv 0,iv r2.2.2.2,slW t.2.2.2.1 t.1 t.2.2.2.2] 54 :: bk b0 #[slW Aas Aac Aau,iv t.2.1] 93 :: bk b1 #[iv 0,sv noS,iv 0,iv 0,nS] 54 :: t.2.2.1 :: X) (fun m t=>Ahi.l0 m Rc Aac a1 r2 t.1 t.2.1=some r∧Abf (Abt 54) 54 t.2.2.1 (slW t.2.2.2.1 t.1 t.2.2.2.2) t.1) k ([],Aad,none_,none,0) ⟨h,(Abf.nil (Abt 54) 54 none_)⟩ sb rfl ?_))))))
 clear h
 rintro m10 ⟨l4,x9,h5,A6,k7⟩ ⟨h,o8⟩
 cases m10 with
 | zero=>simp [Ahi.l0] at h
 | succ m10 =>
  simp only [Ahi.l0] at h
  refine Aez (ksr (kx 1 (K.mv1 (bnd h fun r11 A6y h=>(kc1 (Ajg.ok A6y Abe) rfl ⟨(t3 Abr),trivial⟩ (knp #[iv 0,sv noS,iv 0,iv 0] 96 fun b12=>(kst 0 4 #[iv r11.1,sv r11.2.1,iv r11.2.2.1,iv r11.2.2.2] (knt (Aez (ksr ?_))))))))))
  refine kx 1 (K.mv1 (bnd h fun r13 A7b h=>(kc1 (Af0.ok A7b Abe) rfl ⟨(t4 Abr),trivial⟩ (kx 1 (knt ?_)))))
  refine kcn h (fun h=>?_) fun h=>?_
  ·exact Adl (Ade (Ade (Abi (K.mv1 (K.drop (K.mv3 (K.mv3 (K.mv2 (K.mv3 (Ai4 m10 (l4,r13.2,h5,A6,k7) (Nat.lt_succ_self _) ⟨h,o8⟩ sb rfl))))))))))
  ·refine ksr (kx 1 (bnd h fun r15 Ayb h=>(kc1 (Af0.ok Ayb Abe) rfl ⟨(t4 Abr),trivial⟩ (kx 1 (knt ?_)))))
   refine kcn h (fun h=>?_) fun h=>?_
   ·refine ksr (kx 1 (kld 1 3 rfl (K.mv1 (K.drop (kx 1 (knp #[iv 0,sv noS,iv 0,iv 0,nS] 54 fun b17=>(kst 0 5 #[iv 30,sv noS,iv 0,iv r11.2.2.2,nS] (knt ?_))))))))
    obtain ⟨J24,Bfg,h⟩:=Ags h
    refine Agt (τ:=(List Tree)×Int×Aaa×TyO×Nat) (fun t=>[(0,pt b0),(4,pt b1),(5,pt b3),(7,pt b17)]) (fun t=>bk b17 #[iv 30,sv noS,iv 0,iv r11.2.2.2,slW t.2.2.2.1 t.1 t.2.2.2.2] 54 :: bk b0 #[slW Aas Aac Aau,iv t.2.1] 93 :: bk b3 #[iv 20,sv noS,iv 0,iv r2.2.2.2,slW A6 l4 k7] 54 :: bk b1 #[iv 0,sv noS,iv 0,iv 0,nS] 54 :: h5 :: t.2.2.1 :: X) (fun t=>J24 t.1 t.2.1=some r∧Abf (Abt 54) 54 t.2.2.1 (slW t.2.2.2.1 t.1 t.2.2.2.2) t.1) ?_ ?_
    ·rintro ⟨l18,x23,h19,A20,k21⟩ ⟨h,o22⟩
     subst Bfg
     refine ksr (kx 1 (K.mv1 (bnd h fun r25 Bfu h=>(kc1 (Af0.ok Bfu Abe) rfl ⟨(t5 Abr),trivial⟩ (Abz (kx 1 (kld 2 4 rfl (kla 1 0 5 rfl (K.mv1 (K.drop ?_))))))))))
     refine kns #[iv 30,sv noS,iv 0,iv r11.2.2.2,slW A20 l18 k21] 54 1 fun b26=>(K.mv5 (K.mv1 (Aip (T:=54) (n:=1) (xs:=[(Tree.mk 30 (⟨#[]⟩:ByteArray) 0 r11.2.2.2 l18)]) (Ael.one (Ai9 (k:=30) (t:=(⟨#[]⟩:ByteArray)) (n:=0) (a:=r11.2.2.2) 54 o22)) rfl rfl (Ac0 rfl) fun h27 o28=>(K.mv4 (bnd h fun l29 Cxa h=>(Amd rfl Ao8 rfl Cxa o8 o28 fun h30 A31 k32 o33=>(kx 1 (K.mv2 (kst 4 1 #[iv 20,sv noS,iv 0,iv r2.2.2.2,slW A31 l29 k32] (Abz ?_))))))))))
     refine kla 0 0 5 rfl (K.drop (K.mv2 (kst 0 5 #[iv 20,sv noS,iv 0,iv r2.2.2.2,slW A31 l29 k32] (knt (Aem (Ahj (Ahj (Afx (Ahj ?_)))))))))
     obtain rfl:=Aam h
     exact kda 0 5 rfl [h30,bk b0 #[slW Aas Aac Aau,iv r25.2] 93] (K.drop (Adq (PR.okI ⟨h30,A31,k32,o33,rfl,rfl⟩)))
    ·skip
     refine bnd h fun q34 Bul h=>?_
     refine Ak3 [(0,pt b0),(4,pt b1),(5,pt b3),(7,pt b17),(37,bv q34)] (bk b17 #[iv 30,sv noS,iv 0,iv r11.2.2.2,nS] 54 :: bk b0 #[slW Aas Aac Aau,iv r15.2] 93 :: bk b3 #[iv 20,sv noS,iv 0,iv r2.2.2.2,slW A6 l4 k7] 54 :: bk b1 #[iv 0,sv noS,iv 0,iv 0,nS] 54 :: h5 :: X) ?_ ?_
     ·clear Bul
      refine kcn h (fun h=>?_) fun h=>?_
      ·refine Ab6 (kx 1 (K.mv1 (kcp h (fun _ Ayc=>(Aim.ok Ayc Abe)) rfl ⟨(t4 Abr),trivial⟩ (fun _ e=>Ab5 (Ad4 (Ad4 (Ab5 (Ad4 (kpn 4 e rfl)))))) fun r36 h=>?_)))
       rintro _ _ ⟨h37,A38,k39,o40,rfl,rfl⟩
       refine Ach (kx 1 (K.mv2 (kst 4 1 #[iv 30,sv noS,iv 0,iv r11.2.2.2,slW A38 r36.1 k39] (knt (K.mv1 (K.mv5 (K.mv5 (K.mv5 (K.mv5 (K.mv5 ?_))))))))))
       exact Ac1 (r36.1,r36.2,h37,A38,k39) ⟨h,o40⟩ sb rfl
      ·exact Adl (Abi (Ag6 (K.mv5 (K.mv5 (K.mv5 (K.mv5 (K.mv5 (Ac1 ([],r15.2,none_,none,0) ⟨h,(Abf.nil (Abt 54) 54 none_)⟩ sb rfl))))))))
     ·have h:=Bul
      clear Bul
      refine Ab6 (kx 1 (K.mv1 (bnd h fun r42 Bu9 h=>(kc1 (A2t.ok Bu9 Abe) rfl ⟨(t4 Abr),trivial⟩ (kx 2 ?_)))))
      refine kcs 33 h (fun h=>?_) fun h=>?_
      ·exact kx 1 (bnd h fun r44 A7o h=>(kc1 (Akh.ok A7o Abe) rfl ⟨(t4 Abr),trivial⟩ (kx 2 (knt (K.mv4 (K.mv4 (K.mv4 (K.mv3 (K.mv4 (Afa ⟨gr,gr,gr,gr,gb (Aam h),trivial⟩))))))))))
      ·exact kx 4 (knt (K.mv4 (K.mv4 (K.mv4 (K.mv3 (K.mv4 (Afa ⟨gr,gr,gr,gr,gb (Aam h),trivial⟩)))))))
   ·refine bnd h fun q45 A6x h=>?_
    refine Ak3 [(0,pt b0),(1,bv a1),(4,pt b1),(5,pt b3),(50,bv q45)] (bk b0 #[slW Aas Aac Aau,iv r15.2] 93 :: bk b3 #[iv 20,sv noS,iv 0,iv r2.2.2.2,slW A6 l4 k7] 54 :: bk b1 #[iv 0,sv noS,iv 0,iv 0,nS] 54 :: h5 :: X) ?_ ?_
    ·clear A6x
     refine kcn h (fun h=>?_) fun h=>?_
     ·refine kpr [(0,0),(1,3),(2,0),(3,1),(4,1)] [1] (kpx 1 (kpd 0 4 rfl (kpx 1 (kpt (ocp h (fun _ hr47=>(hR.Ar9 hr47 Abe)) rfl ⟨(t3 Abr),trivial⟩ (fun _ e=>Ad4 (Ad4 (Ab5 (Ad4 (kpn 3 e rfl))))) fun r47 h=>?_)))))
      rintro _ _ ⟨h48,A49,k50,o51,rfl,rfl⟩
      refine Ach (kan [2] rfl (kpt (ons #[iv r47.1,sv r47.2.1,iv r47.2.2.1,iv r47.2.2.2.1,slW A49 r47.2.2.2.2.1 k50] 54 1 fun b53=>(kan [3] rfl (kpz (K.mv1 (K.mv1 (Aip (T:=54) (n:=1) (xs:=[(Tree.mk r47.1 r47.2.1 r47.2.2.1 r47.2.2.2.1 r47.2.2.2.2.1)]) (Ael.one (Ai9 (k:=r47.1) (t:=r47.2.1) (n:=r47.2.2.1) (a:=r47.2.2.2.1) 54 o51)) rfl rfl (Ac0 rfl) fun h54 o55=>(K.mv4 (bnd h fun l56 Cxo h=>?_))))))))))
      refine Amd rfl Ao8 rfl Cxo o8 o55 fun h57 A58 k59 o60=>(kx 1 (K.mv2 (kst 4 1 #[iv 20,sv noS,iv 0,iv r2.2.2.2,slW A58 l56 k59] (knl (Ade (Ade (Abi (K.mv1 (K.mv3 (K.mv3 ?_))))))))))
      exact K.mv3 (Ai4 m10 (l56,r47.2.2.2.2.2,h57,A58,k59) (Nat.lt_succ_self _) ⟨h,o60⟩ sb rfl)
     ·refine ksr (kx 1 (bnd h fun r61 Cz9 h=>(kc1 (A2t.ok Cz9 Abe) rfl ⟨(t3 Abr),trivial⟩ (kx 1 (knt ?_)))))
      refine kcn h (fun h=>?_) fun h=>?_
      ·refine ksr (kla 1 0 5 rfl (K.mv1 (K.drop (K.mv1 (kst 0 5 #[iv 20,sv noS,iv 0,iv r2.2.2.2,slW A6 l4 k7] (knt (Aem (Ahj (Ahj (Afx ?_))))))))))
       refine Ahj ?_
       obtain rfl:=Aam h
       exact kda 0 5 rfl [h5,bk b0 #[slW Aas Aac Aau,iv r15.2] 93] (K.drop (K.mv1 (Adq (PR.okI ⟨h5,A6,k7,o8,rfl,rfl⟩))))
      ·refine kpr [(0,0),(1,3),(2,0),(3,1),(4,1)] [1] (kpx 1 (kpd 0 4 rfl (kpx 1 (kpt (ocp h (fun _ Bvk=>(hR.Ase Bvk Abe)) rfl ⟨(t3 Abr),trivial⟩ (fun _ e=>Ad4 (Ad4 (Ab5 (Ad4 (kpn 3 e rfl))))) fun r63 h=>?_)))))
       rintro _ _ ⟨h64,A65,k66,o67,rfl,rfl⟩
       refine Ach (kan [2] rfl (kpt (ons #[iv r63.1,sv r63.2.1,iv r63.2.2.1,iv r63.2.2.2.1,slW A65 r63.2.2.2.2.1 k66] 54 1 fun b69=>(kan [3] rfl (kpz (K.mv1 (K.mv1 (Aip (T:=54) (n:=1) (xs:=[(Tree.mk r63.1 r63.2.1 r63.2.2.1 r63.2.2.2.1 r63.2.2.2.2.1)]) (Ael.one (Ai9 (k:=r63.1) (t:=r63.2.1) (n:=r63.2.2.1) (a:=r63.2.2.2.1) 54 o67)) rfl rfl (Ac0 rfl) fun h70 o71=>(K.mv4 (bnd h fun l72 Bl6 h=>?_))))))))))
       refine Amd rfl Ao8 rfl Bl6 o8 o71 fun h73 A74 k75 o76=>(kx 1 (K.mv2 (kst 4 1 #[iv 20,sv noS,iv 0,iv r2.2.2.2,slW A74 l72 k75] (knl (Ade (Ade (Abi (K.mv1 (K.mv3 (K.mv3 ?_))))))))))
       exact K.mv3 (Ai4 m10 (l72,r63.2.2.2.2.2,h73,A74,k75) (Nat.lt_succ_self _) ⟨h,o76⟩ sb rfl)
    ·have h:=A6x
     clear A6x
     refine Ab6 (kx 2 ?_)
     refine kcs 52 h (fun h=>?_) fun h=>?_
     ·exact kx 1 (bnd h fun r78 Bvx h=>(kc1 (Akh.ok Bvx Abe) rfl ⟨(t4 Abr),trivial⟩ (K.mv1 (K.drop (kx 2 (knt (Afa ⟨gr,gr,gr,gr,gb (Aam h),trivial⟩)))))))
     ·exact kx 4 (knt (K.mv1 (K.drop (Afa ⟨gr,gr,gr,gr,gb (Aam h),trivial⟩))))
def Ar9.g (Rc:PS) (k:Nat) (Aac:List (Int×ByteArray×Int×Int)) (Aad:Int):Option (PR (Int×ByteArray×Int×Int×List Tree×Int)):=(Ajg.f k Aac Aad).bind fun r2=>PR.bind (Ag2.f k Aac Aad (⟨#[102,117,110,99,116,105,111,110]⟩:ByteArray)) fun r4=>PR.bind (Ap0.f k Aac r4) fun r6=>PR.bind (Ag2.f k Aac r6.2.2.2.2.2 (⟨#[40]⟩:ByteArray)) fun r12=>Adj (fun (x14:Int) (l15:List Tree)=>PR.bind (Ag2.f k Aac x14 (⟨#[41]⟩:ByteArray)) fun r21=>PR.bind (Rc.Ahi Aac r21 false) fun r23=>(apd 64 l15 [(Tree.mk r23.1 r23.2.1 r23.2.2.1 r23.2.2.2.1 r23.2.2.2.2.1)]).bind fun l32=>PR.bind (Ag2.f k Aac r23.2.2.2.2.2 (⟨#[101,110,100]⟩:ByteArray)) fun r37=>some (PR.ok (31,r6.2.1,((l15.length:Nat):Int),r2.2.2.2,l32,r37))) (fun J20=>(Akh.f k Aac r12 (⟨#[41]⟩:ByteArray)).bind fun r39=>cond (!r39) (PR.bind (Aqa.f k Aac r12) fun r41=>J20 r41.2 r41.1) (J20 r12 ([])))
theorem Ar9.okg {Rc:PS} (hR:Rc.Good) {k:Nat}:Ar9.C (Ar9.g Rc k):=by
 intro Aac Aad b0 Aau Adb Aas r h Abe
 refine Afi (args:=[pt b0]) Tryz.func44 rfl (Ac0 rfl) ?_
 intro A X hh_
 obtain ⟨Abr,_⟩:=hh_
 unfold Ar9.g at h
 refine K.eq (env':=[(0,pt b0)]) (l':=bk b0 #[slW Aas Aac Aau,iv Aad] 93 :: X) rfl rfl (ksr (knp #[iv 0,sv noS,iv 0,iv 0,nS] 54 fun b1=>(Abz (kx 1 (K.mv1 (bnd h fun r2 hr2 h=>(kc1 (Ajg.ok hr2 Abe) rfl ⟨(.tail _ Abr),trivial⟩ (kx 2 (knp #[iv 0,sv noS,iv 0,iv 0,nS] 54 fun b3=>(kst 0 5 #[iv 31,sv noS,iv 0,iv r2.2.2.2,nS] ?_))))))))))
 refine Abz (kx 1 (K.mv1 (kcp h (fun _ hr4=>(Ag2.ok hr4 Abe)) rfl ⟨(t2 Abr),trivial⟩ (fun _ e=>Ab5 (kpn 2 e rfl)) fun r4 h=>?_)))
 rintro _ _ ⟨rfl,rfl⟩
 refine Alj (Abz (kx 1 (kcp h (fun _ hr6=>(Ap0.ok hr6 Abe)) rfl ⟨(t2 Abr),trivial⟩ (fun _ e=>Ab5 (kpn 2 e rfl)) fun r6 h=>?_)))
 rintro _ _ ⟨h7,A8,k9,o10,rfl,rfl⟩
 refine Ach (kx 2 (K.mv2 (kst 1 1 #[iv 31,sv r6.2.1,iv 0,iv r2.2.2.2,nS] (K.mv1 (K.drop (Abz (kx 1 (K.mv1 (kcp h (fun _ Bfs=>(Ag2.ok Bfs Abe)) rfl ⟨(t2 Abr),trivial⟩ (fun _ e=>Ab5 (kpn 2 e rfl)) fun r12 h=>?_)))))))))
 rintro _ _ ⟨rfl,rfl⟩
 refine Alj (knt ?_)
 obtain ⟨J20,Cu7,h⟩:=Ags h
 refine Agt (τ:=Int×(List Tree)×Aaa×TyO×Nat) (fun t=>[(0,pt b0),(2,pt b1),(3,pt b3)]) (fun t=>bk b0 #[slW Aas Aac Aau,iv t.1] 93 :: bk b3 #[iv 31,sv r6.2.1,iv 0,iv r2.2.2.2,slW t.2.2.2.1 t.2.1 t.2.2.2.2] 54 :: bk b1 #[iv 0,sv noS,iv 0,iv 0,nS] 54 :: t.2.2.1 :: X) (fun t=>J20 t.1 t.2.1=some r∧Abf (Abt 54) 54 t.2.2.1 (slW t.2.2.2.1 t.2.1 t.2.2.2.2) t.2.1) ?_ ?_
 ·rintro ⟨x14,l15,h16,A17,k18⟩ ⟨h,o19⟩
  subst Cu7
  refine ksr (kx 1 (kld 1 4 rfl (kx 2 (K.mv1 (kst 2 1 #[iv 31,sv r6.2.1,iv ((l15.length:Nat):Int),iv r2.2.2.2,slW A17 l15 k18] (Abz (kx 1 (K.mv1 (kcp h (fun _ Avx=>(Ag2.ok Avx Abe)) rfl ⟨(t3 Abr),trivial⟩ (fun _ e=>Ab5 (kpn 3 e rfl)) fun r21 h=>?_)))))))))
  rintro _ _ ⟨rfl,rfl⟩
  refine Alj (knt (Acx (kpr [(0,0),(1,3),(2,0),(3,1),(4,1)] [1] (kpx 1 (kpd 0 4 rfl (kpx 1 (kpt (ocp h (fun _ Bu5=>(hR.Ahi Bu5 Abe)) rfl ⟨(t3 Abr),trivial⟩ (fun _ e=>Ab5 (kpn 3 e rfl)) fun r23 h=>?_))))))))
  rintro _ _ ⟨h24,A25,k26,o27,rfl,rfl⟩
  refine Ach (kan [2] rfl (kpt (ons #[iv r23.1,sv r23.2.1,iv r23.2.2.1,iv r23.2.2.2.1,slW A25 r23.2.2.2.2.1 k26] 54 1 fun b29=>(kan [3] rfl (kpz (K.mv1 (K.mv1 (Aip (T:=54) (n:=1) (xs:=[(Tree.mk r23.1 r23.2.1 r23.2.2.1 r23.2.2.2.1 r23.2.2.2.2.1)]) (Ael.one (Ai9 (k:=r23.1) (t:=r23.2.1) (n:=r23.2.2.1) (a:=r23.2.2.2.1) 54 o27)) rfl rfl (Ac0 rfl) fun h30 o31=>(K.mv4 (bnd h fun l32 Bl4 h=>?_))))))))))
  refine Amd rfl Ao8 rfl Bl4 o19 o31 fun h33 A34 k35 o36=>(kx 1 (K.mv2 (kst 4 1 #[iv 31,sv r6.2.1,iv ((l15.length:Nat):Int),iv r2.2.2.2,slW A34 l32 k35] (Abz (kx 1 (K.mv2 (kcp h (fun _ A7k=>(Ag2.ok A7k Abe)) rfl ⟨(t3 Abr),trivial⟩ (fun _ e=>Ab5 (kpn 3 e rfl)) fun r37 h=>?_)))))))
  rintro _ _ ⟨rfl,rfl⟩
  refine Alj (Abz (kla 1 0 5 rfl (K.mv1 (K.drop (K.mv2 (kst 0 5 #[iv 31,sv r6.2.1,iv ((l15.length:Nat):Int),iv r2.2.2.2,slW A34 l32 k35] (knt (Aem ?_))))))))
  obtain rfl:=Aam h
  exact kda 0 5 rfl [h33,bk b0 #[slW Aas Aac Aau,iv r37] 93] (K.drop (K.mv1 (Adq (PR.okI ⟨h33,A34,k35,o36,rfl,rfl⟩))))
 ·skip
  refine ksr (kx 1 (bnd h fun r39 hr39 h=>(kc1 (Akh.ok hr39 Abe) rfl ⟨(t2 Abr),trivial⟩ (kx 1 (knt ?_)))))
  refine kcn h (fun h=>?_) fun h=>?_
  ·refine Ab6 (kx 1 (kcp h (fun _ A7m=>(Aqa.ok A7m Abe)) rfl ⟨(t2 Abr),trivial⟩ (fun _ e=>Ab5 (kpn 2 e rfl)) fun r41 h=>?_))
   rintro _ _ ⟨h42,A43,k44,o45,rfl,rfl⟩
   exact Ach (kx 1 (K.mv2 (kst 4 1 #[iv 31,sv r6.2.1,iv 0,iv r2.2.2.2,slW A43 r41.1 k44] (knt (K.mv1 (K.mv3 (K.mv2 (K.mv3 (Ac1 (r41.2,r41.1,h42,A43,k44) ⟨h,o45⟩ sb rfl)))))))))
  ·exact Adl (Abi (Ag6 (K.mv3 (K.mv3 (K.mv3 (Ac1 (r12,[],none_,none,0) ⟨h,(Abf.nil (Abt 54) 54 none_)⟩ sb rfl))))))
def Ase.g (Rc:PS) (k:Nat) (Aac:List (Int×ByteArray×Int×Int)) (Aad:Int):Option (PR (Int×ByteArray×Int×Int×List Tree×Int)):=(Ajg.f k Aac Aad).bind fun r2=>Adj (fun (x5:Int) (x6:Int) (l7:List Tree) (x12:Int)=>some (PR.ok (x5,(⟨#[]⟩:ByteArray),x6,r2.2.2.2,l7,x12))) (fun J13=>(Af0.f k Aac Aad (⟨#[100,111]⟩:ByteArray)).bind fun r14=>cond r14.1 (PR.bind (Rc.Ahi Aac r14.2 false) fun r16=>PR.bind (Ag2.f k Aac r16.2.2.2.2.2 (⟨#[101,110,100]⟩:ByteArray)) fun r23=>J13 28 0 ([(Tree.mk r16.1 r16.2.1 r16.2.2.1 r16.2.2.2.1 r16.2.2.2.2.1)]) r23) ((Af0.f k Aac r14.2 (⟨#[119,104,105,108,101]⟩:ByteArray)).bind fun r27=>cond r27.1 (PR.bind (Agw.f k Aac r27.2 0) fun r29=>PR.bind (Ag2.f k Aac r29.2.2.2.2.2 (⟨#[100,111]⟩:ByteArray)) fun r36=>PR.bind (Rc.Ahi Aac r36 false) fun r38=>(apd 64 [(Tree.mk r29.1 r29.2.1 r29.2.2.1 r29.2.2.2.1 r29.2.2.2.2.1)] [(Tree.mk r38.1 r38.2.1 r38.2.2.1 r38.2.2.2.1 r38.2.2.2.2.1)]).bind fun l49=>PR.bind (Ag2.f k Aac r38.2.2.2.2.2 (⟨#[101,110,100]⟩:ByteArray)) fun r54=>J13 25 0 l49 r54) ((Af0.f k Aac r27.2 (⟨#[105,102]⟩:ByteArray)).bind fun r56=>cond r56.1 (PR.bind (Rc.An6 Aac r56.2) fun r58=>J13 24 0 r58.1 r58.2) ((Af0.f k Aac r56.2 (⟨#[102,111,114]⟩:ByteArray)).bind fun r64=>cond r64.1 (PR.bind (Rc.Asa Aac r64.2 r2.2.2.2) fun r66=>some (PR.ok (r66.1,r66.2.1,r66.2.2.1,r66.2.2.2.1,r66.2.2.2.2.1,r66.2.2.2.2.2))) ((Af0.f k Aac r64.2 (⟨#[108,111,99,97,108]⟩:ByteArray)).bind fun r72=>cond r72.1 (PR.bind (Aqa.f k Aac r72.2) fun r74=>(Af0.f k Aac r74.2 (⟨#[61]⟩:ByteArray)).bind fun r80=>cond r80.1 (PR.bind (Aim.f k Aac r80.2) fun r82=>(apd 64 r74.1 r82.1).bind fun l88=>J13 21 ((r74.1.length:Nat):Int) l88 r82.2) (J13 21 ((r74.1.length:Nat):Int) r74.1 r80.2)) ((Af0.f k Aac r72.2 (⟨#[98,114,101,97,107]⟩:ByteArray)).bind fun r93=>cond r93.1 (J13 29 0 ([]) r93.2) (PR.bind (Rc.An7 Aac r93.2) fun r95=>some (PR.ok (r95.1,r95.2.1,r95.2.2.1,r95.2.2.2.1,r95.2.2.2.2.1,r95.2.2.2.2.2)))))))))
theorem Ase.okg {Rc:PS} (hR:Rc.Good) {k:Nat}:Ase.C (Ase.g Rc k):=by
 intro Aac Aad b0 Aau Adb Aas r h Abe
 refine Afi (args:=[pt b0]) Tryz.func45 rfl (Ac0 rfl) ?_
 intro A X hh_
 obtain ⟨Abr,_⟩:=hh_
 unfold Ase.g at h
 refine K.eq (env':=[(0,pt b0)]) (l':=bk b0 #[slW Aas Aac Aau,iv Aad] 93 :: X) rfl rfl (ksr (knp #[iv 0,sv noS,iv 0,iv 0,nS] 54 fun b1=>(Abz (kx 1 (K.mv1 (bnd h fun r2 hr2 h=>(kc1 (Ajg.ok hr2 Abe) rfl ⟨(.tail _ Abr),trivial⟩ (knp #[iv 0,sv noS,iv 0,iv 0] 96 fun b3=>(kst 0 4 #[iv r2.1,sv r2.2.1,iv r2.2.2.1,iv r2.2.2.2] (Abz ?_))))))))))
 refine kx 1 (kld 0 3 rfl (kx 1 (knp #[iv 0,sv noS,iv 0,iv 0,nS] 54 fun b4=>(kst 0 5 #[iv 0,sv noS,iv 0,iv r2.2.2.2,nS] (knt ?_)))))
 obtain ⟨J13,Btn,h⟩:=Ags h
 refine Agt (τ:=Int×Int×(List Tree)×Int×Aaa×TyO×Nat) (fun t=>[(2,pt b1),(4,pt b4)]) (fun t=>bk b4 #[iv t.1,sv noS,iv t.2.1,iv r2.2.2.2,slW t.2.2.2.2.2.1 t.2.2.1 t.2.2.2.2.2.2] 54 :: bk b0 #[slW Aas Aac Aau,iv t.2.2.2.1] 93 :: bk b1 #[iv 0,sv noS,iv 0,iv 0,nS] 54 :: t.2.2.2.2.1 :: X) (fun t=>J13 t.1 t.2.1 t.2.2.1 t.2.2.2.1=some r∧Abf (Abt 54) 54 t.2.2.2.2.1 (slW t.2.2.2.2.2.1 t.2.2.1 t.2.2.2.2.2.2) t.2.2.1) ?_ ?_
 ·rintro ⟨x5,x6,l7,x12,h8,A9,k10⟩ ⟨h,o11⟩
  subst Btn
  refine ksr (kla 0 0 5 rfl (K.drop (K.mv1 (kst 0 5 #[iv x5,sv noS,iv x6,iv r2.2.2.2,slW A9 l7 k10] (knt (Aem ?_))))))
  obtain rfl:=Aam h
  exact kda 0 5 rfl [h8,bk b0 #[slW Aas Aac Aau,iv x12] 93] (K.drop (K.mv1 (Adq (PR.okI ⟨h8,A9,k10,o11,rfl,rfl⟩))))
 ·skip
  refine Aez (ksr (kx 1 (K.mv2 (bnd h fun r14 Cyq h=>(kc1 (Af0.ok Cyq Abe) rfl ⟨(t3 Abr),trivial⟩ (kx 1 (knt ?_)))))))
  refine kcn h (fun h=>?_) fun h=>?_
  ·refine ksr (kx 1 (kcp h (fun _ Avu=>(hR.Ahi Avu Abe)) rfl ⟨(t3 Abr),trivial⟩ (fun _ e=>Ab5 (Ad4 (Ab5 (kpn 3 e rfl)))) fun r16 h=>?_))
   rintro _ _ ⟨h17,A18,k19,o20,rfl,rfl⟩
   refine Ach (K.mv3 (K.drop (kns #[iv r16.1,sv r16.2.1,iv r16.2.2.1,iv r16.2.2.2.1,slW A18 r16.2.2.2.2.1 k19] 54 1 fun b22=>(kx 1 (K.mv3 (kst 0 1 #[iv 28,sv noS,iv 0,iv r2.2.2.2,nS] (kx 1 (kst 4 1 #[iv 28,sv noS,iv 0,iv r2.2.2.2,.slice (some ⟨b22,0,none⟩) 1 1] (knr (kx 1 ?_))))))))))
   refine K.mv3 (kcp h (fun _ Bu5=>(Ag2.ok Bu5 Abe)) rfl ⟨(t4 Abr),trivial⟩ (fun _ e=>Ad4 (Ab5 (kpn 4 e rfl))) fun r23 h=>?_)
   rintro _ _ ⟨rfl,rfl⟩
   exact Alj (knl (Ade (Abi (K.mv3 (K.mv3 (Aip (T:=54) (n:=1) (xs:=[(Tree.mk r16.1 r16.2.1 r16.2.2.1 r16.2.2.2.1 r16.2.2.2.2.1)]) (Ael.one (Ai9 (k:=r16.1) (t:=r16.2.1) (n:=r16.2.2.1) (a:=r16.2.2.2.1) 54 o20)) rfl rfl (Ac0 rfl) fun h25 o26=>(K.mv3 (K.mv2 (K.mv3 (Ac1 (28,0,[(Tree.mk r16.1 r16.2.1 r16.2.2.1 r16.2.2.2.1 r16.2.2.2.2.1)],r23,h25,(some ⟨b22,0,none⟩),1) ⟨h,o26⟩ sb rfl))))))))))
  ·refine ksr (kx 1 (bnd h fun r27 Avy h=>(kc1 (Af0.ok Avy Abe) rfl ⟨(t3 Abr),trivial⟩ (kx 1 (knt ?_)))))
   refine kcn h (fun h=>?_) fun h=>?_
   ·refine ksr (kx 1 (kcp h (fun _ Bfw=>(Agw.ok Bfw Abe)) rfl ⟨(t3 Abr),trivial⟩ (fun _ e=>Ab5 (Ad4 (Ab5 (kpn 3 e rfl)))) fun r29 h=>?_))
    rintro _ _ ⟨h30,A31,k32,o33,rfl,rfl⟩
    refine Ach (K.mv3 (K.drop (kns #[iv r29.1,sv r29.2.1,iv r29.2.2.1,iv r29.2.2.2.1,slW A31 r29.2.2.2.2.1 k32] 54 1 fun b35=>(kx 1 (K.mv3 (kst 0 1 #[iv 25,sv noS,iv 0,iv r2.2.2.2,nS] (kx 1 (kst 4 1 #[iv 25,sv noS,iv 0,iv r2.2.2.2,.slice (some ⟨b35,0,none⟩) 1 1] (Abz (kx 1 ?_))))))))))
    refine K.mv3 (kcp h (fun _ Ayc=>(Ag2.ok Ayc Abe)) rfl ⟨(t4 Abr),trivial⟩ (fun _ e=>Ab5 (Ad4 (Ab5 (kpn 4 e rfl)))) fun r36 h=>?_)
    rintro _ _ ⟨rfl,rfl⟩
    refine Alj (knt (Acx (kpr [(0,0),(1,3),(2,0),(3,1),(4,1)] [1] (kpx 1 (kpd 0 4 rfl (kpx 1 (kpt (ocp h (fun _ A7l=>(hR.Ahi A7l Abe)) rfl ⟨(t4 Abr),trivial⟩ (fun _ e=>Ab5 (Ad4 (Ab5 (kpn 4 e rfl)))) fun r38 h=>?_))))))))
    rintro _ _ ⟨h39,A40,k41,o42,rfl,rfl⟩
    refine Ach (kan [2] rfl (kpt (ons #[iv r38.1,sv r38.2.1,iv r38.2.2.1,iv r38.2.2.2.1,slW A40 r38.2.2.2.2.1 k41] 54 1 fun b44=>(kan [3] rfl (kpz (K.mv1 (K.mv1 (Aip (T:=54) (n:=1) (xs:=[(Tree.mk r38.1 r38.2.1 r38.2.2.1 r38.2.2.2.1 r38.2.2.2.2.1)]) (Ael.one (Ai9 (k:=r38.1) (t:=r38.2.1) (n:=r38.2.2.1) (a:=r38.2.2.2.1) 54 o42)) rfl rfl (Ac0 rfl) fun h45 o46=>(K.mv4 (K.mv4 ?_))))))))))
    refine Aip (T:=54) (n:=1) (xs:=[(Tree.mk r29.1 r29.2.1 r29.2.2.1 r29.2.2.2.1 r29.2.2.2.2.1)]) (Ael.one (Ai9 (k:=r29.1) (t:=r29.2.1) (n:=r29.2.2.1) (a:=r29.2.2.2.1) 54 o33)) rfl rfl (Ac0 rfl) fun h47 o48=>(K.mv1 (K.mv1 (bnd h fun l49 hl49 h=>(Amd rfl Ao8 rfl hl49 o48 o46 fun h50 A51 k52 o53=>(kx 1 (K.mv2 (kst 4 1 #[iv 25,sv noS,iv 0,iv r2.2.2.2,slW A51 l49 k52] (knr (kx 1 (K.mv2 ?_))))))))))
    refine kcp h (fun _ Bfz=>(Ag2.ok Bfz Abe)) rfl ⟨(t3 Abr),trivial⟩ (fun _ e=>Ad4 (Ab5 (kpn 3 e rfl))) fun r54 h=>?_
    rintro _ _ ⟨rfl,rfl⟩
    exact Alj (knl (Ade (Abi (K.mv2 (K.mv3 (K.mv2 (K.mv3 (Ac1 (25,0,l49,r54,h50,A51,k52) ⟨h,o53⟩ sb rfl))))))))
   ·refine ksr (kx 1 (bnd h fun r56 Bvj h=>(kc1 (Af0.ok Bvj Abe) rfl ⟨(t3 Abr),trivial⟩ (kx 1 (knt ?_)))))
    refine kcn h (fun h=>?_) fun h=>?_
    ·refine Ab6 (kx 1 (kcp h (fun _ Bf4=>(hR.An6 Bf4 Abe)) rfl ⟨(t3 Abr),trivial⟩ (fun _ e=>Ad4 (Ab5 (kpn 3 e rfl))) fun r58 h=>?_))
     rintro _ _ ⟨h59,A60,k61,o62,rfl,rfl⟩
     refine Ach (K.mv3 (K.drop (kx 1 (K.mv2 (kst 0 1 #[iv 24,sv noS,iv 0,iv r2.2.2.2,nS] (kx 1 (kst 4 1 #[iv 24,sv noS,iv 0,iv r2.2.2.2,slW A60 r58.1 k61] (knl (Ade (Abi ?_))))))))))
     exact K.mv1 (K.mv3 (K.mv3 (K.mv3 (Ac1 (24,0,r58.1,r58.2,h59,A60,k61) ⟨h,o62⟩ sb rfl))))
    ·refine ksr (kx 1 (bnd h fun r64 Bvl h=>(kc1 (Af0.ok Bvl Abe) rfl ⟨(t3 Abr),trivial⟩ (kx 1 (knt ?_)))))
     refine kcn h (fun h=>?_) fun h=>?_
     ·refine ksr (kx 2 (kld 2 3 rfl (K.mv1 (K.drop (K.mv1 (K.drop (kcp h (fun _ Bvn=>(hR.Asa Bvn Abe)) rfl ⟨(.tail _ Abr),trivial⟩ (fun _ e=>Ab5 (Ad4 (Ab5 (kpn 1 e rfl)))) fun r66 h=>?_)))))))
      rintro _ _ ⟨h67,A68,k69,o70,rfl,rfl⟩
      refine Ach (K.mv2 (kst 0 5 #[iv r66.1,sv r66.2.1,iv r66.2.2.1,iv r66.2.2.2.1,slW A68 r66.2.2.2.2.1 k69] (knt (Aem (Ahj (Afx ?_))))))
      obtain rfl:=Aam h
      exact kda 0 5 rfl [h67,bk b0 #[slW Aas Aac Aau,iv r66.2.2.2.2.2] 93] (K.drop (Adq (PR.okI ⟨h67,A68,k69,o70,rfl,rfl⟩)))
     ·refine ksr (kx 1 (bnd h fun r72 Bf5 h=>(kc1 (Af0.ok Bf5 Abe) rfl ⟨(t3 Abr),trivial⟩ (K.mv2 (K.drop (kx 1 (knt ?_)))))))
      refine kcn h (fun h=>?_) fun h=>?_
      ·refine ksr (kx 1 (kcp h (fun _ Bvu=>(Aqa.ok Bvu Abe)) rfl ⟨(t2 Abr),trivial⟩ (fun _ e=>Ab5 (Ad4 (Ab5 (kpn 2 e rfl)))) fun r74 h=>?_))
       rintro _ _ ⟨h75,A76,k77,o78,rfl,rfl⟩
       refine Ach (kx 1 (K.mv2 (kst 0 1 #[iv 21,sv noS,iv 0,iv r2.2.2.2,nS] (kx 1 (kst 4 1 #[iv 21,sv noS,iv 0,iv r2.2.2.2,slW A76 r74.1 k77] (Abz (kx 1 (kld 0 4 rfl (kx 2 (kst 2 1 #[iv 21,sv noS,iv ((r74.1.length:Nat):Int),iv r2.2.2.2,slW A76 r74.1 k77] ?_))))))))))
       refine Abz (kx 1 (K.mv2 (bnd h fun r80 A7r h=>(kc1 (Af0.ok A7r Abe) rfl ⟨(t3 Abr),trivial⟩ (knt ?_)))))
       refine kcn h (fun h=>?_) fun h=>?_
       ·refine kpr [(0,0),(1,3),(2,0),(3,1)] [1] (kpx 1 (kpd 0 4 rfl (kpx 1 (kpt (ocp h (fun _ A1n=>(Aim.ok A1n Abe)) rfl ⟨(t3 Abr),trivial⟩ (fun _ e=>Ad4 (Ab5 (kpn 3 e rfl))) fun r82 h=>?_)))))
        rintro _ _ ⟨h83,A84,k85,o86,rfl,rfl⟩
        refine Ach (kan [2] rfl (kpz (K.mv3 (bnd h fun l88 Cxx h=>(Amd rfl Ao8 rfl Cxx o78 o86 fun h89 A90 k91 o92=>(kx 1 (K.mv2 (kst 4 1 #[iv 21,sv noS,iv ((r74.1.length:Nat):Int),iv r2.2.2.2,slW A90 l88 k91] (knl (Ade ?_))))))))))
        exact Abi (K.mv1 (K.mv3 (K.mv3 (K.mv3 (Ac1 (21,((r74.1.length:Nat):Int),l88,r82.2,h89,A90,k91) ⟨h,o92⟩ sb rfl)))))
       ·exact Adl (Ade (Abi (K.mv2 (K.mv3 (K.mv2 (K.mv3 (Ac1 (21,((r74.1.length:Nat):Int),r74.1,r80.2,h75,A76,k77) ⟨h,o78⟩ sb rfl)))))))
      ·refine ksr (kx 1 (bnd h fun r93 Bf7 h=>(kc1 (Af0.ok Bf7 Abe) rfl ⟨(t2 Abr),trivial⟩ (kx 1 (knt ?_)))))
       refine kcn h (fun h=>?_) fun h=>?_
       ·refine Ab6 (kx 1 (K.mv1 (kst 0 1 #[iv 29,sv noS,iv 0,iv r2.2.2.2,nS] (knl (Ade (Abi (Ag6 (K.mv3 (K.mv3 (K.mv3 ?_))))))))))
        exact Ac1 (29,0,[],r93.2,none_,none,0) ⟨h,(Abf.nil (Abt 54) 54 none_)⟩ sb rfl
       ·refine ksr (kx 1 (kcp h (fun _ A1s=>(hR.An7 A1s Abe)) rfl ⟨(t2 Abr),trivial⟩ (fun _ e=>Ab5 (Ad4 (Ab5 (kpn 2 e rfl)))) fun r95 h=>?_))
        rintro _ _ ⟨h96,A97,k98,o99,rfl,rfl⟩
        refine Ach (K.mv2 (K.drop (K.mv2 (kst 0 5 #[iv r95.1,sv r95.2.1,iv r95.2.2.1,iv r95.2.2.2.1,slW A97 r95.2.2.2.2.1 k98] (knt (Aem (Ahj (Afx ?_))))))))
        obtain rfl:=Aam h
        exact kda 0 5 rfl [h96,bk b0 #[slW Aas Aac Aau,iv r95.2.2.2.2.2] 93] (K.drop (Adq (PR.okI ⟨h96,A97,k98,o99,rfl,rfl⟩)))
def An6.l0:Nat→(Rc:PS)→(Aac:List (Int×ByteArray×Int×Int))→(J7:(List Tree)→Int→Option (PR (List Tree×Int)))→(l33:List Tree)→(x38:Int)→Option (PR (List Tree×Int))
 | 0,_,_,_,_,_=>none
 | m39+1,Rc,Aac,J7,l33,x38=>PR.bind (Agw.f m39 Aac x38 0) fun r40=>(apd 64 l33 [(Tree.mk r40.1 r40.2.1 r40.2.2.1 r40.2.2.2.1 r40.2.2.2.2.1)]).bind fun l49=>PR.bind (Ag2.f m39 Aac r40.2.2.2.2.2 (⟨#[116,104,101,110]⟩:ByteArray)) fun r54=>PR.bind (Rc.Ahi Aac r54 false) fun r56=>(apd 64 l49 [(Tree.mk r56.1 r56.2.1 r56.2.2.1 r56.2.2.2.1 r56.2.2.2.2.1)]).bind fun l65=>(Af0.f m39 Aac r56.2.2.2.2.2 (⟨#[101,108,115,101,105,102]⟩:ByteArray)).bind fun r70=>cond (!r70.1) (J7 l65 r70.2) (An6.l0 m39 Rc Aac J7 l65 r70.2)
def An6.g (Rc:PS) (k:Nat) (Aac:List (Int×ByteArray×Int×Int)) (Aad:Int):Option (PR (List Tree×Int)):=Adj (fun (l1:List Tree) (x6:Int)=>Adj (fun (l8:List Tree) (x13:Int)=>PR.bind (Ag2.f k Aac x13 (⟨#[101,110,100]⟩:ByteArray)) fun r15=>some (PR.ok (l8,r15))) (fun J14=>(Af0.f k Aac x6 (⟨#[101,108,115,101]⟩:ByteArray)).bind fun r17=>cond r17.1 (PR.bind (Rc.Ahi Aac r17.2 false) fun r19=>(apd 64 l1 [(Tree.mk r19.1 r19.2.1 r19.2.2.1 r19.2.2.2.1 r19.2.2.2.2.1)]).bind fun l28=>J14 l28 r19.2.2.2.2.2) (J14 l1 r17.2))) (fun J7=>An6.l0 k Rc Aac J7 ([]) Aad)
theorem An6.okg {Rc:PS} (hR:Rc.Good) {k:Nat}:An6.C (An6.g Rc k):=by
 intro Aac Aad b0 Aau Adb Aas r h Abe
 refine Afi (args:=[pt b0]) Tryz.func68 rfl (Ac0 rfl) ?_
 intro A X hh_
 obtain ⟨Abr,_⟩:=hh_
 unfold An6.g at h
 refine K.eq (env':=[(0,pt b0)]) (l':=bk b0 #[slW Aas Aac Aau,iv Aad] 93 :: X) rfl rfl (ksr (kx 1 (Abz (kx 1 (knt ?_)))))
 obtain ⟨J7,hJ7,h⟩:=Ags h
 refine Agt (τ:=(List Tree)×Int×Aaa×TyO×Nat) (fun t=>[(0,pt b0),(3,slW t.2.2.2.1 t.1 t.2.2.2.2)]) (fun t=>bk b0 #[slW Aas Aac Aau,iv t.2.1] 93 :: t.2.2.1 :: X) (fun t=>J7 t.1 t.2.1=some r∧Abf (Abt 54) 54 t.2.2.1 (slW t.2.2.2.1 t.1 t.2.2.2.2) t.1) ?_ ?_
 ·rintro ⟨l1,x6,h2,A3,k4⟩ ⟨h,o5⟩
  subst hJ7
  obtain ⟨J14,Ax5,h⟩:=Ags h
  refine Agt (τ:=(List Tree)×Int×Aaa×TyO×Nat) (fun t=>[(0,pt b0),(3,slW t.2.2.2.1 t.1 t.2.2.2.2)]) (fun t=>bk b0 #[slW Aas Aac Aau,iv t.2.1] 93 :: t.2.2.1 :: X) (fun t=>J14 t.1 t.2.1=some r∧Abf (Abt 54) 54 t.2.2.1 (slW t.2.2.2.1 t.1 t.2.2.2.2) t.1) ?_ ?_
  ·rintro ⟨l8,x13,h9,A10,k11⟩ ⟨h,o12⟩
   subst Ax5
   refine ksr (kx 1 (kcp h (fun _ Ayb=>(Ag2.ok Ayb Abe)) rfl ⟨(.tail _ Abr),trivial⟩ (fun _ e=>Ab5 (kpn 1 e rfl)) fun r15 h=>?_))
   rintro _ _ ⟨rfl,rfl⟩
   refine Alj (Abz (kx 2 (knt (Aem ?_))))
   obtain rfl:=Aam h
   exact kdv (slW A10 l8 k11) [h9,bk b0 #[slW Aas Aac Aau,iv r15] 93] (K.mv1 (Adq (PR.okI ⟨h9,A10,k11,o12,rfl,rfl⟩)))
  ·skip
   refine ksr (kx 1 (bnd h fun r17 Avv h=>(kc1 (Af0.ok Avv Abe) rfl ⟨(.tail _ Abr),trivial⟩ (knt ?_))))
   refine kcn h (fun h=>?_) fun h=>?_
   ·refine Ab6 (kx 2 (kcp h (fun _ hr19=>(hR.Ahi hr19 Abe)) rfl ⟨(.tail _ Abr),trivial⟩ (fun _ e=>Ab5 (kpn 1 e rfl)) fun r19 h=>?_))
    rintro _ _ ⟨h20,A21,k22,o23,rfl,rfl⟩
    refine Ach (kns #[iv r19.1,sv r19.2.1,iv r19.2.2.1,iv r19.2.2.2.1,slW A21 r19.2.2.2.2.1 k22] 54 1 fun b25=>(K.mv1 (K.mv1 (Aip (T:=54) (n:=1) (xs:=[(Tree.mk r19.1 r19.2.1 r19.2.2.1 r19.2.2.2.1 r19.2.2.2.2.1)]) (Ael.one (Ai9 (k:=r19.1) (t:=r19.2.1) (n:=r19.2.2.1) (a:=r19.2.2.2.1) 54 o23)) rfl rfl (Ac0 rfl) fun h26 o27=>(K.mv2 (bnd h fun l28 Bt3 h=>(Amd rfl Ao8 rfl Bt3 o5 o27 fun h29 A30 k31 o32=>(kx 1 (knt (K.mv1 ?_))))))))))
    exact Ac1 (l28,r19.2.2.2.2.2,h29,A30,k31) ⟨h,o32⟩ sb rfl
   ·exact Adl (Abi (Ac1 (l1,r17.2,h2,A3,k4) ⟨h,o5⟩ sb rfl))
 ·skip
  refine Aez (Ag6 (K.mv1 (Akb (τ:=(List Tree)×Int×Aaa×TyO×Nat) (fun t=>[(0,pt b0),(3,slW t.2.2.2.1 t.1 t.2.2.2.2)]) (fun t=>bk b0 #[slW Aas Aac Aau,iv t.2.1] 93 :: t.2.2.1 :: X) (fun m t=>An6.l0 m Rc Aac J7 t.1 t.2.1=some r∧Abf (Abt 54) 54 t.2.2.1 (slW t.2.2.2.1 t.1 t.2.2.2.2) t.1) k ([],Aad,none_,none,0) ⟨h,(Abf.nil (Abt 54) 54 none_)⟩ sb rfl ?_)))
  clear h
  rintro m39 ⟨l33,x38,h34,A35,k36⟩ ⟨h,o37⟩
  cases m39 with
  | zero=>simp [An6.l0] at h
  | succ m39 =>
   simp only [An6.l0] at h
   refine Aez (ksr (kx 2 (kcp h (fun _ Bfy=>(Agw.ok Bfy Abe)) rfl ⟨(.tail _ Abr),trivial⟩ (fun _ e=>Ab5 (Ad4 (Ab5 (Ad4 (Ab5 (kpn 1 e rfl)))))) fun r40 h=>?_)))
   rintro _ _ ⟨h41,A42,k43,o44,rfl,rfl⟩
   refine Ach (kns #[iv r40.1,sv r40.2.1,iv r40.2.2.1,iv r40.2.2.2.1,slW A42 r40.2.2.2.2.1 k43] 54 1 fun b46=>(K.mv1 (K.mv1 (Aip (T:=54) (n:=1) (xs:=[(Tree.mk r40.1 r40.2.1 r40.2.2.1 r40.2.2.2.1 r40.2.2.2.2.1)]) (Ael.one (Ai9 (k:=r40.1) (t:=r40.2.1) (n:=r40.2.2.1) (a:=r40.2.2.2.1) 54 o44)) rfl rfl (Ac0 rfl) fun h47 o48=>(K.mv2 (bnd h fun l49 hl49 h=>(Amd rfl Ao8 rfl hl49 o37 o48 fun h50 A51 k52 o53=>(kx 1 (Abz (kx 1 ?_))))))))))
   refine K.mv1 (kcp h (fun _ Bfz=>(Ag2.ok Bfz Abe)) rfl ⟨(.tail _ Abr),trivial⟩ (fun _ e=>Ab5 (Ad4 (Ab5 (Ad4 (Ab5 (kpn 1 e rfl)))))) fun r54 h=>?_)
   rintro _ _ ⟨rfl,rfl⟩
   refine Alj (Abz (kx 2 (kcp h (fun _ Bvj=>(hR.Ahi Bvj Abe)) rfl ⟨(.tail _ Abr),trivial⟩ (fun _ e=>Ab5 (Ad4 (Ab5 (Ad4 (Ab5 (kpn 1 e rfl)))))) fun r56 h=>?_)))
   rintro _ _ ⟨h57,A58,k59,o60,rfl,rfl⟩
   refine Ach (kns #[iv r56.1,sv r56.2.1,iv r56.2.2.1,iv r56.2.2.2.1,slW A58 r56.2.2.2.2.1 k59] 54 1 fun b62=>(K.mv1 (K.mv1 (Aip (T:=54) (n:=1) (xs:=[(Tree.mk r56.1 r56.2.1 r56.2.2.1 r56.2.2.2.1 r56.2.2.2.2.1)]) (Ael.one (Ai9 (k:=r56.1) (t:=r56.2.1) (n:=r56.2.2.1) (a:=r56.2.2.2.1) 54 o60)) rfl rfl (Ac0 rfl) fun h63 o64=>(K.mv2 (bnd h fun l65 Cxs h=>(Amd rfl Ao8 rfl Cxs o53 o64 fun h66 A67 k68 o69=>(kx 1 (Abz (kx 1 ?_))))))))))
   refine K.mv1 (bnd h fun r70 Bvs h=>(kc1 (Af0.ok Bvs Abe) rfl ⟨(.tail _ Abr),trivial⟩ (kx 1 (knt ?_))))
   refine kcn h (fun h=>?_) fun h=>?_
   ·exact Aj9 (Bmu rfl (Agh (Aka (Abi (Ac1 (l65,r70.2,h66,A67,k68) ⟨h,o69⟩ sb rfl)))))
   ·exact Adl (Ade (Abi (Ai4 m39 (l65,r70.2,h66,A67,k68) (Nat.lt_succ_self _) ⟨h,o69⟩ sb rfl)))
def Asa.g (Rc:PS) (k:Nat) (Aac:List (Int×ByteArray×Int×Int)) (Aad:Int) (a1:Int):Option (PR (Int×ByteArray×Int×Int×List Tree×Int)):=PR.bind (Ap0.f k Aac Aad) fun r2=>Adj (fun (x10:Int) (x11:Int) (l12:List Tree) (x17:Int)=>PR.bind (Ag2.f k Aac x17 (⟨#[100,111]⟩:ByteArray)) fun r19=>PR.bind (Rc.Ahi Aac r19 false) fun r21=>(apd 64 l12 [(Tree.mk r21.1 r21.2.1 r21.2.2.1 r21.2.2.2.1 r21.2.2.2.2.1)]).bind fun l30=>PR.bind (Ag2.f k Aac r21.2.2.2.2.2 (⟨#[101,110,100]⟩:ByteArray)) fun r35=>some (PR.ok (x10,(⟨#[]⟩:ByteArray),x11,a1,l30,r35))) (fun J18=>(Af0.f k Aac r2.2.2.2.2.2 (⟨#[61]⟩:ByteArray)).bind fun r37=>cond r37.1 (PR.bind (Agw.f k Aac r37.2 0) fun r39=>(apd 64 [(Tree.mk r2.1 r2.2.1 r2.2.2.1 r2.2.2.2.1 r2.2.2.2.2.1)] [(Tree.mk r39.1 r39.2.1 r39.2.2.1 r39.2.2.2.1 r39.2.2.2.2.1)]).bind fun l50=>PR.bind (Ag2.f k Aac r39.2.2.2.2.2 (⟨#[44]⟩:ByteArray)) fun r55=>PR.bind (Agw.f k Aac r55 0) fun r57=>(apd 64 l50 [(Tree.mk r57.1 r57.2.1 r57.2.2.1 r57.2.2.2.1 r57.2.2.2.2.1)]).bind fun l66=>(Af0.f k Aac r57.2.2.2.2.2 (⟨#[44]⟩:ByteArray)).bind fun r71=>cond r71.1 (PR.bind (Agw.f k Aac r71.2 0) fun r73=>(apd 64 l66 [(Tree.mk r73.1 r73.2.1 r73.2.2.1 r73.2.2.2.1 r73.2.2.2.2.1)]).bind fun l82=>J18 26 0 l82 r73.2.2.2.2.2) (J18 26 0 l66 r71.2)) (Adj (fun (x87:Int) (l88:List Tree)=>PR.bind (Ag2.f k Aac x87 (⟨#[105,110]⟩:ByteArray)) fun r94=>PR.bind (Aim.f k Aac r94) fun r96=>(apd 64 l88 r96.1).bind fun Bbr=>J18 27 ((l88.length:Nat):Int) Bbr r96.2) (fun J93=>(Af0.f k Aac r37.2 (⟨#[44]⟩:ByteArray)).bind fun Bh5=>cond Bh5.1 (PR.bind (Aqa.f k Aac Bh5.2) fun Bop=>(apd 64 [(Tree.mk r2.1 r2.2.1 r2.2.2.1 r2.2.2.2.1 r2.2.2.2.2.1)] Bop.1).bind fun A2k=>J93 Bop.2 A2k) (J93 Bh5.2 ([(Tree.mk r2.1 r2.2.1 r2.2.2.1 r2.2.2.2.1 r2.2.2.2.2.1)])))))
theorem Asa.okg {Rc:PS} (hR:Rc.Good) {k:Nat}:Asa.C (Asa.g Rc k):=by
 intro Aac Aad a1 b0 Aau Adb Aas r h Abe
 refine Afi (args:=[pt b0,iv a1]) Tryz.func69 rfl (Ac0 rfl) ?_
 intro A X hh_
 obtain ⟨Abr,_⟩:=hh_
 unfold Asa.g at h
 refine K.eq (env':=[(0,pt b0),(1,iv a1)]) (l':=bk b0 #[slW Aas Aac Aau,iv Aad] 93 :: X) rfl rfl (ksr (knp #[iv 0,sv noS,iv 0,iv 0,nS] 54 fun b1=>(Abz (kx 2 (K.mv1 (kcp h (fun _ hr2=>(Ap0.ok hr2 Abe)) rfl ⟨(.tail _ Abr),trivial⟩ (fun _ e=>Ab5 (kpn 1 e rfl)) fun r2 h=>?_))))))
 rintro _ _ ⟨h3,A4,k5,o6,rfl,rfl⟩
 refine Ach (kns #[iv r2.1,sv r2.2.1,iv r2.2.2.1,iv r2.2.2.2.1,slW A4 r2.2.2.2.2.1 k5] 54 1 fun b8=>(kx 1 (knp #[iv 0,sv noS,iv 0,iv 0,nS] 54 fun b9=>(kst 0 5 #[iv 27,sv noS,iv 0,iv a1,.slice (some ⟨b8,0,none⟩) 1 1] (knt ?_)))))
 obtain ⟨J18,Bto,h⟩:=Ags h
 refine Agt (τ:=Int×Int×(List Tree)×Int×Aaa×TyO×Nat) (fun t=>[(0,pt b0),(4,pt b1),(5,pt b9)]) (fun t=>bk b9 #[iv t.1,sv noS,iv t.2.1,iv a1,slW t.2.2.2.2.2.1 t.2.2.1 t.2.2.2.2.2.2] 54 :: bk b0 #[slW Aas Aac Aau,iv t.2.2.2.1] 93 :: bk b1 #[iv 0,sv noS,iv 0,iv 0,nS] 54 :: t.2.2.2.2.1 :: X) (fun t=>J18 t.1 t.2.1 t.2.2.1 t.2.2.2.1=some r∧Abf (Abt 54) 54 t.2.2.2.2.1 (slW t.2.2.2.2.2.1 t.2.2.1 t.2.2.2.2.2.2) t.2.2.1) ?_ ?_
 ·rintro ⟨x10,x11,l12,x17,h13,A14,k15⟩ ⟨h,o16⟩
  subst Bto
  refine ksr (kx 1 (K.mv1 (kcp h (fun _ hr19=>(Ag2.ok hr19 Abe)) rfl ⟨(t3 Abr),trivial⟩ (fun _ e=>Ab5 (kpn 3 e rfl)) fun r19 h=>?_)))
  rintro _ _ ⟨rfl,rfl⟩
  refine Alj (knt (Acx (kpr [(0,0),(1,3),(2,0),(3,1),(4,1)] [1] (kpx 1 (kpd 0 4 rfl (kpx 1 (kpt (ocp h (fun _ Avx=>(hR.Ahi Avx Abe)) rfl ⟨(t3 Abr),trivial⟩ (fun _ e=>Ab5 (kpn 3 e rfl)) fun r21 h=>?_))))))))
  rintro _ _ ⟨h22,A23,k24,o25,rfl,rfl⟩
  refine Ach (kan [2] rfl (kpt (ons #[iv r21.1,sv r21.2.1,iv r21.2.2.1,iv r21.2.2.2.1,slW A23 r21.2.2.2.2.1 k24] 54 1 fun b27=>(kan [3] rfl (kpz (K.mv1 (K.mv1 (Aip (T:=54) (n:=1) (xs:=[(Tree.mk r21.1 r21.2.1 r21.2.2.1 r21.2.2.2.1 r21.2.2.2.2.1)]) (Ael.one (Ai9 (k:=r21.1) (t:=r21.2.1) (n:=r21.2.2.1) (a:=r21.2.2.2.1) 54 o25)) rfl rfl (Ac0 rfl) fun h28 o29=>(K.mv4 (bnd h fun l30 Bt4 h=>?_))))))))))
  refine Amd rfl Ao8 rfl Bt4 o16 o29 fun h31 A32 k33 o34=>(kx 1 (K.mv2 (kst 4 1 #[iv x10,sv noS,iv x11,iv a1,slW A32 l30 k33] (Abz (kx 1 (K.mv2 (kcp h (fun _ A7j=>(Ag2.ok A7j Abe)) rfl ⟨(t3 Abr),trivial⟩ (fun _ e=>Ab5 (kpn 3 e rfl)) fun r35 h=>?_)))))))
  rintro _ _ ⟨rfl,rfl⟩
  refine Alj (Abz (kla 1 0 5 rfl (K.mv1 (K.drop (K.mv2 (kst 0 5 #[iv x10,sv noS,iv x11,iv a1,slW A32 l30 k33] (knt (Aem ?_))))))))
  obtain rfl:=Aam h
  exact kda 0 5 rfl [h31,bk b0 #[slW Aas Aac Aau,iv r35] 93] (K.drop (K.mv1 (Adq (PR.okI ⟨h31,A32,k33,o34,rfl,rfl⟩))))
 ·skip
  refine ksr (kx 1 (K.mv3 (bnd h fun r37 A7k h=>(kc1 (Af0.ok A7k Abe) rfl ⟨(t4 Abr),trivial⟩ (knt ?_)))))
  refine kcn h (fun h=>?_) fun h=>?_
  ·refine ksr (kx 1 (K.mv1 (kst 0 1 #[iv 26,sv noS,iv 0,iv a1,.slice (some ⟨b8,0,none⟩) 1 1] (knt (Acx (kpr [(0,0),(1,3),(2,0),(3,1),(4,1)] [0] (kpx 1 (kpd 0 4 rfl (kpx 1 (kpt ?_))))))))))
   refine K.mv1 (ocp h (fun _ hr39=>(Agw.ok hr39 Abe)) rfl ⟨(t4 Abr),trivial⟩ (fun _ e=>Ab5 (Ab5 (kpn 4 e rfl))) fun r39 h=>?_)
   rintro _ _ ⟨h40,A41,k42,o43,rfl,rfl⟩
   refine Ach (kan [2] rfl (kpt (ons #[iv r39.1,sv r39.2.1,iv r39.2.2.1,iv r39.2.2.2.1,slW A41 r39.2.2.2.2.1 k42] 54 1 fun b45=>(kan [3] rfl (kpz (K.mv1 (K.mv1 (Aip (T:=54) (n:=1) (xs:=[(Tree.mk r39.1 r39.2.1 r39.2.2.1 r39.2.2.2.1 r39.2.2.2.2.1)]) (Ael.one (Ai9 (k:=r39.1) (t:=r39.2.1) (n:=r39.2.2.1) (a:=r39.2.2.2.1) 54 o43)) rfl rfl (Ac0 rfl) fun h46 o47=>(K.mv4 (K.mv4 ?_))))))))))
   refine Aip (T:=54) (n:=1) (xs:=[(Tree.mk r2.1 r2.2.1 r2.2.2.1 r2.2.2.2.1 r2.2.2.2.2.1)]) (Ael.one (Ai9 (k:=r2.1) (t:=r2.2.1) (n:=r2.2.2.1) (a:=r2.2.2.2.1) 54 o6)) rfl rfl (Ac0 rfl) fun h48 o49=>(K.mv1 (K.mv1 (bnd h fun l50 Cxj h=>(Amd rfl Ao8 rfl Cxj o49 o47 fun h51 A52 k53 o54=>(kx 1 (K.mv2 (kst 4 1 #[iv 26,sv noS,iv 0,iv a1,slW A52 l50 k53] (Abz (kx 1 (K.mv2 ?_))))))))))
   refine kcp h (fun _ Bf2=>(Ag2.ok Bf2 Abe)) rfl ⟨(t3 Abr),trivial⟩ (fun _ e=>Ab5 (Ab5 (kpn 3 e rfl))) fun r55 h=>?_
   rintro _ _ ⟨rfl,rfl⟩
   refine Alj (knt (Acx (kpr [(0,0),(1,3),(2,0),(3,1),(4,1)] [1] (kpx 1 (kpd 0 4 rfl (kpx 1 (kpt (ocp h (fun _ Cz6=>(Agw.ok Cz6 Abe)) rfl ⟨(t3 Abr),trivial⟩ (fun _ e=>Ab5 (Ab5 (kpn 3 e rfl))) fun r57 h=>?_))))))))
   rintro _ _ ⟨h58,A59,k60,o61,rfl,rfl⟩
   refine Ach (kan [2] rfl (kpt (ons #[iv r57.1,sv r57.2.1,iv r57.2.2.1,iv r57.2.2.2.1,slW A59 r57.2.2.2.2.1 k60] 54 1 fun b63=>(kan [3] rfl (kpz (K.mv1 (K.mv1 (Aip (T:=54) (n:=1) (xs:=[(Tree.mk r57.1 r57.2.1 r57.2.2.1 r57.2.2.2.1 r57.2.2.2.2.1)]) (Ael.one (Ai9 (k:=r57.1) (t:=r57.2.1) (n:=r57.2.2.1) (a:=r57.2.2.2.1) 54 o61)) rfl rfl (Ac0 rfl) fun h64 o65=>(K.mv3 (bnd h fun l66 Cxv h=>?_))))))))))
   refine Amd rfl Ao8 rfl Cxv o54 o65 fun h67 A68 k69 o70=>(kx 1 (K.mv2 (kst 4 1 #[iv 26,sv noS,iv 0,iv a1,slW A68 l66 k69] (Abz (kx 1 (K.mv2 (bnd h fun r71 C0c h=>(kc1 (Af0.ok C0c Abe) rfl ⟨(t3 Abr),trivial⟩ (knt ?_)))))))))
   refine kcn h (fun h=>?_) fun h=>?_
   ·refine kpr [(0,0),(1,3),(2,0),(3,1),(4,1)] [1] (kpx 1 (kpd 0 4 rfl (kpx 1 (kpt (ocp h (fun _ Bvt=>(Agw.ok Bvt Abe)) rfl ⟨(t3 Abr),trivial⟩ (fun _ e=>Ab5 (kpn 3 e rfl)) fun r73 h=>?_)))))
    rintro _ _ ⟨h74,A75,k76,o77,rfl,rfl⟩
    refine Ach (kan [2] rfl (kpt (ons #[iv r73.1,sv r73.2.1,iv r73.2.2.1,iv r73.2.2.2.1,slW A75 r73.2.2.2.2.1 k76] 54 1 fun b79=>(kan [3] rfl (kpz (K.mv1 (K.mv1 (Aip (T:=54) (n:=1) (xs:=[(Tree.mk r73.1 r73.2.1 r73.2.2.1 r73.2.2.2.1 r73.2.2.2.2.1)]) (Ael.one (Ai9 (k:=r73.1) (t:=r73.2.1) (n:=r73.2.2.1) (a:=r73.2.2.2.1) 54 o77)) rfl rfl (Ac0 rfl) fun h80 o81=>(K.mv3 (bnd h fun l82 Bl8 h=>?_))))))))))
    exact Amd rfl Ao8 rfl Bl8 o70 o81 fun h83 A84 k85 o86=>(kx 1 (K.mv2 (kst 4 1 #[iv 26,sv noS,iv 0,iv a1,slW A84 l82 k85] (knt (K.mv1 (K.mv3 (K.mv3 (K.mv3 (Ac1 (26,0,l82,r73.2.2.2.2.2,h83,A84,k85) ⟨h,o86⟩ sb rfl)))))))))
   ·exact Adl (Abi (K.mv2 (K.mv3 (K.mv2 (K.mv3 (Ac1 (26,0,l66,r71.2,h67,A68,k69) ⟨h,o70⟩ sb rfl))))))
  ·obtain ⟨J93,Cvy,h⟩:=Ags h
   refine Agt (τ:=Int×(List Tree)×Aaa×TyO×Nat) (fun t=>[(0,pt b0),(4,pt b1),(5,pt b9)]) (fun t=>bk b0 #[slW Aas Aac Aau,iv t.1] 93 :: bk b9 #[iv 27,sv noS,iv 0,iv a1,slW t.2.2.2.1 t.2.1 t.2.2.2.2] 54 :: bk b1 #[iv 0,sv noS,iv 0,iv 0,nS] 54 :: t.2.2.1 :: X) (fun t=>J93 t.1 t.2.1=some r∧Abf (Abt 54) 54 t.2.2.1 (slW t.2.2.2.1 t.2.1 t.2.2.2.2) t.2.1) ?_ ?_
   ·rintro ⟨x87,l88,h89,A90,k91⟩ ⟨h,o92⟩
    subst Cvy
    refine ksr (kx 1 (kld 1 4 rfl (kx 2 (K.mv1 (kst 2 1 #[iv 27,sv noS,iv ((l88.length:Nat):Int),iv a1,slW A90 l88 k91] (Abz (kx 1 (K.mv1 (kcp h (fun _ C0n=>(Ag2.ok C0n Abe)) rfl ⟨(t3 Abr),trivial⟩ (fun _ e=>Ab5 (Ab5 (kpn 3 e rfl))) fun r94 h=>?_)))))))))
    rintro _ _ ⟨rfl,rfl⟩
    refine Alj (knt (kpr [(0,0),(1,3),(2,0),(3,1)] [1] (kpx 1 (kpd 0 4 rfl (kpx 1 (kpt (ocp h (fun _ C0q=>(Aim.ok C0q Abe)) rfl ⟨(t3 Abr),trivial⟩ (fun _ e=>Ab5 (kpn 3 e rfl)) fun r96 h=>?_)))))))
    rintro _ _ ⟨h97,A98,k99,Bnx,rfl,rfl⟩
    refine Ach (kan [2] rfl (kpz (K.mv4 (bnd h fun Bbr Cwl h=>(Amd rfl Ao8 rfl Cwl o92 Bnx fun Ct5 Bkc Bme Cho=>(kx 1 (K.mv2 (kst 4 1 #[iv 27,sv noS,iv ((l88.length:Nat):Int),iv a1,slW Bkc Bbr Bme] (knt (K.mv1 ?_))))))))))
    exact K.mv3 (K.mv3 (K.mv3 (Ac1 (27,((l88.length:Nat):Int),Bbr,r96.2,Ct5,Bkc,Bme) ⟨h,Cho⟩ sb rfl)))
   ·skip
    refine ksr (kx 1 (bnd h fun Bh5 Cx9 h=>(kc1 (Af0.ok Cx9 Abe) rfl ⟨(t4 Abr),trivial⟩ (knt ?_))))
    refine kcn h (fun h=>?_) fun h=>?_
    ·refine kpr [(0,0),(1,3),(2,0),(3,1)] [1] (kpx 1 (kpd 0 4 rfl (kpx 1 (kpt (ocp h (fun _ Cya=>(Aqa.ok Cya Abe)) rfl ⟨(t4 Abr),trivial⟩ (fun _ e=>Ab5 (Ab5 (kpn 4 e rfl))) fun Bop h=>?_)))))
     rintro _ _ ⟨Dij,Dgx,Dks,C79,rfl,rfl⟩
     refine Ach (kan [2] rfl (kpz (K.mv4 (K.mv4 (Aip (T:=54) (n:=1) (xs:=[(Tree.mk r2.1 r2.2.1 r2.2.2.1 r2.2.2.2.1 r2.2.2.2.2.1)]) (Ael.one (Ai9 (k:=r2.1) (t:=r2.2.1) (n:=r2.2.2.1) (a:=r2.2.2.2.1) 54 o6)) rfl rfl (Ac0 rfl) fun Din Byl=>(K.mv1 (K.mv1 (bnd h fun A2k Bl2 h=>(Amd rfl Ao8 rfl Bl2 Byl C79 fun Cub B3z Ccu C8f=>(kx 1 ?_))))))))))
     exact K.mv2 (kst 4 1 #[iv 27,sv noS,iv 0,iv a1,slW B3z A2k Ccu] (knt (K.mv1 (K.mv3 (K.mv2 (K.mv3 (Ac1 (Bop.2,A2k,Cub,B3z,Ccu) ⟨h,C8f⟩ sb rfl)))))))
    ·exact Adl (Abi (K.mv3 (K.mv3 (Aip (T:=54) (n:=1) (xs:=[(Tree.mk r2.1 r2.2.1 r2.2.2.1 r2.2.2.2.1 r2.2.2.2.2.1)]) (Ael.one (Ai9 (k:=r2.1) (t:=r2.2.1) (n:=r2.2.2.1) (a:=r2.2.2.2.1) 54 o6)) rfl rfl (Ac0 rfl) fun h122 A8s=>(K.mv3 (K.mv3 (K.mv3 (Ac1 (Bh5.2,[(Tree.mk r2.1 r2.2.1 r2.2.2.1 r2.2.2.2.1 r2.2.2.2.2.1)],h122,(some ⟨b8,0,none⟩),1) ⟨h,A8s⟩ sb rfl))))))))
def An7.l0:Nat→(Aac:List (Int×ByteArray×Int×Int))→(J26:(List Tree)→Int→Option (PR (Int×ByteArray×Int×Int×List Tree×Int)))→(x42:Int)→(x43:ByteArray)→(x44:Int)→(x45:Int)→(l46:List Tree)→(l51:List Tree)→(x56:Int)→Option (PR (Int×ByteArray×Int×Int×List Tree×Int))
 | 0,_,_,_,_,_,_,_,_,_=>none
 | m57+1,Aac,J26,x42,x43,x44,x45,l46,l51,x56=>Adj (fun (_:Unit)=>(apd 64 l51 [(Tree.mk x42 x43 x44 x45 l46)]).bind fun l62=>(Af0.f m57 Aac x56 (⟨#[44]⟩:ByteArray)).bind fun r67=>cond (!r67.1) (J26 l62 r67.2) (PR.bind (Aiu.f m57 Aac r67.2) fun r70=>An7.l0 m57 Aac J26 r70.1 r70.2.1 r70.2.2.1 r70.2.2.2.1 r70.2.2.2.2.1 l62 r70.2.2.2.2.2)) (fun J58=>(A9a.f m57 x42 x43 x44 x45 l46).bind fun r76=>cond (!r76) (PR.bind (Auc.f m57 Aac x56 x45) fun r78=>J58 ()) (J58 ()))
def An7.g (Rc:PS) (k:Nat) (Aac:List (Int×ByteArray×Int×Int)) (Aad:Int):Option (PR (Int×ByteArray×Int×Int×List Tree×Int)):=PR.bind (Aiu.f k Aac Aad) fun r2=>((Akh.f k Aac r2.2.2.2.2.2 (⟨#[61]⟩:ByteArray)).bind fun r80=>cond (!r80) ((Akh.f k Aac r2.2.2.2.2.2 (⟨#[44]⟩:ByteArray)).bind fun r82=>some (!r82)) (some false):Option Bool).bind fun q9=>cond q9 (Adj (fun (_:Unit)=>some (PR.ok (23,(⟨#[]⟩:ByteArray),0,r2.2.2.2.1,[(Tree.mk r2.1 r2.2.1 r2.2.2.1 r2.2.2.2.1 r2.2.2.2.2.1)],r2.2.2.2.2.2))) (fun J11=>cond (r2.1 != 8) ((Ajg.f k Aac r2.2.2.2.2.2).bind fun r16=>PR.bind (Auc.f k Aac r2.2.2.2.2.2 r16.2.2.2) fun r17=>J11 ()) (J11 ()))) (Adj (fun (l20:List Tree) (x25:Int)=>PR.bind (Ag2.f k Aac x25 (⟨#[61]⟩:ByteArray)) fun r27=>PR.bind (Aim.f k Aac r27) fun r29=>(apd 64 l20 r29.1).bind fun l35=>some (PR.ok (22,(⟨#[]⟩:ByteArray),((l20.length:Nat):Int),r2.2.2.2.1,l35,r29.2))) (fun J26=>An7.l0 k Aac J26 r2.1 r2.2.1 r2.2.2.1 r2.2.2.2.1 r2.2.2.2.2.1 ([]) r2.2.2.2.2.2))
theorem An7.okg {Rc:PS} (hR:Rc.Good) {k:Nat}:An7.C (An7.g Rc k):=by
 intro Aac Aad b0 Aau Adb Aas r h Abe
 refine Afi (args:=[pt b0]) Tryz.func70 rfl (Ac0 rfl) ?_
 intro A X hh_
 obtain ⟨Abr,_⟩:=hh_
 unfold An7.g at h
 refine K.eq (env':=[(0,pt b0)]) (l':=bk b0 #[slW Aas Aac Aau,iv Aad] 93 :: X) rfl rfl (ksr (knp #[iv 0,sv noS,iv 0,iv 0,nS] 54 fun b1=>(Abz (kx 1 (K.mv1 (kcp h (fun _ hr2=>(Aiu.ok hr2 Abe)) rfl ⟨(.tail _ Abr),trivial⟩ (fun _ e=>Ab5 (kpn 1 e rfl)) fun r2 h=>?_))))))
 rintro _ _ ⟨h3,A4,k5,o6,rfl,rfl⟩
 refine Ach (knp #[iv 0,sv noS,iv 0,iv 0,nS] 54 fun b8=>(kst 0 5 #[iv r2.1,sv r2.2.1,iv r2.2.2.1,iv r2.2.2.2.1,slW A4 r2.2.2.2.2.1 k5] (knt (Acx (bnd h fun q9 hq9 h=>?_)))))
 refine Ak3 [(0,pt b0),(2,pt b1),(3,pt b8),(15,bv q9)] (bk b8 #[iv r2.1,sv r2.2.1,iv r2.2.2.1,iv r2.2.2.2.1,slW A4 r2.2.2.2.2.1 k5] 54 :: h3 :: bk b0 #[slW Aas Aac Aau,iv r2.2.2.2.2.2] 93 :: bk b1 #[iv 0,sv noS,iv 0,iv 0,nS] 54 :: X) ?_ ?_
 ·clear hq9
  refine kcn h (fun h=>?_) fun h=>?_
  ·obtain ⟨J11,Btl,h⟩:=Ags h
   refine Agt (τ:=Unit) (fun t=>[(2,pt b1),(3,pt b8)]) (fun t=>bk b8 #[iv r2.1,sv r2.2.1,iv r2.2.2.1,iv r2.2.2.2.1,slW A4 r2.2.2.2.2.1 k5] 54 :: h3 :: bk b0 #[slW Aas Aac Aau,iv r2.2.2.2.2.2] 93 :: bk b1 #[iv 0,sv noS,iv 0,iv 0,nS] 54 :: X) (fun t=>J11 ()=some r) ?_ ?_
   ·rintro ⟨⟩ h
    subst Btl
    refine ksr (kx 1 (kld 0 3 rfl (kla 0 0 5 rfl (K.drop (kns #[iv r2.1,sv r2.2.1,iv r2.2.2.1,iv r2.2.2.2.1,slW A4 r2.2.2.2.2.1 k5] 54 1 fun b12=>(kx 1 (K.mv3 (kst 0 5 #[iv 23,sv noS,iv 0,iv r2.2.2.2.1,.slice (some ⟨b12,0,none⟩) 1 1] (knt (Aem ?_))))))))))
    refine Afx (K.mv2 (K.mv2 (Aip (T:=54) (n:=1) (xs:=[(Tree.mk r2.1 r2.2.1 r2.2.2.1 r2.2.2.2.1 r2.2.2.2.2.1)]) (Ael.one (Ai9 (k:=r2.1) (t:=r2.2.1) (n:=r2.2.2.1) (a:=r2.2.2.2.1) 54 o6)) rfl rfl (Ac0 rfl) fun h13 o14=>?_)))
    obtain rfl:=Aam h
    exact kda 1 5 rfl [h13,bk b0 #[slW Aas Aac Aau,iv r2.2.2.2.2.2] 93] (K.mv1 (K.drop (Adq (PR.okI ⟨h13,(some ⟨b12,0,none⟩),1,o14,rfl,rfl⟩))))
   ·skip
    refine ksr (kx 1 (kld 0 0 rfl (kx 1 (knt ?_))))
    refine kcn h (fun h=>?_) fun h=>?_
    ·refine Ab6 (kx 2 (K.mv2 (bnd h fun r16 Avu h=>(kc1 (Ajg.ok Avu Abe) rfl ⟨(t3 Abr),trivial⟩ (kx 1 (kcp h (fun _ Avv=>(Auc.ok Avv Abe)) rfl ⟨(t3 Abr),trivial⟩ (fun _ e=>Ab5 (Ab5 (kpn 3 e rfl))) fun r17 h=>?_))))))
     rintro _ _ ⟨rfl,rfl⟩
     exact Alj (knt (K.mv3 (K.mv1 (K.mv3 (K.mv3 (Ac1 () h sb rfl))))))
    ·exact Adl (Abi (Ac1 () h sb rfl))
  ·refine Adl (Abi (ksr (kx 1 (kld 0 3 rfl (kx 1 (knp #[iv 0,sv noS,iv 0,iv 0,nS] 54 fun b19=>(kst 0 5 #[iv 22,sv noS,iv 0,iv r2.2.2.2.1,nS] (knt ?_))))))))
   obtain ⟨J26,Cvg,h⟩:=Ags h
   refine Agt (τ:=(List Tree)×Int×Aaa×TyO×Nat) (fun t=>[(0,pt b0),(2,pt b1),(4,pt b19)]) (fun t=>bk b19 #[iv 22,sv noS,iv 0,iv r2.2.2.2.1,slW t.2.2.2.1 t.1 t.2.2.2.2] 54 :: bk b0 #[slW Aas Aac Aau,iv t.2.1] 93 :: bk b1 #[iv 0,sv noS,iv 0,iv 0,nS] 54 :: t.2.2.1 :: X) (fun t=>J26 t.1 t.2.1=some r∧Abf (Abt 54) 54 t.2.2.1 (slW t.2.2.2.1 t.1 t.2.2.2.2) t.1) ?_ ?_
   ·rintro ⟨l20,x25,h21,A22,k23⟩ ⟨h,o24⟩
    subst Cvg
    refine ksr (kx 1 (kld 0 4 rfl (kx 2 (kst 2 1 #[iv 22,sv noS,iv ((l20.length:Nat):Int),iv r2.2.2.2.1,slW A22 l20 k23] (Abz (kx 1 (K.mv1 (kcp h (fun _ Avy=>(Ag2.ok Avy Abe)) rfl ⟨(t3 Abr),trivial⟩ (fun _ e=>Ab5 (kpn 3 e rfl)) fun r27 h=>?_))))))))
    rintro _ _ ⟨rfl,rfl⟩
    refine Alj (knt (Acx (kpr [(0,0),(1,3),(2,0),(3,1)] [1] (kpx 1 (kpd 0 4 rfl (kpx 1 (kpt (ocp h (fun _ Bfw=>(Aim.ok Bfw Abe)) rfl ⟨(t3 Abr),trivial⟩ (fun _ e=>Ab5 (kpn 3 e rfl)) fun r29 h=>?_))))))))
    rintro _ _ ⟨h30,A31,k32,o33,rfl,rfl⟩
    refine Ach (kan [2] rfl (kpz (K.mv4 (bnd h fun l35 Bfl h=>(Amd rfl Ao8 rfl Bfl o24 o33 fun h36 A37 k38 o39=>(kx 1 (K.mv2 (kst 4 1 #[iv 22,sv noS,iv ((l20.length:Nat):Int),iv r2.2.2.2.1,slW A37 l35 k38] (Abz (kla 0 0 5 rfl ?_))))))))))
    refine K.drop (K.mv2 (kst 0 5 #[iv 22,sv noS,iv ((l20.length:Nat):Int),iv r2.2.2.2.1,slW A37 l35 k38] (knt (Aem ?_))))
    obtain rfl:=Aam h
    exact kda 0 5 rfl [h36,bk b0 #[slW Aas Aac Aau,iv r29.2] 93] (K.drop (Adq (PR.okI ⟨h36,A37,k38,o39,rfl,rfl⟩)))
   ·skip
    refine ksr (kla 1 0 5 rfl (K.mv1 (K.drop (knp #[iv 0,sv noS,iv 0,iv 0,nS] 54 fun b40=>(kst 0 5 #[iv r2.1,sv r2.2.1,iv r2.2.2.1,iv r2.2.2.2.1,slW A4 r2.2.2.2.2.1 k5] (knt (Aez (Ag6 (K.mv3 (K.mv5 ?_))))))))))
    refine K.mv5 (K.mv5 (K.mv5 (Akb (τ:=Int×ByteArray×Int×Int×(List Tree)×(List Tree)×Int×Nat×Aaa×TyO×Nat×Aaa×TyO×Nat) (fun t=>[(0,pt b0),(2,pt b1),(4,pt b19),(5,pt t.2.2.2.2.2.2.2.1)]) (fun t=>bk t.2.2.2.2.2.2.2.1 #[iv t.1,sv t.2.1,iv t.2.2.1,iv t.2.2.2.1,slW t.2.2.2.2.2.2.2.2.2.1 t.2.2.2.2.1 t.2.2.2.2.2.2.2.2.2.2.1] 54 :: bk b19 #[iv 22,sv noS,iv 0,iv r2.2.2.2.1,slW t.2.2.2.2.2.2.2.2.2.2.2.2.1 t.2.2.2.2.2.1 t.2.2.2.2.2.2.2.2.2.2.2.2.2] 54 :: bk b0 #[slW Aas Aac Aau,iv t.2.2.2.2.2.2.1] 93 :: bk b1 #[iv 0,sv noS,iv 0,iv 0,nS] 54 :: t.2.2.2.2.2.2.2.2.1 :: t.2.2.2.2.2.2.2.2.2.2.2.1 :: X) (fun m t=>An7.l0 m Aac J26 t.1 t.2.1 t.2.2.1 t.2.2.2.1 t.2.2.2.2.1 t.2.2.2.2.2.1 t.2.2.2.2.2.2.1=some r∧Abf (Abt 54) 54 t.2.2.2.2.2.2.2.2.1 (slW t.2.2.2.2.2.2.2.2.2.1 t.2.2.2.2.1 t.2.2.2.2.2.2.2.2.2.2.1) t.2.2.2.2.1∧Abf (Abt 54) 54 t.2.2.2.2.2.2.2.2.2.2.2.1 (slW t.2.2.2.2.2.2.2.2.2.2.2.2.1 t.2.2.2.2.2.1 t.2.2.2.2.2.2.2.2.2.2.2.2.2) t.2.2.2.2.2.1) k (r2.1,r2.2.1,r2.2.2.1,r2.2.2.2.1,r2.2.2.2.2.1,[],r2.2.2.2.2.2,b40,h3,A4,k5,none_,none,0) ⟨h,o6,(Abf.nil (Abt 54) 54 none_)⟩ sb rfl ?_)))
    clear h
    rintro m57 ⟨x42,x43,x44,x45,l46,l51,x56,b41,h47,A48,k49,h52,A53,k54⟩ ⟨h,o50,o55⟩
    cases m57 with
    | zero=>simp [An7.l0] at h
    | succ m57 =>
     simp only [An7.l0] at h
     refine Acx (Aez ?_)
     obtain ⟨J58,Cvq,h⟩:=Ags h
     refine Agt (τ:=Unit) (fun t=>[(0,pt b0),(2,pt b1),(4,pt b19),(5,pt b41)]) (fun t=>bk b41 #[iv x42,sv x43,iv x44,iv x45,slW A48 l46 k49] 54 :: bk b19 #[iv 22,sv noS,iv 0,iv r2.2.2.2.1,slW A53 l51 k54] 54 :: bk b0 #[slW Aas Aac Aau,iv x56] 93 :: bk b1 #[iv 0,sv noS,iv 0,iv 0,nS] 54 :: h47 :: h52 :: X) (fun t=>J58 ()=some r) ?_ ?_
     ·rintro ⟨⟩ h
      subst Cvq
      refine ksr (kx 1 (kld 1 4 rfl (kla 0 0 5 rfl (kns #[iv x42,sv x43,iv x44,iv x45,slW A48 l46 k49] 54 1 fun b59=>(K.mv5 (K.mv1 (Aip (T:=54) (n:=1) (xs:=[(Tree.mk x42 x43 x44 x45 l46)]) (Ael.one (Ai9 (k:=x42) (t:=x43) (n:=x44) (a:=x45) 54 o50)) rfl rfl (Ac0 rfl) fun h60 o61=>(K.mv5 (bnd h fun l62 Cxq h=>(Amd rfl Ao8 rfl Cxq o55 o61 fun h63 A64 k65 o66=>?_))))))))))
      refine kx 1 (K.mv2 (kst 4 1 #[iv 22,sv noS,iv 0,iv r2.2.2.2.1,slW A64 l62 k65] (Abz (kx 1 (K.mv3 (bnd h fun r67 A1l h=>(kc1 (Af0.ok A1l Abe) rfl ⟨(t4 Abr),trivial⟩ (kx 1 (knt ?_)))))))))
      refine kcn h (fun h=>?_) fun h=>?_
      ·refine Aj9 (Bmu rfl (Agh (Agh (Aka (Abi (K.mv3 (K.drop (K.mv2 (K.mv3 (K.mv2 ?_))))))))))
       exact K.mv3 (Ac1 (l62,r67.2,h63,A64,k65) ⟨h,o66⟩ sb rfl)
      ·refine Adl (Ade (Abi (Acx (ksr (kla 3 0 5 rfl (K.mv3 (K.drop (knr (knp #[iv 0,sv noS,iv 0,iv 0,nS] 54 fun b69=>(kst 0 5 #[iv x42,sv x43,iv x44,iv x45,slW A48 l46 k49] ?_))))))))))
       refine knr (kx 1 (K.mv1 (kcp h (fun _ Bvs=>(Aiu.ok Bvs Abe)) rfl ⟨(t4 Abr),trivial⟩ (fun _ e=>Ab5 (Ad4 (Ab5 (kpn 4 e rfl)))) fun r70 h=>?_)))
       rintro _ _ ⟨h71,A72,k73,o74,rfl,rfl⟩
       exact Ach (K.mv2 (kst 0 5 #[iv r70.1,sv r70.2.1,iv r70.2.2.1,iv r70.2.2.2.1,slW A72 r70.2.2.2.2.1 k73] (knt (K.mv4 (K.mv2 (K.mv5 (K.mv4 (K.mv5 (K.mv5 (Ai4 m57 (r70.1,r70.2.1,r70.2.2.1,r70.2.2.2.1,r70.2.2.2.2.1,l62,r70.2.2.2.2.2,b69,h71,A72,k73,h63,A64,k65) (Nat.lt_succ_self _) ⟨h,o74,o66⟩ sb rfl))))))))))
     ·skip
      refine ksr (kla 0 0 5 rfl (bnd h fun r76 C0f h=>(kcv (A9a.ok C0f (Abf.rd o50)) ⟨(.tail _ (.tail _ (.tail _ (.tail _ (.head _))))),trivial⟩ (kx 1 (knt ?_)))))
      refine kcn h (fun h=>?_) fun h=>?_
      ·refine Ab6 (kx 2 (kld 0 3 rfl (K.mv2 (kcp h (fun _ Bvx=>(Auc.ok Bvx Abe)) rfl ⟨(t5 Abr),trivial⟩ (fun _ e=>Ab5 (Ad4 (Ab5 (Ab5 (Ad4 (Ab5 (kpn 5 e rfl))))))) fun r78 h=>?_))))
       rintro _ _ ⟨rfl,rfl⟩
       exact Alj (knt (K.mv5 (K.mv5 (K.mv5 (K.mv3 (K.mv5 (K.mv5 (Ac1 () h sb rfl))))))))
      ·exact Adl (Abi (Ac1 () h sb rfl))
 ·have h:=hq9
  clear hq9
  refine Ab6 (kx 1 (K.mv2 (bnd h fun r80 A7r h=>(kc1 (Akh.ok A7r Abe) rfl ⟨(t3 Abr),trivial⟩ (kx 2 ?_)))))
  refine kcs 11 h (fun h=>?_) fun h=>?_
  ·exact kx 1 (bnd h fun r82 A1n h=>(kc1 (Akh.ok A1n Abe) rfl ⟨(t3 Abr),trivial⟩ (kx 2 (knt (K.mv3 (K.mv1 (K.mv3 (K.mv3 (Afa ⟨gr,gr,gr,gb (Aam h),trivial⟩)))))))))
  ·exact kx 4 (knt (K.mv3 (K.mv1 (K.mv3 (K.mv3 (Afa ⟨gr,gr,gr,gb (Aam h),trivial⟩))))))
def PS.at:Nat→PS
 | 0=>⟨fun _ _ _=>none,fun _ _=>none,fun _ _=>none,fun _ _=>none,fun _ _ _=>none,fun _ _=>none⟩
 | k+1=>⟨Ahi.g (PS.at k) k,Ar9.g (PS.at k) k,Ase.g (PS.at k) k,An6.g (PS.at k) k,Asa.g (PS.at k) k,An7.g (PS.at k) k⟩
theorem PS.good:∀ k,(PS.at k).Good
 | 0=>⟨(by unfold Ahi.C;intros;rename_i h _;cases (show (none:Option _)=some _ from h)),(by unfold Ar9.C;intros;rename_i h _;cases (show (none:Option _)=some _ from h)),(by unfold Ase.C;intros;rename_i h _;cases (show (none:Option _)=some _ from h)),(by unfold An6.C;intros;rename_i h _;cases (show (none:Option _)=some _ from h)),(by unfold Asa.C;intros;rename_i h _;cases (show (none:Option _)=some _ from h)),(by unfold An7.C;intros;rename_i h _;cases (show (none:Option _)=some _ from h))⟩
 | k+1=>⟨Ahi.okg (k:=k) (PS.good k),Ar9.okg (k:=k) (PS.good k),Ase.okg (k:=k) (PS.good k),An6.okg (k:=k) (PS.good k),Asa.okg (k:=k) (PS.good k),An7.okg (k:=k) (PS.good k)⟩
def Ahi.f (k:Nat):=Ahi.g (PS.at k) k
theorem Ahi.ok {k:Nat}:Ahi.C (Ahi.f k):=Ahi.okg (k:=k) (PS.good k)
structure H1 where
 Ajt:Int→ByteArray→Int→Int→List Tree→Option (Int)
def Ajt.C (fC:Int→ByteArray→Int→Int→List Tree→Option (Int)):Prop:=∀ {Aac Aj3 Aae r:Int} {Aad:ByteArray} {Aax:List Tree} {Adk:Aaa} {Ac2:TyO} {Ac3:Nat} (h:fC Aac Aad Aj3 Aae Aax=some r) (Aeo:RdR (Abt 54) Adk (slW Ac2 Aax Ac3) Aax),Ct Tryz.prog 17 #[.agg #[iv Aac,sv Aad,iv Aj3,iv Aae,slW Ac2 Aax Ac3]] [] [Adk] (fun e l1=>e=.returned (iv r)∧l1=[])
structure H1.Good (R:H1):Prop where
 Ajt:Ajt.C R.Ajt
def Ajt.l0:Nat→(Rc:H1)→(Aax:List Tree)→(J3:Int→Option (Int))→(x4:Int)→(x5:Int)→Option (Int)
 | 0,_,_,_,_,_=>none
 | m6+1,Rc,Aax,J3,x4,x5=>cond (decide (x5 < ((Aax.length:Nat):Int))) ((Ack Aax x5).bind fun x8=>(Rc.Ajt x8.kind x8.text x8.n x8.at_ x8.kids).bind fun r18=>Ajt.l0 m6 Rc Aax J3 (if r18 > x4 then r18 else x4) (IntKind.i64.wrap (x5+1))) (J3 x4)
def Ajt.g (Rc:H1) (k:Nat) (Aac:Int) (Aad:ByteArray) (Aj3:Int) (Aae:Int) (Aax:List Tree):Option (Int):=Adj (fun (x2:Int)=>some (IntKind.i64.wrap (x2+1))) (fun J3=>Ajt.l0 k Rc Aax J3 0 0)
theorem Ajt.okg {Rc:H1} (hR:Rc.Good) {k:Nat}:Ajt.C (Ajt.g Rc k):=by
 intro Aac Aj3 Aae r Aad Aax Adk Ac2 Ac3 h Aeo
 refine Afi (args:=[.agg #[iv Aac,sv Aad,iv Aj3,iv Aae,slW Ac2 Aax Ac3]]) Tryz.func17 rfl (Ac0 rfl) ?_
 intro A X hh_
 obtain ⟨Bfo,_⟩:=hh_
 unfold Ajt.g at h
 refine ksr (knp #[iv Aac,sv Aad,iv Aj3,iv Aae,slW Ac2 Aax Ac3] 54 fun b1=>(kx 1 (Abz (kx 1 (knt ?_)))))
 obtain ⟨J3,hJ3,h⟩:=Ags h
 refine Agt (τ:=Int) (fun t=>[(3,iv t)]) (fun t=>X) (fun t=>J3 t=some r) ?_ ?_
 ·rintro x2 h
  subst hJ3
  refine ksr (kx 3 (knt (Aem ?_)))
  obtain rfl:=Aam h
  exact kdn rfl
 ·skip
  refine ksr (kx 1 (kld 0 4 rfl (K.drop (kx 2 (knt (Aez (Akb (τ:=Int×Int) (fun t=>[(3,iv t.1),(7,slW Ac2 Aax Ac3),(8,iv ((Aax.length:Nat):Int)),(9,iv t.2)]) (fun t=>X) (fun m t=>Ajt.l0 m Rc Aax J3 t.1 t.2=some r) k (0,0) h sb rfl ?_)))))))
  clear h
  rintro m6 ⟨x4,x5⟩ h
  cases m6 with
  | zero=>simp [Ajt.l0] at h
  | succ m6 =>
   simp only [Ajt.l0] at h
   refine ksr (kx 1 (knt (Acx ?_)))
   refine kcn h (fun h=>?_) fun h=>?_
   ·refine Adl (Abi (Acx (Aez (ksr (bnd h fun x8 hx8 h=>(Ail (T:=54) (kd:=.i64) (R:=(Abt 54)) rfl hx8 Aeo fun p9 u12 q13 e10 y11=>?_))))))
    obtain ⟨A14,k15,rfl,o16⟩:=Aig 54 q13
    refine keN rfl e10 Bfo (knp #[iv 0,sv noS,iv 0,iv 0,nS] 54 fun b17=>(kst 0 5 #[iv x8.kind,sv x8.text,iv x8.n,iv x8.at_,slW A14 x8.kids k15] (knr (kx 1 (kla 0 0 5 rfl (K.drop (bnd h fun r18 Cyz h=>(kcv (hR.Ajt Cyz o16) ⟨Bfo,trivial⟩ (kx 2 (knl ?_))))))))))
    exact Ade (Abi (Ab6 (kx 2 (knt (Ai4 m6 ((if r18 > x4 then r18 else x4),IntKind.i64.wrap (x5+1)) (Nat.lt_succ_self _) h sb rfl)))))
   ·exact Aj9 (Agh (Agh (Aka (Abi (Ac1 x4 h sb rfl)))))
def H1.at:Nat→H1
 | 0=>⟨fun _ _ _ _ _=>none⟩
 | k+1=>⟨Ajt.g (H1.at k) k⟩
theorem H1.good:∀ k,(H1.at k).Good
 | 0=>⟨(by unfold Ajt.C;intros;rename_i h _;cases (show (none:Option _)=some _ from h))⟩
 | k+1=>⟨Ajt.okg (k:=k) (H1.good k)⟩
def Ajt.f (k:Nat):=Ajt.g (H1.at k) k
theorem Ajt.ok {k:Nat}:Ajt.C (Ajt.f k):=Ajt.okg (k:=k) (H1.good k)
def A2s.f (k:Nat) (a0:ByteArray):Option (Int×ByteArray×Int×Int×List Tree×Int×Int):=(Bhc.f k a0).bind fun r3=>cond (r3.2.1 != 0) (some (0,(⟨#[]⟩:ByteArray),0,0,[],r3.2.1,r3.2.2)) (PR.elim (Ahi.f k r3.1 0 true) (fun i15=>some (0,(⟨#[]⟩:ByteArray),0,0,[],4,i15)) fun r10=>Adj (fun (_:Unit)=>some (r10.1,r10.2.1,r10.2.2.1,r10.2.2.2.1,r10.2.2.2.2.1,0,0)) (fun J16=>(Ajg.f k r3.1 r10.2.2.2.2.2).bind fun r17=>cond (r17.1 != 6) ((Ajg.f k r3.1 r10.2.2.2.2.2).bind fun r19=>PR.elim (Auc.f k r3.1 r10.2.2.2.2.2 r19.2.2.2) (fun i21=>some (0,(⟨#[]⟩:ByteArray),0,0,[],4,i21)) fun r20=>J16 ()) (J16 ())))
theorem A2s.ok {k:Nat} {a0:ByteArray} {G:Aaa} {r:Int×ByteArray×Int×Int×List Tree×Int×Int} (h:A2s.f k a0=some r) (hG:GlP G): Ct Tryz.prog 15 #[sv a0] [] [G] (fun e l1=>∃ (H0_:Aaa) (A0_:TyO) (c0_:Nat),Abf (Abt 54) 54 H0_ (slW A0_ r.2.2.2.2.1 c0_) r.2.2.2.2.1∧e=.returned (.tuple #[.agg #[iv r.1,sv r.2.1,iv r.2.2.1,iv r.2.2.2.1,slW A0_ r.2.2.2.2.1 c0_],.agg #[iv r.2.2.2.2.2.1,iv r.2.2.2.2.2.2]])∧l1=[H0_]):=by
 refine B7o (args:=[sv a0]) Tryz.func15 rfl (Ac0 rfl) ?_
 intro A X hh_
 obtain ⟨Ad1,_⟩:=hh_
 unfold A2s.f at h
 refine ksr (knp #[iv 0,sv noS,iv 0,iv 0,nS] 54 fun b1=>(knp #[iv 0,iv 0] 28 fun b2=>(Abz (kx 1 (bnd h fun r3 hr3 h=>(kcl (Bhc.ok hr3 hG) rfl ⟨(t2 Ad1),trivial⟩ ?_))))))
 rintro _ _ ⟨h4,A5,k6,o7,rfl,rfl⟩
 refine Alj (kx 4 (K.mv1 (kst 0 2 #[iv r3.2.1,iv r3.2.2] (knt (Acx (ksr (kx 1 (kld 0 0 rfl (kx 1 (knt ?_))))))))))
 refine kcn h (fun h=>?_) fun h=>?_
 ·refine Acx (Bw8 (kpr [(0,0),(1,3),(2,1)] [0] (kpx 1 (kpa 0 0 2 rfl (kpt (K.mv2 (ost 0 5 #[iv 0,sv noS,iv 0,iv 0,nS] (kan [1] rfl (kpz (K.mv1 ?_))))))))))
  refine kst 0 2 #[iv r3.2.1,iv r3.2.2] (K.mv2 (K.drop (knl (Bw9 (Abi (Aem (Afx ?_)))))))
  obtain rfl:=Aam h
  exact Cfd (v:=.tuple #[.agg #[iv 0,sv noS,iv 0,iv 0,nS],.agg #[iv r3.2.1,iv r3.2.2]]) [.val (iv 0),.val (sv noS),.val (iv 0),.val (iv 0),.val (nS),.val (iv r3.2.1),.val (iv r3.2.2)] [.ld ⟨b1,0,none⟩ (iv 0),.ld ⟨b1,1,none⟩ (sv noS),.ld ⟨b1,2,none⟩ (iv 0),.ld ⟨b1,3,none⟩ (iv 0),.ld ⟨b1,4,none⟩ (nS),.ld ⟨b2,0,none⟩ (iv r3.2.1),.ld ⟨b2,1,none⟩ (iv r3.2.2)] [none_] (by kernel_rfl) (by kernel_rfl) ⟨⟨1,_,_,_,rfl,rfl,rfl⟩,⟨1,_,_,_,rfl,rfl,rfl⟩,⟨1,_,_,_,rfl,rfl,rfl⟩,⟨1,_,_,_,rfl,rfl,rfl⟩,⟨1,_,_,_,rfl,rfl,rfl⟩,⟨0,_,_,_,rfl,rfl,rfl⟩,⟨0,_,_,_,rfl,rfl,rfl⟩,trivial⟩ (Ag6 (K.mv1 (K.drop (K.mv1 (K.drop (Adq ⟨none_,none,0,(Abf.nil (Abt 54) 54 none_),rfl,rfl⟩))))))
 ·refine Adl (Abi (ksr (kx 1 (Cfo { target:=.fn (.func 25) #[pt b1,pt b2],args:=#[] } (by kernel_rfl) (by kernel_rfl) (by kernel_rfl) (Abz (kx 2 (knp #[slW A5 r3.1 k6,iv 0] 93 fun b9=>(kx 1 (Abz (kx 1 ?_))))))))))
  rcases Bol h with ⟨i15,Ax9,h⟩ | ⟨r10,Ax9,h⟩
  ·refine kcl (Ahi.ok Ax9 (Aaf.rd o7)) rfl ⟨(.tail _ (.head _)),trivial⟩ ?_
   rintro _ _ ⟨rfl,rfl⟩
   refine Bnv (Ab5 (K.mv1 (K.drop (K.mv1 ?_))))
   obtain rfl:=Aam h
   exact Bmt (v:=.tuple #[.agg #[iv 0,sv noS,iv 0,iv 0,nS],.agg #[iv 4,iv i15]]) (bk b1 #[iv 0,sv noS,iv 0,iv 0,nS] 54 :: bk b2 #[iv 4,iv i15] 28 :: X) (fun _=>by kernel_rfl) (fun w_ hw_=>Civ hw_) [.val (iv 0),.val (sv noS),.val (iv 0),.val (iv 0),.val (nS),.val (iv 4),.val (iv i15)] [.ld ⟨b1,0,none⟩ (iv 0),.ld ⟨b1,1,none⟩ (sv noS),.ld ⟨b1,2,none⟩ (iv 0),.ld ⟨b1,3,none⟩ (iv 0),.ld ⟨b1,4,none⟩ (nS),.ld ⟨b2,0,none⟩ (iv 4),.ld ⟨b2,1,none⟩ (iv i15)] [none_] (by kernel_rfl) (by kernel_rfl) ⟨⟨0,_,_,_,rfl,rfl,rfl⟩,⟨0,_,_,_,rfl,rfl,rfl⟩,⟨0,_,_,_,rfl,rfl,rfl⟩,⟨0,_,_,_,rfl,rfl,rfl⟩,⟨0,_,_,_,rfl,rfl,rfl⟩,⟨1,_,_,_,rfl,rfl,rfl⟩,⟨1,_,_,_,rfl,rfl,rfl⟩,trivial⟩ fun w_ hw_=>(⟨⟨none_,none,0,(Abf.nil (Abt 54) 54 none_),rfl,rfl⟩,St.Bho 1 hw_.tail.tail⟩)
  refine kcl (Ahi.ok Ax9 (Aaf.rd o7)) rfl ⟨(.tail _ (.head _)),trivial⟩ ?_
  rintro _ _ ⟨h11,A12,k13,o14,rfl,rfl⟩
  refine Ach (K.mv4 (kst 0 5 #[iv r10.1,sv r10.2.1,iv r10.2.2.1,iv r10.2.2.2.1,slW A12 r10.2.2.2.2.1 k13] (knt ?_)))
  obtain ⟨J16,Cu3,h⟩:=Ags h
  refine Agt (τ:=Unit) (fun t=>[(2,pt b1),(3,pt b2)]) (fun t=>bk b1 #[iv r10.1,sv r10.2.1,iv r10.2.2.1,iv r10.2.2.2.1,slW A12 r10.2.2.2.2.1 k13] 54 :: h11 :: bk b2 #[iv r3.2.1,iv r3.2.2] 28 :: X) (fun t=>J16 ()=some r) ?_ ?_
  ·rintro ⟨⟩ h
   subst Cu3
   refine ksr (kla 0 0 5 rfl (kx 1 (kst 0 5 #[iv r10.1,sv r10.2.1,iv r10.2.2.1,iv r10.2.2.2.1,slW A12 r10.2.2.2.2.1 k13] (K.mv2 (kst 0 2 #[iv 0,iv 0] (knt (Aem ?_)))))))
   obtain rfl:=Aam h
   exact Ce8 (fun _=>by kernel_rfl) (Dbr (pt b1) (pt b2)) (v:=.tuple #[.agg #[iv r10.1,sv r10.2.1,iv r10.2.2.1,iv r10.2.2.2.1,slW A12 r10.2.2.2.2.1 k13],.agg #[iv 0,iv 0]]) [.val (iv r10.1),.val (sv r10.2.1),.val (iv r10.2.2.1),.val (iv r10.2.2.2.1),.val (slW A12 r10.2.2.2.2.1 k13),.val (iv 0),.val (iv 0)] [.ld ⟨b1,0,none⟩ (iv r10.1),.ld ⟨b1,1,none⟩ (sv r10.2.1),.ld ⟨b1,2,none⟩ (iv r10.2.2.1),.ld ⟨b1,3,none⟩ (iv r10.2.2.2.1),.ld ⟨b1,4,none⟩ (slW A12 r10.2.2.2.2.1 k13),.ld ⟨b2,0,none⟩ (iv 0),.ld ⟨b2,1,none⟩ (iv 0)] [h11] (by kernel_rfl) (by kernel_rfl) ⟨⟨1,_,_,_,rfl,rfl,rfl⟩,⟨1,_,_,_,rfl,rfl,rfl⟩,⟨1,_,_,_,rfl,rfl,rfl⟩,⟨1,_,_,_,rfl,rfl,rfl⟩,⟨1,_,_,_,rfl,rfl,rfl⟩,⟨0,_,_,_,rfl,rfl,rfl⟩,⟨0,_,_,_,rfl,rfl,rfl⟩,trivial⟩ (K.drop (K.drop (Cfe ⟨h11,A12,k13,o14,rfl,rfl⟩)))
  ·skip
   refine ksr (kx 1 (K.mv2 (bnd h fun r17 Avv h=>(kc1 (Ajg.ok Avv (Aaf.rd o7)) rfl ⟨(.tail _ (.tail _ (.tail _ (.head _)))),trivial⟩ (kx 2 (knt ?_))))))
   refine kcn h (fun h=>?_) fun h=>?_
   ·refine Ab6 (kx 2 (bnd h fun r19 hr19 h=>(kc1 (Ajg.ok hr19 (Aaf.rd o7)) rfl ⟨(.tail _ (.tail _ (.tail _ (.head _)))),trivial⟩ (kx 1 ?_))))
    rcases Bol h with ⟨i21,A7c,h⟩ | ⟨r20,A7c,h⟩
    ·refine kcl (Auc.ok A7c (Aaf.rd o7)) rfl ⟨(.tail _ (.tail _ (.tail _ (.head _)))),trivial⟩ ?_
     rintro _ _ ⟨rfl,rfl⟩
     refine Bnv (Ab5 (K.mv1 (K.drop (K.mv2 (K.drop ?_)))))
     obtain rfl:=Aam h
     exact Bmt (v:=.tuple #[.agg #[iv 0,sv noS,iv 0,iv 0,nS],.agg #[iv 4,iv i21]]) (bk b1 #[iv 0,sv noS,iv 0,iv 0,nS] 54 :: bk b2 #[iv 4,iv i21] 28 :: X) (fun _=>by kernel_rfl) (fun w_ hw_=>Civ hw_) [.val (iv 0),.val (sv noS),.val (iv 0),.val (iv 0),.val (nS),.val (iv 4),.val (iv i21)] [.ld ⟨b1,0,none⟩ (iv 0),.ld ⟨b1,1,none⟩ (sv noS),.ld ⟨b1,2,none⟩ (iv 0),.ld ⟨b1,3,none⟩ (iv 0),.ld ⟨b1,4,none⟩ (nS),.ld ⟨b2,0,none⟩ (iv 4),.ld ⟨b2,1,none⟩ (iv i21)] [none_] (by kernel_rfl) (by kernel_rfl) ⟨⟨0,_,_,_,rfl,rfl,rfl⟩,⟨0,_,_,_,rfl,rfl,rfl⟩,⟨0,_,_,_,rfl,rfl,rfl⟩,⟨0,_,_,_,rfl,rfl,rfl⟩,⟨0,_,_,_,rfl,rfl,rfl⟩,⟨1,_,_,_,rfl,rfl,rfl⟩,⟨1,_,_,_,rfl,rfl,rfl⟩,trivial⟩ fun w_ hw_=>(⟨⟨none_,none,0,(Abf.nil (Abt 54) 54 none_),rfl,rfl⟩,St.Bho 1 hw_.tail.tail⟩)
    exact kc1 (Auc.ok A7c (Aaf.rd o7)) rfl ⟨(.tail _ (.tail _ (.tail _ (.head _)))),trivial⟩ (K.drop (K.mv3 (K.drop (knt (Ac1 () h sb rfl)))))
   ·exact Adl (Abi (K.drop (K.mv3 (K.drop (Ac1 () h sb rfl)))))
abbrev Tk:=Int×ByteArray×Int×Int
inductive PV (α:Type) where
 | ok (a:α) (r:List Tk)
 | bad (at_:Int)
def PV.bind {α β:Type} (x:Option (PV α)) (f:α→List Tk→Option (PV β)):Option (PV β) :=
 match x with
 | none=>none
 | some (.ok a r)=>f a r
 | some (.bad i)=>some (.bad i)
def hd (ts:List Tk):Tk:=ts.headD (6,⟨#[]⟩,0,0)
def isT (w:ByteArray) (t:Tk):Bool:=(t.1 == 2 || t.1 == 5) && t.2.1.toList == w.toList
def isH (w:ByteArray) (ts:List Tk):Bool:=isT w (hd ts)
def Aoe (w:ByteArray) (ts:List Tk):Option (PV Unit):=if isH w ts then some (.ok () ts.tail) else some (.bad (hd ts).2.2.2)
abbrev At1:ByteArray:=⟨#[59]⟩
abbrev Aoz:ByteArray:=⟨#[44]⟩
abbrev kEq:ByteArray:=⟨#[61]⟩
abbrev kLp:ByteArray:=⟨#[40]⟩
abbrev kRp:ByteArray:=⟨#[41]⟩
abbrev kLb:ByteArray:=⟨#[91]⟩
abbrev kRb:ByteArray:=⟨#[93]⟩
abbrev kLc:ByteArray:=⟨#[123]⟩
abbrev kRc:ByteArray:=⟨#[125]⟩
abbrev Cej:ByteArray:=⟨#[46]⟩
abbrev Bgt:ByteArray:=⟨#[35]⟩
abbrev A8c:ByteArray:=⟨#[45]⟩
abbrev Cew:ByteArray:=⟨#[114,101,116,117,114,110]⟩
abbrev Bgs:ByteArray:=⟨#[102,117,110,99,116,105,111,110]⟩
abbrev Atz:ByteArray:=⟨#[101,110,100]⟩
abbrev Bgp:ByteArray:=⟨#[101,108,115,101]⟩
abbrev Bgr:ByteArray:=⟨#[101,108,115,101,105,102]⟩
abbrev kDo:ByteArray:=⟨#[100,111]⟩
abbrev Ce7:ByteArray:=⟨#[119,104,105,108,101]⟩
abbrev kIf:ByteArray:=⟨#[105,102]⟩
abbrev Ce2:ByteArray:=⟨#[116,104,101,110]⟩
abbrev Cer:ByteArray:=⟨#[102,111,114]⟩
abbrev kIn:ByteArray:=⟨#[105,110]⟩
abbrev Ces:ByteArray:=⟨#[108,111,99,97,108]⟩
abbrev Cec:ByteArray:=⟨#[98,114,101,97,107]⟩
abbrev Cet:ByteArray:=⟨#[110,105,108]⟩
abbrev Ce4:ByteArray:=⟨#[116,114,117,101]⟩
abbrev Cem:ByteArray:=⟨#[102,97,108,115,101]⟩
abbrev Bgu:ByteArray:=⟨#[110,111,116]⟩
abbrev kOr:ByteArray:=⟨#[111,114]⟩
abbrev Cea:ByteArray:=⟨#[97,110,100]⟩
abbrev kLt:ByteArray:=⟨#[60]⟩
abbrev kGt:ByteArray:=⟨#[62]⟩
abbrev kLe:ByteArray:=⟨#[60,61]⟩
abbrev kGe:ByteArray:=⟨#[62,61]⟩
abbrev kNe:ByteArray:=⟨#[126,61]⟩
abbrev Cek:ByteArray:=⟨#[61,61]⟩
abbrev Ceg:ByteArray:=⟨#[46,46]⟩
abbrev Cev:ByteArray:=⟨#[43]⟩
abbrev Cez:ByteArray:=⟨#[42]⟩
abbrev Cey:ByteArray:=⟨#[47,47]⟩
abbrev Ceu:ByteArray:=⟨#[37]⟩
abbrev noB:ByteArray:=⟨#[]⟩
def Atn (kind:Int) (ts:List Tk):Option (PV Tree) :=
 if (hd ts).1=1 then some (.ok (.mk kind (hd ts).2.1 0 (hd ts).2.2.2 []) ts.tail) else some (.bad (hd ts).2.2.2)
def Apm:Nat→List Tree→List Tk→Option (PV (List Tree))
 | 0,_,_=>none
 | f+1,acc,ts=>if isH Aoz ts then PV.bind (Atn 6 ts.tail) fun n r=>Apm f (acc++[n]) r else some (.ok acc ts)
def A2r (f:Nat) (ts:List Tk):Option (PV (List Tree)):=PV.bind (Atn 6 ts) fun n r=>Apm f [n] r
def Alu (ts:List Tk):Int :=
 if isH kOr ts then 1 else if isH Cea ts then 2
 else if isH kLt ts || isH kGt ts || isH kLe ts || isH kGe ts || isH kNe ts || isH Cek ts then 3
 else if isH Ceg ts then 4 else if isH Cev ts || isH A8c ts then 5 else if isH Cez ts || isH Cey ts || isH Ceu ts then 6 else 0
def A6f (ts:List Tk):Bool:=(hd ts).1 == 6 || isH Atz ts || isH Bgp ts || isH Bgr ts
mutual
def Aie:Nat→Int→List Tk→Option (PV Tree)
 | 0,_,_=>none
 | f+1,least,ts=>PV.bind (Amq f ts) fun n r=>Anh f least n r
def Anh:Nat→Int→Tree→List Tk→Option (PV Tree)
 | 0,_,_,_=>none
 | f+1,least,n,ts =>
  if Alu ts≤least then some (.ok n ts)
  else PV.bind (Aie f (if Alu ts=4 then 3 else Alu ts) ts.tail) fun m r=>Anh f least (.mk 11 (hd ts).2.1 0 n.at_ [n,m]) r
def Amq:Nat→List Tk→Option (PV Tree)
 | 0,_=>none
 | f+1,ts =>
  if (hd ts).1=3 then some (.ok (.mk 4 noB (hd ts).2.2.1 (hd ts).2.2.2 []) ts.tail)
  else if (hd ts).1=4 then some (.ok (.mk 5 (hd ts).2.1 0 (hd ts).2.2.2 []) ts.tail)
  else if isH Cet ts then some (.ok (.mk 1 noB 0 (hd ts).2.2.2 []) ts.tail)
  else if isH Ce4 ts then some (.ok (.mk 2 noB 0 (hd ts).2.2.2 []) ts.tail)
  else if isH Cem ts then some (.ok (.mk 3 noB 0 (hd ts).2.2.2 []) ts.tail)
  else if isH Bgu ts || isH Bgt ts || isH A8c ts then PV.bind (Aie f 7 ts.tail) fun m r=>some (.ok (.mk 10 (hd ts).2.1 0 (hd ts).2.2.2 [m]) r)
  else if isH kLc ts then PV.bind (Amo f [] ts.tail) fun l r=>some (.ok (.mk 12 noB 0 (hd ts).2.2.2 l) r)
  else Alq f ts
def Amo:Nat→List Tree→List Tk→Option (PV (List Tree))
 | 0,_,_=>none
 | f+1,acc,ts =>
  if isH kRc ts then some (.ok acc ts.tail)
  else PV.bind (Anx f ts) fun x r =>
   if isH Aoz r then Amo f (acc++[x]) r.tail
   else if isH At1 r then Amo f (acc++[x]) r.tail
   else PV.bind (Aoe kRc r) fun _ r=>some (.ok (acc++[x]) r)
def Anx:Nat→List Tk→Option (PV Tree)
 | 0,_=>none
 | f+1,ts =>
  if isH kLb ts then
   PV.bind (Aie f 0 ts.tail) fun k r=>PV.bind (Aoe kRb r) fun _ r=>PV.bind (Aoe kEq r) fun _ r=>PV.bind (Aie f 0 r) fun v r=>some (.ok (.mk 14 noB 0 (hd ts).2.2.2 [k,v]) r)
  else if (hd ts).1=1∧(hd ts.tail).1=5∧(hd ts.tail).2.1.toList=kEq.toList then
   PV.bind (Aie f 0 ts.tail.tail) fun v r=>some (.ok (.mk 14 noB 0 (hd ts).2.2.2 [.mk 5 (hd ts).2.1 0 (hd ts).2.2.2 [],v]) r)
  else PV.bind (Aie f 0 ts) fun v r=>some (.ok (.mk 13 noB 0 (hd ts).2.2.2 [v]) r)
def Alq:Nat→List Tk→Option (PV Tree)
 | 0,_=>none
 | f+1,ts =>
  if isH kLp ts then PV.bind (Aie f 0 ts.tail) fun e r=>PV.bind (Aoe kRp r) fun _ r=>Alp f (hd ts).2.2.2 (.mk 9 noB 0 (hd ts).2.2.2 [e]) r
  else PV.bind (Atn 6 ts) fun n r=>Alp f (hd ts).2.2.2 n r
def Alp:Nat→Int→Tree→List Tk→Option (PV Tree)
 | 0,_,_,_=>none
 | f+1,at_,n,ts =>
  if isH kLb ts then PV.bind (Aie f 0 ts.tail) fun e r=>PV.bind (Aoe kRb r) fun _ r=>Alp f at_ (.mk 7 noB 0 at_ [n,e]) r
  else if isH Cej ts then PV.bind (Atn 5 ts.tail) fun e r=>Alp f at_ (.mk 7 noB 0 at_ [n,e]) r
  else if isH kLp ts then
   PV.bind (if isH kRp ts.tail then some (.ok [] ts.tail) else Alm f ts.tail) fun l r=>PV.bind (Aoe kRp r) fun _ r=>Alp f at_ (.mk 8 noB 0 at_ (n :: l)) r
  else some (.ok n ts)
def Alm:Nat→List Tk→Option (PV (List Tree))
 | 0,_=>none
 | f+1,ts=>PV.bind (Aie f 0 ts) fun e r=>Anb f [e] r
def Anb:Nat→List Tree→List Tk→Option (PV (List Tree))
 | 0,_,_=>none
 | f+1,acc,ts=>if isH Aoz ts then PV.bind (Aie f 0 ts.tail) fun e r=>Anb f (acc++[e]) r else some (.ok acc ts)
end
mutual
def Ald:Nat→Bool→List Tk→Option (PV Tree)
 | 0,_,_=>none
 | f+1,chunk,ts=>Alk f chunk (hd ts).2.2.2 [] ts
def Alk:Nat→Bool→Int→List Tree→List Tk→Option (PV Tree)
 | 0,_,_,_,_=>none
 | f+1,chunk,at_,acc,ts =>
  if isH At1 ts then Alk f chunk at_ acc ts.tail
  else if isH Cew ts then
   PV.bind (if A6f ts.tail || isH At1 ts.tail then some (.ok [] ts.tail) else Alm f ts.tail) fun l r =>
    some (.ok (.mk 20 noB 0 at_ (acc++[.mk 30 noB 0 (hd ts).2.2.2 l])) (if isH At1 r then r.tail else r))
  else if chunk && isH Bgs ts then PV.bind (An1 f ts) fun x r=>Alk f chunk at_ (acc++[x]) r
  else if A6f ts then some (.ok (.mk 20 noB 0 at_ acc) ts)
  else PV.bind (An4 f ts) fun x r=>Alk f chunk at_ (acc++[x]) r
def An1:Nat→List Tk→Option (PV Tree)
 | 0,_=>none
 | f+1,ts =>
  PV.bind (Atn 6 ts.tail) fun nm r=>PV.bind (Aoe kLp r) fun _ r =>
   PV.bind (if isH kRp r then some (.ok [] r) else A2r f r) fun ps r=>PV.bind (Aoe kRp r) fun _ r =>
    PV.bind (Ald f false r) fun b r=>PV.bind (Aoe Atz r) fun _ r=>some (.ok (.mk 31 nm.text ps.length (hd ts).2.2.2 (ps++[b])) r)
/-- do, a block, end. -/
def Alv:Nat→List Tk→Option (PV Tree)
 | 0,_=>none
 | f+1,ts=>PV.bind (Aoe kDo ts) fun _ r=>PV.bind (Ald f false r) fun b r=>PV.bind (Aoe Atz r) fun _ r=>some (.ok b r)
def An4:Nat→List Tk→Option (PV Tree)
 | 0,_=>none
 | f+1,ts =>
  if isH kDo ts then PV.bind (Alv f ts) fun b r=>some (.ok (.mk 28 noB 0 (hd ts).2.2.2 [b]) r)
  else if isH Ce7 ts then PV.bind (Aie f 0 ts.tail) fun e r=>PV.bind (Alv f r) fun b r=>some (.ok (.mk 25 noB 0 (hd ts).2.2.2 [e,b]) r)
  else if isH kIf ts then PV.bind (Ana f [] ts.tail) fun l r=>some (.ok (.mk 24 noB 0 (hd ts).2.2.2 l) r)
  else if isH Cer ts then An0 f (hd ts).2.2.2 ts.tail
  else if isH Ces ts then
   PV.bind (A2r f ts.tail) fun l r=>PV.bind (if isH kEq r then Alm f r.tail else some (.ok [] r)) fun es r=>some (.ok (.mk 21 noB l.length (hd ts).2.2.2 (l++es)) r)
  else if isH Cec ts then some (.ok (.mk 29 noB 0 (hd ts).2.2.2 []) ts.tail)
  else An2 f ts
def Ana:Nat→List Tree→List Tk→Option (PV (List Tree))
 | 0,_,_=>none
 | f+1,acc,ts =>
  PV.bind (Aie f 0 ts) fun e r=>PV.bind (Aoe Ce2 r) fun _ r=>PV.bind (Ald f false r) fun b r =>
   if isH Bgr r then Ana f (acc++[e]++[b]) r.tail
   else if isH Bgp r then PV.bind (Ald f false r.tail) fun c r=>PV.bind (Aoe Atz r) fun _ r=>some (.ok (acc++[e]++[b]++[c]) r)
   else PV.bind (Aoe Atz r) fun _ r=>some (.ok (acc++[e]++[b]) r)
def An0:Nat→Int→List Tk→Option (PV Tree)
 | 0,_,_=>none
 | f+1,at_,ts =>
  PV.bind (Atn 6 ts) fun n r =>
   if isH kEq r then
    PV.bind (Aie f 0 r.tail) fun a r=>PV.bind (Aoe Aoz r) fun _ r=>PV.bind (Aie f 0 r) fun b r =>
     PV.bind (if isH Aoz r then PV.bind (Aie f 0 r.tail) fun c r=>some (.ok [c] r) else some (.ok [] r)) fun cs r=>PV.bind (Alv f r) fun bd r =>
      some (.ok (.mk 26 noB 0 at_ ([n]++[a]++[b]++cs++[bd])) r)
   else
    PV.bind (Apm f [n] r) fun l r=>PV.bind (Aoe kIn r) fun _ r=>PV.bind (Alm f r) fun es r=>PV.bind (Alv f r) fun bd r =>
     some (.ok (.mk 27 noB l.length at_ (l++es++[bd])) r)
def An2:Nat→List Tk→Option (PV Tree)
 | 0,_=>none
 | f+1,ts =>
  PV.bind (Alq f ts) fun e r =>
   if isH kEq r || isH Aoz r then
    PV.bind (Anj f [] e r) fun l r=>PV.bind (Aoe kEq r) fun _ r=>PV.bind (Alm f r) fun es r=>some (.ok (.mk 22 noB l.length e.at_ (l++es)) r)
   else if e.kind=8 then some (.ok (.mk 23 noB 0 e.at_ [e]) r) else some (.bad (hd r).2.2.2)
/-- The targets of an assignment, from e on. -/
def Anj:Nat→List Tree→Tree→List Tk→Option (PV (List Tree))
 | 0,_,_,_=>none
 | f+1,acc,e,ts =>
  if e.kind=6∨e.kind=7 then
   if isH Aoz ts then PV.bind (Alq f ts.tail) fun e' r=>Anj f (acc++[e]) e' r else some (.ok (acc++[e]) ts)
  else some (.bad e.at_)
end
def Good:List Tk→Prop
 | []=>False
 | [t]=>t.1=6
 | t :: u :: ts=>t.1≠6∧Good (u :: ts)
theorem Good.tail {ts:List Tk} (h:Good ts) (h6:(hd ts).1≠6):Good ts.tail∧ts.tail.length+1=ts.length∧ts.tail <:+ ts:=by
 cases ts with
 | nil=>exact h.elim
 | cons t ts =>
  cases ts with
  | nil=>exact absurd h h6
  | cons u ts=>exact ⟨h.2,rfl,List.suffix_cons t _⟩
theorem Abq {w:ByteArray} {ts:List Tk} (h:isH w ts=true):(hd ts).1≠6:=by
 unfold isH isT at h
 intro h6
 rw [h6] at h
 simp at h
def Fwd {α:Type} (n:Nat) (ts:List Tk):PV α→Prop
 | .ok _ r=>Good r∧r.length+n≤ts.length∧r <:+ ts
 | .bad _=>True
def Step {α:Type} (n:Nat) (ts:List Tk) (x:Option (PV α)):Prop:=Good ts→∀ v,x=some v→Fwd n ts v
section
variable {α β:Type} {n m:Nat} {ts:List Tk} {x:Option (PV α)} {f:α→List Tk→Option (PV β)}
theorem bind_some {v:PV β} (h:PV.bind x f=some v):(∃ i,x=some (.bad i)∧v=.bad i)∨∃ a r,x=some (.ok a r)∧f a r=some v:=by
 unfold PV.bind at h
 split at h
 ·cases h
 ·exact .inr ⟨_,_,rfl,h⟩
 ·exact .inl ⟨_,rfl,(Aam h).symm⟩
theorem Af4 (h1:Step n ts x) (h2:∀ a r,Step m r (f a r)):Step (n+m) ts (PV.bind x f):=fun hg v hv=>by
 rcases bind_some hv with ⟨i,_,rfl⟩ | ⟨a,r,hx,hf⟩
 ·trivial
 ·obtain ⟨g1,g2,g3⟩:=h1 hg _ hx
  have:=h2 a r g1 v hf
  cases v with
  | bad=>trivial
  | ok b s =>
   obtain ⟨g4,g5,g6⟩:=this
   exact ⟨g4,by omega,g6.trans g3⟩
theorem Ahy (h:Step n ts x) (hm:m≤n):Step m ts x:=fun hg v hv=>by
 have:=h hg v hv
 cases v with
 | bad=>trivial
 | ok b s=>exact ⟨this.1,by have:=this.2.1;omega,this.2.2⟩
theorem step_none:Step n ts (none:Option (PV α)):=fun _ _ h=>by cases h
theorem step_bad {i:Int}:Step n ts (some (.bad i):Option (PV α)):=fun _ _ h=>by cases h;trivial
theorem step_ok {a:α}:Step 0 ts (some (.ok a ts)):=fun hg _ h=>by cases h;exact ⟨hg,Nat.le_refl _,List.suffix_refl _⟩
theorem Ait (h6:(hd ts).1≠6) (h:Step m ts.tail x):Step (m+1) ts x:=fun hg v hv=>by
 obtain ⟨g1,g2,g3⟩:=hg.tail h6
 have:=h g1 v hv
 cases v with
 | bad=>trivial
 | ok b s=>exact ⟨this.1,by have:=this.2.1;omega,this.2.2.trans g3⟩
theorem Ahu {c:Prop} [Decidable c] {y z:Option (PV α)} (h1:c→Step n ts y) (h2:¬ c→Step n ts z):Step n ts (if c then y else z):=by
 by_cases h:c
 ·rw [if_pos h];exact h1 h
 ·rw [if_neg h];exact h2 h
theorem Ajv (w:ByteArray) (ts:List Tk):Step 1 ts (Aoe w ts):=Ahu (fun h=>Ait (Abq h) step_ok) fun _=>step_bad
theorem Auk (k:Int) (ts:List Tk):Step 1 ts (Atn k ts):=Ahu (fun h=>Ait (by omega) step_ok) fun _=>step_bad
theorem Bi6:∀ (f:Nat) (acc:List Tree) (ts:List Tk),Step 0 ts (Apm f acc ts)
 | 0,_,_=>step_none
 | f+1,acc,ts=>by
  unfold Apm
  exact Ahu (fun h=>Ahy (Ait (Abq h) (Af4 (Auk 6 _) fun _ _=>Bi6 f _ _)) (Nat.zero_le _)) fun _=>step_ok
theorem Bpd (f:Nat) (ts:List Tk):Step 1 ts (A2r f ts):=Af4 (Auk 6 ts) fun _ _=>Bi6 f _ _
end
structure Cob (f:Nat):Prop where
 exp:∀ least ts,Step 1 ts (Aie f least ts)
 loop:∀ least n ts,Step 0 ts (Anh f least n ts)
 operand:∀ ts,Step 1 ts (Amq f ts)
 fields:∀ acc ts,Step 1 ts (Amo f acc ts)
 field:∀ ts,Step 1 ts (Anx f ts)
 Akv:∀ ts,Step 1 ts (Alq f ts)
 Aiv:∀ at_ n ts,Step 0 ts (Alp f at_ n ts)
 Ahv:∀ ts,Step 1 ts (Alm f ts)
 Aph:∀ acc ts,Step 0 ts (Anb f acc ts)
theorem Baz {ts:List Tk} (h:Alu ts≠0):(hd ts).1≠6:=by
 intro h6
 have hf:∀ w,isH w ts=false:=fun w=>by
  cases hw:isH w ts with
  | false=>rfl
  | true=>exact absurd h6 (Abq hw)
 exact h (by simp [Alu,hf])
theorem B6u (ts:List Tk):0≤Alu ts∧Alu ts≤6:=by
 unfold Alu
 repeat' split
 all_goals omega
theorem Az7:∀ f,Cob f
 | 0=>by constructor <;> intros <;> (first | unfold Aie | unfold Anh | unfold Amq | unfold Amo | unfold Anx | unfold Alq | unfold Alp | unfold Alm | unfold Anb) <;> exact step_none
 | f+1=>by
  have ih:=Az7 f
  constructor
  ·intro least ts;unfold Aie
   exact Af4 (ih.operand ts) fun _ _=>ih.loop _ _ _
  ·intro least n ts;unfold Anh
   refine Ahu (fun _=>step_ok) fun h=>?_
   by_cases h0:Alu ts=0
   ·-- a least below 0 is never asked for; then nothing is eaten
    intro hg v hv
    by_cases h6:(hd ts).1=6
    ·rcases bind_some hv with ⟨i,_,rfl⟩ | ⟨a,r,hx,hf⟩
     ·trivial
     ·exfalso
      cases ts with
      | nil=>exact hg
      | cons t ts =>
       cases ts with
       | nil =>
        have hx':Aie f (if Alu [t]=4 then 3 else Alu [t]) []=some (.ok a r):=hx
        clear hx hf hv
        cases f with
        | zero=>unfold Aie at hx';cases hx'
        | succ f =>
         unfold Aie at hx'
         rcases bind_some hx' with ⟨i,_,he⟩ | ⟨a',r',hx,hf⟩
         ·cases he
         ·cases f with
          | zero=>unfold Amq at hx;cases hx
          | succ f =>
           unfold Amq at hx
           simp only [hd,List.headD_nil,isH,isT] at hx
           cases f with
           | zero=>unfold Alq at hx;simp at hx
           | succ f=>unfold Alq at hx;simp [isH,isT,hd,Atn,PV.bind] at hx
       | cons u ts=>exact hg.1 h6
    ·exact (Ahy (Ait h6 (Af4 (ih.exp _ _) fun _ _=>ih.loop _ _ _)) (Nat.zero_le _)) hg v hv
   ·exact Ahy (Ait (Baz h0) (Af4 (ih.exp _ _) fun _ _=>ih.loop _ _ _)) (Nat.zero_le _)
  ·intro ts;unfold Amq
   refine Ahu (fun h=>Ait (by omega) step_ok) fun _=>?_
   refine Ahu (fun h=>Ait (by omega) step_ok) fun _=>?_
   refine Ahu (fun h=>Ait (Abq h) step_ok) fun _=>?_
   refine Ahu (fun h=>Ait (Abq h) step_ok) fun _=>?_
   refine Ahu (fun h=>Ait (Abq h) step_ok) fun _=>?_
   refine Ahu (fun h=>?_) fun _=>?_
   ·have h6:(hd ts).1≠6:=by
     simp only [Bool.or_eq_true] at h
     rcases h with (h | h) | h <;> exact Abq h
    exact Ahy (Ait h6 (Af4 (ih.exp _ _) fun _ _=>step_ok)) (by omega)
   refine Ahu (fun h=>?_) fun _=>?_
   ·exact Ahy (Ait (Abq h) (Af4 (ih.fields _ _) fun _ _=>step_ok)) (by omega)
   ·exact ih.Akv ts
  ·intro acc ts;unfold Amo
   refine Ahu (fun h=>Ait (Abq h) step_ok) fun _=>?_
   refine Ahy (Af4 (m:=0) (ih.field ts) fun x r=>?_) (by omega)
   refine Ahu (fun h=>Ahy (Ait (Abq h) (ih.fields _ _)) (by omega)) fun _=>?_
   refine Ahu (fun h=>Ahy (Ait (Abq h) (ih.fields _ _)) (by omega)) fun _=>?_
   exact Ahy (Af4 (Ajv _ _) fun _ _=>step_ok) (by omega)
  ·intro ts;unfold Anx
   refine Ahu (fun h=>?_) fun _=>?_
   ·exact Ahy (Ait (Abq h) (Af4 (ih.exp _ _) fun _ _=>Af4 (Ajv _ _) fun _ _=>Af4 (Ajv _ _) fun _ _=>Af4 (ih.exp _ _) fun _ _=>step_ok)) (by omega)
   refine Ahu (fun h=>?_) fun _=>?_
   ·obtain ⟨h1,h2,_⟩:=h
    exact Ahy (Ait (by omega) (Ait (by omega) (Af4 (ih.exp _ _) fun _ _=>step_ok))) (by omega)
   ·exact Af4 (ih.exp _ _) fun _ _=>step_ok
  ·intro ts;unfold Alq
   refine Ahu (fun h=>?_) fun _=>?_
   ·exact Ahy (Ait (Abq h) (Af4 (ih.exp _ _) fun _ _=>Af4 (Ajv _ _) fun _ _=>ih.Aiv _ _ _)) (by omega)
   ·exact Af4 (Auk _ _) fun _ _=>ih.Aiv _ _ _
  ·intro at_ n ts;unfold Alp
   refine Ahu (fun h=>?_) fun _=>?_
   ·exact Ahy (Ait (Abq h) (Af4 (ih.exp _ _) fun _ _=>Af4 (Ajv _ _) fun _ _=>ih.Aiv _ _ _)) (by omega)
   refine Ahu (fun h=>?_) fun _=>?_
   ·exact Ahy (Ait (Abq h) (Af4 (Auk _ _) fun _ _=>ih.Aiv _ _ _)) (by omega)
   refine Ahu (fun h=>?_) fun _=>step_ok
   ·refine Ahy (Ait (Abq h) (Af4 (n:=0) ?_ fun _ _=>Af4 (Ajv _ _) fun _ _=>ih.Aiv _ _ _)) (by omega)
    exact Ahu (fun _=>step_ok) fun _=>Ahy (ih.Ahv _) (by omega)
  ·intro ts;unfold Alm
   exact Af4 (ih.exp _ _) fun _ _=>ih.Aph _ _
  ·intro acc ts;unfold Anb
   exact Ahu (fun h=>Ahy (Ait (Abq h) (Af4 (ih.exp _ _) fun _ _=>ih.Aph _ _)) (by omega)) fun _=>step_ok
structure Cod (f:Nat):Prop where
 block:∀ c ts,Step 0 ts (Ald f c ts)
 Akn:∀ c at_ acc ts,Step 0 ts (Alk f c at_ acc ts)
 function:∀ ts,(hd ts).1≠6→Step 1 ts (An1 f ts)
 body:∀ ts,Step 1 ts (Alv f ts)
 stat:∀ ts,Step 1 ts (An4 f ts)
 branches:∀ acc ts,Step 1 ts (Ana f acc ts)
 for_:∀ at_ ts,Step 1 ts (An0 f at_ ts)
 plain:∀ ts,Step 1 ts (An2 f ts)
 targets:∀ acc e ts,Step 0 ts (Anj f acc e ts)
theorem stepS:∀ f,Cod f
 | 0=>by constructor <;> intros <;> (first | unfold Ald | unfold Alk | unfold An1 | unfold Alv | unfold An4 | unfold Ana | unfold An0 | unfold An2 | unfold Anj) <;> exact step_none
 | f+1=>by
  have ih:=stepS f
  have ie:=Az7 f
  constructor
  ·intro c ts;unfold Ald
   exact ih.Akn _ _ _ _
  ·intro c at_ acc ts;unfold Alk
   refine Ahu (fun h=>Ahy (Ait (Abq h) (ih.Akn _ _ _ _)) (by omega)) fun _=>?_
   refine Ahu (fun h=>?_) fun _=>?_
   ·refine Ahy (Ait (Abq h) (Af4 (n:=0) (m:=0) ?_ fun l r=>?_)) (by omega)
    ·exact Ahu (fun _=>step_ok) fun _=>Ahy (ie.Ahv _) (by omega)
    ·by_cases h:isH At1 r=true
     ·rw [if_pos h];exact Ahy (Ait (Abq h) step_ok) (by omega)
     ·rw [if_neg h];exact step_ok
   refine Ahu (fun h=>?_) fun _=>?_
   ·simp only [Bool.and_eq_true] at h
    exact Ahy (Af4 (ih.function _ (Abq h.2)) fun _ _=>ih.Akn _ _ _ _) (by omega)
   refine Ahu (fun _=>step_ok) fun _=>?_
   exact Ahy (Af4 (ih.stat _) fun _ _=>ih.Akn _ _ _ _) (by omega)
  ·intro ts h6;unfold An1
   refine Ahy (Ait h6 (Af4 (Auk _ _) fun _ _=>Af4 (Ajv _ _) fun _ r=>Af4 (n:=0) ?_ fun _ _=>Af4 (Ajv _ _) fun _ _=>Af4 (ih.block _ _) fun _ _=>Af4 (Ajv _ _) fun _ _=>step_ok)) (by omega)
   exact Ahu (fun _=>step_ok) fun _=>Ahy (Bpd f r) (by omega)
  ·intro ts;unfold Alv
   exact Ahy (Af4 (Ajv _ _) fun _ _=>Af4 (ih.block _ _) fun _ _=>Af4 (Ajv _ _) fun _ _=>step_ok) (by omega)
  ·intro ts;unfold An4
   refine Ahu (fun h=>Af4 (ih.body _) fun _ _=>step_ok) fun _=>?_
   refine Ahu (fun h=>Ahy (Ait (Abq h) (Af4 (ie.exp _ _) fun _ _=>Af4 (ih.body _) fun _ _=>step_ok)) (by omega)) fun _=>?_
   refine Ahu (fun h=>Ahy (Ait (Abq h) (Af4 (ih.branches _ _) fun _ _=>step_ok)) (by omega)) fun _=>?_
   refine Ahu (fun h=>Ahy (Ait (Abq h) (ih.for_ _ _)) (by omega)) fun _=>?_
   refine Ahu (fun h=>?_) fun _=>?_
   ·refine Ahy (Ait (Abq h) (Af4 (Bpd f _) fun _ r=>Af4 (n:=0) ?_ fun _ _=>step_ok)) (by omega)
    exact Ahu (fun h=>Ahy (Ait (Abq h) (ie.Ahv _)) (by omega)) fun _=>step_ok
   refine Ahu (fun h=>Ait (Abq h) step_ok) fun _=>ih.plain _
  ·intro acc ts;unfold Ana
   refine Ahy (Af4 (ie.exp _ _) fun _ _=>Af4 (Ajv _ _) fun _ _=>Af4 (m:=0) (ih.block _ _) fun _ r=>?_) (by omega)
   refine Ahu (fun h=>Ahy (Ait (Abq h) (ih.branches _ _)) (by omega)) fun _=>?_
   refine Ahu (fun h=>Ahy (Ait (Abq h) (Af4 (ih.block _ _) fun _ _=>Af4 (Ajv _ _) fun _ _=>step_ok)) (by omega)) fun _=>?_
   exact Ahy (Af4 (Ajv _ _) fun _ _=>step_ok) (by omega)
  ·intro at_ ts;unfold An0
   refine Ahy (Af4 (m:=0) (Auk _ _) fun n r=>?_) (by omega)
   refine Ahu (fun h=>?_) fun _=>?_
   ·refine Ahy (Ait (Abq h) (Af4 (ie.exp _ _) fun _ _=>Af4 (Ajv _ _) fun _ _=>Af4 (ie.exp _ _) fun _ r=>Af4 (n:=0) ?_ fun _ _=>Af4 (ih.body _) fun _ _=>step_ok)) (by omega)
    exact Ahu (fun h=>Ahy (Ait (Abq h) (Af4 (ie.exp _ _) fun _ _=>step_ok)) (by omega)) fun _=>step_ok
   ·exact Ahy (Af4 (Bi6 _ _ _) fun _ _=>Af4 (Ajv _ _) fun _ _=>Af4 (ie.Ahv _) fun _ _=>Af4 (ih.body _) fun _ _=>step_ok) (by omega)
  ·intro ts;unfold An2
   refine Ahy (Af4 (m:=0) (ie.Akv _) fun e r=>?_) (by omega)
   refine Ahu (fun h=>?_) fun _=>?_
   ·exact Ahy (Af4 (ih.targets _ _ _) fun _ _=>Af4 (Ajv _ _) fun _ _=>Af4 (ie.Ahv _) fun _ _=>step_ok) (by omega)
   ·exact Ahu (fun _=>step_ok) fun _=>step_bad
  ·intro acc e ts;unfold Anj
   refine Ahu (fun _=>?_) fun _=>step_bad
   exact Ahu (fun h=>Ahy (Ait (Abq h) (Af4 (ie.Akv _) fun _ _=>ih.targets _ _ _)) (by omega)) fun _=>step_ok
theorem Af7 {α β:Type} {n:Nat} {ts:List Tk} {x:Option (PV α)} {f:α→List Tk→Option (PV β)} (hg:Good ts) (h1:∃ v,x=some v) (hs:Step n ts x) (h2:∀ a r,Good r→r.length+n≤ts.length→∃ v,f a r=some v):∃ v,PV.bind x f=some v:=by
 obtain ⟨v,rfl⟩:=h1
 cases v with
 | bad i=>exact ⟨_,rfl⟩
 | ok a r =>
  obtain ⟨g1,g2,_⟩:=hs hg _ rfl
  exact h2 a r g1 g2
theorem Aia {α:Type} {c:Prop} [Decidable c] {y z:Option (PV α)} (h1:c→∃ v,y=some v) (h2:¬ c→∃ v,z=some v):∃ v,(if c then y else z)=some v:=by
 by_cases h:c
 ·rw [if_pos h];exact h1 h
 ·rw [if_neg h];exact h2 h
theorem Asy (w:ByteArray) (ts:List Tk):∃ v,Aoe w ts=some v:=Aia (fun _=>⟨_,rfl⟩) fun _=>⟨_,rfl⟩
theorem Bac (k:Int) (ts:List Tk):∃ v,Atn k ts=some v:=Aia (fun _=>⟨_,rfl⟩) fun _=>⟨_,rfl⟩
theorem Bcr:∀ (f:Nat) (acc:List Tree) (ts:List Tk),Good ts→16 * ts.length+1≤f→∃ v,Apm f acc ts=some v
 | 0,_,_,_,h=>by omega
 | f+1,acc,ts,hg,h=>by
  unfold Apm
  refine Aia (fun hc=>?_) fun _=>⟨_,rfl⟩
  obtain ⟨g1,g2,_⟩:=hg.tail (Abq hc)
  exact Af7 g1 (Bac _ _) (Auk _ _) fun a r hr hl=>Bcr f _ r hr (by omega)
structure Coh (f:Nat):Prop where
 exp:∀ least ts,0≤least→Good ts→16 * ts.length+5≤f→∃ v,Aie f least ts=some v
 loop:∀ least n ts,0≤least→Good ts→16 * ts.length+1≤f→∃ v,Anh f least n ts=some v
 operand:∀ ts,Good ts→16 * ts.length+4≤f→∃ v,Amq f ts=some v
 fields:∀ acc ts,Good ts→16 * ts.length+7≤f→∃ v,Amo f acc ts=some v
 field:∀ ts,Good ts→16 * ts.length+6≤f→∃ v,Anx f ts=some v
 Akv:∀ ts,Good ts→16 * ts.length+3≤f→∃ v,Alq f ts=some v
 Aiv:∀ at_ n ts,Good ts→16 * ts.length+1≤f→∃ v,Alp f at_ n ts=some v
 Ahv:∀ ts,Good ts→16 * ts.length+6≤f→∃ v,Alm f ts=some v
 Aph:∀ acc ts,Good ts→16 * ts.length+1≤f→∃ v,Anb f acc ts=some v
theorem Ap2:∀ f,Coh f
 | 0=>by constructor <;> intros <;> omega
 | f+1=>by
  have ih:=Ap2 f
  have st:=Az7 f
  constructor
  ·intro least ts hl hg h;unfold Aie
   exact Af7 hg (ih.operand _ hg (by omega)) (st.operand _) fun a r hr hn=>ih.loop _ _ _ hl hr (by omega)
  ·intro least n ts hl hg h;unfold Anh
   refine Aia (fun _=>⟨_,rfl⟩) fun hb=>?_
   obtain ⟨g1,g2,_⟩:=hg.tail (Baz (by omega))
   exact Af7 g1 (ih.exp _ _ (by split <;> omega) g1 (by omega)) (st.exp _ _) fun a r hr hn=>ih.loop _ _ _ hl hr (by omega)
  ·intro ts hg h;unfold Amq
   refine Aia (fun _=>⟨_,rfl⟩) fun _=>Aia (fun _=>⟨_,rfl⟩) fun _=>Aia (fun _=>⟨_,rfl⟩) fun _=>Aia (fun _=>⟨_,rfl⟩) fun _=>Aia (fun _=>⟨_,rfl⟩) fun _=>Aia (fun hc=>?_) fun _=>Aia (fun hc=>?_) fun _=>ih.Akv _ hg (by omega)
   ·have h6:(hd ts).1≠6:=by
     simp only [Bool.or_eq_true] at hc
     rcases hc with (h | h) | h <;> exact Abq h
    obtain ⟨g1,g2,_⟩:=hg.tail h6
    exact Af7 g1 (ih.exp _ _ (by omega) g1 (by omega)) (st.exp _ _) fun a r _ _=>⟨_,rfl⟩
   ·obtain ⟨g1,g2,_⟩:=hg.tail (Abq hc)
    exact Af7 g1 (ih.fields _ _ g1 (by omega)) (st.fields _ _) fun a r _ _=>⟨_,rfl⟩
  ·intro acc ts hg h;unfold Amo
   refine Aia (fun _=>⟨_,rfl⟩) fun _=>Af7 hg (ih.field _ hg (by omega)) (st.field _) fun x r hr hn=>?_
   refine Aia (fun hc=>?_) fun _=>Aia (fun hc=>?_) fun _=>Af7 hr (Asy _ _) (Ajv _ _) fun _ _ _ _=>⟨_,rfl⟩
   ·obtain ⟨g1,g2,_⟩:=hr.tail (Abq hc)
    exact ih.fields _ _ g1 (by omega)
   ·obtain ⟨g1,g2,_⟩:=hr.tail (Abq hc)
    exact ih.fields _ _ g1 (by omega)
  ·intro ts hg h;unfold Anx
   refine Aia (fun hc=>?_) fun _=>Aia (fun hc=>?_) fun _=>Af7 hg (ih.exp _ _ (by omega) hg (by omega)) (st.exp _ _) fun _ _ _ _=>⟨_,rfl⟩
   ·obtain ⟨g1,g2,_⟩:=hg.tail (Abq hc)
    exact Af7 g1 (ih.exp _ _ (by omega) g1 (by omega)) (st.exp _ _) fun _ r hr hn=>Af7 hr (Asy _ _) (Ajv _ _) fun _ r2 hr2 hn2=>Af7 hr2 (Asy _ _) (Ajv _ _) fun _ r3 hr3 hn3=>Af7 hr3 (ih.exp _ _ (by omega) hr3 (by omega)) (st.exp _ _) fun _ _ _ _=>⟨_,rfl⟩
   ·obtain ⟨h1,h2,_⟩:=hc
    obtain ⟨g1,g2,_⟩:=hg.tail (by omega)
    obtain ⟨g3,g4,_⟩:=g1.tail (by omega)
    exact Af7 g3 (ih.exp _ _ (by omega) g3 (by omega)) (st.exp _ _) fun _ _ _ _=>⟨_,rfl⟩
  ·intro ts hg h;unfold Alq
   refine Aia (fun hc=>?_) fun _=>Af7 hg (Bac _ _) (Auk _ _) fun _ r hr hn=>ih.Aiv _ _ _ hr (by omega)
   obtain ⟨g1,g2,_⟩:=hg.tail (Abq hc)
   exact Af7 g1 (ih.exp _ _ (by omega) g1 (by omega)) (st.exp _ _) fun _ r hr hn=>Af7 hr (Asy _ _) (Ajv _ _) fun _ r2 hr2 hn2=>ih.Aiv _ _ _ hr2 (by omega)
  ·intro at_ n ts hg h;unfold Alp
   refine Aia (fun hc=>?_) fun _=>Aia (fun hc=>?_) fun _=>Aia (fun hc=>?_) fun _=>⟨_,rfl⟩
   ·obtain ⟨g1,g2,_⟩:=hg.tail (Abq hc)
    exact Af7 g1 (ih.exp _ _ (by omega) g1 (by omega)) (st.exp _ _) fun _ r hr hn=>Af7 hr (Asy _ _) (Ajv _ _) fun _ r2 hr2 hn2=>ih.Aiv _ _ _ hr2 (by omega)
   ·obtain ⟨g1,g2,_⟩:=hg.tail (Abq hc)
    exact Af7 g1 (Bac _ _) (Auk _ _) fun _ r hr hn=>ih.Aiv _ _ _ hr (by omega)
   ·obtain ⟨g1,g2,_⟩:=hg.tail (Abq hc)
    exact Af7 (n:=0) g1 (Aia (fun _=>⟨_,rfl⟩) fun _=>ih.Ahv _ g1 (by omega)) (Ahu (fun _=>step_ok) fun _=>Ahy (st.Ahv _) (by omega)) fun _ r hr hn=>Af7 hr (Asy _ _) (Ajv _ _) fun _ r2 hr2 hn2=>ih.Aiv _ _ _ hr2 (by omega)
  ·intro ts hg h;unfold Alm
   exact Af7 hg (ih.exp _ _ (by omega) hg (by omega)) (st.exp _ _) fun _ r hr hn=>ih.Aph _ _ hr (by omega)
  ·intro acc ts hg h;unfold Anb
   refine Aia (fun hc=>?_) fun _=>⟨_,rfl⟩
   obtain ⟨g1,g2,_⟩:=hg.tail (Abq hc)
   exact Af7 g1 (ih.exp _ _ (by omega) g1 (by omega)) (st.exp _ _) fun _ r hr hn=>ih.Aph _ _ hr (by omega)
structure Cok (f:Nat):Prop where
 block:∀ c ts,Good ts→16 * ts.length+9≤f→∃ v,Ald f c ts=some v
 Akn:∀ c at_ acc ts,Good ts→16 * ts.length+8≤f→∃ v,Alk f c at_ acc ts=some v
 function:∀ ts,(hd ts).1≠6→Good ts→16 * ts.length+7≤f→∃ v,An1 f ts=some v
 body:∀ ts,Good ts→16 * ts.length+6≤f→∃ v,Alv f ts=some v
 stat:∀ ts,Good ts→16 * ts.length+7≤f→∃ v,An4 f ts=some v
 branches:∀ acc ts,Good ts→16 * ts.length+6≤f→∃ v,Ana f acc ts=some v
 for_:∀ at_ ts,Good ts→16 * ts.length+1≤f→∃ v,An0 f at_ ts=some v
 plain:∀ ts,Good ts→16 * ts.length+6≤f→∃ v,An2 f ts=some v
 targets:∀ acc e ts,Good ts→16 * ts.length+1≤f→∃ v,Anj f acc e ts=some v
theorem Aqc:∀ f,Cok f
 | 0=>by constructor <;> intros <;> omega
 | f+1=>by
  have ih:=Aqc f
  have ie:=Ap2 f
  have se:=Az7 f
  have ss:=stepS f
  constructor
  ·intro c ts hg h;unfold Ald
   exact ih.Akn _ _ _ _ hg (by omega)
  ·intro c at_ acc ts hg h;unfold Alk
   refine Aia (fun hc=>?_) fun _=>Aia (fun hc=>?_) fun _=>Aia (fun hc=>?_) fun _=>Aia (fun _=>⟨_,rfl⟩) fun _=>?_
   ·obtain ⟨g1,g2,_⟩:=hg.tail (Abq hc)
    exact ih.Akn _ _ _ _ g1 (by omega)
   ·obtain ⟨g1,g2,_⟩:=hg.tail (Abq hc)
    exact Af7 (n:=0) g1 (Aia (fun _=>⟨_,rfl⟩) fun _=>ie.Ahv _ g1 (by omega)) (Ahu (fun _=>step_ok) fun _=>Ahy (se.Ahv _) (by omega)) fun _ r hr hn=>⟨_,rfl⟩
   ·simp only [Bool.and_eq_true] at hc
    exact Af7 hg (ih.function _ (Abq hc.2) hg (by omega)) (ss.function _ (Abq hc.2)) fun _ r hr hn=>ih.Akn _ _ _ _ hr (by omega)
   ·exact Af7 hg (ih.stat _ hg (by omega)) (ss.stat _) fun _ r hr hn=>ih.Akn _ _ _ _ hr (by omega)
  ·intro ts h6 hg h;unfold An1
   obtain ⟨g1,g2,_⟩:=hg.tail h6
   exact Af7 g1 (Bac _ _) (Auk _ _) fun _ r hr hn=>Af7 hr (Asy _ _) (Ajv _ _) fun _ r2 hr2 hn2 =>
    Af7 (n:=0) hr2 (Aia (fun _=>⟨_,rfl⟩) fun _=>Af7 hr2 (Bac _ _) (Auk _ _) fun _ r hr hn=>Bcr _ _ _ hr (by omega)) (Ahu (fun _=>step_ok) fun _=>Ahy (Bpd f r2) (by omega)) fun _ r3 hr3 hn3 =>
     Af7 hr3 (Asy _ _) (Ajv _ _) fun _ r4 hr4 hn4=>Af7 hr4 (ih.block _ _ hr4 (by omega)) (ss.block _ _) fun _ r5 hr5 hn5=>Af7 hr5 (Asy _ _) (Ajv _ _) fun _ _ _ _=>⟨_,rfl⟩
  ·intro ts hg h;unfold Alv
   exact Af7 hg (Asy _ _) (Ajv _ _) fun _ r hr hn=>Af7 hr (ih.block _ _ hr (by omega)) (ss.block _ _) fun _ r5 hr5 hn5=>Af7 hr5 (Asy _ _) (Ajv _ _) fun _ _ _ _=>⟨_,rfl⟩
  ·intro ts hg h;unfold An4
   refine Aia (fun hc=>?_) fun _=>Aia (fun hc=>?_) fun _=>Aia (fun hc=>?_) fun _=>Aia (fun hc=>?_) fun _=>Aia (fun hc=>?_) fun _=>Aia (fun hc=>⟨_,rfl⟩) fun _=>ih.plain _ hg (by omega)
   ·exact Af7 hg (ih.body _ hg (by omega)) (ss.body _) fun _ _ _ _=>⟨_,rfl⟩
   ·obtain ⟨g1,g2,_⟩:=hg.tail (Abq hc)
    exact Af7 g1 (ie.exp _ _ (by omega) g1 (by omega)) (se.exp _ _) fun _ r hr hn=>Af7 hr (ih.body _ hr (by omega)) (ss.body _) fun _ _ _ _=>⟨_,rfl⟩
   ·obtain ⟨g1,g2,_⟩:=hg.tail (Abq hc)
    exact Af7 g1 (ih.branches _ _ g1 (by omega)) (ss.branches _ _) fun _ _ _ _=>⟨_,rfl⟩
   ·obtain ⟨g1,g2,_⟩:=hg.tail (Abq hc)
    exact ih.for_ _ _ g1 (by omega)
   ·obtain ⟨g1,g2,_⟩:=hg.tail (Abq hc)
    refine Af7 g1 (Af7 g1 (Bac _ _) (Auk _ _) fun _ r hr hn=>Bcr _ _ _ hr (by omega)) (Bpd f _) fun _ r hr hn=>?_
    refine Af7 (n:=0) hr (Aia (fun hc=>?_) fun _=>⟨_,rfl⟩) (Ahu (fun h=>Ahy (Ait (Abq h) (se.Ahv _)) (by omega)) fun _=>step_ok) fun _ _ _ _=>⟨_,rfl⟩
    obtain ⟨g3,g4,_⟩:=hr.tail (Abq hc)
    exact ie.Ahv _ g3 (by omega)
  ·intro acc ts hg h;unfold Ana
   refine Af7 hg (ie.exp _ _ (by omega) hg (by omega)) (se.exp _ _) fun _ r hr hn=>Af7 hr (Asy _ _) (Ajv _ _) fun _ r2 hr2 hn2=>Af7 hr2 (ih.block _ _ hr2 (by omega)) (ss.block _ _) fun _ r3 hr3 hn3=>?_
   refine Aia (fun hc=>?_) fun _=>Aia (fun hc=>?_) fun _=>Af7 hr3 (Asy _ _) (Ajv _ _) fun _ _ _ _=>⟨_,rfl⟩
   ·obtain ⟨g1,g2,_⟩:=hr3.tail (Abq hc)
    exact ih.branches _ _ g1 (by omega)
   ·obtain ⟨g1,g2,_⟩:=hr3.tail (Abq hc)
    exact Af7 g1 (ih.block _ _ g1 (by omega)) (ss.block _ _) fun _ r4 hr4 hn4=>Af7 hr4 (Asy _ _) (Ajv _ _) fun _ _ _ _=>⟨_,rfl⟩
  ·intro at_ ts hg h;unfold An0
   refine Af7 hg (Bac _ _) (Auk _ _) fun n r hr hn=>Aia (fun hc=>?_) fun _=>?_
   ·obtain ⟨g1,g2,_⟩:=hr.tail (Abq hc)
    refine Af7 g1 (ie.exp _ _ (by omega) g1 (by omega)) (se.exp _ _) fun _ r2 hr2 hn2=>Af7 hr2 (Asy _ _) (Ajv _ _) fun _ r3 hr3 hn3=>Af7 hr3 (ie.exp _ _ (by omega) hr3 (by omega)) (se.exp _ _) fun _ r4 hr4 hn4=>?_
    refine Af7 (n:=0) hr4 (Aia (fun hc=>?_) fun _=>⟨_,rfl⟩) (Ahu (fun h=>Ahy (Ait (Abq h) (Af4 (se.exp _ _) fun _ _=>step_ok)) (by omega)) fun _=>step_ok) fun _ r5 hr5 hn5=>Af7 hr5 (ih.body _ hr5 (by omega)) (ss.body _) fun _ _ _ _=>⟨_,rfl⟩
    obtain ⟨g3,g4,_⟩:=hr4.tail (Abq hc)
    exact Af7 g3 (ie.exp _ _ (by omega) g3 (by omega)) (se.exp _ _) fun _ _ _ _=>⟨_,rfl⟩
   ·exact Af7 hr (Bcr _ _ _ hr (by omega)) (Bi6 _ _ _) fun _ r2 hr2 hn2=>Af7 hr2 (Asy _ _) (Ajv _ _) fun _ r3 hr3 hn3=>Af7 hr3 (ie.Ahv _ hr3 (by omega)) (se.Ahv _) fun _ r4 hr4 hn4=>Af7 hr4 (ih.body _ hr4 (by omega)) (ss.body _) fun _ _ _ _=>⟨_,rfl⟩
  ·intro ts hg h;unfold An2
   refine Af7 hg (ie.Akv _ hg (by omega)) (se.Akv _) fun e r hr hn=>Aia (fun hc=>?_) fun _=>Aia (fun _=>⟨_,rfl⟩) fun _=>⟨_,rfl⟩
   exact Af7 hr (ih.targets _ _ _ hr (by omega)) (ss.targets _ _ _) fun _ r2 hr2 hn2=>Af7 hr2 (Asy _ _) (Ajv _ _) fun _ r3 hr3 hn3=>Af7 hr3 (ie.Ahv _ hr3 (by omega)) (se.Ahv _) fun _ _ _ _=>⟨_,rfl⟩
  ·intro acc e ts hg h;unfold Anj
   refine Aia (fun _=>Aia (fun hc=>?_) fun _=>⟨_,rfl⟩) fun _=>⟨_,rfl⟩
   obtain ⟨g1,g2,_⟩:=hg.tail (Abq hc)
   exact Af7 g1 (ie.Akv _ g1 (by omega)) (se.Akv _) fun _ r hr hn=>ih.targets _ _ _ hr (by omega)
end
end Go.Proofs.YtkdjiehclahliaaGreatDoor
