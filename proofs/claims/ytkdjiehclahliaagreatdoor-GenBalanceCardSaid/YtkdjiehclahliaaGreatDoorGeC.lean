/- Texts of mine for genBalance_card, part 3. -/
import Derived.Test.YtkdjiehclahliaaGreatDoorGeB
set_option linter.unusedSimpArgs false
set_option linter.unusedVariables false
set_option linter.unusedSectionVars false
namespace Go.Proofs.YtkdjiehclahliaaGreatDoor
set_option maxRecDepth 100000
section
open Go Go.RowKit
def Eh.f (_k:Nat) (Ac:List (Int×ByteArray×Int×Int)) (Ae:Int):Option (Int×ByteArray×Int×Int):=(AZ Ac Ae).bind fun x2=>some (x2.1,x2.2.1,x2.2.2.1,x2.2.2.2)
theorem Eh.ok {k b0 Aw:Nat} {Ac:List (Int×ByteArray×Int×Int)} {Ae:Int} {B8:Ab} {Av:Ar} {r:Int×ByteArray×Int×Int} (h:Eh.f k Ac Ae=some r) (AK:Bf FJ 4 B8 (Aa Av Ac Aw) Ac): Ct Tryz.prog 27 #[pt b0] [bk b0 #[Aa Av Ac Aw,iv Ae] 93] [B8] (fun e l1=>e=.returned (.agg #[iv r.1,sv r.2.1,iv r.2.2.1,iv r.2.2.2])∧l1=[bk b0 #[Aa Av Ac Aw,iv Ae] 93]):=by
 refine Cz (args:=[pt b0]) Tryz.func27 rfl (B0 rfl) ?_
 intro A X hh_
 obtain ⟨Ba,_⟩:=hh_
 unfold Eh.f at h
 refine K.eq (env':=[(0,pt b0)]) (l':=bk b0 #[Aa Av Ac Aw,iv Ae] 93 :: X) rfl rfl (ksr (knp #[iv 0,sv noS,iv 0,iv 0] 96 fun b1=>(Ad (Bz (kpr [(0,0),(1,0),(2,0),(3,3),(4,0),(5,0),(6,0),(7,3)] [1] (Ax 3 (AU 0 0 rfl (Ax 3 (AU 0 1 rfl (BY ?_))))))))))
 refine bnd h fun x2 hx2 h=>(F8 (T:=96) (kd:=.i64) Vw rfl hx2 AK fun p3 e4 y5=>?_)
 have e4:Elem _ p3 [iv x2.1,sv x2.2.1,iv x2.2.2.1,iv x2.2.2.2]:=e4
 refine E8 rfl e4 (t2 Ba) (AQ 0 4 #[iv x2.1,sv x2.2.1,iv x2.2.2.1,iv x2.2.2.2] (Ad (Cr ?_)))
 obtain rfl:=Ap h
 exact HY 0 4 rfl [bk b0 #[Aa Av Ac Aw,iv Ae] 93] (K.drop (BH ⟨rfl,rfl⟩))
def EB.f (k:Nat) (Ac:List (Int×ByteArray×Int×Int)) (Ae:Int) (a1:ByteArray):Option (Bool):=(Eh.f k Ac Ae).bind fun r1=>(cond (r1.1 == 2) (some (r1.2.1.toList == a1.toList)) (cond (r1.1 == 5) (some (r1.2.1.toList == a1.toList)) (some false)):Option Bool).bind fun q3=>some (q3)
theorem EB.ok {k b0 Aw:Nat} {Ac:List (Int×ByteArray×Int×Int)} {Ae:Int} {a1:ByteArray} {B8:Ab} {Av:Ar} {r:Bool} (h:EB.f k Ac Ae a1=some r) (AK:Bf FJ 4 B8 (Aa Av Ac Aw) Ac): Ct Tryz.prog 42 #[pt b0,sv a1] [bk b0 #[Aa Av Ac Aw,iv Ae] 93] [B8] (fun e l1=>e=.returned (bv r)∧l1=[bk b0 #[Aa Av Ac Aw,iv Ae] 93]):=by
 refine Cz (args:=[pt b0,sv a1]) Tryz.func42 rfl (B0 rfl) ?_
 intro A X hh_
 obtain ⟨Ba,_⟩:=hh_
 unfold EB.f at h
 refine K.eq (env':=[(0,pt b0),(1,sv a1)]) (l':=bk b0 #[Aa Av Ac Aw,iv Ae] 93 :: X) rfl rfl (ksr (kx 1 (AY (kx 1 (bnd h fun r1 hr1 h=>(CI (Eh.ok hr1 AK) rfl ⟨Ba,trivial⟩ (knp #[iv 0,sv noS,iv 0,iv 0] 96 fun b2=>(AQ 0 4 #[iv r1.1,sv r1.2.1,iv r1.2.2.1,iv r1.2.2.2] (Ad (bnd h fun q3 hq3 h=>?_))))))))))
 refine Gr [(4,bv q3)] (bk b0 #[Aa Av Ac Aw,iv Ae] 93 :: X) ?_ ?_
 ·clear hq3
  refine Cr ?_
  obtain rfl:=Ap h
  exact kdn rfl
 ·have h:=hq3
  clear hq3
  refine Bc (kx 1 (kld 0 0 rfl (kx 2 ?_)))
  refine Dw 11 h (fun h=>?_) fun h=>?_
  ·exact kx 6 (kld 0 1 rfl (K.drop (kx 4 (Ad (C2 ⟨gb (Ap h),trivial⟩)))))
  ·refine kx 1 (kld 0 0 rfl (kx 3 ?_))
   refine Dw 16 h (fun h=>?_) fun h=>?_
   ·exact kx 1 (kld 0 1 rfl (K.drop (kx 4 (Ad (C2 ⟨gb (Ap h),trivial⟩)))))
   ·exact kx 6 (Ad (K.drop (C2 ⟨gb (Ap h),trivial⟩)))
def CJ.f (k:Nat) (Ac:List (Int×ByteArray×Int×Int)) (Ae:Int) (a1:ByteArray):Option (Bool×Int):=(EB.f k Ac Ae a1).bind fun r1=>cond r1 (some (true,IntKind.i64.wrap (Ae+1))) (some (false,Ae))
theorem CJ.ok {k b0 Aw:Nat} {Ac:List (Int×ByteArray×Int×Int)} {Ae:Int} {a1:ByteArray} {B8:Ab} {Av:Ar} {r:Bool×Int} (h:CJ.f k Ac Ae a1=some r) (AK:Bf FJ 4 B8 (Aa Av Ac Aw) Ac): Ct Tryz.prog 40 #[pt b0,sv a1] [bk b0 #[Aa Av Ac Aw,iv Ae] 93] [B8] (fun e l1=>e=.returned (bv r.1)∧l1=[bk b0 #[Aa Av Ac Aw,iv r.2] 93]):=by
 refine Cz (args:=[pt b0,sv a1]) Tryz.func40 rfl (B0 rfl) ?_
 intro A X hh_
 obtain ⟨Ba,_⟩:=hh_
 unfold CJ.f at h
 refine K.eq (env':=[(0,pt b0),(1,sv a1)]) (l':=bk b0 #[Aa Av Ac Aw,iv Ae] 93 :: X) rfl rfl (ksr (kx 1 (Ad (Bz (ksr (kx 2 (bnd h fun r1 hr1 h=>(CI (EB.ok hr1 AK) rfl ⟨Ba,trivial⟩ (Ad ?_)))))))))
 refine AF h (fun h=>?_) fun h=>?_
 ·refine ksr (kx 3 (kld 0 1 rfl (kx 3 (AQ 1 1 #[Aa Av Ac Aw,iv (IntKind.i64.wrap (Ae+1))] (AY (kx 1 (Ad (Cr (CZ ?_)))))))))
  obtain rfl:=Ap h
  exact kdn rfl
 ·refine Bt (AB (ksr (kx 1 (Ad (Cr ?_)))))
  obtain rfl:=Ap h
  exact kdn rfl
def H8 (i:Int):Value:=.iface 90 (.agg #[.int .i64 4,.int .i64 i])
def JI.f (_k:Nat) (Ac:List (Int×ByteArray×Int×Int)) (Ae:Int) (a1:Int):Option (PR (Unit)):=some (PR.bad a1)
theorem JI.ok {k b0 Aw:Nat} {Ac:List (Int×ByteArray×Int×Int)} {Ae a1:Int} {B8:Ab} {Av:Ar} {r:PR (Unit)} (h:JI.f k Ac Ae a1=some r) (AK:Bf FJ 4 B8 (Aa Av Ac Aw) Ac): Ct Tryz.prog 28 #[pt b0,iv a1] [bk b0 #[Aa Av Ac Aw,iv Ae] 93] [B8] (PR.Post H8 (fun (r:Unit) e l1=>e=.returned (.tuple #[])∧l1=[bk b0 #[Aa Av Ac Aw,iv Ae] 93]) r):=by
 refine Cz (args:=[pt b0,iv a1]) Tryz.func28 rfl (B0 rfl) ?_
 intro A X hh_
 obtain ⟨Ba,_⟩:=hh_
 unfold JI.f at h
 refine K.eq (env':=[(0,pt b0),(1,iv a1)]) (l':=bk b0 #[Aa Av Ac Aw,iv Ae] 93 :: X) rfl rfl (Bc (kx 3 ?_))
 obtain rfl:=Ap h
 exact Arx (v:=H8 a1) (by kernel_rfl) (by kernel_rfl) (by kernel_rfl) (Ari [] (K.drop (BH PR.Ai4)))
def Dj.f (k:Nat) (Ac:List (Int×ByteArray×Int×Int)) (Ae:Int) (a1:ByteArray):Option (PR (Int)):=(CJ.f k Ac Ae a1).bind fun r1=>cond (!r1.1) ((Eh.f k Ac r1.2).bind fun r3=>PR.bind (JI.f k Ac r1.2 r3.2.2.2) fun r4=>some (PR.ok (r1.2))) (some (PR.ok (r1.2)))
theorem Dj.ok {k b0 Aw:Nat} {Ac:List (Int×ByteArray×Int×Int)} {Ae:Int} {a1:ByteArray} {B8:Ab} {Av:Ar} {r:PR (Int)} (h:Dj.f k Ac Ae a1=some r) (AK:Bf FJ 4 B8 (Aa Av Ac Aw) Ac): Ct Tryz.prog 65 #[pt b0,sv a1] [bk b0 #[Aa Av Ac Aw,iv Ae] 93] [B8] (PR.Post H8 (fun (r:Int) e l1=>e=.returned (.tuple #[])∧l1=[bk b0 #[Aa Av Ac Aw,iv r] 93]) r):=by
 refine Cz (args:=[pt b0,sv a1]) Tryz.func65 rfl (B0 rfl) ?_
 intro A X hh_
 obtain ⟨Ba,_⟩:=hh_
 unfold Dj.f at h
 refine K.eq (env':=[(0,pt b0),(1,sv a1)]) (l':=bk b0 #[Aa Av Ac Aw,iv Ae] 93 :: X) rfl rfl (ksr (kx 2 (bnd h fun r1 hr1 h=>(CI (CJ.ok hr1 AK) rfl ⟨Ba,trivial⟩ (kx 1 (Ad ?_))))))
 refine AF h (fun h=>?_) fun h=>?_
 ·refine Bc (kx 2 (bnd h fun r3 hr3 h=>(CI (Eh.ok hr3 AK) rfl ⟨Ba,trivial⟩ (kx 1 (B_ h (fun _ hr4=>(JI.ok hr4 AK)) rfl ⟨Ba,trivial⟩ (fun _ e=>kpn 0 e rfl) fun r4 h=>?_)))))
  rintro _ _ ⟨rfl,rfl⟩
  refine Fb (knl (Cw ?_))
  obtain rfl:=Ap h
  exact V_ ⟨rfl,rfl⟩ rfl
 ·refine Bt (Cw ?_)
  obtain rfl:=Ap h
  exact V_ ⟨rfl,rfl⟩ rfl
def Hc.f (k:Nat) (Ac:List (Int×ByteArray×Int×Int)) (Ae:Int):Option (PR (Int×ByteArray×Int×Int×List Tree×Int)):=(Eh.f k Ac Ae).bind fun r2=>BA (fun (_:Unit)=>some (PR.ok (6,r2.2.1,0,r2.2.2.2,[],IntKind.i64.wrap (Ae+1)))) (fun J4=>cond (r2.1 != 1) (PR.bind (JI.f k Ac Ae r2.2.2.2) fun r6=>J4 ()) (J4 ()))
theorem Hc.ok {k b0 Aw:Nat} {Ac:List (Int×ByteArray×Int×Int)} {Ae:Int} {B8:Ab} {Av:Ar} {r:PR (Int×ByteArray×Int×Int×List Tree×Int)} (h:Hc.f k Ac Ae=some r) (AK:Bf FJ 4 B8 (Aa Av Ac Aw) Ac): Ct Tryz.prog 66 #[pt b0] [bk b0 #[Aa Av Ac Aw,iv Ae] 93] [B8] (PR.Post H8 (fun (r:Int×ByteArray×Int×Int×List Tree×Int) e l1=>∃ (H0_:Ab) (A0_:Ar) (c0_:Nat),AL (Bb 54) 54 H0_ (Aa A0_ r.2.2.2.2.1 c0_) r.2.2.2.2.1∧e=.returned (.agg #[iv r.1,sv r.2.1,iv r.2.2.1,iv r.2.2.2.1,Aa A0_ r.2.2.2.2.1 c0_])∧l1=[H0_,bk b0 #[Aa Av Ac Aw,iv r.2.2.2.2.2] 93]) r):=by
 refine Cz (args:=[pt b0]) Tryz.func66 rfl (B0 rfl) ?_
 intro A X hh_
 obtain ⟨Ba,_⟩:=hh_
 unfold Hc.f at h
 refine K.eq (env':=[(0,pt b0)]) (l':=bk b0 #[Aa Av Ac Aw,iv Ae] 93 :: X) rfl rfl (ksr (knp #[iv 0,sv noS,iv 0,iv 0,nS] 54 fun b1=>(AY (kx 1 (K.Ao (bnd h fun r2 hr2 h=>(CI (Eh.ok hr2 AK) rfl ⟨(.tail _ Ba),trivial⟩ (knp #[iv 0,sv noS,iv 0,iv 0] 96 fun b3=>(AQ 0 4 #[iv r2.1,sv r2.2.1,iv r2.2.2.1,iv r2.2.2.2] (Ad ?_))))))))))
 obtain ⟨J4,hJ4,h⟩:=CG h
 refine CH (τ:=Unit) (fun t=>[(0,pt b0),(2,pt b1),(3,pt b3)]) (fun t=>bk b3 #[iv r2.1,sv r2.2.1,iv r2.2.2.1,iv r2.2.2.2] 96 :: bk b0 #[Aa Av Ac Aw,iv Ae] 93 :: bk b1 #[iv 0,sv noS,iv 0,iv 0,nS] 54 :: X) (fun t=>J4 ()=some r) ?_ ?_
 ·rintro ⟨⟩ h
  subst hJ4
  refine ksr (kx 3 (kld 1 1 rfl (kx 3 (K.Ao (AQ 1 1 #[Aa Av Ac Aw,iv (IntKind.i64.wrap (Ae+1))] (AY (kx 1 (kld 1 1 rfl (kx 1 (kld 1 3 rfl ?_))))))))))
  refine K.Ao (K.drop (kx 1 (K.Ao (AQ 0 5 #[iv 6,sv r2.2.1,iv 0,iv r2.2.2.2,nS] (Ad (Cr ?_))))))
  obtain rfl:=Ap h
  exact HY 0 5 rfl [none_,bk b0 #[Aa Av Ac Aw,iv (IntKind.i64.wrap (Ae+1))] 93] (Di (K.Ao (K.drop (BH (PR.okI ⟨none_,none,0,(AL.nil (Bb 54) 54 none_),rfl,rfl⟩)))))
 ·skip
  refine ksr (kx 1 (kld 0 0 rfl (kx 1 (Ad ?_))))
  refine AF h (fun h=>?_) fun h=>?_
  ·refine Bc (kx 2 (kld 0 3 rfl (K.Ao (B_ h (fun _ MN=>(JI.ok MN AK)) rfl ⟨(t2 Ba),trivial⟩ (fun _ e=>Bk (kpn 2 e rfl)) fun r6 h=>?_))))
   rintro _ _ ⟨rfl,rfl⟩
   exact Fb (Ad (K.Ak (K.Ao (K.Ak (AV () h sb rfl)))))
  ·exact Bt (AB (AV () h sb rfl))
theorem GA:Ft Tryz.prog 52 54 5 64 Tryz.t54 (.agg #[iv 0,sv noS,iv 0,iv 0,nS]):=⟨by kernel_rfl,by kernel_rfl,by kernel_rfl,by kernel_rfl,by kernel_rfl,by kernel_rfl,by decide⟩
def Hs.l0:Nat→(Ac:List (Int×ByteArray×Int×Int))→(J14:(List Tree)→Int→Option (PR (List Tree×Int)))→(l15:List Tree)→(x20:Int)→Option (PR (List Tree×Int))
 | 0,_,_,_,_=>none
 | m21+1,Ac,J14,l15,x20=>(CJ.f m21 Ac x20 (⟨#[44]⟩:ByteArray)).bind fun Fo=>cond Fo.1 (PR.bind (Hc.f m21 Ac Fo.2) fun Dk=>(apd 64 l15 [(Tree.mk Dk.1 Dk.2.1 Dk.2.2.1 Dk.2.2.2.1 Dk.2.2.2.2.1)]).bind fun IQ=>Hs.l0 m21 Ac J14 IQ Dk.2.2.2.2.2) (J14 l15 Fo.2)
def Hs.f (k:Nat) (Ac:List (Int×ByteArray×Int×Int)) (Ae:Int):Option (PR (List Tree×Int)):=PR.bind (Hc.f k Ac Ae) fun r1=>BA (fun (l8:List Tree) (FW:Int)=>some (PR.ok (l8,FW))) (fun J14=>Hs.l0 k Ac J14 ([(Tree.mk r1.1 r1.2.1 r1.2.2.1 r1.2.2.2.1 r1.2.2.2.2.1)]) r1.2.2.2.2.2)
theorem Hs.ok {k b0 Aw:Nat} {Ac:List (Int×ByteArray×Int×Int)} {Ae:Int} {B8:Ab} {Av:Ar} {r:PR (List Tree×Int)} (h:Hs.f k Ac Ae=some r) (AK:Bf FJ 4 B8 (Aa Av Ac Aw) Ac): Ct Tryz.prog 67 #[pt b0] [bk b0 #[Aa Av Ac Aw,iv Ae] 93] [B8] (PR.Post H8 (fun (r:List Tree×Int) e l1=>∃ (H0_:Ab) (A0_:Ar) (c0_:Nat),AL (Bb 54) 54 H0_ (Aa A0_ r.1 c0_) r.1∧e=.returned (Aa A0_ r.1 c0_)∧l1=[H0_,bk b0 #[Aa Av Ac Aw,iv r.2] 93]) r):=by
 refine Cz (args:=[pt b0]) Tryz.func67 rfl (B0 rfl) ?_
 intro A X hh_
 obtain ⟨Ba,_⟩:=hh_
 unfold Hs.f at h
 refine K.eq (env':=[(0,pt b0)]) (l':=bk b0 #[Aa Av Ac Aw,iv Ae] 93 :: X) rfl rfl (ksr (kx 1 (AY (kx 1 (B_ h (fun _ hr1=>(Hc.ok hr1 AK)) rfl ⟨Ba,trivial⟩ (fun _ e=>Bk (kpn 0 e rfl)) fun r1 h=>?_)))))
 rintro _ _ ⟨h2,A3,k4,o5,rfl,rfl⟩
 refine Bn (De #[iv r1.1,sv r1.2.1,iv r1.2.2.1,iv r1.2.2.2.1,Aa A3 r1.2.2.2.2.1 k4] 54 1 fun b7=>(kx 1 (Ad ?_)))
 obtain ⟨J14,I_,h⟩:=CG h
 refine CH (τ:=(List Tree)×Int×Ab×Ar×Nat) (fun t=>[(3,Aa t.2.2.2.1 t.1 t.2.2.2.2)]) (fun t=>bk b0 #[Aa Av Ac Aw,iv t.2.1] 93 :: t.2.2.1 :: X) (fun t=>J14 t.1 t.2.1=some r∧AL (Bb 54) 54 t.2.2.1 (Aa t.2.2.2.1 t.1 t.2.2.2.2) t.1) ?_ ?_
 ·rintro ⟨l8,FW,h9,Fz,k11⟩ ⟨h,Hm⟩
  subst I_
  refine ksr (kx 2 (Ad (Cr ?_)))
  obtain rfl:=Ap h
  exact kdv (Aa Fz l8 k11) [h9,bk b0 #[Aa Av Ac Aw,iv FW] 93] (K.Ao (BH (PR.okI ⟨h9,Fz,k11,Hm,rfl,rfl⟩)))
 ·skip
  refine Co (K.Ao (K.Ao (DO (T:=54) (n:=1) (xs:=[(Tree.mk r1.1 r1.2.1 r1.2.2.1 r1.2.2.2.1 r1.2.2.2.2.1)]) (Ci.one (Ec (k:=r1.1) (t:=r1.2.1) (n:=r1.2.2.1) (a:=r1.2.2.2.1) 54 o5)) rfl rfl (B0 rfl) fun h22 Hp=>(K.Ao (EL (τ:=(List Tree)×Int×Ab×Ar×Nat) (fun t=>[(0,pt b0),(3,Aa t.2.2.2.1 t.1 t.2.2.2.2)]) (fun t=>bk b0 #[Aa Av Ac Aw,iv t.2.1] 93 :: t.2.2.1 :: X) (fun m t=>Hs.l0 m Ac J14 t.1 t.2.1=some r∧AL (Bb 54) 54 t.2.2.1 (Aa t.2.2.2.1 t.1 t.2.2.2.2) t.1) k ([(Tree.mk r1.1 r1.2.1 r1.2.2.1 r1.2.2.2.1 r1.2.2.2.2.1)],r1.2.2.2.2.2,h22,(some ⟨b7,0,none⟩),1) ⟨h,Hp⟩ sb rfl ?_)))))
  clear h
  rintro m21 ⟨l15,x20,h16,IX,k18⟩ ⟨h,o19⟩
  cases m21 with
  | zero=>simp [Hs.l0] at h
  | succ m21 =>
   simp only [Hs.l0] at h
   refine Bz (ksr (kx 1 (bnd h fun Fo OI h=>(CI (CJ.ok OI AK) rfl ⟨(.tail _ Ba),trivial⟩ (Ad ?_)))))
   refine AF h (fun h=>?_) fun h=>?_
   ·refine Bt (AB (Co (Bc (kx 2 (B_ h (fun _ MM=>(Hc.ok MM AK)) rfl ⟨(.tail _ Ba),trivial⟩ (fun _ e=>BZ (Bk (BZ (Bk (kpn 1 e rfl))))) fun Dk h=>?_)))))
    rintro _ _ ⟨h27,A28,k29,L4,rfl,rfl⟩
    refine Bn (De #[iv Dk.1,sv Dk.2.1,iv Dk.2.2.1,iv Dk.2.2.2.1,Aa A28 Dk.2.2.2.2.1 k29] 54 1 fun b32=>(K.Ao (K.Ao (DO (T:=54) (n:=1) (xs:=[(Tree.mk Dk.1 Dk.2.1 Dk.2.2.1 Dk.2.2.2.1 Dk.2.2.2.2.1)]) (Ci.one (Ec (k:=Dk.1) (t:=Dk.2.1) (n:=Dk.2.2.1) (a:=Dk.2.2.2.1) 54 L4)) rfl rfl (B0 rfl) fun h33 Ic=>(K.Ak (bnd h fun IQ SH h=>(F7 rfl GA rfl SH o19 Ic fun h36 A37 k38 o39=>(kx 1 (knl (Bo ?_))))))))))
    exact AB (K.Ao (Ea m21 (IQ,Dk.2.2.2.2.2,h36,A37,k38) (Nat.lt_succ_self _) ⟨h,o39⟩ sb rfl))
   ·exact E6 (CY (CY (E7 (AB (AV (l15,Fo.2,h16,IX,k18) ⟨h,o19⟩ sb rfl)))))
def Ni.f (k:Nat) (Ac:List (Int×ByteArray×Int×Int)) (Ae:Int):Option (Bool):=((Eh.f k Ac Ae).bind fun r2=>cond (r2.1 == 6) (some true) ((EB.f k Ac Ae (⟨#[101,110,100]⟩:ByteArray)).bind fun r4=>cond r4 (some true) ((EB.f k Ac Ae (⟨#[101,108,115,101]⟩:ByteArray)).bind fun r6=>cond r6 (some true) ((EB.f k Ac Ae (⟨#[101,108,115,101,105,102]⟩:ByteArray)).bind fun r8=>some r8))):Option Bool).bind fun q1=>some (q1)
theorem Ni.ok {k b0 Aw:Nat} {Ac:List (Int×ByteArray×Int×Int)} {Ae:Int} {B8:Ab} {Av:Ar} {r:Bool} (h:Ni.f k Ac Ae=some r) (AK:Bf FJ 4 B8 (Aa Av Ac Aw) Ac): Ct Tryz.prog 41 #[pt b0] [bk b0 #[Aa Av Ac Aw,iv Ae] 93] [B8] (fun e l1=>e=.returned (bv r)∧l1=[bk b0 #[Aa Av Ac Aw,iv Ae] 93]):=by
 refine Cz (args:=[pt b0]) Tryz.func41 rfl (B0 rfl) ?_
 intro A X hh_
 obtain ⟨Ba,_⟩:=hh_
 unfold Ni.f at h
 refine K.eq (env':=[(0,pt b0)]) (l':=bk b0 #[Aa Av Ac Aw,iv Ae] 93 :: X) rfl rfl (ksr (kx 1 (Ad (bnd h fun q1 hq1 h=>?_))))
 refine Gr [(2,bv q1)] (bk b0 #[Aa Av Ac Aw,iv Ae] 93 :: X) ?_ ?_
 ·clear hq1
  refine Cr ?_
  obtain rfl:=Ap h
  exact kdn rfl
 ·have h:=hq1
  clear hq1
  refine Bc (kx 1 (bnd h fun r2 hr2 h=>(CI (Eh.ok hr2 AK) rfl ⟨Ba,trivial⟩ (kx 3 ?_))))
  refine Dw 7 h (fun h=>?_) fun h=>?_
  ·exact kx 12 (Ad (C2 ⟨gb (Ap h),trivial⟩))
  ·refine kx 1 (bnd h fun r4 hr4 h=>(CI (EB.ok hr4 AK) rfl ⟨Ba,trivial⟩ (kx 2 ?_)))
   refine Dw 11 h (fun h=>?_) fun h=>?_
   ·exact kx 8 (Ad (C2 ⟨gb (Ap h),trivial⟩))
   ·refine kx 1 (bnd h fun r6 MN h=>(CI (EB.ok MN AK) rfl ⟨Ba,trivial⟩ (kx 2 ?_)))
    refine Dw 15 h (fun h=>?_) fun h=>?_
    ·exact kx 4 (Ad (C2 ⟨gb (Ap h),trivial⟩))
    ·exact kx 1 (bnd h fun r8 hr8 h=>(CI (EB.ok hr8 AK) rfl ⟨Ba,trivial⟩ (kx 2 (Ad (C2 ⟨gb (Ap h),trivial⟩)))))
def P3.f (_k:Nat) (Ac:Int) (Ae:ByteArray) (Ez:Int) (Ai:Int):Option (Int):=(cond (Ac != 5) (some (Ac != 2)) (some false):Option Bool).bind fun q2=>cond q2 (some (0)) (cond (Ae.toList == (⟨#[111,114]⟩:ByteArray).toList) (some (1)) (cond (Ae.toList == (⟨#[97,110,100]⟩:ByteArray).toList) (some (2)) (BA (fun (x6:Bool)=>cond x6 (some (3)) (cond (Ae.toList == (⟨#[46,46]⟩:ByteArray).toList) (some (4)) (BA (fun (x10:Bool)=>cond x10 (some (5)) (BA (fun (FW:Bool)=>cond FW (some (6)) (some (0))) (fun J14=>cond (Ae.toList == (⟨#[42]⟩:ByteArray).toList) (J14 (Ae.toList == (⟨#[42]⟩:ByteArray).toList)) (cond (Ae.toList == (⟨#[47,47]⟩:ByteArray).toList) (J14 (Ae.toList == (⟨#[47,47]⟩:ByteArray).toList)) (J14 (Ae.toList == (⟨#[37]⟩:ByteArray).toList)))))) (fun J11=>cond (Ae.toList == (⟨#[43]⟩:ByteArray).toList) (J11 (Ae.toList == (⟨#[43]⟩:ByteArray).toList)) (J11 (Ae.toList == (⟨#[45]⟩:ByteArray).toList)))))) (fun J7=>cond (Ae.toList == (⟨#[60]⟩:ByteArray).toList) (J7 (Ae.toList == (⟨#[60]⟩:ByteArray).toList)) (cond (Ae.toList == (⟨#[62]⟩:ByteArray).toList) (J7 (Ae.toList == (⟨#[62]⟩:ByteArray).toList)) (cond (Ae.toList == (⟨#[60,61]⟩:ByteArray).toList) (J7 (Ae.toList == (⟨#[60,61]⟩:ByteArray).toList)) (cond (Ae.toList == (⟨#[62,61]⟩:ByteArray).toList) (J7 (Ae.toList == (⟨#[62,61]⟩:ByteArray).toList)) (cond (Ae.toList == (⟨#[126,61]⟩:ByteArray).toList) (J7 (Ae.toList == (⟨#[126,61]⟩:ByteArray).toList)) (J7 (Ae.toList == (⟨#[61,61]⟩:ByteArray).toList))))))))))
theorem P3.ok {k:Nat} {Ac Ez Ai r:Int} {Ae:ByteArray} (h:P3.f k Ac Ae Ez Ai=some r): Ct Tryz.prog 105 #[.agg #[iv Ac,sv Ae,iv Ez,iv Ai]] [] [] (fun e l1=>e=.returned (iv r)∧l1=[]):=by
 refine Cz (args:=[.agg #[iv Ac,sv Ae,iv Ez,iv Ai]]) Tryz.func105 rfl (B0 rfl) ?_
 intro A X hh_
 unfold P3.f at h
 refine ksr (knp #[iv Ac,sv Ae,iv Ez,iv Ai] 96 fun b1=>(kx 1 (Ad (Bz (bnd h fun q2 hq2 h=>?_)))))
 refine Gr [(1,pt b1),(10,bv q2)] (bk b1 #[iv Ac,sv Ae,iv Ez,iv Ai] 96 :: X) ?_ ?_
 ·clear hq2
  refine AF h (fun h=>?_) fun h=>?_
  ·refine ksr (kx 1 (Ad (Cr (CZ ?_))))
   obtain rfl:=Ap h
   exact K.drop (kdn rfl)
  ·refine Bt (AB (Bz (ksr (kx 1 (kld 0 1 rfl (K.drop (Ad (Co (ksr (kx 2 ?_))))))))))
   refine Ad ?_
   refine AF h (fun h=>?_) fun h=>?_
   ·refine ksr (kx 1 (Ad (Cr (DK (CZ ?_)))))
    obtain rfl:=Ap h
    exact kdn rfl
   ·refine ksr (kx 2 (Ad ?_))
    refine AF h (fun h=>?_) fun h=>?_
    ·refine ksr (kx 1 (Ad (Cr (DK (CZ ?_)))))
     obtain rfl:=Ap h
     exact kdn rfl
    ·obtain ⟨J7,hJ7,h⟩:=CG h
     refine CH (τ:=Bool) (fun t=>[(12,sv Ae),(17,bv t)]) (fun t=>X) (fun t=>J7 t=some r) ?_ ?_
     ·rintro x6 h
      subst hJ7
      refine AF h (fun h=>?_) fun h=>?_
      ·refine ksr (kx 1 (Ad (Cr (DK (CZ ?_)))))
       obtain rfl:=Ap h
       exact kdn rfl
      ·refine ksr (kx 2 (Ad ?_))
       refine AF h (fun h=>?_) fun h=>?_
       ·refine ksr (kx 1 (Ad (Cr (DK (CZ ?_)))))
        obtain rfl:=Ap h
        exact kdn rfl
       ·obtain ⟨J11,Y0,h⟩:=CG h
        refine CH (τ:=Bool) (fun t=>[(12,sv Ae),(26,bv t)]) (fun t=>X) (fun t=>J11 t=some r) ?_ ?_
        ·rintro x10 h
         subst Y0
         refine AF h (fun h=>?_) fun h=>?_
         ·refine ksr (kx 1 (Ad (Cr (DK (CZ ?_)))))
          obtain rfl:=Ap h
          exact kdn rfl
         ·obtain ⟨J14,I_,h⟩:=CG h
          refine CH (τ:=Bool) (fun t=>[(29,bv t)]) (fun t=>X) (fun t=>J14 t=some r) ?_ ?_
          ·rintro FW h
           subst I_
           refine AF h (fun h=>?_) fun h=>?_
           ·refine ksr (kx 1 (Ad (Cr (DK (CZ ?_)))))
            obtain rfl:=Ap h
            exact kdn rfl
           ·refine Bt (Bo (AB (ksr (kx 1 (Ad (Cr ?_))))))
            obtain rfl:=Ap h
            exact kdn rfl
          ·skip
           refine ksr (kx 2 (Ad ?_))
           refine AF h (fun h=>?_) fun h=>?_
           ·exact Bt (AB (AV (Ae.toList == (⟨#[42]⟩:ByteArray).toList) h sb rfl))
           ·refine ksr (kx 2 (Ad ?_))
            refine AF h (fun h=>?_) fun h=>?_
            ·exact Bt (AB (AV (Ae.toList == (⟨#[47,47]⟩:ByteArray).toList) h sb rfl))
            ·exact Bc (kx 2 (Ad (AV (Ae.toList == (⟨#[37]⟩:ByteArray).toList) h sb rfl)))
        ·skip
         refine ksr (kx 2 (Ad ?_))
         refine AF h (fun h=>?_) fun h=>?_
         ·exact Bt (AB (AV (Ae.toList == (⟨#[43]⟩:ByteArray).toList) h sb rfl))
         ·exact Bc (kx 2 (Ad (AV (Ae.toList == (⟨#[45]⟩:ByteArray).toList) h sb rfl)))
     ·skip
      refine ksr (kx 2 (Ad ?_))
      refine AF h (fun h=>?_) fun h=>?_
      ·exact Bt (AB (AV (Ae.toList == (⟨#[60]⟩:ByteArray).toList) h sb rfl))
      ·refine ksr (kx 2 (Ad ?_))
       refine AF h (fun h=>?_) fun h=>?_
       ·exact Bt (AB (AV (Ae.toList == (⟨#[62]⟩:ByteArray).toList) h sb rfl))
       ·refine ksr (kx 2 (Ad ?_))
        refine AF h (fun h=>?_) fun h=>?_
        ·exact Bt (AB (AV (Ae.toList == (⟨#[60,61]⟩:ByteArray).toList) h sb rfl))
        ·refine ksr (kx 2 (Ad ?_))
         refine AF h (fun h=>?_) fun h=>?_
         ·exact Bt (AB (AV (Ae.toList == (⟨#[62,61]⟩:ByteArray).toList) h sb rfl))
         ·refine ksr (kx 2 (Ad ?_))
          refine AF h (fun h=>?_) fun h=>?_
          ·exact Bt (AB (AV (Ae.toList == (⟨#[126,61]⟩:ByteArray).toList) h sb rfl))
          ·exact Bc (kx 2 (Ad (AV (Ae.toList == (⟨#[61,61]⟩:ByteArray).toList) h sb rfl)))
 ·have h:=hq2
  clear hq2
  refine Bc (kx 1 (kld 0 0 rfl (kx 2 ?_)))
  refine Dw 6 h (fun h=>?_) fun h=>?_
  ·exact kx 1 (kld 0 0 rfl (kx 2 (Ad (C2 ⟨gr,gb (Ap h),trivial⟩))))
  ·exact kx 4 (Ad (C2 ⟨gr,gb (Ap h),trivial⟩))
def P4.f (_k:Nat) (Ac:Int) (Ae:ByteArray) (Ez:Int) (Ai:Int) (Au:List Tree):Option (Bool):=(cond (Ac == 6) (some true) (some (Ac == 7)):Option Bool).bind fun q2=>some (q2)
theorem P4.ok {k B2:Nat} {Ac Ez Ai:Int} {Ae:ByteArray} {Au:List Tree} {BF:Ab} {B1:Ar} {r:Bool} (h:P4.f k Ac Ae Ez Ai Au=some r) (Ck:RdR (Bb 54) BF (Aa B1 Au B2) Au): Ct Tryz.prog 107 #[.agg #[iv Ac,sv Ae,iv Ez,iv Ai,Aa B1 Au B2]] [] [BF] (fun e l1=>e=.returned (bv r)∧l1=[]):=by
 refine Cz (args:=[.agg #[iv Ac,sv Ae,iv Ez,iv Ai,Aa B1 Au B2]]) Tryz.func107 rfl (B0 rfl) ?_
 intro A X hh_
 obtain ⟨SL,_⟩:=hh_
 unfold P4.f at h
 refine ksr (knp #[iv Ac,sv Ae,iv Ez,iv Ai,Aa B1 Au B2] 54 fun b1=>(kx 1 (Ad (bnd h fun q2 hq2 h=>?_))))
 refine Gr [(2,bv q2)] (X) ?_ ?_
 ·clear hq2
  refine Cr ?_
  obtain rfl:=Ap h
  exact kdn rfl
 ·have h:=hq2
  clear hq2
  refine Bc (kx 1 (kld 0 0 rfl (kx 2 ?_)))
  refine Dw 6 h (fun h=>?_) fun h=>?_
  ·exact kx 5 (Ad (K.drop (C2 ⟨gb (Ap h),trivial⟩)))
  ·exact kx 1 (kld 0 0 rfl (K.drop (kx 3 (Ad (C2 ⟨gb (Ap h),trivial⟩)))))
theorem St.TI {A:World} {X:List Ab} {w:World}:∀ (n:Nat),St A X w→St A (List.replicate n none_++X) w
 | 0,h=>h
 | n+1,h=>by
  have:=St.TI n h
  exact ⟨⟨fun _ _ h=>(by cases h),fun _ _ _=>.inl rfl,this.sat⟩,this.os,this.tape,this.output,this.size⟩
theorem Bom (p q:Value) (w:World) :
  CallsD Tryz.prog 25 #[p,q] .returning w fun e u' w'=>e=.returned (.tuple #[])∧u'=.returning∧w=w':=by
 refine callsD_of_wpS Tryz.func25 rfl fun c₀ cs hu=>?_
 apply wpS_seq
 apply wpS_region
 simp [wpOpsS,go_sem,recoverD,hu,Tryz.ntmps25,Exit.thenS,Array.replicate_succ]
 refine wpS_of_wp ?_
 go_wp2
 cases c₀
 simp_all [bodyPostS,results,Tryz.results25]
theorem Auw {A w:World} {X:List Ab} {p q:Nat} {x0 x1 x2 x3 x4 y0 y1:Value} {i:Int} (hw:St A (blk p (.cells #[x0,x1,x2,x3,x4] 54 (0,0)) :: blk q (.cells #[y0,y1] 28 (0,0)) :: X) w) :
  CallsD Tryz.prog 25 #[.pointer (some ⟨p,0,none⟩),.pointer (some ⟨q,0,none⟩)] (.panicking [{ v:=H8 i,recovered:=false }]) w fun e u' w'=>e=.returned (.tuple #[])∧settle u'=.returning∧St A (blk p (.cells #[.int .i64 (0:Int),.string (⟨#[]⟩:ByteArray),.int .i64 (0:Int),.int .i64 (0:Int),.slice none 0 0] 54 (0,0)) :: blk q (.cells #[.int .i64 (4:Int),.int .i64 i] 28 (0,0)) :: X) w':=by
 refine callsD_of_wpS Tryz.func25 rfl fun c₀ cs hu=>?_
 apply wpS_seq
 apply wpS_region
 simp [wpOpsS,go_sem,recoverD,hu,Tryz.ntmps25,Exit.thenS,Array.replicate_succ]
 refine wpS_of_wp ?_
 refine (?_:K [] A Tryz.f25.ntmps [(0,.pointer (some ⟨p,0,none⟩)),(1,.pointer (some ⟨q,0,none⟩)),(5,.iface 90 (.agg #[.int .i64 (4:Int),.int .i64 i]))] (blk p (.cells #[x0,x1,x2,x3,x4] 54 (0,0)) :: blk q (.cells #[y0,y1] 28 (0,0)) :: X) _) _ w ⟨rfl,rfl,?_⟩ hw
 rotate_left
 ·intro j v hj
  simp only [Env.get] at hj
  match j with
  | 0=>cases hj;rfl
  | 1=>cases hj;rfl
  | 2=>cases hj
  | 3=>cases hj
  | 4=>cases hj
  | 5=>cases hj;rfl
  | j+6=>cases hj
 refine Co ?_
 refine Bz ?_
 refine Bc ?_
 refine Wh 1 [(0,.pointer (some ⟨p,0,none⟩)),(1,.pointer (some ⟨q,0,none⟩)),(5,.iface 90 (.agg #[.int .i64 (4:Int),.int .i64 i])),(7,.bool false)] (by kernel_rfl) ?_
 refine KG ?_
 refine AB ?_
 refine VW (by kernel_rfl) ?_
 refine Bz ?_
 refine Bc ?_
 refine Wh 3 [(0,.pointer (some ⟨p,0,none⟩)),(1,.pointer (some ⟨q,0,none⟩)),(5,.iface 90 (.agg #[.int .i64 (4:Int),.int .i64 i])),(9,.bool true),(10,.agg #[.int .i64 (4:Int),.int .i64 i])] (by kernel_rfl) ?_
 refine KG ?_
 refine AB ?_
 refine VX (by kernel_rfl) ?_
 refine Bz ?_
 refine Bc ?_
 refine Wg (.cells #[.int .i64 (0:Int),.int .i64 (0:Int)] 90 (0,0)) (fun b=>.pointer (some ⟨b,0,none⟩)) (by kernel_rfl) (by kernel_rfl) (fun _=>by kernel_rfl) fun b1=>?_
 refine Tw (cs':=#[.int .i64 (4:Int),.int .i64 i]) [.st ⟨b1,0,none⟩ (.int .i64 (4:Int)),.st ⟨b1,1,none⟩ (.int .i64 i)] (by kernel_rfl) (by kernel_rfl) (by kernel_rfl) ⟨rfl,rfl,trivial⟩ (by kernel_rfl) ?_
 refine KG ?_
 refine AB ?_
 refine Tv [(0,0),(1,3),(2,1)] (fun w=>FG [blk b1 (.cells #[.int .i64 (4:Int),.int .i64 i] 90 (0,0))] w) (by kernel_rfl) (by kernel_rfl) (fun _ _ d _ _ h=>by cases d <;> exact h) (fun w h_=>⟨h_.sat.on _ (.head _),trivial⟩) ?_
 simp only [EN,List.filterMap_cons,List.filterMap_nil,List.getElem?_toArray,List.getElem?_cons_zero,List.getElem?_cons_succ,Option.map_some,List.drop_succ_cons,List.drop_zero,AD,Be]
 refine Ar2 1 [(0,.pointer (some ⟨p,0,none⟩)),(1,.pointer (some ⟨q,0,none⟩)),(3,.pointer (some ⟨b1,0,none⟩)),(11,.agg #[.int .i64 (0:Int),.string (⟨#[]⟩:ByteArray),.int .i64 (0:Int),.int .i64 (0:Int),.slice none 0 0])] (by kernel_rfl) (by kernel_rfl) ?_
 refine Wj (v:=.agg #[.int .i64 (4:Int),.int .i64 i]) [blk b1 (.cells #[.int .i64 (4:Int),.int .i64 i] 90 (0,0))] [.val (.int .i64 (4:Int)),.val (.int .i64 i)] [.ld ⟨b1,0,none⟩ (.int .i64 (4:Int)),.ld ⟨b1,1,none⟩ (.int .i64 i)] (by kernel_rfl) (by kernel_rfl) (by kernel_rfl) (fun _ h=>h) ⟨⟨0,_,_,_,rfl,rfl,rfl⟩,⟨0,_,_,_,rfl,rfl,rfl⟩,trivial⟩ ?_
 refine Aah (by kernel_rfl) ?_
 refine K.Ao ?_
 refine W4 (cs':=#[.int .i64 (0:Int),.string (⟨#[]⟩:ByteArray),.int .i64 (0:Int),.int .i64 (0:Int),.slice none 0 0]) [.st ⟨p,0,none⟩ (.int .i64 (0:Int)),.st ⟨p,1,none⟩ (.string (⟨#[]⟩:ByteArray)),.st ⟨p,2,none⟩ (.int .i64 (0:Int)),.st ⟨p,3,none⟩ (.int .i64 (0:Int)),.st ⟨p,4,none⟩ (.slice none 0 0)] (by kernel_rfl) (by kernel_rfl) ⟨rfl,rfl,rfl,rfl,rfl,trivial⟩ (by kernel_rfl) ?_
 refine Pi (fun w h_=>⟨h_.sat.on _ (.tail _ (.head _)),trivial⟩) ?_
 refine Aaf ?_
 refine K.Ak ?_
 refine Tw (cs':=#[.int .i64 (4:Int),.int .i64 i]) [.st ⟨q,0,none⟩ (.int .i64 (4:Int)),.st ⟨q,1,none⟩ (.int .i64 i)] (by kernel_rfl) (by kernel_rfl) (by kernel_rfl) ⟨rfl,rfl,trivial⟩ (by kernel_rfl) ?_
 refine K.Ak ?_
 refine K.drop ?_
 refine KG ?_
 refine Bo ?_
 refine K.Ao ?_
 intro a' w' ha' hw'
 have hd:=ha'.defers
 simp [bodyPostS,results,Tryz.results25,hd,settle]
 exact hw'
structure PE where
 Df:List (Int×ByteArray×Int×Int)→Int→Int→Option (PR (Int×ByteArray×Int×Int×List Tree×Int))
 I1:List (Int×ByteArray×Int×Int)→Int→Option (PR (Int×ByteArray×Int×Int×List Tree×Int))
 DU:List (Int×ByteArray×Int×Int)→Int→Option (PR (Int×ByteArray×Int×Int×List Tree×Int))
 FS:List (Int×ByteArray×Int×Int)→Int→Option (PR (List Tree×Int))
 Iy:List (Int×ByteArray×Int×Int)→Int→Option (PR (Int×ByteArray×Int×Int×List Tree×Int))
 DM:List (Int×ByteArray×Int×Int)→Int→Option (PR (List Tree×Int))
def Df.C (fC:List (Int×ByteArray×Int×Int)→Int→Int→Option (PR (Int×ByteArray×Int×Int×List Tree×Int))):Prop:=∀ {Ac:List (Int×ByteArray×Int×Int)} {Ae a1:Int} {b0 Aw:Nat} {B8:Ab} {Av:Ar} {r:PR (Int×ByteArray×Int×Int×List Tree×Int)} (h:fC Ac Ae a1=some r) (AK:Bf FJ 4 B8 (Aa Av Ac Aw) Ac),Ct Tryz.prog 64 #[pt b0,iv a1] [bk b0 #[Aa Av Ac Aw,iv Ae] 93] [B8] (PR.Post H8 (fun (r:Int×ByteArray×Int×Int×List Tree×Int) e l1=>∃ (H0_:Ab) (A0_:Ar) (c0_:Nat),AL (Bb 54) 54 H0_ (Aa A0_ r.2.2.2.2.1 c0_) r.2.2.2.2.1∧e=.returned (.agg #[iv r.1,sv r.2.1,iv r.2.2.1,iv r.2.2.2.1,Aa A0_ r.2.2.2.2.1 c0_])∧l1=[H0_,bk b0 #[Aa Av Ac Aw,iv r.2.2.2.2.2] 93]) r)
def I1.C (fC:List (Int×ByteArray×Int×Int)→Int→Option (PR (Int×ByteArray×Int×Int×List Tree×Int))):Prop:=∀ {Ac:List (Int×ByteArray×Int×Int)} {Ae:Int} {b0 Aw:Nat} {B8:Ab} {Av:Ar} {r:PR (Int×ByteArray×Int×Int×List Tree×Int)} (h:fC Ac Ae=some r) (AK:Bf FJ 4 B8 (Aa Av Ac Aw) Ac),Ct Tryz.prog 104 #[pt b0] [bk b0 #[Aa Av Ac Aw,iv Ae] 93] [B8] (PR.Post H8 (fun (r:Int×ByteArray×Int×Int×List Tree×Int) e l1=>∃ (H0_:Ab) (A0_:Ar) (c0_:Nat),AL (Bb 54) 54 H0_ (Aa A0_ r.2.2.2.2.1 c0_) r.2.2.2.2.1∧e=.returned (.agg #[iv r.1,sv r.2.1,iv r.2.2.1,iv r.2.2.2.1,Aa A0_ r.2.2.2.2.1 c0_])∧l1=[H0_,bk b0 #[Aa Av Ac Aw,iv r.2.2.2.2.2] 93]) r)
def DU.C (fC:List (Int×ByteArray×Int×Int)→Int→Option (PR (Int×ByteArray×Int×Int×List Tree×Int))):Prop:=∀ {Ac:List (Int×ByteArray×Int×Int)} {Ae:Int} {b0 Aw:Nat} {B8:Ab} {Av:Ar} {r:PR (Int×ByteArray×Int×Int×List Tree×Int)} (h:fC Ac Ae=some r) (AK:Bf FJ 4 B8 (Aa Av Ac Aw) Ac),Ct Tryz.prog 106 #[pt b0] [bk b0 #[Aa Av Ac Aw,iv Ae] 93] [B8] (PR.Post H8 (fun (r:Int×ByteArray×Int×Int×List Tree×Int) e l1=>∃ (H0_:Ab) (A0_:Ar) (c0_:Nat),AL (Bb 54) 54 H0_ (Aa A0_ r.2.2.2.2.1 c0_) r.2.2.2.2.1∧e=.returned (.agg #[iv r.1,sv r.2.1,iv r.2.2.1,iv r.2.2.2.1,Aa A0_ r.2.2.2.2.1 c0_])∧l1=[H0_,bk b0 #[Aa Av Ac Aw,iv r.2.2.2.2.2] 93]) r)
def FS.C (fC:List (Int×ByteArray×Int×Int)→Int→Option (PR (List Tree×Int))):Prop:=∀ {Ac:List (Int×ByteArray×Int×Int)} {Ae:Int} {b0 Aw:Nat} {B8:Ab} {Av:Ar} {r:PR (List Tree×Int)} (h:fC Ac Ae=some r) (AK:Bf FJ 4 B8 (Aa Av Ac Aw) Ac),Ct Tryz.prog 125 #[pt b0] [bk b0 #[Aa Av Ac Aw,iv Ae] 93] [B8] (PR.Post H8 (fun (r:List Tree×Int) e l1=>∃ (H0_:Ab) (A0_:Ar) (c0_:Nat),AL (Bb 54) 54 H0_ (Aa A0_ r.1 c0_) r.1∧e=.returned (Aa A0_ r.1 c0_)∧l1=[H0_,bk b0 #[Aa Av Ac Aw,iv r.2] 93]) r)
def Iy.C (fC:List (Int×ByteArray×Int×Int)→Int→Option (PR (Int×ByteArray×Int×Int×List Tree×Int))):Prop:=∀ {Ac:List (Int×ByteArray×Int×Int)} {Ae:Int} {b0 Aw:Nat} {B8:Ab} {Av:Ar} {r:PR (Int×ByteArray×Int×Int×List Tree×Int)} (h:fC Ac Ae=some r) (AK:Bf FJ 4 B8 (Aa Av Ac Aw) Ac),Ct Tryz.prog 134 #[pt b0] [bk b0 #[Aa Av Ac Aw,iv Ae] 93] [B8] (PR.Post H8 (fun (r:Int×ByteArray×Int×Int×List Tree×Int) e l1=>∃ (H0_:Ab) (A0_:Ar) (c0_:Nat),AL (Bb 54) 54 H0_ (Aa A0_ r.2.2.2.2.1 c0_) r.2.2.2.2.1∧e=.returned (.agg #[iv r.1,sv r.2.1,iv r.2.2.1,iv r.2.2.2.1,Aa A0_ r.2.2.2.2.1 c0_])∧l1=[H0_,bk b0 #[Aa Av Ac Aw,iv r.2.2.2.2.2] 93]) r)
def DM.C (fC:List (Int×ByteArray×Int×Int)→Int→Option (PR (List Tree×Int))):Prop:=∀ {Ac:List (Int×ByteArray×Int×Int)} {Ae:Int} {b0 Aw:Nat} {B8:Ab} {Av:Ar} {r:PR (List Tree×Int)} (h:fC Ac Ae=some r) (AK:Bf FJ 4 B8 (Aa Av Ac Aw) Ac),Ct Tryz.prog 43 #[pt b0] [bk b0 #[Aa Av Ac Aw,iv Ae] 93] [B8] (PR.Post H8 (fun (r:List Tree×Int) e l1=>∃ (H0_:Ab) (A0_:Ar) (c0_:Nat),AL (Bb 54) 54 H0_ (Aa A0_ r.1 c0_) r.1∧e=.returned (Aa A0_ r.1 c0_)∧l1=[H0_,bk b0 #[Aa Av Ac Aw,iv r.2] 93]) r)
structure PE.Good (R:PE):Prop where
 Df:Df.C R.Df
 I1:I1.C R.I1
 DU:DU.C R.DU
 FS:FS.C R.FS
 Iy:Iy.C R.Iy
 DM:DM.C R.DM
def Df.l0:Nat→(Rc:PE)→(Ac:List (Int×ByteArray×Int×Int))→(a1:Int)→(r2:Int×ByteArray×Int×Int×List Tree×Int)→(x9:Int)→(x10:ByteArray)→(x11:Int)→(l12:List Tree)→(x17:Int)→Option (PR (Int×ByteArray×Int×Int×List Tree×Int))
 | 0,_,_,_,_,_,_,_,_,_=>none
 | m18+1,Rc,Ac,a1,r2,x9,x10,x11,l12,x17=>(Eh.f m18 Ac x17).bind fun r19=>(P3.f m18 r19.1 r19.2.1 r19.2.2.1 r19.2.2.2).bind fun r21=>cond (decide (r21≤a1)) (some (PR.ok (x9,x10,x11,r2.2.2.2.1,l12,x17))) (BA (fun (x23:Int)=>PR.bind (Rc.Df Ac (IntKind.i64.wrap (x17+1)) x23) fun r25=>Df.l0 m18 Rc Ac a1 r2 11 r19.2.1 0 ([(Tree.mk x9 x10 x11 r2.2.2.2.1 l12),(Tree.mk r25.1 r25.2.1 r25.2.2.1 r25.2.2.2.1 r25.2.2.2.2.1)]) r25.2.2.2.2.2) (fun M2=>cond (r21 == 4) (M2 (IntKind.i64.wrap (r21 - 1))) (M2 r21)))
def Df.g (Rc:PE) (k:Nat) (Ac:List (Int×ByteArray×Int×Int)) (Ae:Int) (a1:Int):Option (PR (Int×ByteArray×Int×Int×List Tree×Int)):=PR.bind (Rc.I1 Ac Ae) fun r2=>Df.l0 k Rc Ac a1 r2 r2.1 r2.2.1 r2.2.2.1 r2.2.2.2.2.1 r2.2.2.2.2.2
theorem Df.C0 {Rc:PE} (hR:Rc.Good) {k:Nat}:Df.C (Df.g Rc k):=by
 intro Ac Ae a1 b0 Aw B8 Av r h AK
 refine Cz (args:=[pt b0,iv a1]) Tryz.func64 rfl (B0 rfl) ?_
 intro A X hh_
 obtain ⟨Ba,_⟩:=hh_
 unfold Df.g at h
 refine K.eq (env':=[(0,pt b0),(1,iv a1)]) (l':=bk b0 #[Aa Av Ac Aw,iv Ae] 93 :: X) rfl rfl (ksr (knp #[iv 0,sv noS,iv 0,iv 0,nS] 54 fun b1=>(AY (kx 1 (K.Ao (B_ h (fun _ hr2=>(hR.I1 hr2 AK)) rfl ⟨(.tail _ Ba),trivial⟩ (fun _ e=>Bk (kpn 1 e rfl)) fun r2 h=>?_))))))
 rintro _ _ ⟨h3,A4,k5,o6,rfl,rfl⟩
 refine Bn (knp #[iv 0,sv noS,iv 0,iv 0,nS] 54 fun b8=>(AQ 0 5 #[iv r2.1,sv r2.2.1,iv r2.2.2.1,iv r2.2.2.2.1,Aa A4 r2.2.2.2.2.1 k5] (Ad (Co (K.Ao (K.mv3 (K.mv3 (K.mv3 (EL (τ:=Int×ByteArray×Int×(List Tree)×Int×Ab×Ar×Nat) (fun t=>[(0,pt b0),(1,iv a1),(4,pt b1),(5,pt b8)]) (fun t=>bk b8 #[iv t.1,sv t.2.1,iv t.2.2.1,iv r2.2.2.2.1,Aa t.2.2.2.2.2.2.1 t.2.2.2.1 t.2.2.2.2.2.2.2] 54 :: bk b0 #[Aa Av Ac Aw,iv t.2.2.2.2.1] 93 :: bk b1 #[iv 0,sv noS,iv 0,iv 0,nS] 54 :: t.2.2.2.2.2.1 :: X) (fun m t=>Df.l0 m Rc Ac a1 r2 t.1 t.2.1 t.2.2.1 t.2.2.2.1 t.2.2.2.2.1=some r∧AL (Bb 54) 54 t.2.2.2.2.2.1 (Aa t.2.2.2.2.2.2.1 t.2.2.2.1 t.2.2.2.2.2.2.2) t.2.2.2.1) k (r2.1,r2.2.1,r2.2.2.1,r2.2.2.2.2.1,r2.2.2.2.2.2,h3,A4,k5) ⟨h,o6⟩ sb rfl ?_)))))))))
 clear h
 rintro m18 ⟨x9,x10,x11,l12,x17,h13,GN,k15⟩ ⟨h,o16⟩
 cases m18 with
 | zero=>simp [Df.l0] at h
 | succ m18 =>
  simp only [Df.l0] at h
  refine Co (ksr (kx 1 (K.Ao (bnd h fun r19 hr19 h=>(CI (Eh.ok hr19 AK) rfl ⟨(t3 Ba),trivial⟩ (knp #[iv 0,sv noS,iv 0,iv 0] 96 fun b20=>(AQ 0 4 #[iv r19.1,sv r19.2.1,iv r19.2.2.1,iv r19.2.2.2] (AY (CE 0 0 4 rfl (bnd h fun r21 Kl h=>?_))))))))))
  refine FN (P3.ok Kl) trivial (kx 1 (Ad (Bz (ksr (kx 3 (Ad ?_))))))
  refine AF h (fun h=>?_) fun h=>?_
  ·refine ksr (CE 2 0 5 rfl (K.drop (K.Ao (K.drop (K.Ao (AQ 0 5 #[iv x9,sv x10,iv x11,iv r2.2.2.2.1,Aa GN l12 k15] (Ad (Cr (CZ (DK ?_))))))))))
   refine CZ (DK ?_)
   obtain rfl:=Ap h
   exact HY 0 5 rfl [h13,bk b0 #[Aa Av Ac Aw,iv x17] 93] (K.drop (K.Ao (BH (PR.okI ⟨h13,GN,k15,o16,rfl,rfl⟩))))
  ·refine Bt (AB (ksr (kx 3 (kld 1 1 rfl (kx 3 (K.Ao (AQ 1 1 #[Aa Av Ac Aw,iv (IntKind.i64.wrap (x17+1))] (AY (kx 2 (Ad ?_))))))))))
   obtain ⟨M2,Y3,h⟩:=CG h
   refine CH (τ:=Int) (fun t=>[(0,pt b0),(1,iv a1),(4,pt b1),(5,pt b8),(6,pt b20),(8,iv t)]) (fun t=>bk b0 #[Aa Av Ac Aw,iv (IntKind.i64.wrap (x17+1))] 93 :: bk b20 #[iv r19.1,sv r19.2.1,iv r19.2.2.1,iv r19.2.2.2] 96 :: bk b8 #[iv x9,sv x10,iv x11,iv r2.2.2.2.1,Aa GN l12 k15] 54 :: bk b1 #[iv 0,sv noS,iv 0,iv 0,nS] 54 :: h13 :: X) (fun t=>M2 t=some r) ?_ ?_
   ·rintro x23 h
    subst Y3
    refine kpr [(0,0),(1,3),(2,0),(3,3),(4,3),(5,0),(6,0),(7,1),(8,1)] [1,2] (Ax 1 (AU 0 1 rfl (Ax 1 (AU 1 3 rfl (Gt 1 0 5 rfl (Ax 2 (kpt (ocp h (fun _ SO=>(hR.Df SO AK)) rfl ⟨(t4 Ba),trivial⟩ (fun _ e=>BZ (Bk (BZ (kpn 4 e rfl)))) fun r25 h=>?_))))))))
    rintro _ _ ⟨h26,A27,k28,o29,rfl,rfl⟩
    refine Bn (Dp [2,3] rfl (kpt (Hq #[iv x9,sv x10,iv x11,iv r2.2.2.2.1,Aa GN l12 k15,iv r25.1,sv r25.2.1,iv r25.2.2.1,iv r25.2.2.2.1,Aa A27 r25.2.2.2.2.1 k28] 54 2 fun b31=>(Dp [3,4] rfl (BY (kx 1 (K.Bq (AQ 0 5 #[iv 11,sv r19.2.1,iv 0,iv r2.2.2.2.1,.slice (some ⟨b31,0,none⟩) 2 2] (K.Bq (K.drop ?_))))))))))
    refine knl (Bo (AB (K.Ak (K.mv5 (J9 fun p32=>(K.Ak (DO (T:=54) (n:=2) (xs:=[(Tree.mk x9 x10 x11 r2.2.2.2.1 l12),(Tree.mk r25.1 r25.2.1 r25.2.2.1 r25.2.2.2.1 r25.2.2.2.2.1)]) (Ci.cons (Ec (k:=x9) (t:=x10) (n:=x11) (a:=r2.2.2.2.1) 54 o16) p32 (Ci.one (Ec (k:=r25.1) (t:=r25.2.1) (n:=r25.2.2.1) (a:=r25.2.2.2.1) 54 o29))) rfl rfl (B0 rfl) fun h33 Ic=>(K.mv3 (K.mv3 (K.mv3 ?_))))))))))
    exact Ea m18 (11,r19.2.1,0,[(Tree.mk x9 x10 x11 r2.2.2.2.1 l12),(Tree.mk r25.1 r25.2.1 r25.2.2.1 r25.2.2.2.1 r25.2.2.2.2.1)],r25.2.2.2.2.2,h33,(some ⟨b31,0,none⟩),2) (Nat.lt_succ_self _) ⟨h,Ic⟩ sb rfl
   ·skip
    refine ksr (kx 2 (Ad ?_))
    refine AF h (fun h=>?_) fun h=>?_
    ·exact Bc (kx 3 (Ad (AV (IntKind.i64.wrap (r21 - 1)) h sb rfl)))
    ·exact Bt (AB (AV r21 h sb rfl))
def I1.g (Rc:PE) (k:Nat) (Ac:List (Int×ByteArray×Int×Int)) (Ae:Int):Option (PR (Int×ByteArray×Int×Int×List Tree×Int)):=(Eh.f k Ac Ae).bind fun r2=>BA (fun (x5:Int) (x6:ByteArray) (x7:Int)=>some (PR.ok (x5,x6,x7,r2.2.2.2,[],IntKind.i64.wrap (Ae+1)))) (fun J8=>cond (r2.1 == 3) (J8 4 (⟨#[]⟩:ByteArray) r2.2.2.1) (cond (r2.1 == 4) (J8 5 r2.2.1 0) ((EB.f k Ac Ae (⟨#[110,105,108]⟩:ByteArray)).bind fun r11=>cond r11 (J8 1 (⟨#[]⟩:ByteArray) 0) ((EB.f k Ac Ae (⟨#[116,114,117,101]⟩:ByteArray)).bind fun r13=>cond r13 (J8 2 (⟨#[]⟩:ByteArray) 0) ((EB.f k Ac Ae (⟨#[102,97,108,115,101]⟩:ByteArray)).bind fun BQ=>cond BQ (J8 3 (⟨#[]⟩:ByteArray) 0) (BA (fun (x17:Bool) (x18:Int)=>cond x17 (PR.bind (Rc.Df Ac x18 7) fun r21=>some (PR.ok (10,r2.2.1,0,r2.2.2.2,[(Tree.mk r21.1 r21.2.1 r21.2.2.1 r21.2.2.2.1 r21.2.2.2.2.1)],r21.2.2.2.2.2))) ((CJ.f k Ac x18 (⟨#[123]⟩:ByteArray)).bind fun PD=>cond PD.1 (PR.bind (Rc.FS Ac PD.2) fun r32=>some (PR.ok (12,(⟨#[]⟩:ByteArray),0,r2.2.2.2,r32.1,r32.2))) (PR.bind (Rc.DU Ac PD.2) fun r38=>some (PR.ok (r38.1,r38.2.1,r38.2.2.1,r38.2.2.2.1,r38.2.2.2.2.1,r38.2.2.2.2.2))))) (fun J19=>(CJ.f k Ac Ae (⟨#[110,111,116]⟩:ByteArray)).bind fun r44=>cond r44.1 (J19 r44.1 r44.2) ((CJ.f k Ac r44.2 (⟨#[35]⟩:ByteArray)).bind fun Mn=>cond Mn.1 (J19 Mn.1 Mn.2) ((CJ.f k Ac Mn.2 (⟨#[45]⟩:ByteArray)).bind fun r48=>J19 r48.1 r48.2)))))))))
theorem I1.C0 {Rc:PE} (hR:Rc.Good) {k:Nat}:I1.C (I1.g Rc k):=by
 intro Ac Ae b0 Aw B8 Av r h AK
 refine Cz (args:=[pt b0]) Tryz.func104 rfl (B0 rfl) ?_
 intro A X hh_
 obtain ⟨Ba,_⟩:=hh_
 unfold I1.g at h
 refine K.eq (env':=[(0,pt b0)]) (l':=bk b0 #[Aa Av Ac Aw,iv Ae] 93 :: X) rfl rfl (ksr (knp #[iv 0,sv noS,iv 0,iv 0,nS] 54 fun b1=>(AY (kx 1 (K.Ao (bnd h fun r2 hr2 h=>(CI (Eh.ok hr2 AK) rfl ⟨(.tail _ Ba),trivial⟩ (knp #[iv 0,sv noS,iv 0,iv 0] 96 fun b3=>(AQ 0 4 #[iv r2.1,sv r2.2.1,iv r2.2.2.1,iv r2.2.2.2] (AY ?_))))))))))
 refine kx 1 (kld 0 3 rfl (kx 1 (knp #[iv 0,sv noS,iv 0,iv 0,nS] 54 fun b4=>(AQ 0 5 #[iv 0,sv noS,iv 0,iv r2.2.2.2,nS] (Ad ?_)))))
 obtain ⟨J8,hJ8,h⟩:=CG h
 refine CH (τ:=Int×ByteArray×Int) (fun t=>[(0,pt b0),(2,pt b1),(4,pt b4)]) (fun t=>bk b4 #[iv t.1,sv t.2.1,iv t.2.2,iv r2.2.2.2,nS] 54 :: bk b0 #[Aa Av Ac Aw,iv Ae] 93 :: bk b1 #[iv 0,sv noS,iv 0,iv 0,nS] 54 :: X) (fun t=>J8 t.1 t.2.1 t.2.2=some r) ?_ ?_
 ·rintro ⟨x5,x6,x7⟩ h
  subst hJ8
  refine ksr (kx 3 (kld 1 1 rfl (kx 3 (K.Ao (AQ 1 1 #[Aa Av Ac Aw,iv (IntKind.i64.wrap (Ae+1))] (AY (CE 1 0 5 rfl (K.Ao (K.drop (K.Ao ?_))))))))))
  refine AQ 0 5 #[iv x5,sv x6,iv x7,iv r2.2.2.2,nS] (Ad (Cr ?_))
  obtain rfl:=Ap h
  exact HY 0 5 rfl [none_,bk b0 #[Aa Av Ac Aw,iv (IntKind.i64.wrap (Ae+1))] 93] (Di (K.Ao (K.drop (BH (PR.okI ⟨none_,none,0,(AL.nil (Bb 54) 54 none_),rfl,rfl⟩)))))
 ·skip
  refine Co (ksr (kx 1 (kld 1 0 rfl (kx 2 (Ad ?_)))))
  refine AF h (fun h=>?_) fun h=>?_
  ·refine kpr [(0,0),(1,3),(2,0),(3,1)] [1] (Ax 1 (AU 0 2 rfl (Ax 1 (kpt (ost 0 1 #[iv 4,sv noS,iv 0,iv r2.2.2.2,nS] (Dp [1] rfl (BY (kx 1 (AQ 2 1 #[iv 4,sv noS,iv r2.2.2.1,iv r2.2.2.2,nS] (K.Ao ?_))))))))))
   exact K.drop (knl (Bo (AB (AV (4,(⟨#[]⟩:ByteArray),r2.2.2.1) h sb rfl))))
  ·refine ksr (kx 1 (kld 1 0 rfl (kx 2 (Ad ?_))))
   refine AF h (fun h=>?_) fun h=>?_
   ·refine kpr [(0,0),(1,3),(2,0),(3,1)] [1] (Ax 1 (AU 0 1 rfl (Ax 1 (kpt (ost 0 1 #[iv 5,sv noS,iv 0,iv r2.2.2.2,nS] (Dp [1] rfl (BY (kx 1 (AQ 1 1 #[iv 5,sv r2.2.1,iv 0,iv r2.2.2.2,nS] (K.Ao ?_))))))))))
    exact K.drop (knl (Bo (AB (AV (5,r2.2.1,0) h sb rfl))))
   ·refine ksr (kx 1 (K.Ak (bnd h fun r11 OF h=>(CI (EB.ok OF AK) rfl ⟨(t3 Ba),trivial⟩ (kx 1 (Ad ?_))))))
    refine AF h (fun h=>?_) fun h=>?_
    ·exact Bc (kx 1 (K.Ao (AQ 0 1 #[iv 1,sv noS,iv 0,iv r2.2.2.2,nS] (K.Ak (K.drop (knl (Bo (AB (AV (1,(⟨#[]⟩:ByteArray),0) h sb rfl)))))))))
    ·refine ksr (kx 1 (bnd h fun r13 OG h=>(CI (EB.ok OG AK) rfl ⟨(t3 Ba),trivial⟩ (kx 1 (Ad ?_)))))
     refine AF h (fun h=>?_) fun h=>?_
     ·exact Bc (kx 1 (K.Ao (AQ 0 1 #[iv 2,sv noS,iv 0,iv r2.2.2.2,nS] (K.Ak (K.drop (knl (Bo (AB (AV (2,(⟨#[]⟩:ByteArray),0) h sb rfl)))))))))
     ·refine ksr (kx 1 (bnd h fun BQ Lr h=>(CI (EB.ok Lr AK) rfl ⟨(t3 Ba),trivial⟩ (kx 1 (Ad ?_)))))
      refine AF h (fun h=>?_) fun h=>?_
      ·exact Bc (kx 1 (K.Ao (AQ 0 1 #[iv 3,sv noS,iv 0,iv r2.2.2.2,nS] (K.Ak (K.drop (knl (Bo (AB (AV (3,(⟨#[]⟩:ByteArray),0) h sb rfl)))))))))
      ·obtain ⟨J19,Y2,h⟩:=CG h
       refine CH (τ:=Bool×Int) (fun t=>[(0,pt b0),(2,pt b1),(3,pt b3),(40,bv t.1)]) (fun t=>bk b0 #[Aa Av Ac Aw,iv t.2] 93 :: bk b3 #[iv r2.1,sv r2.2.1,iv r2.2.2.1,iv r2.2.2.2] 96 :: bk b1 #[iv 0,sv noS,iv 0,iv 0,nS] 54 :: X) (fun t=>J19 t.1 t.2=some r) ?_ ?_
       ·rintro ⟨x17,x18⟩ h
        subst Y2
        refine AF h (fun h=>?_) fun h=>?_
        ·refine Bz (kpr [(0,0),(1,3),(2,0),(3,3),(4,0),(5,1),(6,1)] [1] (Ax 1 (AU 0 1 rfl (Ax 1 (AU 0 3 rfl (Ax 1 (kpt (ocp h (fun _ Kl=>(hR.Df Kl AK)) rfl ⟨(t2 Ba),trivial⟩ (fun _ e=>Bk (BZ (Bk (kpn 2 e rfl)))) fun r21 h=>?_))))))))
         rintro _ _ ⟨h22,A23,k24,F9,rfl,rfl⟩
         refine Bn (Dp [2] rfl (kpt (Hq #[iv r21.1,sv r21.2.1,iv r21.2.2.1,iv r21.2.2.2.1,Aa A23 r21.2.2.2.2.1 k24] 54 1 fun b27=>(Dp [3] rfl (BY (kx 1 (K.Bq (AQ 0 5 #[iv 10,sv r2.2.1,iv 0,iv r2.2.2.2,.slice (some ⟨b27,0,none⟩) 1 1] (K.Bq (K.drop ?_))))))))))
         refine Ad (Cr (DK (CZ (K.Ak (K.Ak (DO (T:=54) (n:=1) (xs:=[(Tree.mk r21.1 r21.2.1 r21.2.2.1 r21.2.2.2.1 r21.2.2.2.2.1)]) (Ci.one (Ec (k:=r21.1) (t:=r21.2.1) (n:=r21.2.2.1) (a:=r21.2.2.2.1) 54 F9)) rfl rfl (B0 rfl) fun h28 o29=>?_))))))
         obtain rfl:=Ap h
         exact HY 1 5 rfl [h28,bk b0 #[Aa Av Ac Aw,iv r21.2.2.2.2.2] 93] (K.Ao (K.drop (BH (PR.okI ⟨h28,(some ⟨b27,0,none⟩),1,o29,rfl,rfl⟩))))
        ·refine ksr (kx 1 (bnd h fun PD Ze h=>(CI (CJ.ok Ze AK) rfl ⟨(t2 Ba),trivial⟩ (kx 1 (Ad ?_)))))
         refine AF h (fun h=>?_) fun h=>?_
         ·refine Bz (kpr [(0,0),(1,3),(2,0),(3,1)] [1] (Ax 1 (AU 0 3 rfl (Ax 1 (kpt (ocp h (fun _ OJ=>(hR.FS OJ AK)) rfl ⟨(t2 Ba),trivial⟩ (fun _ e=>Bk (BZ (Bk (kpn 2 e rfl)))) fun r32 h=>?_))))))
          rintro _ _ ⟨h33,A34,G4,IV,rfl,rfl⟩
          refine Bn (Dp [2] rfl (BY (kx 1 (K.mv3 (AQ 0 5 #[iv 12,sv noS,iv 0,iv r2.2.2.2,Aa A34 r32.1 G4] (K.mv3 (K.drop (Ad (Cr (DK ?_))))))))))
          refine CZ ?_
          obtain rfl:=Ap h
          exact HY 0 5 rfl [h33,bk b0 #[Aa Av Ac Aw,iv r32.2] 93] (K.drop (BH (PR.okI ⟨h33,A34,G4,IV,rfl,rfl⟩)))
         ·refine ksr (kx 1 (B_ h (fun _ OM=>(hR.DU OM AK)) rfl ⟨(t2 Ba),trivial⟩ (fun _ e=>Bk (BZ (Bk (kpn 2 e rfl)))) fun r38 h=>?_))
          rintro _ _ ⟨h39,LK,k41,Rf,rfl,rfl⟩
          refine Bn (K.Ak (K.drop (K.Ak (AQ 0 5 #[iv r38.1,sv r38.2.1,iv r38.2.2.1,iv r38.2.2.2.1,Aa LK r38.2.2.2.2.1 k41] (Ad (Cr (DK (CZ ?_))))))))
          obtain rfl:=Ap h
          exact HY 0 5 rfl [h39,bk b0 #[Aa Av Ac Aw,iv r38.2.2.2.2.2] 93] (K.drop (BH (PR.okI ⟨h39,LK,k41,Rf,rfl,rfl⟩)))
       ·skip
        refine ksr (kx 1 (bnd h fun r44 OO h=>(CI (CJ.ok OO AK) rfl ⟨(t3 Ba),trivial⟩ (K.Ao (K.drop (kx 1 (Ad ?_)))))))
        refine AF h (fun h=>?_) fun h=>?_
        ·exact Bt (AB (AV (r44.1,r44.2) h sb rfl))
        ·refine ksr (kx 1 (bnd h fun Mn Zj h=>(CI (CJ.ok Zj AK) rfl ⟨(t2 Ba),trivial⟩ (kx 1 (Ad ?_)))))
         refine AF h (fun h=>?_) fun h=>?_
         ·exact Bt (AB (AV (Mn.1,Mn.2) h sb rfl))
         ·exact Bc (kx 1 (bnd h fun r48 Zk h=>(CI (CJ.ok Zk AK) rfl ⟨(t2 Ba),trivial⟩ (kx 1 (Ad (AV (r48.1,r48.2) h sb rfl))))))
def DU.l0:Nat→(Rc:PE)→(Ac:List (Int×ByteArray×Int×Int))→(r2:Int×ByteArray×Int×Int)→(x15:Int)→(x16:ByteArray)→(x17:Int)→(x18:Int)→(l19:List Tree)→(x24:Int)→Option (PR (Int×ByteArray×Int×Int×List Tree×Int))
 | 0,_,_,_,_,_,_,_,_,_=>none
 | IS+1,Rc,Ac,r2,x15,x16,x17,x18,l19,x24=>(CJ.f IS Ac x24 (⟨#[91]⟩:ByteArray)).bind fun Dk=>cond Dk.1 (PR.bind (Rc.Df Ac Dk.2 0) fun r28=>PR.bind (Dj.f IS Ac r28.2.2.2.2.2 (⟨#[93]⟩:ByteArray)) fun Ig=>DU.l0 IS Rc Ac r2 7 (⟨#[]⟩:ByteArray) 0 r2.2.2.2 ([(Tree.mk x15 x16 x17 x18 l19),(Tree.mk r28.1 r28.2.1 r28.2.2.1 r28.2.2.2.1 r28.2.2.2.2.1)]) Ig) ((CJ.f IS Ac Dk.2 (⟨#[46]⟩:ByteArray)).bind fun r40=>cond r40.1 (PR.bind (Hc.f IS Ac r40.2) fun E1=>DU.l0 IS Rc Ac r2 7 (⟨#[]⟩:ByteArray) 0 r2.2.2.2 ([(Tree.mk x15 x16 x17 x18 l19),(Tree.mk 5 E1.2.1 E1.2.2.1 E1.2.2.2.1 E1.2.2.2.2.1)]) E1.2.2.2.2.2) ((CJ.f IS Ac r40.2 (⟨#[40]⟩:ByteArray)).bind fun r53=>cond r53.1 (BA (fun (l56:List Tree) (x61:Int)=>PR.bind (Dj.f IS Ac x61 (⟨#[41]⟩:ByteArray)) fun Fy=>DU.l0 IS Rc Ac r2 8 (⟨#[]⟩:ByteArray) 0 r2.2.2.2 l56 Fy) (fun Ve=>(EB.f IS Ac r53.2 (⟨#[41]⟩:ByteArray)).bind fun r65=>cond (!r65) (PR.bind (Rc.DM Ac r53.2) fun EQ=>(apd 64 [(Tree.mk x15 x16 x17 x18 l19)] EQ.1).bind fun MZ=>Ve MZ EQ.2) (Ve ([(Tree.mk x15 x16 x17 x18 l19)]) r53.2))) (some (PR.ok (x15,x16,x17,x18,l19,r53.2)))))
def DU.g (Rc:PE) (k:Nat) (Ac:List (Int×ByteArray×Int×Int)) (Ae:Int):Option (PR (Int×ByteArray×Int×Int×List Tree×Int)):=(Eh.f k Ac Ae).bind fun r2=>BA (fun (x4:Int) (x5:ByteArray) (x6:Int) (x7:Int) (l8:List Tree) (FW:Int)=>DU.l0 k Rc Ac r2 x4 x5 x6 x7 l8 FW) (fun J14=>(CJ.f k Ac Ae (⟨#[40]⟩:ByteArray)).bind fun I5=>cond I5.1 (PR.bind (Rc.Df Ac I5.2 0) fun Ff=>PR.bind (Dj.f k Ac Ff.2.2.2.2.2 (⟨#[41]⟩:ByteArray)) fun r91=>J14 9 (⟨#[]⟩:ByteArray) 0 r2.2.2.2 ([(Tree.mk Ff.1 Ff.2.1 Ff.2.2.1 Ff.2.2.2.1 Ff.2.2.2.2.1)]) r91) (PR.bind (Hc.f k Ac I5.2) fun r95=>J14 r95.1 r95.2.1 r95.2.2.1 r95.2.2.2.1 r95.2.2.2.2.1 r95.2.2.2.2.2))
theorem DU.C0 {Rc:PE} (hR:Rc.Good) {k:Nat}:DU.C (DU.g Rc k):=by
 intro Ac Ae b0 Aw B8 Av r h AK
 refine Cz (args:=[pt b0]) Tryz.func106 rfl (B0 rfl) ?_
 intro A X hh_
 obtain ⟨Ba,_⟩:=hh_
 unfold DU.g at h
 refine K.eq (env':=[(0,pt b0)]) (l':=bk b0 #[Aa Av Ac Aw,iv Ae] 93 :: X) rfl rfl (ksr (knp #[iv 0,sv noS,iv 0,iv 0,nS] 54 fun b1=>(AY (kx 1 (K.Ao (bnd h fun r2 hr2 h=>(CI (Eh.ok hr2 AK) rfl ⟨(.tail _ Ba),trivial⟩ (kx 2 (AY (knp #[iv 0,sv noS,iv 0,iv 0,nS] 54 fun b3=>?_))))))))))
 refine Ad ?_
 obtain ⟨J14,I_,h⟩:=CG h
 refine CH (τ:=Int×ByteArray×Int×Int×(List Tree)×Int×Ab×Ar×Nat) (fun t=>[(0,pt b0),(2,pt b1),(3,iv r2.2.2.2),(4,pt b3)]) (fun t=>bk b3 #[iv t.1,sv t.2.1,iv t.2.2.1,iv t.2.2.2.1,Aa t.2.2.2.2.2.2.2.1 t.2.2.2.2.1 t.2.2.2.2.2.2.2.2] 54 :: bk b0 #[Aa Av Ac Aw,iv t.2.2.2.2.2.1] 93 :: bk b1 #[iv 0,sv noS,iv 0,iv 0,nS] 54 :: t.2.2.2.2.2.2.1 :: X) (fun t=>J14 t.1 t.2.1 t.2.2.1 t.2.2.2.1 t.2.2.2.2.1 t.2.2.2.2.2.1=some r∧AL (Bb 54) 54 t.2.2.2.2.2.2.1 (Aa t.2.2.2.2.2.2.2.1 t.2.2.2.2.1 t.2.2.2.2.2.2.2.2) t.2.2.2.2.1) ?_ ?_
 ·rintro ⟨x4,x5,x6,x7,l8,FW,h9,Fz,k11⟩ ⟨h,Hm⟩
  subst I_
  refine Co (EL (τ:=Int×ByteArray×Int×Int×(List Tree)×Int×Ab×Ar×Nat) (fun t=>[(0,pt b0),(2,pt b1),(3,iv r2.2.2.2),(4,pt b3)]) (fun t=>bk b3 #[iv t.1,sv t.2.1,iv t.2.2.1,iv t.2.2.2.1,Aa t.2.2.2.2.2.2.2.1 t.2.2.2.2.1 t.2.2.2.2.2.2.2.2] 54 :: bk b0 #[Aa Av Ac Aw,iv t.2.2.2.2.2.1] 93 :: bk b1 #[iv 0,sv noS,iv 0,iv 0,nS] 54 :: t.2.2.2.2.2.2.1 :: X) (fun m t=>DU.l0 m Rc Ac r2 t.1 t.2.1 t.2.2.1 t.2.2.2.1 t.2.2.2.2.1 t.2.2.2.2.2.1=some r∧AL (Bb 54) 54 t.2.2.2.2.2.2.1 (Aa t.2.2.2.2.2.2.2.1 t.2.2.2.2.1 t.2.2.2.2.2.2.2.2) t.2.2.2.2.1) k (x4,x5,x6,x7,l8,FW,h9,Fz,k11) ⟨h,Hm⟩ sb rfl ?_)
  clear h
  rintro IS ⟨x15,x16,x17,x18,l19,x24,h20,A21,k22⟩ ⟨h,Hp⟩
  cases IS with
  | zero=>simp [DU.l0] at h
  | succ IS =>
   simp only [DU.l0] at h
   refine Co (Co (ksr (kx 1 (K.Ao (bnd h fun Dk MM h=>(CI (CJ.ok MM AK) rfl ⟨(t3 Ba),trivial⟩ (kx 1 (Ad ?_))))))))
   refine AF h (fun h=>?_) fun h=>?_
   ·refine Bz (kpr [(0,0),(1,3),(2,0),(3,1)] [1] (Ax 1 (Gt 0 0 5 rfl (Ax 1 (kpt (ocp h (fun _ SP=>(hR.Df SP AK)) rfl ⟨(t3 Ba),trivial⟩ (fun _ e=>Bk (BZ (BZ (Bk (BZ (kpn 3 e rfl)))))) fun r28 h=>?_))))))
    rintro _ _ ⟨h29,Jl,k31,o32,rfl,rfl⟩
    refine Bn (Dp [2] rfl (BY (De #[iv x15,sv x16,iv x17,iv x18,Aa A21 l19 k22,iv r28.1,sv r28.2.1,iv r28.2.2.1,iv r28.2.2.2.1,Aa Jl r28.2.2.2.2.1 k31] 54 2 fun b34=>(kx 1 (K.mv3 (AQ 0 5 #[iv 7,sv noS,iv 0,iv r2.2.2.2,.slice (some ⟨b34,0,none⟩) 2 2] (Fw (kx 1 (K.mv3 (B_ h (fun _ OK=>(Dj.ok OK AK)) rfl ⟨(t5 Ba),trivial⟩ (fun _ e=>BZ (BZ (Bk (BZ (kpn 5 e rfl))))) fun Ig h=>?_))))))))))
    rintro _ _ ⟨rfl,rfl⟩
    refine Fb (knl (Bo (Bo (AB (K.mv3 (K.mv5 (J9 fun p37=>(K.mv3 (DO (T:=54) (n:=2) (xs:=[(Tree.mk x15 x16 x17 x18 l19),(Tree.mk r28.1 r28.2.1 r28.2.2.1 r28.2.2.2.1 r28.2.2.2.2.1)]) (Ci.cons (Ec (k:=x15) (t:=x16) (n:=x17) (a:=x18) 54 Hp) p37 (Ci.one (Ec (k:=r28.1) (t:=r28.2.1) (n:=r28.2.2.1) (a:=r28.2.2.2.1) 54 o32))) rfl rfl (B0 rfl) fun h38 o39=>(K.mv3 ?_))))))))))
    exact K.Ak (K.mv3 (Ea IS (7,(⟨#[]⟩:ByteArray),0,r2.2.2.2,[(Tree.mk x15 x16 x17 x18 l19),(Tree.mk r28.1 r28.2.1 r28.2.2.1 r28.2.2.2.1 r28.2.2.2.2.1)],Ig,h38,(some ⟨b34,0,none⟩),2) (Nat.lt_succ_self _) ⟨h,o39⟩ sb rfl))
   ·refine ksr (kx 1 (bnd h fun r40 SS h=>(CI (CJ.ok SS AK) rfl ⟨(t3 Ba),trivial⟩ (kx 1 (Ad ?_)))))
    refine AF h (fun h=>?_) fun h=>?_
    ·refine ksr (kx 1 (B_ h (fun _ Zg=>(Hc.ok Zg AK)) rfl ⟨(t3 Ba),trivial⟩ (fun _ e=>Bk (BZ (BZ (Bk (BZ (kpn 3 e rfl)))))) fun E1 h=>?_))
     rintro _ _ ⟨h43,A44,k45,Pw,rfl,rfl⟩
     refine Bn (knp #[iv 0,sv noS,iv 0,iv 0,nS] 54 fun b48=>(AQ 0 5 #[iv E1.1,sv E1.2.1,iv E1.2.2.1,iv E1.2.2.2.1,Aa A44 E1.2.2.2.2.1 k45] (AY (kx 1 (AQ 0 1 #[iv 5,sv E1.2.1,iv E1.2.2.1,iv E1.2.2.2.1,Aa A44 E1.2.2.2.2.1 k45] (Fw (kx 1 (CE 3 0 5 rfl (CE 0 0 5 rfl (K.drop ?_))))))))))
     refine De #[iv x15,sv x16,iv x17,iv x18,Aa A21 l19 k22,iv 5,sv E1.2.1,iv E1.2.2.1,iv E1.2.2.2.1,Aa A44 E1.2.2.2.2.1 k45] 54 2 fun b49=>(kx 1 (K.mv3 (AQ 0 5 #[iv 7,sv noS,iv 0,iv r2.2.2.2,.slice (some ⟨b49,0,none⟩) 2 2] (knl (Bo (Bo (AB (K.Ak (K.mv5 (J9 fun p50=>?_))))))))))
     exact K.Ak (DO (T:=54) (n:=2) (xs:=[(Tree.mk x15 x16 x17 x18 l19),(Tree.mk 5 E1.2.1 E1.2.2.1 E1.2.2.2.1 E1.2.2.2.2.1)]) (Ci.cons (Ec (k:=x15) (t:=x16) (n:=x17) (a:=x18) 54 Hp) p50 (Ci.one (Ec (k:=5) (t:=E1.2.1) (n:=E1.2.2.1) (a:=E1.2.2.2.1) 54 Pw))) rfl rfl (B0 rfl) fun h51 Rj=>(K.mv3 (K.mv3 (K.mv3 (Ea IS (7,(⟨#[]⟩:ByteArray),0,r2.2.2.2,[(Tree.mk x15 x16 x17 x18 l19),(Tree.mk 5 E1.2.1 E1.2.2.1 E1.2.2.2.1 E1.2.2.2.2.1)],E1.2.2.2.2.2,h51,(some ⟨b49,0,none⟩),2) (Nat.lt_succ_self _) ⟨h,Rj⟩ sb rfl)))))
    ·refine ksr (kx 1 (bnd h fun r53 Zn h=>(CI (CJ.ok Zn AK) rfl ⟨(t3 Ba),trivial⟩ (kx 1 (Ad ?_)))))
     refine AF h (fun h=>?_) fun h=>?_
     ·refine ksr (kx 1 (CE 1 0 5 rfl (De #[iv x15,sv x16,iv x17,iv x18,Aa A21 l19 k22] 54 1 fun b55=>(kx 1 (K.Ak (AQ 0 5 #[iv 8,sv noS,iv 0,iv r2.2.2.2,.slice (some ⟨b55,0,none⟩) 1 1] (Ad ?_)))))))
      obtain ⟨Ve,A9o,h⟩:=CG h
      refine CH (τ:=(List Tree)×Int×Ab×Ar×Nat) (fun t=>[(0,pt b0),(2,pt b1),(3,iv r2.2.2.2),(4,pt b3)]) (fun t=>bk b3 #[iv 8,sv noS,iv 0,iv r2.2.2.2,Aa t.2.2.2.1 t.1 t.2.2.2.2] 54 :: bk b0 #[Aa Av Ac Aw,iv t.2.1] 93 :: bk b1 #[iv 0,sv noS,iv 0,iv 0,nS] 54 :: t.2.2.1 :: X) (fun t=>Ve t.1 t.2.1=some r∧AL (Bb 54) 54 t.2.2.1 (Aa t.2.2.2.1 t.1 t.2.2.2.2) t.1) ?_ ?_
      ·rintro ⟨l56,x61,h57,GO,k59⟩ ⟨h,o60⟩
       subst A9o
       refine Bc (kx 1 (K.Ao (B_ h (fun _ Zp=>(Dj.ok Zp AK)) rfl ⟨(t3 Ba),trivial⟩ (fun _ e=>BZ (BZ (Bk (BZ (kpn 3 e rfl))))) fun Fy h=>?_)))
       rintro _ _ ⟨rfl,rfl⟩
       exact Fb (knl (Bo (Bo (AB (K.mv3 (K.mv3 (K.Ak (K.mv3 (Ea IS (8,(⟨#[]⟩:ByteArray),0,r2.2.2.2,l56,Fy,h57,GO,k59) (Nat.lt_succ_self _) ⟨h,o60⟩ sb rfl)))))))))
      ·skip
       refine ksr (kx 1 (K.Ak (bnd h fun r65 Bec h=>(CI (EB.ok Bec AK) rfl ⟨(t4 Ba),trivial⟩ (kx 1 (Ad ?_))))))
       refine AF h (fun h=>?_) fun h=>?_
       ·refine kpr [(0,0),(1,3),(2,0),(3,1)] [1] (Ax 1 (AU 0 4 rfl (Ax 1 (kpt (ocp h (fun _ MO=>(hR.DM MO AK)) rfl ⟨(t4 Ba),trivial⟩ (fun _ e=>Bk (BZ (BZ (Bk (BZ (kpn 4 e rfl)))))) fun EQ h=>?_)))))
        rintro _ _ ⟨h68,A69,k70,Nc,rfl,rfl⟩
        refine Bn (Dp [2] rfl (BY (K.mv5 (K.Bq (DO (T:=54) (n:=1) (xs:=[(Tree.mk x15 x16 x17 x18 l19)]) (Ci.one (Ec (k:=x15) (t:=x16) (n:=x17) (a:=x18) 54 Hp)) rfl rfl (B0 rfl) fun h73 Py=>(K.Ao (K.Ao (bnd h fun MZ VI h=>(F7 rfl GA rfl VI Py Nc fun h76 UT VS o79=>(kx 1 ?_))))))))))
        exact K.Ak (AQ 4 1 #[iv 8,sv noS,iv 0,iv r2.2.2.2,Aa UT MZ VS] (Ad (K.Ao (K.mv3 (K.mv3 (K.mv3 (AV (MZ,EQ.2,h76,UT,VS) ⟨h,o79⟩ sb rfl)))))))
       ·exact Bt (AB (K.Bq (K.mv3 (DO (T:=54) (n:=1) (xs:=[(Tree.mk x15 x16 x17 x18 l19)]) (Ci.one (Ec (k:=x15) (t:=x16) (n:=x17) (a:=x18) 54 Hp)) rfl rfl (B0 rfl) fun h80 TN=>(K.mv3 (K.Ak (K.mv3 (AV ([(Tree.mk x15 x16 x17 x18 l19)],r53.2,h80,(some ⟨b55,0,none⟩),1) ⟨h,TN⟩ sb rfl))))))))
     ·refine ksr (CE 1 0 5 rfl (K.Ao (K.drop (K.Ao (AQ 0 5 #[iv x15,sv x16,iv x17,iv x18,Aa A21 l19 k22] (Ad (Cr (DK (DK (CZ ?_))))))))))
      refine DK ?_
      obtain rfl:=Ap h
      exact HY 0 5 rfl [h20,bk b0 #[Aa Av Ac Aw,iv r53.2] 93] (K.drop (K.Ao (BH (PR.okI ⟨h20,A21,k22,Hp,rfl,rfl⟩))))
 ·skip
  refine ksr (kx 1 (K.Ao (bnd h fun I5 MP h=>(CI (CJ.ok MP AK) rfl ⟨(t2 Ba),trivial⟩ (Ad ?_)))))
  refine AF h (fun h=>?_) fun h=>?_
  ·refine ksr (kx 2 (B_ h (fun _ Zw=>(hR.Df Zw AK)) rfl ⟨(t2 Ba),trivial⟩ (fun _ e=>Bk (Bk (kpn 2 e rfl))) fun Ff h=>?_))
   rintro _ _ ⟨h85,A86,QE,o88,rfl,rfl⟩
   refine Bn (De #[iv Ff.1,sv Ff.2.1,iv Ff.2.2.1,iv Ff.2.2.2.1,Aa A86 Ff.2.2.2.2.1 QE] 54 1 fun b90=>(kx 1 (K.mv3 (AQ 0 5 #[iv 9,sv noS,iv 0,iv r2.2.2.2,.slice (some ⟨b90,0,none⟩) 1 1] (Fw (kx 1 (K.mv3 (B_ h (fun _ Bep=>(Dj.ok Bep AK)) rfl ⟨(t4 Ba),trivial⟩ (fun _ e=>Bk (kpn 4 e rfl)) fun r91 h=>?_))))))))
   rintro _ _ ⟨rfl,rfl⟩
   exact Fb (Ad (K.mv3 (K.mv3 (DO (T:=54) (n:=1) (xs:=[(Tree.mk Ff.1 Ff.2.1 Ff.2.2.1 Ff.2.2.2.1 Ff.2.2.2.2.1)]) (Ci.one (Ec (k:=Ff.1) (t:=Ff.2.1) (n:=Ff.2.2.1) (a:=Ff.2.2.2.1) 54 o88)) rfl rfl (B0 rfl) fun h93 Rp=>(K.mv3 (K.Ak (K.mv3 (AV (9,(⟨#[]⟩:ByteArray),0,r2.2.2.2,[(Tree.mk Ff.1 Ff.2.1 Ff.2.2.1 Ff.2.2.2.1 Ff.2.2.2.2.1)],r91,h93,(some ⟨b90,0,none⟩),1) ⟨h,Rp⟩ sb rfl))))))))
  ·refine Bc (kx 1 (B_ h (fun _ MQ=>(Hc.ok MQ AK)) rfl ⟨(t2 Ba),trivial⟩ (fun _ e=>Bk (kpn 2 e rfl)) fun r95 h=>?_))
   rintro _ _ ⟨h96,K3,KF,KN,rfl,rfl⟩
   exact Bn (K.Ak (AQ 0 5 #[iv r95.1,sv r95.2.1,iv r95.2.2.1,iv r95.2.2.2.1,Aa K3 r95.2.2.2.2.1 KF] (Ad (K.Ao (K.mv3 (K.mv3 (K.mv3 (AV (r95.1,r95.2.1,r95.2.2.1,r95.2.2.2.1,r95.2.2.2.2.1,r95.2.2.2.2.2,h96,K3,KF) ⟨h,KN⟩ sb rfl))))))))
def FS.l0:Nat→(Rc:PE)→(Ac:List (Int×ByteArray×Int×Int))→(J7:(List Tree)→Int→Option (PR (List Tree×Int)))→(l10:List Tree)→(x15:Int)→Option (PR (List Tree×Int))
 | 0,_,_,_,_,_=>none
 | m16+1,Rc,Ac,J7,l10,x15=>(EB.f m16 Ac x15 (⟨#[125]⟩:ByteArray)).bind fun E0=>cond (!E0) (PR.bind (Rc.Iy Ac x15) fun r19=>(apd 64 l10 [(Tree.mk r19.1 r19.2.1 r19.2.2.1 r19.2.2.2.1 r19.2.2.2.2.1)]).bind fun l28=>BA (fun (x33:Bool) (x34:Int)=>cond x33 (J7 l28 x34) (FS.l0 m16 Rc Ac J7 l28 x34)) (fun J35=>(CJ.f m16 Ac r19.2.2.2.2.2 (⟨#[44]⟩:ByteArray)).bind fun Ih=>cond (!Ih.1) ((CJ.f m16 Ac Ih.2 (⟨#[59]⟩:ByteArray)).bind fun r39=>J35 (!r39.1) r39.2) (J35 false Ih.2))) (J7 l10 x15)
def FS.g (Rc:PE) (k:Nat) (Ac:List (Int×ByteArray×Int×Int)) (Ae:Int):Option (PR (List Tree×Int)):=BA (fun (l1:List Tree) (x6:Int)=>PR.bind (Dj.f k Ac x6 (⟨#[125]⟩:ByteArray)) fun r8=>some (PR.ok (l1,r8))) (fun J7=>FS.l0 k Rc Ac J7 ([]) Ae)
theorem FS.C0 {Rc:PE} (hR:Rc.Good) {k:Nat}:FS.C (FS.g Rc k):=by
 intro Ac Ae b0 Aw B8 Av r h AK
 refine Cz (args:=[pt b0]) Tryz.func125 rfl (B0 rfl) ?_
 intro A X hh_
 obtain ⟨Ba,_⟩:=hh_
 unfold FS.g at h
 refine K.eq (env':=[(0,pt b0)]) (l':=bk b0 #[Aa Av Ac Aw,iv Ae] 93 :: X) rfl rfl (ksr (kx 1 (AY (kx 1 (Ad ?_)))))
 obtain ⟨J7,hJ7,h⟩:=CG h
 refine CH (τ:=(List Tree)×Int×Ab×Ar×Nat) (fun t=>[(0,pt b0),(3,Aa t.2.2.2.1 t.1 t.2.2.2.2)]) (fun t=>bk b0 #[Aa Av Ac Aw,iv t.2.1] 93 :: t.2.2.1 :: X) (fun t=>J7 t.1 t.2.1=some r∧AL (Bb 54) 54 t.2.2.1 (Aa t.2.2.2.1 t.1 t.2.2.2.2) t.1) ?_ ?_
 ·rintro ⟨l1,x6,h2,A3,k4⟩ ⟨h,o5⟩
  subst hJ7
  refine ksr (kx 1 (B_ h (fun _ hr8=>(Dj.ok hr8 AK)) rfl ⟨(.tail _ Ba),trivial⟩ (fun _ e=>Bk (kpn 1 e rfl)) fun r8 h=>?_))
  rintro _ _ ⟨rfl,rfl⟩
  refine Fb (AY (kx 2 (Ad (Cr ?_))))
  obtain rfl:=Ap h
  exact kdv (Aa A3 l1 k4) [h2,bk b0 #[Aa Av Ac Aw,iv r8] 93] (K.Ao (BH (PR.okI ⟨h2,A3,k4,o5,rfl,rfl⟩)))
 ·skip
  refine Co (Di (K.Ao (EL (τ:=(List Tree)×Int×Ab×Ar×Nat) (fun t=>[(0,pt b0),(3,Aa t.2.2.2.1 t.1 t.2.2.2.2)]) (fun t=>bk b0 #[Aa Av Ac Aw,iv t.2.1] 93 :: t.2.2.1 :: X) (fun m t=>FS.l0 m Rc Ac J7 t.1 t.2.1=some r∧AL (Bb 54) 54 t.2.2.1 (Aa t.2.2.2.1 t.1 t.2.2.2.2) t.1) k ([],Ae,none_,none,0) ⟨h,(AL.nil (Bb 54) 54 none_)⟩ sb rfl ?_)))
  clear h
  rintro m16 ⟨l10,x15,h11,A12,k13⟩ ⟨h,IT⟩
  cases m16 with
  | zero=>simp [FS.l0] at h
  | succ m16 =>
   simp only [FS.l0] at h
   refine Bz (ksr (kx 1 (bnd h fun E0 Kk h=>(CI (EB.ok Kk AK) rfl ⟨(.tail _ Ba),trivial⟩ (kx 1 (Ad ?_))))))
   refine AF h (fun h=>?_) fun h=>?_
   ·refine Bt (AB (Co (ksr (kx 2 (B_ h (fun _ hr19=>(hR.Iy hr19 AK)) rfl ⟨(.tail _ Ba),trivial⟩ (fun _ e=>Bk (BZ (Bk (BZ (Bk (kpn 1 e rfl)))))) fun r19 h=>?_)))))
    rintro _ _ ⟨h20,A21,k22,Hp,rfl,rfl⟩
    refine Bn (De #[iv r19.1,sv r19.2.1,iv r19.2.2.1,iv r19.2.2.2.1,Aa A21 r19.2.2.2.2.1 k22] 54 1 fun b25=>(K.Ao (K.Ao (DO (T:=54) (n:=1) (xs:=[(Tree.mk r19.1 r19.2.1 r19.2.2.1 r19.2.2.2.1 r19.2.2.2.2.1)]) (Ci.one (Ec (k:=r19.1) (t:=r19.2.1) (n:=r19.2.2.1) (a:=r19.2.2.2.1) 54 Hp)) rfl rfl (B0 rfl) fun h26 JF=>(K.Ak (bnd h fun l28 YF h=>(F7 rfl GA rfl YF IT JF fun h29 Jl k31 o32=>(kx 1 (Ad ?_)))))))))
    obtain ⟨J35,A9d,h⟩:=CG h
    refine CH (τ:=Bool×Int) (fun t=>[(0,pt b0),(3,Aa Jl l28 k31),(19,bv t.1)]) (fun t=>h29 :: bk b0 #[Aa Av Ac Aw,iv t.2] 93 :: X) (fun t=>J35 t.1 t.2=some r) ?_ ?_
    ·rintro ⟨x33,x34⟩ h
     subst A9d
     refine AF h (fun h=>?_) fun h=>?_
     ·exact E6 (VZ rfl (CY (E7 (AB (K.Ao (AV (l28,x34,h29,Jl,k31) ⟨h,o32⟩ sb rfl))))))
     ·exact Bt (Bo (AB (K.Ao (Ea m16 (l28,x34,h29,Jl,k31) (Nat.lt_succ_self _) ⟨h,o32⟩ sb rfl))))
    ·skip
     refine Bc (kx 1 (K.Ao (bnd h fun Ih OL h=>(CI (CJ.ok OL AK) rfl ⟨(.tail _ Ba),trivial⟩ (kx 2 ?_)))))
     refine Dw 15 h (fun h=>?_) fun h=>?_
     ·exact kx 1 (bnd h fun r39 hr39 h=>(CI (CJ.ok hr39 AK) rfl ⟨(.tail _ Ba),trivial⟩ (kx 2 (Ad (K.Ao (AV (!r39.1,r39.2) h sb rfl))))))
     ·exact kx 4 (Ad (K.Ao (AV (false,Ih.2) h sb rfl)))
   ·exact E6 (CY (CY (E7 (AB (AV (l10,x15,h11,A12,k13) ⟨h,IT⟩ sb rfl)))))
def Iy.g (Rc:PE) (k:Nat) (Ac:List (Int×ByteArray×Int×Int)) (Ae:Int):Option (PR (Int×ByteArray×Int×Int×List Tree×Int)):=(Eh.f k Ac Ae).bind fun r2=>BA (fun (x5:Int) (l6:List Tree) (x11:Int)=>PR.bind (Rc.Df Ac x11 0) fun r13=>(apd 64 l6 [(Tree.mk r13.1 r13.2.1 r13.2.2.1 r13.2.2.2.1 r13.2.2.2.2.1)]).bind fun QO=>some (PR.ok (x5,(⟨#[]⟩:ByteArray),0,r2.2.2.2,QO,r13.2.2.2.2.2))) (fun J12=>(CJ.f k Ac Ae (⟨#[91]⟩:ByteArray)).bind fun r27=>cond r27.1 (PR.bind (Rc.Df Ac r27.2 0) fun r29=>PR.bind (Dj.f k Ac r29.2.2.2.2.2 (⟨#[93]⟩:ByteArray)) fun r36=>PR.bind (Dj.f k Ac r36 (⟨#[61]⟩:ByteArray)) fun r38=>J12 14 ([(Tree.mk r29.1 r29.2.1 r29.2.2.1 r29.2.2.2.1 r29.2.2.2.2.1)]) r38) ((cond (r2.1 == 1) ((AZ Ac (IntKind.i64.wrap (r27.2+1))).bind fun x57=>cond (x57.1 == 5) ((AZ Ac (IntKind.i64.wrap (r27.2+1))).bind fun x65=>some (x65.2.1.toList == (⟨#[61]⟩:ByteArray).toList)) (some false)) (some false):Option Bool).bind fun q42=>cond q42 (PR.bind (Hc.f k Ac r27.2) fun r44=>PR.bind (Dj.f k Ac r44.2.2.2.2.2 (⟨#[61]⟩:ByteArray)) fun r52=>J12 14 ([(Tree.mk 5 r44.2.1 r44.2.2.1 r44.2.2.2.1 r44.2.2.2.2.1)]) r52) (J12 13 ([]) r27.2)))
theorem Iy.C0 {Rc:PE} (hR:Rc.Good) {k:Nat}:Iy.C (Iy.g Rc k):=by
 intro Ac Ae b0 Aw B8 Av r h AK
 refine Cz (args:=[pt b0]) Tryz.func134 rfl (B0 rfl) ?_
 intro A X hh_
 obtain ⟨Ba,_⟩:=hh_
 unfold Iy.g at h
 refine K.eq (env':=[(0,pt b0)]) (l':=bk b0 #[Aa Av Ac Aw,iv Ae] 93 :: X) rfl rfl (ksr (knp #[iv 0,sv noS,iv 0,iv 0,nS] 54 fun b1=>(AY (kx 1 (K.Ao (bnd h fun r2 hr2 h=>(CI (Eh.ok hr2 AK) rfl ⟨(.tail _ Ba),trivial⟩ (knp #[iv 0,sv noS,iv 0,iv 0] 96 fun b3=>(AQ 0 4 #[iv r2.1,sv r2.2.1,iv r2.2.2.1,iv r2.2.2.2] (AY ?_))))))))))
 refine kx 1 (kld 0 3 rfl (kx 1 (knp #[iv 0,sv noS,iv 0,iv 0,nS] 54 fun b4=>(AQ 0 5 #[iv 14,sv noS,iv 0,iv r2.2.2.2,nS] (Ad ?_)))))
 obtain ⟨J12,Y1,h⟩:=CG h
 refine CH (τ:=Int×(List Tree)×Int×Ab×Ar×Nat) (fun t=>[(0,pt b0),(2,pt b1),(4,pt b4)]) (fun t=>bk b4 #[iv t.1,sv noS,iv 0,iv r2.2.2.2,Aa t.2.2.2.2.1 t.2.1 t.2.2.2.2.2] 54 :: bk b0 #[Aa Av Ac Aw,iv t.2.2.1] 93 :: bk b1 #[iv 0,sv noS,iv 0,iv 0,nS] 54 :: t.2.2.2.1 :: X) (fun t=>J12 t.1 t.2.1 t.2.2.1=some r∧AL (Bb 54) 54 t.2.2.2.1 (Aa t.2.2.2.2.1 t.2.1 t.2.2.2.2.2) t.2.1) ?_ ?_
 ·rintro ⟨x5,l6,x11,h7,A8,k9⟩ ⟨h,o10⟩
  subst Y1
  refine Bz (kpr [(0,0),(1,3),(2,0),(3,1),(4,1)] [0] (Ax 1 (AU 0 4 rfl (Ax 1 (kpt (K.Ao (ocp h (fun _ OG=>(hR.Df OG AK)) rfl ⟨(t3 Ba),trivial⟩ (fun _ e=>Bk (kpn 3 e rfl)) fun r13 h=>?_)))))))
  rintro _ _ ⟨h14,Mx,k16,o17,rfl,rfl⟩
  refine Bn (Dp [2] rfl (kpt (Hq #[iv r13.1,sv r13.2.1,iv r13.2.2.1,iv r13.2.2.2.1,Aa Mx r13.2.2.2.2.1 k16] 54 1 fun b19=>(Dp [3] rfl (BY (K.Ao (K.Ao (DO (T:=54) (n:=1) (xs:=[(Tree.mk r13.1 r13.2.1 r13.2.2.1 r13.2.2.2.1 r13.2.2.2.2.1)]) (Ci.one (Ec (k:=r13.1) (t:=r13.2.1) (n:=r13.2.2.1) (a:=r13.2.2.2.1) 54 o17)) rfl rfl (B0 rfl) fun h20 o21=>(K.Bq (bnd h fun QO Ba6 h=>?_))))))))))
  refine F7 rfl GA rfl Ba6 o10 o21 fun h23 Fs k25 JE=>(kx 1 (K.Ak (AQ 4 1 #[iv x5,sv noS,iv 0,iv r2.2.2.2,Aa Fs QO k25] (AY (CE 0 0 5 rfl (K.drop (K.Ak (AQ 0 5 #[iv x5,sv noS,iv 0,iv r2.2.2.2,Aa Fs QO k25] (Ad (Cr ?_))))))))))
  obtain rfl:=Ap h
  exact HY 0 5 rfl [h23,bk b0 #[Aa Av Ac Aw,iv r13.2.2.2.2.2] 93] (K.drop (BH (PR.okI ⟨h23,Fs,k25,JE,rfl,rfl⟩)))
 ·skip
  refine Co (ksr (kx 1 (K.Ak (bnd h fun r27 Km h=>(CI (CJ.ok Km AK) rfl ⟨(t3 Ba),trivial⟩ (kx 1 (Ad ?_)))))))
  refine AF h (fun h=>?_) fun h=>?_
  ·refine ksr (kx 1 (B_ h (fun _ SQ=>(hR.Df SQ AK)) rfl ⟨(t3 Ba),trivial⟩ (fun _ e=>Bk (BZ (Bk (kpn 3 e rfl)))) fun r29 h=>?_))
   rintro _ _ ⟨h30,Io,k32,Kq,rfl,rfl⟩
   refine Bn (K.mv3 (K.drop (De #[iv r29.1,sv r29.2.1,iv r29.2.2.1,iv r29.2.2.2.1,Aa Io r29.2.2.2.2.1 k32] 54 1 fun Ox=>(kx 1 (K.mv3 (AQ 4 1 #[iv 14,sv noS,iv 0,iv r2.2.2.2,.slice (some ⟨Ox,0,none⟩) 1 1] (AY (kx 1 (K.mv3 (B_ h (fun _ Ls=>(Dj.ok Ls AK)) rfl ⟨(t4 Ba),trivial⟩ (fun _ e=>Bk (BZ (Bk (kpn 4 e rfl)))) fun r36 h=>?_))))))))))
   rintro _ _ ⟨rfl,rfl⟩
   refine Fb (Fw (kx 1 (B_ h (fun _ OM=>(Dj.ok OM AK)) rfl ⟨(t4 Ba),trivial⟩ (fun _ e=>BZ (Bk (kpn 4 e rfl))) fun r38 h=>?_)))
   rintro _ _ ⟨rfl,rfl⟩
   exact Fb (knl (Bo (AB (K.mv3 (K.mv3 (DO (T:=54) (n:=1) (xs:=[(Tree.mk r29.1 r29.2.1 r29.2.2.1 r29.2.2.2.1 r29.2.2.2.2.1)]) (Ci.one (Ec (k:=r29.1) (t:=r29.2.1) (n:=r29.2.2.1) (a:=r29.2.2.2.1) 54 Kq)) rfl rfl (B0 rfl) fun h40 o41=>(K.mv3 (K.Ak (K.mv3 (AV (14,[(Tree.mk r29.1 r29.2.1 r29.2.2.1 r29.2.2.2.1 r29.2.2.2.2.1)],r38,h40,(some ⟨Ox,0,none⟩),1) ⟨h,o41⟩ sb rfl))))))))))
  ·refine bnd h fun q42 YS h=>?_
   refine Gr [(0,pt b0),(2,pt b1),(4,pt b4),(23,bv q42)] (bk b0 #[Aa Av Ac Aw,iv r27.2] 93 :: bk b4 #[iv 14,sv noS,iv 0,iv r2.2.2.2,nS] 54 :: bk b1 #[iv 0,sv noS,iv 0,iv 0,nS] 54 :: X) ?_ ?_
   ·clear YS
    refine AF h (fun h=>?_) fun h=>?_
    ·refine ksr (kx 1 (B_ h (fun _ OO=>(Hc.ok OO AK)) rfl ⟨(t2 Ba),trivial⟩ (fun _ e=>Bk (BZ (Bk (kpn 2 e rfl)))) fun r44 h=>?_))
     rintro _ _ ⟨h45,Nw,k47,Nb,rfl,rfl⟩
     refine Bn (knp #[iv 0,sv noS,iv 0,iv 0,nS] 54 fun b50=>(AQ 0 5 #[iv r44.1,sv r44.2.1,iv r44.2.2.1,iv r44.2.2.2.1,Aa Nw r44.2.2.2.2.1 k47] (AY (kx 1 (AQ 0 1 #[iv 5,sv r44.2.1,iv r44.2.2.1,iv r44.2.2.2.1,Aa Nw r44.2.2.2.2.1 k47] (AY (CE 0 0 5 rfl (K.drop (De #[iv 5,sv r44.2.1,iv r44.2.2.1,iv r44.2.2.2.1,Aa Nw r44.2.2.2.2.1 k47] 54 1 fun Vl=>(kx 1 ?_))))))))))
     refine K.mv3 (AQ 4 1 #[iv 14,sv noS,iv 0,iv r2.2.2.2,.slice (some ⟨Vl,0,none⟩) 1 1] (Fw (kx 1 (K.mv3 (B_ h (fun _ Zm=>(Dj.ok Zm AK)) rfl ⟨(t4 Ba),trivial⟩ (fun _ e=>BZ (Bk (kpn 4 e rfl))) fun r52 h=>?_)))))
     rintro _ _ ⟨rfl,rfl⟩
     exact Fb (knl (Bo (AB (K.mv3 (K.mv3 (DO (T:=54) (n:=1) (xs:=[(Tree.mk 5 r44.2.1 r44.2.2.1 r44.2.2.2.1 r44.2.2.2.2.1)]) (Ci.one (Ec (k:=5) (t:=r44.2.1) (n:=r44.2.2.1) (a:=r44.2.2.2.1) 54 Nb)) rfl rfl (B0 rfl) fun h54 Hb=>(K.mv3 (K.Ak (K.mv3 (AV (14,[(Tree.mk 5 r44.2.1 r44.2.2.1 r44.2.2.2.1 r44.2.2.2.2.1)],r52,h54,(some ⟨Vl,0,none⟩),1) ⟨h,Hb⟩ sb rfl))))))))))
    ·refine Bc (kx 1 (K.Ao (AQ 0 1 #[iv 13,sv noS,iv 0,iv r2.2.2.2,nS] (knl (Bo (AB (Di (K.mv3 (K.mv3 (K.mv3 ?_))))))))))
     exact AV (13,[],r27.2,none_,none,0) ⟨h,(AL.nil (Bb 54) 54 none_)⟩ sb rfl
   ·have h:=YS
    clear YS
    refine IN [(0,0),(1,3),(2,0),(3,0),(4,0),(5,0),(6,0),(7,3),(8,0),(9,0),(10,0),(11,3),(12,0),(13,0),(14,0),(15,3),(16,0),(17,0),(18,0),(19,0),(20,0),(21,0),(22,3),(23,0),(24,0),(25,0),(26,3),(27,0)] [bk b0 #[Aa Av Ac Aw,iv r27.2] 93,bk b3 #[iv r2.1,sv r2.2.1,iv r2.2.2.1,iv r2.2.2.2] 96,B8] (fun w h_=>⟨h_.sat.on _ (.head _),h_.sat.on _ (.tail _ (.tail _ (.head _))),h_.sat.on _ (t4 Ba),trivial⟩) (Ax 1 (AU 1 0 rfl (Ax 2 ?_)))
    refine Dw 27 h (fun h=>?_) fun h=>?_
    ·refine Ax 3 (AU 0 0 rfl (Ax 3 (AU 0 1 rfl (Ax 1 (bnd h fun x57 Bgg h=>(QK (T:=96) (kd:=.i64) Vw rfl Bgg AK fun p58 e59 y60=>?_))))))
     have e59:Elem _ p58 [iv x57.1,sv x57.2.1,iv x57.2.2.1,iv x57.2.2.2]:=e59
     refine Ar5 (off:=0) rfl e59 y60 fun p61 e62 y63=>?_
     have e62:Elem _ p61 [iv x57.1,sv x57.2.1,iv x57.2.2.1,iv x57.2.2.2]:=e62
     refine Pk rfl (by kernel_rfl) (by kernel_rfl) (by kernel_rfl) (by kernel_rfl) e62 (fun w h_=>h_.mem _ (.tail _ (.tail _ (.head _)))) (Ax 3 ?_)
     refine Dw 42 h (fun h=>?_) fun h=>?_
     ·refine Ax 3 (AU 0 0 rfl (Ax 3 (AU 0 1 rfl (Ax 1 (BY (bnd h fun x65 Bgh h=>(F8 (T:=96) (kd:=.i64) Vw rfl Bgh AK fun p66 e67 y68=>?_)))))))
      have e67:Elem _ p66 [iv x65.1,sv x65.2.1,iv x65.2.2.1,iv x65.2.2.2]:=e67
      refine K.Ak (K.drop (GV (off:=1) rfl e67 y68 fun p69 e70 y71=>?_))
      have e70:Elem _ p69 [sv x65.2.1,iv x65.2.2.1,iv x65.2.2.2]:=e70
      exact Hk rfl (by kernel_rfl) (by kernel_rfl) (by kernel_rfl) (by kernel_rfl) e70 (t3 Ba) (kx 3 (Ad (C2 ⟨gr,gr,gr,gb (Ap h),trivial⟩)))
     ·exact Ax 3 (GW (by kernel_rfl) (by kernel_rfl) (Ax 3 (GW (by kernel_rfl) (by kernel_rfl) (Ax 1 (BY (kx 6 (Ad (K.Ak (K.drop (C2 ⟨gr,gr,gr,gb (Ap h),trivial⟩))))))))))
    ·refine Ax 3 (GW (by kernel_rfl) (by kernel_rfl) (Ax 3 (GW (by kernel_rfl) (by kernel_rfl) (Ax 3 (GW (by kernel_rfl) (by kernel_rfl) (Ax 6 (GW (by kernel_rfl) (by kernel_rfl) (Ax 3 (GW (by kernel_rfl) (by kernel_rfl) (Ax 1 ?_))))))))))
     exact BY (kx 6 (Ad (K.Ak (K.drop (C2 ⟨gr,gr,gr,gb (Ap h),trivial⟩)))))
def DM.l0:Nat→(Rc:PE)→(Ac:List (Int×ByteArray×Int×Int))→(J14:(List Tree)→Int→Option (PR (List Tree×Int)))→(l15:List Tree)→(x20:Int)→Option (PR (List Tree×Int))
 | 0,_,_,_,_,_=>none
 | m21+1,Rc,Ac,J14,l15,x20=>(CJ.f m21 Ac x20 (⟨#[44]⟩:ByteArray)).bind fun Fo=>cond Fo.1 (PR.bind (Rc.Df Ac Fo.2 0) fun Dk=>(apd 64 l15 [(Tree.mk Dk.1 Dk.2.1 Dk.2.2.1 Dk.2.2.2.1 Dk.2.2.2.2.1)]).bind fun IQ=>DM.l0 m21 Rc Ac J14 IQ Dk.2.2.2.2.2) (J14 l15 Fo.2)
def DM.g (Rc:PE) (k:Nat) (Ac:List (Int×ByteArray×Int×Int)) (Ae:Int):Option (PR (List Tree×Int)):=PR.bind (Rc.Df Ac Ae 0) fun r1=>BA (fun (l8:List Tree) (FW:Int)=>some (PR.ok (l8,FW))) (fun J14=>DM.l0 k Rc Ac J14 ([(Tree.mk r1.1 r1.2.1 r1.2.2.1 r1.2.2.2.1 r1.2.2.2.2.1)]) r1.2.2.2.2.2)
theorem DM.C0 {Rc:PE} (hR:Rc.Good) {k:Nat}:DM.C (DM.g Rc k):=by
 intro Ac Ae b0 Aw B8 Av r h AK
 refine Cz (args:=[pt b0]) Tryz.func43 rfl (B0 rfl) ?_
 intro A X hh_
 obtain ⟨Ba,_⟩:=hh_
 unfold DM.g at h
 refine K.eq (env':=[(0,pt b0)]) (l':=bk b0 #[Aa Av Ac Aw,iv Ae] 93 :: X) rfl rfl (ksr (kx 1 (AY (kx 1 (B_ h (fun _ hr1=>(hR.Df hr1 AK)) rfl ⟨Ba,trivial⟩ (fun _ e=>Bk (kpn 0 e rfl)) fun r1 h=>?_)))))
 rintro _ _ ⟨h2,A3,k4,o5,rfl,rfl⟩
 refine Bn (De #[iv r1.1,sv r1.2.1,iv r1.2.2.1,iv r1.2.2.2.1,Aa A3 r1.2.2.2.2.1 k4] 54 1 fun b7=>(kx 1 (Ad ?_)))
 obtain ⟨J14,I_,h⟩:=CG h
 refine CH (τ:=(List Tree)×Int×Ab×Ar×Nat) (fun t=>[(3,Aa t.2.2.2.1 t.1 t.2.2.2.2)]) (fun t=>bk b0 #[Aa Av Ac Aw,iv t.2.1] 93 :: t.2.2.1 :: X) (fun t=>J14 t.1 t.2.1=some r∧AL (Bb 54) 54 t.2.2.1 (Aa t.2.2.2.1 t.1 t.2.2.2.2) t.1) ?_ ?_
 ·rintro ⟨l8,FW,h9,Fz,k11⟩ ⟨h,Hm⟩
  subst I_
  refine ksr (kx 2 (Ad (Cr ?_)))
  obtain rfl:=Ap h
  exact kdv (Aa Fz l8 k11) [h9,bk b0 #[Aa Av Ac Aw,iv FW] 93] (K.Ao (BH (PR.okI ⟨h9,Fz,k11,Hm,rfl,rfl⟩)))
 ·skip
  refine Co (K.Ao (K.Ao (DO (T:=54) (n:=1) (xs:=[(Tree.mk r1.1 r1.2.1 r1.2.2.1 r1.2.2.2.1 r1.2.2.2.2.1)]) (Ci.one (Ec (k:=r1.1) (t:=r1.2.1) (n:=r1.2.2.1) (a:=r1.2.2.2.1) 54 o5)) rfl rfl (B0 rfl) fun h22 Hp=>(K.Ao (EL (τ:=(List Tree)×Int×Ab×Ar×Nat) (fun t=>[(0,pt b0),(3,Aa t.2.2.2.1 t.1 t.2.2.2.2)]) (fun t=>bk b0 #[Aa Av Ac Aw,iv t.2.1] 93 :: t.2.2.1 :: X) (fun m t=>DM.l0 m Rc Ac J14 t.1 t.2.1=some r∧AL (Bb 54) 54 t.2.2.1 (Aa t.2.2.2.1 t.1 t.2.2.2.2) t.1) k ([(Tree.mk r1.1 r1.2.1 r1.2.2.1 r1.2.2.2.1 r1.2.2.2.2.1)],r1.2.2.2.2.2,h22,(some ⟨b7,0,none⟩),1) ⟨h,Hp⟩ sb rfl ?_)))))
  clear h
  rintro m21 ⟨l15,x20,h16,IX,k18⟩ ⟨h,o19⟩
  cases m21 with
  | zero=>simp [DM.l0] at h
  | succ m21 =>
   simp only [DM.l0] at h
   refine Bz (ksr (kx 1 (bnd h fun Fo OI h=>(CI (CJ.ok OI AK) rfl ⟨(.tail _ Ba),trivial⟩ (Ad ?_)))))
   refine AF h (fun h=>?_) fun h=>?_
   ·refine Bt (AB (Co (Bc (kx 2 (B_ h (fun _ MM=>(hR.Df MM AK)) rfl ⟨(.tail _ Ba),trivial⟩ (fun _ e=>BZ (Bk (BZ (Bk (kpn 1 e rfl))))) fun Dk h=>?_)))))
    rintro _ _ ⟨h27,A28,k29,L4,rfl,rfl⟩
    refine Bn (De #[iv Dk.1,sv Dk.2.1,iv Dk.2.2.1,iv Dk.2.2.2.1,Aa A28 Dk.2.2.2.2.1 k29] 54 1 fun b32=>(K.Ao (K.Ao (DO (T:=54) (n:=1) (xs:=[(Tree.mk Dk.1 Dk.2.1 Dk.2.2.1 Dk.2.2.2.1 Dk.2.2.2.2.1)]) (Ci.one (Ec (k:=Dk.1) (t:=Dk.2.1) (n:=Dk.2.2.1) (a:=Dk.2.2.2.1) 54 L4)) rfl rfl (B0 rfl) fun h33 Ic=>(K.Ak (bnd h fun IQ SH h=>(F7 rfl GA rfl SH o19 Ic fun h36 A37 k38 o39=>(kx 1 (knl (Bo ?_))))))))))
    exact AB (K.Ao (Ea m21 (IQ,Dk.2.2.2.2.2,h36,A37,k38) (Nat.lt_succ_self _) ⟨h,o39⟩ sb rfl))
   ·exact E6 (CY (CY (E7 (AB (AV (l15,Fo.2,h16,IX,k18) ⟨h,o19⟩ sb rfl)))))
def PE.at:Nat→PE
 | 0=>⟨fun _ _ _=>none,fun _ _=>none,fun _ _=>none,fun _ _=>none,fun _ _=>none,fun _ _=>none⟩
 | k+1=>⟨Df.g (PE.at k) k,I1.g (PE.at k) k,DU.g (PE.at k) k,FS.g (PE.at k) k,Iy.g (PE.at k) k,DM.g (PE.at k) k⟩
theorem PE.good:∀ k,(PE.at k).Good
 | 0=>⟨(by unfold Df.C;intros;rename_i h _;cases (show (none:Option _)=some _ from h)),(by unfold I1.C;intros;rename_i h _;cases (show (none:Option _)=some _ from h)),(by unfold DU.C;intros;rename_i h _;cases (show (none:Option _)=some _ from h)),(by unfold FS.C;intros;rename_i h _;cases (show (none:Option _)=some _ from h)),(by unfold Iy.C;intros;rename_i h _;cases (show (none:Option _)=some _ from h)),(by unfold DM.C;intros;rename_i h _;cases (show (none:Option _)=some _ from h))⟩
 | k+1=>⟨Df.C0 (k:=k) (PE.good k),I1.C0 (k:=k) (PE.good k),DU.C0 (k:=k) (PE.good k),FS.C0 (k:=k) (PE.good k),Iy.C0 (k:=k) (PE.good k),DM.C0 (k:=k) (PE.good k)⟩
def Df.f (k:Nat):=Df.g (PE.at k) k
theorem Df.ok {k:Nat}:Df.C (Df.f k):=Df.C0 (k:=k) (PE.good k)
def DU.f (k:Nat):=DU.g (PE.at k) k
theorem DU.ok {k:Nat}:DU.C (DU.f k):=DU.C0 (k:=k) (PE.good k)
def DM.f (k:Nat):=DM.g (PE.at k) k
theorem DM.ok {k:Nat}:DM.C (DM.f k):=DM.C0 (k:=k) (PE.good k)
structure PS where
 Dr:List (Int×ByteArray×Int×Int)→Int→Bool→Option (PR (Int×ByteArray×Int×Int×List Tree×Int))
 Iz:List (Int×ByteArray×Int×Int)→Int→Option (PR (Int×ByteArray×Int×Int×List Tree×Int))
 I2:List (Int×ByteArray×Int×Int)→Int→Option (PR (Int×ByteArray×Int×Int×List Tree×Int))
 Gh:List (Int×ByteArray×Int×Int)→Int→Option (PR (List Tree×Int))
 I0:List (Int×ByteArray×Int×Int)→Int→Int→Option (PR (Int×ByteArray×Int×Int×List Tree×Int))
 Gi:List (Int×ByteArray×Int×Int)→Int→Option (PR (Int×ByteArray×Int×Int×List Tree×Int))
def Dr.C (fC:List (Int×ByteArray×Int×Int)→Int→Bool→Option (PR (Int×ByteArray×Int×Int×List Tree×Int))):Prop:=∀ {Ac:List (Int×ByteArray×Int×Int)} {Ae:Int} {a1:Bool} {b0 Aw:Nat} {B8:Ab} {Av:Ar} {r:PR (Int×ByteArray×Int×Int×List Tree×Int)} (h:fC Ac Ae a1=some r) (AK:Bf FJ 4 B8 (Aa Av Ac Aw) Ac),Ct Tryz.prog 26 #[pt b0,bv a1] [bk b0 #[Aa Av Ac Aw,iv Ae] 93] [B8] (PR.Post H8 (fun (r:Int×ByteArray×Int×Int×List Tree×Int) e l1=>∃ (H0_:Ab) (A0_:Ar) (c0_:Nat),AL (Bb 54) 54 H0_ (Aa A0_ r.2.2.2.2.1 c0_) r.2.2.2.2.1∧e=.returned (.agg #[iv r.1,sv r.2.1,iv r.2.2.1,iv r.2.2.2.1,Aa A0_ r.2.2.2.2.1 c0_])∧l1=[H0_,bk b0 #[Aa Av Ac Aw,iv r.2.2.2.2.2] 93]) r)
def Iz.C (fC:List (Int×ByteArray×Int×Int)→Int→Option (PR (Int×ByteArray×Int×Int×List Tree×Int))):Prop:=∀ {Ac:List (Int×ByteArray×Int×Int)} {Ae:Int} {b0 Aw:Nat} {B8:Ab} {Av:Ar} {r:PR (Int×ByteArray×Int×Int×List Tree×Int)} (h:fC Ac Ae=some r) (AK:Bf FJ 4 B8 (Aa Av Ac Aw) Ac),Ct Tryz.prog 44 #[pt b0] [bk b0 #[Aa Av Ac Aw,iv Ae] 93] [B8] (PR.Post H8 (fun (r:Int×ByteArray×Int×Int×List Tree×Int) e l1=>∃ (H0_:Ab) (A0_:Ar) (c0_:Nat),AL (Bb 54) 54 H0_ (Aa A0_ r.2.2.2.2.1 c0_) r.2.2.2.2.1∧e=.returned (.agg #[iv r.1,sv r.2.1,iv r.2.2.1,iv r.2.2.2.1,Aa A0_ r.2.2.2.2.1 c0_])∧l1=[H0_,bk b0 #[Aa Av Ac Aw,iv r.2.2.2.2.2] 93]) r)
def I2.C (fC:List (Int×ByteArray×Int×Int)→Int→Option (PR (Int×ByteArray×Int×Int×List Tree×Int))):Prop:=∀ {Ac:List (Int×ByteArray×Int×Int)} {Ae:Int} {b0 Aw:Nat} {B8:Ab} {Av:Ar} {r:PR (Int×ByteArray×Int×Int×List Tree×Int)} (h:fC Ac Ae=some r) (AK:Bf FJ 4 B8 (Aa Av Ac Aw) Ac),Ct Tryz.prog 45 #[pt b0] [bk b0 #[Aa Av Ac Aw,iv Ae] 93] [B8] (PR.Post H8 (fun (r:Int×ByteArray×Int×Int×List Tree×Int) e l1=>∃ (H0_:Ab) (A0_:Ar) (c0_:Nat),AL (Bb 54) 54 H0_ (Aa A0_ r.2.2.2.2.1 c0_) r.2.2.2.2.1∧e=.returned (.agg #[iv r.1,sv r.2.1,iv r.2.2.1,iv r.2.2.2.1,Aa A0_ r.2.2.2.2.1 c0_])∧l1=[H0_,bk b0 #[Aa Av Ac Aw,iv r.2.2.2.2.2] 93]) r)
def Gh.C (fC:List (Int×ByteArray×Int×Int)→Int→Option (PR (List Tree×Int))):Prop:=∀ {Ac:List (Int×ByteArray×Int×Int)} {Ae:Int} {b0 Aw:Nat} {B8:Ab} {Av:Ar} {r:PR (List Tree×Int)} (h:fC Ac Ae=some r) (AK:Bf FJ 4 B8 (Aa Av Ac Aw) Ac),Ct Tryz.prog 68 #[pt b0] [bk b0 #[Aa Av Ac Aw,iv Ae] 93] [B8] (PR.Post H8 (fun (r:List Tree×Int) e l1=>∃ (H0_:Ab) (A0_:Ar) (c0_:Nat),AL (Bb 54) 54 H0_ (Aa A0_ r.1 c0_) r.1∧e=.returned (Aa A0_ r.1 c0_)∧l1=[H0_,bk b0 #[Aa Av Ac Aw,iv r.2] 93]) r)
def I0.C (fC:List (Int×ByteArray×Int×Int)→Int→Int→Option (PR (Int×ByteArray×Int×Int×List Tree×Int))):Prop:=∀ {Ac:List (Int×ByteArray×Int×Int)} {Ae a1:Int} {b0 Aw:Nat} {B8:Ab} {Av:Ar} {r:PR (Int×ByteArray×Int×Int×List Tree×Int)} (h:fC Ac Ae a1=some r) (AK:Bf FJ 4 B8 (Aa Av Ac Aw) Ac),Ct Tryz.prog 69 #[pt b0,iv a1] [bk b0 #[Aa Av Ac Aw,iv Ae] 93] [B8] (PR.Post H8 (fun (r:Int×ByteArray×Int×Int×List Tree×Int) e l1=>∃ (H0_:Ab) (A0_:Ar) (c0_:Nat),AL (Bb 54) 54 H0_ (Aa A0_ r.2.2.2.2.1 c0_) r.2.2.2.2.1∧e=.returned (.agg #[iv r.1,sv r.2.1,iv r.2.2.1,iv r.2.2.2.1,Aa A0_ r.2.2.2.2.1 c0_])∧l1=[H0_,bk b0 #[Aa Av Ac Aw,iv r.2.2.2.2.2] 93]) r)
def Gi.C (fC:List (Int×ByteArray×Int×Int)→Int→Option (PR (Int×ByteArray×Int×Int×List Tree×Int))):Prop:=∀ {Ac:List (Int×ByteArray×Int×Int)} {Ae:Int} {b0 Aw:Nat} {B8:Ab} {Av:Ar} {r:PR (Int×ByteArray×Int×Int×List Tree×Int)} (h:fC Ac Ae=some r) (AK:Bf FJ 4 B8 (Aa Av Ac Aw) Ac),Ct Tryz.prog 70 #[pt b0] [bk b0 #[Aa Av Ac Aw,iv Ae] 93] [B8] (PR.Post H8 (fun (r:Int×ByteArray×Int×Int×List Tree×Int) e l1=>∃ (H0_:Ab) (A0_:Ar) (c0_:Nat),AL (Bb 54) 54 H0_ (Aa A0_ r.2.2.2.2.1 c0_) r.2.2.2.2.1∧e=.returned (.agg #[iv r.1,sv r.2.1,iv r.2.2.1,iv r.2.2.2.1,Aa A0_ r.2.2.2.2.1 c0_])∧l1=[H0_,bk b0 #[Aa Av Ac Aw,iv r.2.2.2.2.2] 93]) r)
structure PS.Good (R:PS):Prop where
 Dr:Dr.C R.Dr
 Iz:Iz.C R.Iz
 I2:I2.C R.I2
 Gh:Gh.C R.Gh
 I0:I0.C R.I0
 Gi:Gi.C R.Gi
def Dr.l0:Nat→(Rc:PS)→(Ac:List (Int×ByteArray×Int×Int))→(a1:Bool)→(r2:Int×ByteArray×Int×Int)→(l4:List Tree)→(x9:Int)→Option (PR (Int×ByteArray×Int×Int×List Tree×Int))
 | 0,_,_,_,_,_,_=>none
 | m10+1,Rc,Ac,a1,r2,l4,x9=>(Eh.f m10 Ac x9).bind fun r11=>(CJ.f m10 Ac x9 (⟨#[59]⟩:ByteArray)).bind fun r13=>cond r13.1 (Dr.l0 m10 Rc Ac a1 r2 l4 r13.2) ((CJ.f m10 Ac r13.2 (⟨#[114,101,116,117,114,110]⟩:ByteArray)).bind fun BQ=>cond BQ.1 (BA (fun (l18:List Tree) (x23:Int)=>(CJ.f m10 Ac x23 (⟨#[59]⟩:ByteArray)).bind fun r25=>(apd 64 l4 [(Tree.mk 30 (⟨#[]⟩:ByteArray) 0 r11.2.2.2 l18)]).bind fun l29=>some (PR.ok (20,(⟨#[]⟩:ByteArray),0,r2.2.2.2,l29,r25.2))) (fun M2=>((Ni.f m10 Ac BQ.2).bind fun E1=>cond (!E1) ((EB.f m10 Ac BQ.2 (⟨#[59]⟩:ByteArray)).bind fun r44=>some (!r44)) (some false):Option Bool).bind fun q34=>cond q34 (PR.bind (DM.f m10 Ac BQ.2) fun r36=>M2 r36.1 r36.2) (M2 ([]) BQ.2))) ((cond a1 ((EB.f m10 Ac BQ.2 (⟨#[102,117,110,99,116,105,111,110]⟩:ByteArray)).bind fun WV=>some WV) (some false):Option Bool).bind fun q45=>cond q45 (PR.bind (Rc.Iz Ac BQ.2) fun r47=>(apd 64 l4 [(Tree.mk r47.1 r47.2.1 r47.2.2.1 r47.2.2.2.1 r47.2.2.2.2.1)]).bind fun l56=>Dr.l0 m10 Rc Ac a1 r2 l56 r47.2.2.2.2.2) ((Ni.f m10 Ac BQ.2).bind fun r61=>cond r61 (some (PR.ok (20,(⟨#[]⟩:ByteArray),0,r2.2.2.2,l4,BQ.2))) (PR.bind (Rc.I2 Ac BQ.2) fun Fy=>(apd 64 l4 [(Tree.mk Fy.1 Fy.2.1 Fy.2.2.1 Fy.2.2.2.1 Fy.2.2.2.2.1)]).bind fun MY=>Dr.l0 m10 Rc Ac a1 r2 MY Fy.2.2.2.2.2))))
def Dr.g (Rc:PS) (k:Nat) (Ac:List (Int×ByteArray×Int×Int)) (Ae:Int) (a1:Bool):Option (PR (Int×ByteArray×Int×Int×List Tree×Int)):=(Eh.f k Ac Ae).bind fun r2=>Dr.l0 k Rc Ac a1 r2 ([]) Ae
theorem Dr.C0 {Rc:PS} (hR:Rc.Good) {k:Nat}:Dr.C (Dr.g Rc k):=by
 intro Ac Ae a1 b0 Aw B8 Av r h AK
 refine Cz (args:=[pt b0,bv a1]) Tryz.func26 rfl (B0 rfl) ?_
 intro A X hh_
 obtain ⟨Ba,_⟩:=hh_
 unfold Dr.g at h
 refine K.eq (env':=[(0,pt b0),(1,bv a1)]) (l':=bk b0 #[Aa Av Ac Aw,iv Ae] 93 :: X) rfl rfl (ksr (knp #[iv 0,sv noS,iv 0,iv 0,nS] 54 fun b1=>(AY (kx 1 (K.Ao (bnd h fun r2 hr2 h=>(CI (Eh.ok hr2 AK) rfl ⟨(.tail _ Ba),trivial⟩ (kx 2 (knp #[iv 0,sv noS,iv 0,iv 0,nS] 54 fun b3=>(AQ 0 5 #[iv 20,sv noS,iv 0,iv r2.2.2.2,nS] ?_))))))))))
 refine Ad (Co (Di (K.mv3 (K.mv3 (K.mv3 (EL (τ:=(List Tree)×Int×Ab×Ar×Nat) (fun t=>[(0,pt b0),(1,bv a1),(4,pt b1),(5,pt b3)]) (fun t=>bk b3 #[iv 20,sv noS,iv 0,iv r2.2.2.2,Aa t.2.2.2.1 t.1 t.2.2.2.2] 54 :: bk b0 #[Aa Av Ac Aw,iv t.2.1] 93 :: bk b1 #[iv 0,sv noS,iv 0,iv 0,nS] 54 :: t.2.2.1 :: X) (fun m t=>Dr.l0 m Rc Ac a1 r2 t.1 t.2.1=some r∧AL (Bb 54) 54 t.2.2.1 (Aa t.2.2.2.1 t.1 t.2.2.2.2) t.1) k ([],Ae,none_,none,0) ⟨h,(AL.nil (Bb 54) 54 none_)⟩ sb rfl ?_))))))
 clear h
 rintro m10 ⟨l4,x9,h5,A6,k7⟩ ⟨h,o8⟩
 cases m10 with
 | zero=>simp [Dr.l0] at h
 | succ m10 =>
  simp only [Dr.l0] at h
  refine Co (ksr (kx 1 (K.Ao (bnd h fun r11 OF h=>(CI (Eh.ok OF AK) rfl ⟨(t3 Ba),trivial⟩ (knp #[iv 0,sv noS,iv 0,iv 0] 96 fun b12=>(AQ 0 4 #[iv r11.1,sv r11.2.1,iv r11.2.2.1,iv r11.2.2.2] (Ad (Co (ksr ?_))))))))))
  refine kx 1 (K.Ao (bnd h fun r13 OG h=>(CI (CJ.ok OG AK) rfl ⟨(t4 Ba),trivial⟩ (kx 1 (Ad ?_)))))
  refine AF h (fun h=>?_) fun h=>?_
  ·exact Bt (Bo (Bo (AB (K.Ao (K.drop (K.mv3 (K.mv3 (K.Ak (K.mv3 (Ea m10 (l4,r13.2,h5,A6,k7) (Nat.lt_succ_self _) ⟨h,o8⟩ sb rfl))))))))))
  ·refine ksr (kx 1 (bnd h fun BQ Lr h=>(CI (CJ.ok Lr AK) rfl ⟨(t4 Ba),trivial⟩ (kx 1 (Ad ?_)))))
   refine AF h (fun h=>?_) fun h=>?_
   ·refine ksr (kx 1 (kld 1 3 rfl (K.Ao (K.drop (kx 1 (knp #[iv 0,sv noS,iv 0,iv 0,nS] 54 fun b17=>(AQ 0 5 #[iv 30,sv noS,iv 0,iv r11.2.2.2,nS] (Ad ?_))))))))
    obtain ⟨M2,Y3,h⟩:=CG h
    refine CH (τ:=(List Tree)×Int×Ab×Ar×Nat) (fun t=>[(0,pt b0),(4,pt b1),(5,pt b3),(7,pt b17)]) (fun t=>bk b17 #[iv 30,sv noS,iv 0,iv r11.2.2.2,Aa t.2.2.2.1 t.1 t.2.2.2.2] 54 :: bk b0 #[Aa Av Ac Aw,iv t.2.1] 93 :: bk b3 #[iv 20,sv noS,iv 0,iv r2.2.2.2,Aa A6 l4 k7] 54 :: bk b1 #[iv 0,sv noS,iv 0,iv 0,nS] 54 :: h5 :: t.2.2.1 :: X) (fun t=>M2 t.1 t.2.1=some r∧AL (Bb 54) 54 t.2.2.1 (Aa t.2.2.2.1 t.1 t.2.2.2.2) t.1) ?_ ?_
    ·rintro ⟨l18,x23,h19,A20,k21⟩ ⟨h,Gv⟩
     subst Y3
     refine ksr (kx 1 (K.Ao (bnd h fun r25 SO h=>(CI (CJ.ok SO AK) rfl ⟨(t5 Ba),trivial⟩ (AY (kx 1 (kld 2 4 rfl (CE 1 0 5 rfl (K.Ao (K.drop ?_))))))))))
     refine De #[iv 30,sv noS,iv 0,iv r11.2.2.2,Aa A20 l18 k21] 54 1 fun b26=>(K.mv5 (K.Ao (DO (T:=54) (n:=1) (xs:=[(Tree.mk 30 (⟨#[]⟩:ByteArray) 0 r11.2.2.2 l18)]) (Ci.one (Ec (k:=30) (t:=(⟨#[]⟩:ByteArray)) (n:=0) (a:=r11.2.2.2) 54 Gv)) rfl rfl (B0 rfl) fun h27 TK=>(K.Bq (bnd h fun l29 Bbc h=>(F7 rfl GA rfl Bbc o8 TK fun h30 Io k32 Kq=>(kx 1 (K.Ak (AQ 4 1 #[iv 20,sv noS,iv 0,iv r2.2.2.2,Aa Io l29 k32] (AY ?_))))))))))
     refine CE 0 0 5 rfl (K.drop (K.Ak (AQ 0 5 #[iv 20,sv noS,iv 0,iv r2.2.2.2,Aa Io l29 k32] (Ad (Cr (DK (DK (CZ (DK ?_)))))))))
     obtain rfl:=Ap h
     exact HY 0 5 rfl [h30,bk b0 #[Aa Av Ac Aw,iv r25.2] 93] (K.drop (BH (PR.okI ⟨h30,Io,k32,Kq,rfl,rfl⟩)))
    ·skip
     refine bnd h fun q34 YR h=>?_
     refine Gr [(0,pt b0),(4,pt b1),(5,pt b3),(7,pt b17),(37,bv q34)] (bk b17 #[iv 30,sv noS,iv 0,iv r11.2.2.2,nS] 54 :: bk b0 #[Aa Av Ac Aw,iv BQ.2] 93 :: bk b3 #[iv 20,sv noS,iv 0,iv r2.2.2.2,Aa A6 l4 k7] 54 :: bk b1 #[iv 0,sv noS,iv 0,iv 0,nS] 54 :: h5 :: X) ?_ ?_
     ·clear YR
      refine AF h (fun h=>?_) fun h=>?_
      ·refine Bc (kx 1 (K.Ao (B_ h (fun _ Ls=>(DM.ok Ls AK)) rfl ⟨(t4 Ba),trivial⟩ (fun _ e=>Bk (BZ (BZ (Bk (BZ (kpn 4 e rfl)))))) fun r36 h=>?_)))
       rintro _ _ ⟨h37,Jm,k39,Mh,rfl,rfl⟩
       refine Bn (kx 1 (K.Ak (AQ 4 1 #[iv 30,sv noS,iv 0,iv r11.2.2.2,Aa Jm r36.1 k39] (Ad (K.Ao (K.mv5 (K.mv5 (K.mv5 (K.mv5 (K.mv5 ?_))))))))))
       exact AV (r36.1,r36.2,h37,Jm,k39) ⟨h,Mh⟩ sb rfl
      ·exact Bt (AB (Di (K.mv5 (K.mv5 (K.mv5 (K.mv5 (K.mv5 (AV ([],BQ.2,none_,none,0) ⟨h,(AL.nil (Bb 54) 54 none_)⟩ sb rfl))))))))
     ·have h:=YR
      clear YR
      refine Bc (kx 1 (K.Ao (bnd h fun E1 Zg h=>(CI (Ni.ok Zg AK) rfl ⟨(t4 Ba),trivial⟩ (kx 2 ?_)))))
      refine Dw 33 h (fun h=>?_) fun h=>?_
      ·exact kx 1 (bnd h fun r44 OO h=>(CI (EB.ok OO AK) rfl ⟨(t4 Ba),trivial⟩ (kx 2 (Ad (K.Bq (K.Bq (K.Bq (K.mv3 (K.Bq (C2 ⟨gr,gr,gr,gr,gb (Ap h),trivial⟩))))))))))
      ·exact kx 4 (Ad (K.Bq (K.Bq (K.Bq (K.mv3 (K.Bq (C2 ⟨gr,gr,gr,gr,gb (Ap h),trivial⟩)))))))
   ·refine bnd h fun q45 YT h=>?_
    refine Gr [(0,pt b0),(1,bv a1),(4,pt b1),(5,pt b3),(50,bv q45)] (bk b0 #[Aa Av Ac Aw,iv BQ.2] 93 :: bk b3 #[iv 20,sv noS,iv 0,iv r2.2.2.2,Aa A6 l4 k7] 54 :: bk b1 #[iv 0,sv noS,iv 0,iv 0,nS] 54 :: h5 :: X) ?_ ?_
    ·clear YT
     refine AF h (fun h=>?_) fun h=>?_
     ·refine kpr [(0,0),(1,3),(2,0),(3,1),(4,1)] [1] (Ax 1 (AU 0 4 rfl (Ax 1 (kpt (ocp h (fun _ hr47=>(hR.Iz hr47 AK)) rfl ⟨(t3 Ba),trivial⟩ (fun _ e=>BZ (BZ (Bk (BZ (kpn 3 e rfl))))) fun r47 h=>?_)))))
      rintro _ _ ⟨h48,A49,k50,o51,rfl,rfl⟩
      refine Bn (Dp [2] rfl (kpt (Hq #[iv r47.1,sv r47.2.1,iv r47.2.2.1,iv r47.2.2.2.1,Aa A49 r47.2.2.2.2.1 k50] 54 1 fun b53=>(Dp [3] rfl (BY (K.Ao (K.Ao (DO (T:=54) (n:=1) (xs:=[(Tree.mk r47.1 r47.2.1 r47.2.2.1 r47.2.2.2.1 r47.2.2.2.2.1)]) (Ci.one (Ec (k:=r47.1) (t:=r47.2.1) (n:=r47.2.2.1) (a:=r47.2.2.2.1) 54 o51)) rfl rfl (B0 rfl) fun h54 Hb=>(K.Bq (bnd h fun l56 Bbn h=>?_))))))))))
      refine F7 rfl GA rfl Bbn o8 Hb fun h57 GO k59 o60=>(kx 1 (K.Ak (AQ 4 1 #[iv 20,sv noS,iv 0,iv r2.2.2.2,Aa GO l56 k59] (knl (Bo (Bo (AB (K.Ao (K.mv3 (K.mv3 ?_))))))))))
      exact K.mv3 (Ea m10 (l56,r47.2.2.2.2.2,h57,GO,k59) (Nat.lt_succ_self _) ⟨h,o60⟩ sb rfl)
     ·refine ksr (kx 1 (bnd h fun r61 Beb h=>(CI (Ni.ok Beb AK) rfl ⟨(t3 Ba),trivial⟩ (kx 1 (Ad ?_)))))
      refine AF h (fun h=>?_) fun h=>?_
      ·refine ksr (CE 1 0 5 rfl (K.Ao (K.drop (K.Ao (AQ 0 5 #[iv 20,sv noS,iv 0,iv r2.2.2.2,Aa A6 l4 k7] (Ad (Cr (DK (DK (CZ ?_))))))))))
       refine DK ?_
       obtain rfl:=Ap h
       exact HY 0 5 rfl [h5,bk b0 #[Aa Av Ac Aw,iv BQ.2] 93] (K.drop (K.Ao (BH (PR.okI ⟨h5,A6,k7,o8,rfl,rfl⟩))))
      ·refine kpr [(0,0),(1,3),(2,0),(3,1),(4,1)] [1] (Ax 1 (AU 0 4 rfl (Ax 1 (kpt (ocp h (fun _ Zp=>(hR.I2 Zp AK)) rfl ⟨(t3 Ba),trivial⟩ (fun _ e=>BZ (BZ (Bk (BZ (kpn 3 e rfl))))) fun Fy h=>?_)))))
       rintro _ _ ⟨h64,X3,ZU,o67,rfl,rfl⟩
       refine Bn (Dp [2] rfl (kpt (Hq #[iv Fy.1,sv Fy.2.1,iv Fy.2.2.1,iv Fy.2.2.2.1,Aa X3 Fy.2.2.2.2.1 ZU] 54 1 fun b69=>(Dp [3] rfl (BY (K.Ao (K.Ao (DO (T:=54) (n:=1) (xs:=[(Tree.mk Fy.1 Fy.2.1 Fy.2.2.1 Fy.2.2.2.1 Fy.2.2.2.2.1)]) (Ci.one (Ec (k:=Fy.1) (t:=Fy.2.1) (n:=Fy.2.2.1) (a:=Fy.2.2.2.1) 54 o67)) rfl rfl (B0 rfl) fun h70 Nc=>(K.Bq (bnd h fun MY VH h=>?_))))))))))
       refine F7 rfl GA rfl VH o8 Nc fun h73 PX k75 Rm=>(kx 1 (K.Ak (AQ 4 1 #[iv 20,sv noS,iv 0,iv r2.2.2.2,Aa PX MY k75] (knl (Bo (Bo (AB (K.Ao (K.mv3 (K.mv3 ?_))))))))))
       exact K.mv3 (Ea m10 (MY,Fy.2.2.2.2.2,h73,PX,k75) (Nat.lt_succ_self _) ⟨h,Rm⟩ sb rfl)
    ·have h:=YT
     clear YT
     refine Bc (kx 2 ?_)
     refine Dw 52 h (fun h=>?_) fun h=>?_
     ·exact kx 1 (bnd h fun WV Zv h=>(CI (EB.ok Zv AK) rfl ⟨(t4 Ba),trivial⟩ (K.Ao (K.drop (kx 2 (Ad (C2 ⟨gr,gr,gr,gr,gb (Ap h),trivial⟩)))))))
     ·exact kx 4 (Ad (K.Ao (K.drop (C2 ⟨gr,gr,gr,gr,gb (Ap h),trivial⟩))))
def Iz.g (Rc:PS) (k:Nat) (Ac:List (Int×ByteArray×Int×Int)) (Ae:Int):Option (PR (Int×ByteArray×Int×Int×List Tree×Int)):=(Eh.f k Ac Ae).bind fun r2=>PR.bind (Dj.f k Ac Ae (⟨#[102,117,110,99,116,105,111,110]⟩:ByteArray)) fun r4=>PR.bind (Hc.f k Ac r4) fun r6=>PR.bind (Dj.f k Ac r6.2.2.2.2.2 (⟨#[40]⟩:ByteArray)) fun r12=>BA (fun (x14:Int) (l15:List Tree)=>PR.bind (Dj.f k Ac x14 (⟨#[41]⟩:ByteArray)) fun r21=>PR.bind (Rc.Dr Ac r21 false) fun EO=>(apd 64 l15 [(Tree.mk EO.1 EO.2.1 EO.2.2.1 EO.2.2.2.1 EO.2.2.2.2.1)]).bind fun l32=>PR.bind (Dj.f k Ac EO.2.2.2.2.2 (⟨#[101,110,100]⟩:ByteArray)) fun Ih=>some (PR.ok (31,r6.2.1,((l15.length:Nat):Int),r2.2.2.2,l32,Ih))) (fun J20=>(EB.f k Ac r12 (⟨#[41]⟩:ByteArray)).bind fun r39=>cond (!r39) (PR.bind (Hs.f k Ac r12) fun Gk=>J20 Gk.2 Gk.1) (J20 r12 ([])))
theorem Iz.C0 {Rc:PS} (hR:Rc.Good) {k:Nat}:Iz.C (Iz.g Rc k):=by
 intro Ac Ae b0 Aw B8 Av r h AK
 refine Cz (args:=[pt b0]) Tryz.func44 rfl (B0 rfl) ?_
 intro A X hh_
 obtain ⟨Ba,_⟩:=hh_
 unfold Iz.g at h
 refine K.eq (env':=[(0,pt b0)]) (l':=bk b0 #[Aa Av Ac Aw,iv Ae] 93 :: X) rfl rfl (ksr (knp #[iv 0,sv noS,iv 0,iv 0,nS] 54 fun b1=>(AY (kx 1 (K.Ao (bnd h fun r2 hr2 h=>(CI (Eh.ok hr2 AK) rfl ⟨(.tail _ Ba),trivial⟩ (kx 2 (knp #[iv 0,sv noS,iv 0,iv 0,nS] 54 fun b3=>(AQ 0 5 #[iv 31,sv noS,iv 0,iv r2.2.2.2,nS] ?_))))))))))
 refine AY (kx 1 (K.Ao (B_ h (fun _ hr4=>(Dj.ok hr4 AK)) rfl ⟨(t2 Ba),trivial⟩ (fun _ e=>Bk (kpn 2 e rfl)) fun r4 h=>?_)))
 rintro _ _ ⟨rfl,rfl⟩
 refine Fb (AY (kx 1 (B_ h (fun _ MN=>(Hc.ok MN AK)) rfl ⟨(t2 Ba),trivial⟩ (fun _ e=>Bk (kpn 2 e rfl)) fun r6 h=>?_)))
 rintro _ _ ⟨h7,A8,k9,o10,rfl,rfl⟩
 refine Bn (kx 2 (K.Ak (AQ 1 1 #[iv 31,sv r6.2.1,iv 0,iv r2.2.2.2,nS] (K.Ao (K.drop (AY (kx 1 (K.Ao (B_ h (fun _ Y_=>(Dj.ok Y_ AK)) rfl ⟨(t2 Ba),trivial⟩ (fun _ e=>Bk (kpn 2 e rfl)) fun r12 h=>?_)))))))))
 rintro _ _ ⟨rfl,rfl⟩
 refine Fb (Ad ?_)
 obtain ⟨J20,A9a,h⟩:=CG h
 refine CH (τ:=Int×(List Tree)×Ab×Ar×Nat) (fun t=>[(0,pt b0),(2,pt b1),(3,pt b3)]) (fun t=>bk b0 #[Aa Av Ac Aw,iv t.1] 93 :: bk b3 #[iv 31,sv r6.2.1,iv 0,iv r2.2.2.2,Aa t.2.2.2.1 t.2.1 t.2.2.2.2] 54 :: bk b1 #[iv 0,sv noS,iv 0,iv 0,nS] 54 :: t.2.2.1 :: X) (fun t=>J20 t.1 t.2.1=some r∧AL (Bb 54) 54 t.2.2.1 (Aa t.2.2.2.1 t.2.1 t.2.2.2.2) t.2.1) ?_ ?_
 ·rintro ⟨x14,l15,h16,IX,k18⟩ ⟨h,o19⟩
  subst A9a
  refine ksr (kx 1 (kld 1 4 rfl (kx 2 (K.Ao (AQ 2 1 #[iv 31,sv r6.2.1,iv ((l15.length:Nat):Int),iv r2.2.2.2,Aa IX l15 k18] (AY (kx 1 (K.Ao (B_ h (fun _ Kl=>(Dj.ok Kl AK)) rfl ⟨(t3 Ba),trivial⟩ (fun _ e=>Bk (kpn 3 e rfl)) fun r21 h=>?_)))))))))
  rintro _ _ ⟨rfl,rfl⟩
  refine Fb (Ad (Bz (kpr [(0,0),(1,3),(2,0),(3,1),(4,1)] [1] (Ax 1 (AU 0 4 rfl (Ax 1 (kpt (ocp h (fun _ Zd=>(hR.Dr Zd AK)) rfl ⟨(t3 Ba),trivial⟩ (fun _ e=>Bk (kpn 3 e rfl)) fun EO h=>?_))))))))
  rintro _ _ ⟨h24,A25,k26,JF,rfl,rfl⟩
  refine Bn (Dp [2] rfl (kpt (Hq #[iv EO.1,sv EO.2.1,iv EO.2.2.1,iv EO.2.2.2.1,Aa A25 EO.2.2.2.2.1 k26] 54 1 fun b29=>(Dp [3] rfl (BY (K.Ao (K.Ao (DO (T:=54) (n:=1) (xs:=[(Tree.mk EO.1 EO.2.1 EO.2.2.1 EO.2.2.2.1 EO.2.2.2.2.1)]) (Ci.one (Ec (k:=EO.1) (t:=EO.2.1) (n:=EO.2.2.1) (a:=EO.2.2.2.1) 54 JF)) rfl rfl (B0 rfl) fun h30 GK=>(K.Bq (bnd h fun l32 VG h=>?_))))))))))
  refine F7 rfl GA rfl VG o19 GK fun h33 A34 G4 IV=>(kx 1 (K.Ak (AQ 4 1 #[iv 31,sv r6.2.1,iv ((l15.length:Nat):Int),iv r2.2.2.2,Aa A34 l32 G4] (AY (kx 1 (K.Ak (B_ h (fun _ OL=>(Dj.ok OL AK)) rfl ⟨(t3 Ba),trivial⟩ (fun _ e=>Bk (kpn 3 e rfl)) fun Ih h=>?_)))))))
  rintro _ _ ⟨rfl,rfl⟩
  refine Fb (AY (CE 1 0 5 rfl (K.Ao (K.drop (K.Ak (AQ 0 5 #[iv 31,sv r6.2.1,iv ((l15.length:Nat):Int),iv r2.2.2.2,Aa A34 l32 G4] (Ad (Cr ?_))))))))
  obtain rfl:=Ap h
  exact HY 0 5 rfl [h33,bk b0 #[Aa Av Ac Aw,iv Ih] 93] (K.drop (K.Ao (BH (PR.okI ⟨h33,A34,G4,IV,rfl,rfl⟩))))
 ·skip
  refine ksr (kx 1 (bnd h fun r39 hr39 h=>(CI (EB.ok hr39 AK) rfl ⟨(t2 Ba),trivial⟩ (kx 1 (Ad ?_)))))
  refine AF h (fun h=>?_) fun h=>?_
  ·refine Bc (kx 1 (B_ h (fun _ ON=>(Hs.ok ON AK)) rfl ⟨(t2 Ba),trivial⟩ (fun _ e=>Bk (kpn 2 e rfl)) fun Gk h=>?_))
   rintro _ _ ⟨h42,Ol,Pe,L5,rfl,rfl⟩
   exact Bn (kx 1 (K.Ak (AQ 4 1 #[iv 31,sv r6.2.1,iv 0,iv r2.2.2.2,Aa Ol Gk.1 Pe] (Ad (K.Ao (K.mv3 (K.Ak (K.mv3 (AV (Gk.2,Gk.1,h42,Ol,Pe) ⟨h,L5⟩ sb rfl)))))))))
  ·exact Bt (AB (Di (K.mv3 (K.mv3 (K.mv3 (AV (r12,[],none_,none,0) ⟨h,(AL.nil (Bb 54) 54 none_)⟩ sb rfl))))))
def I2.g (Rc:PS) (k:Nat) (Ac:List (Int×ByteArray×Int×Int)) (Ae:Int):Option (PR (Int×ByteArray×Int×Int×List Tree×Int)):=(Eh.f k Ac Ae).bind fun r2=>BA (fun (x5:Int) (x6:Int) (l7:List Tree) (x12:Int)=>some (PR.ok (x5,(⟨#[]⟩:ByteArray),x6,r2.2.2.2,l7,x12))) (fun J13=>(CJ.f k Ac Ae (⟨#[100,111]⟩:ByteArray)).bind fun r14=>cond r14.1 (PR.bind (Rc.Dr Ac r14.2 false) fun r16=>PR.bind (Dj.f k Ac r16.2.2.2.2.2 (⟨#[101,110,100]⟩:ByteArray)) fun EO=>J13 28 0 ([(Tree.mk r16.1 r16.2.1 r16.2.2.1 r16.2.2.2.1 r16.2.2.2.2.1)]) EO) ((CJ.f k Ac r14.2 (⟨#[119,104,105,108,101]⟩:ByteArray)).bind fun r27=>cond r27.1 (PR.bind (Df.f k Ac r27.2 0) fun r29=>PR.bind (Dj.f k Ac r29.2.2.2.2.2 (⟨#[100,111]⟩:ByteArray)) fun r36=>PR.bind (Rc.Dr Ac r36 false) fun r38=>(apd 64 [(Tree.mk r29.1 r29.2.1 r29.2.2.1 r29.2.2.2.1 r29.2.2.2.2.1)] [(Tree.mk r38.1 r38.2.1 r38.2.2.1 r38.2.2.2.1 r38.2.2.2.2.1)]).bind fun l49=>PR.bind (Dj.f k Ac r38.2.2.2.2.2 (⟨#[101,110,100]⟩:ByteArray)) fun Ht=>J13 25 0 l49 Ht) ((CJ.f k Ac r27.2 (⟨#[105,102]⟩:ByteArray)).bind fun FT=>cond FT.1 (PR.bind (Rc.Gh Ac FT.2) fun JK=>J13 24 0 JK.1 JK.2) ((CJ.f k Ac FT.2 (⟨#[102,111,114]⟩:ByteArray)).bind fun r64=>cond r64.1 (PR.bind (Rc.I0 Ac r64.2 r2.2.2.2) fun EP=>some (PR.ok (EP.1,EP.2.1,EP.2.2.1,EP.2.2.2.1,EP.2.2.2.2.1,EP.2.2.2.2.2))) ((CJ.f k Ac r64.2 (⟨#[108,111,99,97,108]⟩:ByteArray)).bind fun FU=>cond FU.1 (PR.bind (Hs.f k Ac FU.2) fun I4=>(CJ.f k Ac I4.2 (⟨#[61]⟩:ByteArray)).bind fun r80=>cond r80.1 (PR.bind (DM.f k Ac r80.2) fun I5=>(apd 64 I4.1 I5.1).bind fun KK=>J13 21 ((I4.1.length:Nat):Int) KK I5.2) (J13 21 ((I4.1.length:Nat):Int) I4.1 r80.2)) ((CJ.f k Ac FU.2 (⟨#[98,114,101,97,107]⟩:ByteArray)).bind fun r93=>cond r93.1 (J13 29 0 ([]) r93.2) (PR.bind (Rc.Gi Ac r93.2) fun r95=>some (PR.ok (r95.1,r95.2.1,r95.2.2.1,r95.2.2.2.1,r95.2.2.2.2.1,r95.2.2.2.2.2)))))))))
theorem I2.C0 {Rc:PS} (hR:Rc.Good) {k:Nat}:I2.C (I2.g Rc k):=by
 intro Ac Ae b0 Aw B8 Av r h AK
 refine Cz (args:=[pt b0]) Tryz.func45 rfl (B0 rfl) ?_
 intro A X hh_
 obtain ⟨Ba,_⟩:=hh_
 unfold I2.g at h
 refine K.eq (env':=[(0,pt b0)]) (l':=bk b0 #[Aa Av Ac Aw,iv Ae] 93 :: X) rfl rfl (ksr (knp #[iv 0,sv noS,iv 0,iv 0,nS] 54 fun b1=>(AY (kx 1 (K.Ao (bnd h fun r2 hr2 h=>(CI (Eh.ok hr2 AK) rfl ⟨(.tail _ Ba),trivial⟩ (knp #[iv 0,sv noS,iv 0,iv 0] 96 fun b3=>(AQ 0 4 #[iv r2.1,sv r2.2.1,iv r2.2.2.1,iv r2.2.2.2] (AY ?_))))))))))
 refine kx 1 (kld 0 3 rfl (kx 1 (knp #[iv 0,sv noS,iv 0,iv 0,nS] 54 fun b4=>(AQ 0 5 #[iv 0,sv noS,iv 0,iv r2.2.2.2,nS] (Ad ?_)))))
 obtain ⟨J13,A8w,h⟩:=CG h
 refine CH (τ:=Int×Int×(List Tree)×Int×Ab×Ar×Nat) (fun t=>[(2,pt b1),(4,pt b4)]) (fun t=>bk b4 #[iv t.1,sv noS,iv t.2.1,iv r2.2.2.2,Aa t.2.2.2.2.2.1 t.2.2.1 t.2.2.2.2.2.2] 54 :: bk b0 #[Aa Av Ac Aw,iv t.2.2.2.1] 93 :: bk b1 #[iv 0,sv noS,iv 0,iv 0,nS] 54 :: t.2.2.2.2.1 :: X) (fun t=>J13 t.1 t.2.1 t.2.2.1 t.2.2.2.1=some r∧AL (Bb 54) 54 t.2.2.2.2.1 (Aa t.2.2.2.2.2.1 t.2.2.1 t.2.2.2.2.2.2) t.2.2.1) ?_ ?_
 ·rintro ⟨x5,x6,l7,x12,h8,A9,k10⟩ ⟨h,GJ⟩
  subst A8w
  refine ksr (CE 0 0 5 rfl (K.drop (K.Ao (AQ 0 5 #[iv x5,sv noS,iv x6,iv r2.2.2.2,Aa A9 l7 k10] (Ad (Cr ?_))))))
  obtain rfl:=Ap h
  exact HY 0 5 rfl [h8,bk b0 #[Aa Av Ac Aw,iv x12] 93] (K.drop (K.Ao (BH (PR.okI ⟨h8,A9,k10,GJ,rfl,rfl⟩))))
 ·skip
  refine Co (ksr (kx 1 (K.Ak (bnd h fun r14 Bch h=>(CI (CJ.ok Bch AK) rfl ⟨(t3 Ba),trivial⟩ (kx 1 (Ad ?_)))))))
  refine AF h (fun h=>?_) fun h=>?_
  ·refine ksr (kx 1 (B_ h (fun _ Kj=>(hR.Dr Kj AK)) rfl ⟨(t3 Ba),trivial⟩ (fun _ e=>Bk (BZ (Bk (kpn 3 e rfl)))) fun r16 h=>?_))
   rintro _ _ ⟨h17,Fh,k19,o20,rfl,rfl⟩
   refine Bn (K.mv3 (K.drop (De #[iv r16.1,sv r16.2.1,iv r16.2.2.1,iv r16.2.2.2.1,Aa Fh r16.2.2.2.2.1 k19] 54 1 fun b22=>(kx 1 (K.mv3 (AQ 0 1 #[iv 28,sv noS,iv 0,iv r2.2.2.2,nS] (kx 1 (AQ 4 1 #[iv 28,sv noS,iv 0,iv r2.2.2.2,.slice (some ⟨b22,0,none⟩) 1 1] (Fw (kx 1 ?_))))))))))
   refine K.mv3 (B_ h (fun _ Zd=>(Dj.ok Zd AK)) rfl ⟨(t4 Ba),trivial⟩ (fun _ e=>BZ (Bk (kpn 4 e rfl))) fun EO h=>?_)
   rintro _ _ ⟨rfl,rfl⟩
   exact Fb (knl (Bo (AB (K.mv3 (K.mv3 (DO (T:=54) (n:=1) (xs:=[(Tree.mk r16.1 r16.2.1 r16.2.2.1 r16.2.2.2.1 r16.2.2.2.2.1)]) (Ci.one (Ec (k:=r16.1) (t:=r16.2.1) (n:=r16.2.2.1) (a:=r16.2.2.2.1) 54 o20)) rfl rfl (B0 rfl) fun h25 JE=>(K.mv3 (K.Ak (K.mv3 (AV (28,0,[(Tree.mk r16.1 r16.2.1 r16.2.2.1 r16.2.2.2.1 r16.2.2.2.2.1)],EO,h25,(some ⟨b22,0,none⟩),1) ⟨h,JE⟩ sb rfl))))))))))
  ·refine ksr (kx 1 (bnd h fun r27 Km h=>(CI (CJ.ok Km AK) rfl ⟨(t3 Ba),trivial⟩ (kx 1 (Ad ?_)))))
   refine AF h (fun h=>?_) fun h=>?_
   ·refine ksr (kx 1 (B_ h (fun _ SQ=>(Df.ok SQ AK)) rfl ⟨(t3 Ba),trivial⟩ (fun _ e=>Bk (BZ (Bk (kpn 3 e rfl)))) fun r29 h=>?_))
    rintro _ _ ⟨h30,Io,k32,Kq,rfl,rfl⟩
    refine Bn (K.mv3 (K.drop (De #[iv r29.1,sv r29.2.1,iv r29.2.2.1,iv r29.2.2.2.1,Aa Io r29.2.2.2.2.1 k32] 54 1 fun Ox=>(kx 1 (K.mv3 (AQ 0 1 #[iv 25,sv noS,iv 0,iv r2.2.2.2,nS] (kx 1 (AQ 4 1 #[iv 25,sv noS,iv 0,iv r2.2.2.2,.slice (some ⟨Ox,0,none⟩) 1 1] (AY (kx 1 ?_))))))))))
    refine K.mv3 (B_ h (fun _ Ls=>(Dj.ok Ls AK)) rfl ⟨(t4 Ba),trivial⟩ (fun _ e=>Bk (BZ (Bk (kpn 4 e rfl)))) fun r36 h=>?_)
    rintro _ _ ⟨rfl,rfl⟩
    refine Fb (Ad (Bz (kpr [(0,0),(1,3),(2,0),(3,1),(4,1)] [1] (Ax 1 (AU 0 4 rfl (Ax 1 (kpt (ocp h (fun _ OM=>(hR.Dr OM AK)) rfl ⟨(t4 Ba),trivial⟩ (fun _ e=>Bk (BZ (Bk (kpn 4 e rfl)))) fun r38 h=>?_))))))))
    rintro _ _ ⟨h39,LK,k41,Rf,rfl,rfl⟩
    refine Bn (Dp [2] rfl (kpt (Hq #[iv r38.1,sv r38.2.1,iv r38.2.2.1,iv r38.2.2.2.1,Aa LK r38.2.2.2.2.1 k41] 54 1 fun b44=>(Dp [3] rfl (BY (K.Ao (K.Ao (DO (T:=54) (n:=1) (xs:=[(Tree.mk r38.1 r38.2.1 r38.2.2.1 r38.2.2.2.1 r38.2.2.2.2.1)]) (Ci.one (Ec (k:=r38.1) (t:=r38.2.1) (n:=r38.2.2.1) (a:=r38.2.2.2.1) 54 Rf)) rfl rfl (B0 rfl) fun h45 Pw=>(K.Bq (K.Bq ?_))))))))))
    refine DO (T:=54) (n:=1) (xs:=[(Tree.mk r29.1 r29.2.1 r29.2.2.1 r29.2.2.2.1 r29.2.2.2.2.1)]) (Ci.one (Ec (k:=r29.1) (t:=r29.2.1) (n:=r29.2.2.1) (a:=r29.2.2.2.1) 54 Kq)) rfl rfl (B0 rfl) fun h47 Nb=>(K.Ao (K.Ao (bnd h fun l49 hl49 h=>(F7 rfl GA rfl hl49 Nb Pw fun h50 Jn k52 L6=>(kx 1 (K.Ak (AQ 4 1 #[iv 25,sv noS,iv 0,iv r2.2.2.2,Aa Jn l49 k52] (Fw (kx 1 (K.Ak ?_))))))))))
    refine B_ h (fun _ SU=>(Dj.ok SU AK)) rfl ⟨(t3 Ba),trivial⟩ (fun _ e=>BZ (Bk (kpn 3 e rfl))) fun Ht h=>?_
    rintro _ _ ⟨rfl,rfl⟩
    exact Fb (knl (Bo (AB (K.Ak (K.mv3 (K.Ak (K.mv3 (AV (25,0,l49,Ht,h50,Jn,k52) ⟨h,L6⟩ sb rfl))))))))
   ·refine ksr (kx 1 (bnd h fun FT Zo h=>(CI (CJ.ok Zo AK) rfl ⟨(t3 Ba),trivial⟩ (kx 1 (Ad ?_)))))
    refine AF h (fun h=>?_) fun h=>?_
    ·refine Bc (kx 1 (B_ h (fun _ SW=>(hR.Gh SW AK)) rfl ⟨(t3 Ba),trivial⟩ (fun _ e=>BZ (Bk (kpn 3 e rfl))) fun JK h=>?_))
     rintro _ _ ⟨h59,Sd,Tn,TM,rfl,rfl⟩
     refine Bn (K.mv3 (K.drop (kx 1 (K.Ak (AQ 0 1 #[iv 24,sv noS,iv 0,iv r2.2.2.2,nS] (kx 1 (AQ 4 1 #[iv 24,sv noS,iv 0,iv r2.2.2.2,Aa Sd JK.1 Tn] (knl (Bo (AB ?_))))))))))
     exact K.Ao (K.mv3 (K.mv3 (K.mv3 (AV (24,0,JK.1,JK.2,h59,Sd,Tn) ⟨h,TM⟩ sb rfl))))
    ·refine ksr (kx 1 (bnd h fun r64 Zq h=>(CI (CJ.ok Zq AK) rfl ⟨(t3 Ba),trivial⟩ (kx 1 (Ad ?_)))))
     refine AF h (fun h=>?_) fun h=>?_
     ·refine ksr (kx 2 (kld 2 3 rfl (K.Ao (K.drop (K.Ao (K.drop (B_ h (fun _ Zr=>(hR.I0 Zr AK)) rfl ⟨(.tail _ Ba),trivial⟩ (fun _ e=>Bk (BZ (Bk (kpn 1 e rfl)))) fun EP h=>?_)))))))
      rintro _ _ ⟨NG,GP,k69,Kr,rfl,rfl⟩
      refine Bn (K.Ak (AQ 0 5 #[iv EP.1,sv EP.2.1,iv EP.2.2.1,iv EP.2.2.2.1,Aa GP EP.2.2.2.2.1 k69] (Ad (Cr (DK (CZ ?_))))))
      obtain rfl:=Ap h
      exact HY 0 5 rfl [NG,bk b0 #[Aa Av Ac Aw,iv EP.2.2.2.2.2] 93] (K.drop (BH (PR.okI ⟨NG,GP,k69,Kr,rfl,rfl⟩)))
     ·refine ksr (kx 1 (bnd h fun FU SX h=>(CI (CJ.ok SX AK) rfl ⟨(t3 Ba),trivial⟩ (K.Ak (K.drop (kx 1 (Ad ?_)))))))
      refine AF h (fun h=>?_) fun h=>?_
      ·refine ksr (kx 1 (B_ h (fun _ Zu=>(Hs.ok Zu AK)) rfl ⟨(t2 Ba),trivial⟩ (fun _ e=>Bk (BZ (Bk (kpn 2 e rfl)))) fun I4 h=>?_))
       rintro _ _ ⟨h75,KU,Lu,o78,rfl,rfl⟩
       refine Bn (kx 1 (K.Ak (AQ 0 1 #[iv 21,sv noS,iv 0,iv r2.2.2.2,nS] (kx 1 (AQ 4 1 #[iv 21,sv noS,iv 0,iv r2.2.2.2,Aa KU I4.1 Lu] (AY (kx 1 (kld 0 4 rfl (kx 2 (AQ 2 1 #[iv 21,sv noS,iv ((I4.1.length:Nat):Int),iv r2.2.2.2,Aa KU I4.1 Lu] ?_))))))))))
       refine AY (kx 1 (K.Ak (bnd h fun r80 OT h=>(CI (CJ.ok OT AK) rfl ⟨(t3 Ba),trivial⟩ (Ad ?_)))))
       refine AF h (fun h=>?_) fun h=>?_
       ·refine kpr [(0,0),(1,3),(2,0),(3,1)] [1] (Ax 1 (AU 0 4 rfl (Ax 1 (kpt (ocp h (fun _ MP=>(DM.ok MP AK)) rfl ⟨(t3 Ba),trivial⟩ (fun _ e=>BZ (Bk (kpn 3 e rfl))) fun I5 h=>?_)))))
        rintro _ _ ⟨OC,A84,VU,o86,rfl,rfl⟩
        refine Bn (Dp [2] rfl (BY (K.mv3 (bnd h fun KK Bbt h=>(F7 rfl GA rfl Bbt o78 o86 fun h89 UU k91 Rn=>(kx 1 (K.Ak (AQ 4 1 #[iv 21,sv noS,iv ((I4.1.length:Nat):Int),iv r2.2.2.2,Aa UU KK k91] (knl (Bo ?_))))))))))
        exact AB (K.Ao (K.mv3 (K.mv3 (K.mv3 (AV (21,((I4.1.length:Nat):Int),KK,I5.2,h89,UU,k91) ⟨h,Rn⟩ sb rfl)))))
       ·exact Bt (Bo (AB (K.Ak (K.mv3 (K.Ak (K.mv3 (AV (21,((I4.1.length:Nat):Int),I4.1,r80.2,h75,KU,Lu) ⟨h,o78⟩ sb rfl)))))))
      ·refine ksr (kx 1 (bnd h fun r93 SY h=>(CI (CJ.ok SY AK) rfl ⟨(t2 Ba),trivial⟩ (kx 1 (Ad ?_)))))
       refine AF h (fun h=>?_) fun h=>?_
       ·refine Bc (kx 1 (K.Ao (AQ 0 1 #[iv 29,sv noS,iv 0,iv r2.2.2.2,nS] (knl (Bo (AB (Di (K.mv3 (K.mv3 (K.mv3 ?_))))))))))
        exact AV (29,0,[],r93.2,none_,none,0) ⟨h,(AL.nil (Bb 54) 54 none_)⟩ sb rfl
       ·refine ksr (kx 1 (B_ h (fun _ MQ=>(hR.Gi MQ AK)) rfl ⟨(t2 Ba),trivial⟩ (fun _ e=>Bk (BZ (Bk (kpn 2 e rfl)))) fun r95 h=>?_))
        rintro _ _ ⟨h96,K3,KF,KN,rfl,rfl⟩
        refine Bn (K.Ak (K.drop (K.Ak (AQ 0 5 #[iv r95.1,sv r95.2.1,iv r95.2.2.1,iv r95.2.2.2.1,Aa K3 r95.2.2.2.2.1 KF] (Ad (Cr (DK (CZ ?_))))))))
        obtain rfl:=Ap h
        exact HY 0 5 rfl [h96,bk b0 #[Aa Av Ac Aw,iv r95.2.2.2.2.2] 93] (K.drop (BH (PR.okI ⟨h96,K3,KF,KN,rfl,rfl⟩)))
def Gh.l0:Nat→(Rc:PS)→(Ac:List (Int×ByteArray×Int×Int))→(J7:(List Tree)→Int→Option (PR (List Tree×Int)))→(JB:List Tree)→(x38:Int)→Option (PR (List Tree×Int))
 | 0,_,_,_,_,_=>none
 | m39+1,Rc,Ac,J7,JB,x38=>PR.bind (Df.f m39 Ac x38 0) fun r40=>(apd 64 JB [(Tree.mk r40.1 r40.2.1 r40.2.2.1 r40.2.2.2.1 r40.2.2.2.2.1)]).bind fun l49=>PR.bind (Dj.f m39 Ac r40.2.2.2.2.2 (⟨#[116,104,101,110]⟩:ByteArray)) fun Ht=>PR.bind (Rc.Dr Ac Ht false) fun FT=>(apd 64 l49 [(Tree.mk FT.1 FT.2.1 FT.2.2.1 FT.2.2.2.1 FT.2.2.2.2.1)]).bind fun T4=>(CJ.f m39 Ac FT.2.2.2.2.2 (⟨#[101,108,115,101,105,102]⟩:ByteArray)).bind fun Gm=>cond (!Gm.1) (J7 T4 Gm.2) (Gh.l0 m39 Rc Ac J7 T4 Gm.2)
def Gh.g (Rc:PS) (k:Nat) (Ac:List (Int×ByteArray×Int×Int)) (Ae:Int):Option (PR (List Tree×Int)):=BA (fun (l1:List Tree) (x6:Int)=>BA (fun (l8:List Tree) (FW:Int)=>PR.bind (Dj.f k Ac FW (⟨#[101,110,100]⟩:ByteArray)) fun BQ=>some (PR.ok (l8,BQ))) (fun J14=>(CJ.f k Ac x6 (⟨#[101,108,115,101]⟩:ByteArray)).bind fun E0=>cond E0.1 (PR.bind (Rc.Dr Ac E0.2 false) fun r19=>(apd 64 l1 [(Tree.mk r19.1 r19.2.1 r19.2.2.1 r19.2.2.2.1 r19.2.2.2.2.1)]).bind fun l28=>J14 l28 r19.2.2.2.2.2) (J14 l1 E0.2))) (fun J7=>Gh.l0 k Rc Ac J7 ([]) Ae)
theorem Gh.C0 {Rc:PS} (hR:Rc.Good) {k:Nat}:Gh.C (Gh.g Rc k):=by
 intro Ac Ae b0 Aw B8 Av r h AK
 refine Cz (args:=[pt b0]) Tryz.func68 rfl (B0 rfl) ?_
 intro A X hh_
 obtain ⟨Ba,_⟩:=hh_
 unfold Gh.g at h
 refine K.eq (env':=[(0,pt b0)]) (l':=bk b0 #[Aa Av Ac Aw,iv Ae] 93 :: X) rfl rfl (ksr (kx 1 (AY (kx 1 (Ad ?_)))))
 obtain ⟨J7,hJ7,h⟩:=CG h
 refine CH (τ:=(List Tree)×Int×Ab×Ar×Nat) (fun t=>[(0,pt b0),(3,Aa t.2.2.2.1 t.1 t.2.2.2.2)]) (fun t=>bk b0 #[Aa Av Ac Aw,iv t.2.1] 93 :: t.2.2.1 :: X) (fun t=>J7 t.1 t.2.1=some r∧AL (Bb 54) 54 t.2.2.1 (Aa t.2.2.2.1 t.1 t.2.2.2.2) t.1) ?_ ?_
 ·rintro ⟨l1,x6,h2,A3,k4⟩ ⟨h,o5⟩
  subst hJ7
  obtain ⟨J14,I_,h⟩:=CG h
  refine CH (τ:=(List Tree)×Int×Ab×Ar×Nat) (fun t=>[(0,pt b0),(3,Aa t.2.2.2.1 t.1 t.2.2.2.2)]) (fun t=>bk b0 #[Aa Av Ac Aw,iv t.2.1] 93 :: t.2.2.1 :: X) (fun t=>J14 t.1 t.2.1=some r∧AL (Bb 54) 54 t.2.2.1 (Aa t.2.2.2.1 t.1 t.2.2.2.2) t.1) ?_ ?_
  ·rintro ⟨l8,FW,h9,Fz,k11⟩ ⟨h,Hm⟩
   subst I_
   refine ksr (kx 1 (B_ h (fun _ Lr=>(Dj.ok Lr AK)) rfl ⟨(.tail _ Ba),trivial⟩ (fun _ e=>Bk (kpn 1 e rfl)) fun BQ h=>?_))
   rintro _ _ ⟨rfl,rfl⟩
   refine Fb (AY (kx 2 (Ad (Cr ?_))))
   obtain rfl:=Ap h
   exact kdv (Aa Fz l8 k11) [h9,bk b0 #[Aa Av Ac Aw,iv BQ] 93] (K.Ao (BH (PR.okI ⟨h9,Fz,k11,Hm,rfl,rfl⟩)))
  ·skip
   refine ksr (kx 1 (bnd h fun E0 Kk h=>(CI (CJ.ok Kk AK) rfl ⟨(.tail _ Ba),trivial⟩ (Ad ?_))))
   refine AF h (fun h=>?_) fun h=>?_
   ·refine Bc (kx 2 (B_ h (fun _ hr19=>(hR.Dr hr19 AK)) rfl ⟨(.tail _ Ba),trivial⟩ (fun _ e=>Bk (kpn 1 e rfl)) fun r19 h=>?_))
    rintro _ _ ⟨h20,A21,k22,Hp,rfl,rfl⟩
    refine Bn (De #[iv r19.1,sv r19.2.1,iv r19.2.2.1,iv r19.2.2.2.1,Aa A21 r19.2.2.2.2.1 k22] 54 1 fun b25=>(K.Ao (K.Ao (DO (T:=54) (n:=1) (xs:=[(Tree.mk r19.1 r19.2.1 r19.2.2.1 r19.2.2.2.1 r19.2.2.2.2.1)]) (Ci.one (Ec (k:=r19.1) (t:=r19.2.1) (n:=r19.2.2.1) (a:=r19.2.2.2.1) 54 Hp)) rfl rfl (B0 rfl) fun h26 JF=>(K.Ak (bnd h fun l28 YF h=>(F7 rfl GA rfl YF o5 JF fun h29 Jl k31 o32=>(kx 1 (Ad (K.Ao ?_))))))))))
    exact AV (l28,r19.2.2.2.2.2,h29,Jl,k31) ⟨h,o32⟩ sb rfl
   ·exact Bt (AB (AV (l1,E0.2,h2,A3,k4) ⟨h,o5⟩ sb rfl))
 ·skip
  refine Co (Di (K.Ao (EL (τ:=(List Tree)×Int×Ab×Ar×Nat) (fun t=>[(0,pt b0),(3,Aa t.2.2.2.1 t.1 t.2.2.2.2)]) (fun t=>bk b0 #[Aa Av Ac Aw,iv t.2.1] 93 :: t.2.2.1 :: X) (fun m t=>Gh.l0 m Rc Ac J7 t.1 t.2.1=some r∧AL (Bb 54) 54 t.2.2.1 (Aa t.2.2.2.1 t.1 t.2.2.2.2) t.1) k ([],Ae,none_,none,0) ⟨h,(AL.nil (Bb 54) 54 none_)⟩ sb rfl ?_)))
  clear h
  rintro m39 ⟨JB,x38,h34,A35,QD⟩ ⟨h,Pv⟩
  cases m39 with
  | zero=>simp [Gh.l0] at h
  | succ m39 =>
   simp only [Gh.l0] at h
   refine Co (ksr (kx 2 (B_ h (fun _ SS=>(Df.ok SS AK)) rfl ⟨(.tail _ Ba),trivial⟩ (fun _ e=>Bk (BZ (Bk (BZ (Bk (kpn 1 e rfl)))))) fun r40 h=>?_)))
   rintro _ _ ⟨h41,A42,ZT,TL,rfl,rfl⟩
   refine Bn (De #[iv r40.1,sv r40.2.1,iv r40.2.2.1,iv r40.2.2.2.1,Aa A42 r40.2.2.2.2.1 ZT] 54 1 fun b46=>(K.Ao (K.Ao (DO (T:=54) (n:=1) (xs:=[(Tree.mk r40.1 r40.2.1 r40.2.2.1 r40.2.2.2.1 r40.2.2.2.2.1)]) (Ci.one (Ec (k:=r40.1) (t:=r40.2.1) (n:=r40.2.2.1) (a:=r40.2.2.2.1) 54 TL)) rfl rfl (B0 rfl) fun h47 Nb=>(K.Ak (bnd h fun l49 hl49 h=>(F7 rfl GA rfl hl49 Pv Nb fun h50 Jn k52 L6=>(kx 1 (AY (kx 1 ?_))))))))))
   refine K.Ao (B_ h (fun _ SU=>(Dj.ok SU AK)) rfl ⟨(.tail _ Ba),trivial⟩ (fun _ e=>Bk (BZ (Bk (BZ (Bk (kpn 1 e rfl)))))) fun Ht h=>?_)
   rintro _ _ ⟨rfl,rfl⟩
   refine Fb (AY (kx 2 (B_ h (fun _ Zo=>(hR.Dr Zo AK)) rfl ⟨(.tail _ Ba),trivial⟩ (fun _ e=>Bk (BZ (Bk (BZ (Bk (kpn 1 e rfl)))))) fun FT h=>?_)))
   rintro _ _ ⟨h57,GO,k59,o60,rfl,rfl⟩
   refine Bn (De #[iv FT.1,sv FT.2.1,iv FT.2.2.1,iv FT.2.2.2.1,Aa GO FT.2.2.2.2.1 k59] 54 1 fun b62=>(K.Ao (K.Ao (DO (T:=54) (n:=1) (xs:=[(Tree.mk FT.1 FT.2.1 FT.2.2.1 FT.2.2.2.1 FT.2.2.2.2.1)]) (Ci.one (Ec (k:=FT.1) (t:=FT.2.1) (n:=FT.2.2.1) (a:=FT.2.2.2.1) 54 o60)) rfl rfl (B0 rfl) fun h63 Rk=>(K.Ak (bnd h fun T4 Bbq h=>(F7 rfl GA rfl Bbq L6 Rk fun h66 A67 k68 o69=>(kx 1 (AY (kx 1 ?_))))))))))
   refine K.Ao (bnd h fun Gm Zs h=>(CI (CJ.ok Zs AK) rfl ⟨(.tail _ Ba),trivial⟩ (kx 1 (Ad ?_))))
   refine AF h (fun h=>?_) fun h=>?_
   ·exact E6 (VZ rfl (CY (E7 (AB (AV (T4,Gm.2,h66,A67,k68) ⟨h,o69⟩ sb rfl)))))
   ·exact Bt (Bo (AB (Ea m39 (T4,Gm.2,h66,A67,k68) (Nat.lt_succ_self _) ⟨h,o69⟩ sb rfl)))
def I0.g (Rc:PS) (k:Nat) (Ac:List (Int×ByteArray×Int×Int)) (Ae:Int) (a1:Int):Option (PR (Int×ByteArray×Int×Int×List Tree×Int)):=PR.bind (Hc.f k Ac Ae) fun r2=>BA (fun (x10:Int) (x11:Int) (l12:List Tree) (x17:Int)=>PR.bind (Dj.f k Ac x17 (⟨#[100,111]⟩:ByteArray)) fun r19=>PR.bind (Rc.Dr Ac r19 false) fun r21=>(apd 64 l12 [(Tree.mk r21.1 r21.2.1 r21.2.2.1 r21.2.2.2.1 r21.2.2.2.2.1)]).bind fun Je=>PR.bind (Dj.f k Ac r21.2.2.2.2.2 (⟨#[101,110,100]⟩:ByteArray)) fun Ig=>some (PR.ok (x10,(⟨#[]⟩:ByteArray),x11,a1,Je,Ig))) (fun EV=>(CJ.f k Ac r2.2.2.2.2.2 (⟨#[61]⟩:ByteArray)).bind fun Ih=>cond Ih.1 (PR.bind (Df.f k Ac Ih.2 0) fun r39=>(apd 64 [(Tree.mk r2.1 r2.2.1 r2.2.2.1 r2.2.2.2.1 r2.2.2.2.2.1)] [(Tree.mk r39.1 r39.2.1 r39.2.2.1 r39.2.2.2.1 r39.2.2.2.2.1)]).bind fun l50=>PR.bind (Dj.f k Ac r39.2.2.2.2.2 (⟨#[44]⟩:ByteArray)) fun r55=>PR.bind (Df.f k Ac r55 0) fun r57=>(apd 64 l50 [(Tree.mk r57.1 r57.2.1 r57.2.2.1 r57.2.2.2.1 r57.2.2.2.2.1)]).bind fun T5=>(CJ.f k Ac r57.2.2.2.2.2 (⟨#[44]⟩:ByteArray)).bind fun r71=>cond r71.1 (PR.bind (Df.f k Ac r71.2 0) fun r73=>(apd 64 T5 [(Tree.mk r73.1 r73.2.1 r73.2.2.1 r73.2.2.2.1 r73.2.2.2.2.1)]).bind fun KJ=>EV 26 0 KJ r73.2.2.2.2.2) (EV 26 0 T5 r71.2)) (BA (fun (x87:Int) (KK:List Tree)=>PR.bind (Dj.f k Ac x87 (⟨#[105,110]⟩:ByteArray)) fun WW=>PR.bind (DM.f k Ac WW) fun PG=>(apd 64 KK PG.1).bind fun Lv=>EV 27 ((KK.length:Nat):Int) Lv PG.2) (fun Vf=>(CJ.f k Ac Ih.2 (⟨#[44]⟩:ByteArray)).bind fun Ub=>cond Ub.1 (PR.bind (Hs.f k Ac Ub.2) fun WQ=>(apd 64 [(Tree.mk r2.1 r2.2.1 r2.2.2.1 r2.2.2.2.1 r2.2.2.2.2.1)] WQ.1).bind fun MW=>Vf WQ.2 MW) (Vf Ub.2 ([(Tree.mk r2.1 r2.2.1 r2.2.2.1 r2.2.2.2.1 r2.2.2.2.2.1)])))))
theorem I0.C0 {Rc:PS} (hR:Rc.Good) {k:Nat}:I0.C (I0.g Rc k):=by
 intro Ac Ae a1 b0 Aw B8 Av r h AK
 refine Cz (args:=[pt b0,iv a1]) Tryz.func69 rfl (B0 rfl) ?_
 intro A X hh_
 obtain ⟨Ba,_⟩:=hh_
 unfold I0.g at h
 refine K.eq (env':=[(0,pt b0),(1,iv a1)]) (l':=bk b0 #[Aa Av Ac Aw,iv Ae] 93 :: X) rfl rfl (ksr (knp #[iv 0,sv noS,iv 0,iv 0,nS] 54 fun b1=>(AY (kx 2 (K.Ao (B_ h (fun _ hr2=>(Hc.ok hr2 AK)) rfl ⟨(.tail _ Ba),trivial⟩ (fun _ e=>Bk (kpn 1 e rfl)) fun r2 h=>?_))))))
 rintro _ _ ⟨h3,A4,k5,o6,rfl,rfl⟩
 refine Bn (De #[iv r2.1,sv r2.2.1,iv r2.2.2.1,iv r2.2.2.2.1,Aa A4 r2.2.2.2.2.1 k5] 54 1 fun b8=>(kx 1 (knp #[iv 0,sv noS,iv 0,iv 0,nS] 54 fun b9=>(AQ 0 5 #[iv 27,sv noS,iv 0,iv a1,.slice (some ⟨b8,0,none⟩) 1 1] (Ad ?_)))))
 obtain ⟨EV,SC,h⟩:=CG h
 refine CH (τ:=Int×Int×(List Tree)×Int×Ab×Ar×Nat) (fun t=>[(0,pt b0),(4,pt b1),(5,pt b9)]) (fun t=>bk b9 #[iv t.1,sv noS,iv t.2.1,iv a1,Aa t.2.2.2.2.2.1 t.2.2.1 t.2.2.2.2.2.2] 54 :: bk b0 #[Aa Av Ac Aw,iv t.2.2.2.1] 93 :: bk b1 #[iv 0,sv noS,iv 0,iv 0,nS] 54 :: t.2.2.2.2.1 :: X) (fun t=>EV t.1 t.2.1 t.2.2.1 t.2.2.2.1=some r∧AL (Bb 54) 54 t.2.2.2.2.1 (Aa t.2.2.2.2.2.1 t.2.2.1 t.2.2.2.2.2.2) t.2.2.1) ?_ ?_
 ·rintro ⟨x10,x11,l12,x17,h13,GN,k15⟩ ⟨h,o16⟩
  subst SC
  refine ksr (kx 1 (K.Ao (B_ h (fun _ hr19=>(Dj.ok hr19 AK)) rfl ⟨(t3 Ba),trivial⟩ (fun _ e=>Bk (kpn 3 e rfl)) fun r19 h=>?_)))
  rintro _ _ ⟨rfl,rfl⟩
  refine Fb (Ad (Bz (kpr [(0,0),(1,3),(2,0),(3,1),(4,1)] [1] (Ax 1 (AU 0 4 rfl (Ax 1 (kpt (ocp h (fun _ Kl=>(hR.Dr Kl AK)) rfl ⟨(t3 Ba),trivial⟩ (fun _ e=>Bk (kpn 3 e rfl)) fun r21 h=>?_))))))))
  rintro _ _ ⟨h22,A23,k24,F9,rfl,rfl⟩
  refine Bn (Dp [2] rfl (kpt (Hq #[iv r21.1,sv r21.2.1,iv r21.2.2.1,iv r21.2.2.2.1,Aa A23 r21.2.2.2.2.1 k24] 54 1 fun b27=>(Dp [3] rfl (BY (K.Ao (K.Ao (DO (T:=54) (n:=1) (xs:=[(Tree.mk r21.1 r21.2.1 r21.2.2.1 r21.2.2.2.1 r21.2.2.2.2.1)]) (Ci.one (Ec (k:=r21.1) (t:=r21.2.1) (n:=r21.2.2.1) (a:=r21.2.2.2.1) 54 F9)) rfl rfl (B0 rfl) fun h28 o29=>(K.Bq (bnd h fun Je YG h=>?_))))))))))
  refine F7 rfl GA rfl YG o16 o29 fun h31 Mz k33 Ic=>(kx 1 (K.Ak (AQ 4 1 #[iv x10,sv noS,iv x11,iv a1,Aa Mz Je k33] (AY (kx 1 (K.Ak (B_ h (fun _ OK=>(Dj.ok OK AK)) rfl ⟨(t3 Ba),trivial⟩ (fun _ e=>Bk (kpn 3 e rfl)) fun Ig h=>?_)))))))
  rintro _ _ ⟨rfl,rfl⟩
  refine Fb (AY (CE 1 0 5 rfl (K.Ao (K.drop (K.Ak (AQ 0 5 #[iv x10,sv noS,iv x11,iv a1,Aa Mz Je k33] (Ad (Cr ?_))))))))
  obtain rfl:=Ap h
  exact HY 0 5 rfl [h31,bk b0 #[Aa Av Ac Aw,iv Ig] 93] (K.drop (K.Ao (BH (PR.okI ⟨h31,Mz,k33,Ic,rfl,rfl⟩))))
 ·skip
  refine ksr (kx 1 (K.mv3 (bnd h fun Ih OL h=>(CI (CJ.ok OL AK) rfl ⟨(t4 Ba),trivial⟩ (Ad ?_)))))
  refine AF h (fun h=>?_) fun h=>?_
  ·refine ksr (kx 1 (K.Ao (AQ 0 1 #[iv 26,sv noS,iv 0,iv a1,.slice (some ⟨b8,0,none⟩) 1 1] (Ad (Bz (kpr [(0,0),(1,3),(2,0),(3,1),(4,1)] [0] (Ax 1 (AU 0 4 rfl (Ax 1 (kpt ?_))))))))))
   refine K.Ao (ocp h (fun _ hr39=>(Df.ok hr39 AK)) rfl ⟨(t4 Ba),trivial⟩ (fun _ e=>Bk (Bk (kpn 4 e rfl))) fun r39 h=>?_)
   rintro _ _ ⟨h40,PW,k42,Rh,rfl,rfl⟩
   refine Bn (Dp [2] rfl (kpt (Hq #[iv r39.1,sv r39.2.1,iv r39.2.2.1,iv r39.2.2.2.1,Aa PW r39.2.2.2.2.1 k42] 54 1 fun b45=>(Dp [3] rfl (BY (K.Ao (K.Ao (DO (T:=54) (n:=1) (xs:=[(Tree.mk r39.1 r39.2.1 r39.2.2.1 r39.2.2.2.1 r39.2.2.2.2.1)]) (Ci.one (Ec (k:=r39.1) (t:=r39.2.1) (n:=r39.2.2.1) (a:=r39.2.2.2.1) 54 Rh)) rfl rfl (B0 rfl) fun h46 NT=>(K.Bq (K.Bq ?_))))))))))
   refine DO (T:=54) (n:=1) (xs:=[(Tree.mk r2.1 r2.2.1 r2.2.2.1 r2.2.2.2.1 r2.2.2.2.2.1)]) (Ci.one (Ec (k:=r2.1) (t:=r2.2.1) (n:=r2.2.2.1) (a:=r2.2.2.2.1) 54 o6)) rfl rfl (B0 rfl) fun h48 o49=>(K.Ao (K.Ao (bnd h fun l50 Bbl h=>(F7 rfl GA rfl Bbl o49 NT fun h51 A52 k53 o54=>(kx 1 (K.Ak (AQ 4 1 #[iv 26,sv noS,iv 0,iv a1,Aa A52 l50 k53] (AY (kx 1 (K.Ak ?_))))))))))
   refine B_ h (fun _ SV=>(Dj.ok SV AK)) rfl ⟨(t3 Ba),trivial⟩ (fun _ e=>Bk (Bk (kpn 3 e rfl))) fun r55 h=>?_
   rintro _ _ ⟨rfl,rfl⟩
   refine Fb (Ad (Bz (kpr [(0,0),(1,3),(2,0),(3,1),(4,1)] [1] (Ax 1 (AU 0 4 rfl (Ax 1 (kpt (ocp h (fun _ Bea=>(Df.ok Bea AK)) rfl ⟨(t3 Ba),trivial⟩ (fun _ e=>Bk (Bk (kpn 3 e rfl))) fun r57 h=>?_))))))))
   rintro _ _ ⟨h58,A59,k60,o61,rfl,rfl⟩
   refine Bn (Dp [2] rfl (kpt (Hq #[iv r57.1,sv r57.2.1,iv r57.2.2.1,iv r57.2.2.2.1,Aa A59 r57.2.2.2.2.1 k60] 54 1 fun b63=>(Dp [3] rfl (BY (K.Ao (K.Ao (DO (T:=54) (n:=1) (xs:=[(Tree.mk r57.1 r57.2.1 r57.2.2.1 r57.2.2.2.1 r57.2.2.2.2.1)]) (Ci.one (Ec (k:=r57.1) (t:=r57.2.1) (n:=r57.2.2.1) (a:=r57.2.2.2.1) 54 o61)) rfl rfl (B0 rfl) fun h64 o65=>(K.mv3 (bnd h fun T5 Bbr h=>?_))))))))))
   refine F7 rfl GA rfl Bbr o54 o65 fun NG GP k69 Kr=>(kx 1 (K.Ak (AQ 4 1 #[iv 26,sv noS,iv 0,iv a1,Aa GP T5 k69] (AY (kx 1 (K.Ak (bnd h fun r71 Bed h=>(CI (CJ.ok Bed AK) rfl ⟨(t3 Ba),trivial⟩ (Ad ?_)))))))))
   refine AF h (fun h=>?_) fun h=>?_
   ·refine kpr [(0,0),(1,3),(2,0),(3,1),(4,1)] [1] (Ax 1 (AU 0 4 rfl (Ax 1 (kpt (ocp h (fun _ Zt=>(Df.ok Zt AK)) rfl ⟨(t3 Ba),trivial⟩ (fun _ e=>Bk (kpn 3 e rfl)) fun r73 h=>?_)))))
    rintro _ _ ⟨h74,A75,Pg,NU,rfl,rfl⟩
    refine Bn (Dp [2] rfl (kpt (Hq #[iv r73.1,sv r73.2.1,iv r73.2.2.1,iv r73.2.2.2.1,Aa A75 r73.2.2.2.2.1 Pg] 54 1 fun b79=>(Dp [3] rfl (BY (K.Ao (K.Ao (DO (T:=54) (n:=1) (xs:=[(Tree.mk r73.1 r73.2.1 r73.2.2.1 r73.2.2.2.1 r73.2.2.2.2.1)]) (Ci.one (Ec (k:=r73.1) (t:=r73.2.1) (n:=r73.2.2.1) (a:=r73.2.2.2.1) 54 NU)) rfl rfl (B0 rfl) fun h80 TN=>(K.mv3 (bnd h fun KJ VJ h=>?_))))))))))
    exact F7 rfl GA rfl VJ Kr TN fun OC A84 VU o86=>(kx 1 (K.Ak (AQ 4 1 #[iv 26,sv noS,iv 0,iv a1,Aa A84 KJ VU] (Ad (K.Ao (K.mv3 (K.mv3 (K.mv3 (AV (26,0,KJ,r73.2.2.2.2.2,OC,A84,VU) ⟨h,o86⟩ sb rfl)))))))))
   ·exact Bt (AB (K.Ak (K.mv3 (K.Ak (K.mv3 (AV (26,0,T5,r71.2,NG,GP,k69) ⟨h,Kr⟩ sb rfl))))))
  ·obtain ⟨Vf,A93,h⟩:=CG h
   refine CH (τ:=Int×(List Tree)×Ab×Ar×Nat) (fun t=>[(0,pt b0),(4,pt b1),(5,pt b9)]) (fun t=>bk b0 #[Aa Av Ac Aw,iv t.1] 93 :: bk b9 #[iv 27,sv noS,iv 0,iv a1,Aa t.2.2.2.1 t.2.1 t.2.2.2.2] 54 :: bk b1 #[iv 0,sv noS,iv 0,iv 0,nS] 54 :: t.2.2.1 :: X) (fun t=>Vf t.1 t.2.1=some r∧AL (Bb 54) 54 t.2.2.1 (Aa t.2.2.2.1 t.2.1 t.2.2.2.2) t.2.1) ?_ ?_
   ·rintro ⟨x87,KK,h89,UU,k91⟩ ⟨h,Rn⟩
    subst A93
    refine ksr (kx 1 (kld 1 4 rfl (kx 2 (K.Ao (AQ 2 1 #[iv 27,sv noS,iv ((KK.length:Nat):Int),iv a1,Aa UU KK k91] (AY (kx 1 (K.Ao (B_ h (fun _ Beq=>(Dj.ok Beq AK)) rfl ⟨(t3 Ba),trivial⟩ (fun _ e=>Bk (Bk (kpn 3 e rfl))) fun WW h=>?_)))))))))
    rintro _ _ ⟨rfl,rfl⟩
    refine Fb (Ad (kpr [(0,0),(1,3),(2,0),(3,1)] [1] (Ax 1 (AU 0 4 rfl (Ax 1 (kpt (ocp h (fun _ Ber=>(DM.ok Ber AK)) rfl ⟨(t3 Ba),trivial⟩ (fun _ e=>Bk (kpn 3 e rfl)) fun PG h=>?_)))))))
    rintro _ _ ⟨h97,A98,k99,W0,rfl,rfl⟩
    refine Bn (Dp [2] rfl (BY (K.Bq (bnd h fun Lv Bav h=>(F7 rfl GA rfl Bav Rn W0 fun V8 RV Tf Abb=>(kx 1 (K.Ak (AQ 4 1 #[iv 27,sv noS,iv ((KK.length:Nat):Int),iv a1,Aa RV Lv Tf] (Ad (K.Ao ?_))))))))))
    exact K.mv3 (K.mv3 (K.mv3 (AV (27,((KK.length:Nat):Int),Lv,PG.2,V8,RV,Tf) ⟨h,Abb⟩ sb rfl)))
   ·skip
    refine ksr (kx 1 (bnd h fun Ub Bb4 h=>(CI (CJ.ok Bb4 AK) rfl ⟨(t4 Ba),trivial⟩ (Ad ?_))))
    refine AF h (fun h=>?_) fun h=>?_
    ·refine kpr [(0,0),(1,3),(2,0),(3,1)] [1] (Ax 1 (AU 0 4 rfl (Ax 1 (kpt (ocp h (fun _ Bb5=>(Hs.ok Bb5 AK)) rfl ⟨(t4 Ba),trivial⟩ (fun _ e=>Bk (Bk (kpn 4 e rfl))) fun WQ h=>?_)))))
     rintro _ _ ⟨Bvx,Bue,Bxe,Bk0,rfl,rfl⟩
     refine Bn (Dp [2] rfl (BY (K.Bq (K.Bq (DO (T:=54) (n:=1) (xs:=[(Tree.mk r2.1 r2.2.1 r2.2.2.1 r2.2.2.2.1 r2.2.2.2.2.1)]) (Ci.one (Ec (k:=r2.1) (t:=r2.2.1) (n:=r2.2.2.1) (a:=r2.2.2.2.1) 54 o6)) rfl rfl (B0 rfl) fun Bv1 Abi=>(K.Ao (K.Ao (bnd h fun MW VF h=>(F7 rfl GA rfl VF Abi Bk0 fun A7z Agv Ao6 Bk6=>(kx 1 ?_))))))))))
     exact K.Ak (AQ 4 1 #[iv 27,sv noS,iv 0,iv a1,Aa Agv MW Ao6] (Ad (K.Ao (K.mv3 (K.Ak (K.mv3 (AV (WQ.2,MW,A7z,Agv,Ao6) ⟨h,Bk6⟩ sb rfl)))))))
    ·exact Bt (AB (K.mv3 (K.mv3 (DO (T:=54) (n:=1) (xs:=[(Tree.mk r2.1 r2.2.1 r2.2.2.1 r2.2.2.2.1 r2.2.2.2.2.1)]) (Ci.one (Ec (k:=r2.1) (t:=r2.2.1) (n:=r2.2.2.1) (a:=r2.2.2.2.1) 54 o6)) rfl rfl (B0 rfl) fun h122 Pt=>(K.mv3 (K.mv3 (K.mv3 (AV (Ub.2,[(Tree.mk r2.1 r2.2.1 r2.2.2.1 r2.2.2.2.1 r2.2.2.2.2.1)],h122,(some ⟨b8,0,none⟩),1) ⟨h,Pt⟩ sb rfl))))))))
def Gi.l0:Nat→(Ac:List (Int×ByteArray×Int×Int))→(GF:(List Tree)→Int→Option (PR (Int×ByteArray×Int×Int×List Tree×Int)))→(x42:Int)→(x43:ByteArray)→(x44:Int)→(x45:Int)→(l46:List Tree)→(l51:List Tree)→(x56:Int)→Option (PR (Int×ByteArray×Int×Int×List Tree×Int))
 | 0,_,_,_,_,_,_,_,_,_=>none
 | G_+1,Ac,GF,x42,x43,x44,x45,l46,l51,x56=>BA (fun (_:Unit)=>(apd 64 l51 [(Tree.mk x42 x43 x44 x45 l46)]).bind fun QQ=>(CJ.f G_ Ac x56 (⟨#[44]⟩:ByteArray)).bind fun EQ=>cond (!EQ.1) (GF QQ EQ.2) (PR.bind (DU.f G_ Ac EQ.2) fun Gm=>Gi.l0 G_ Ac GF Gm.1 Gm.2.1 Gm.2.2.1 Gm.2.2.2.1 Gm.2.2.2.2.1 QQ Gm.2.2.2.2.2)) (fun Vd=>(P4.f G_ x42 x43 x44 x45 l46).bind fun r76=>cond (!r76) (PR.bind (JI.f G_ Ac x56 x45) fun WV=>Vd ()) (Vd ()))
def Gi.g (Rc:PS) (k:Nat) (Ac:List (Int×ByteArray×Int×Int)) (Ae:Int):Option (PR (Int×ByteArray×Int×Int×List Tree×Int)):=PR.bind (DU.f k Ac Ae) fun r2=>((EB.f k Ac r2.2.2.2.2.2 (⟨#[61]⟩:ByteArray)).bind fun r80=>cond (!r80) ((EB.f k Ac r2.2.2.2.2.2 (⟨#[44]⟩:ByteArray)).bind fun I5=>some (!I5)) (some false):Option Bool).bind fun q9=>cond q9 (BA (fun (_:Unit)=>some (PR.ok (23,(⟨#[]⟩:ByteArray),0,r2.2.2.2.1,[(Tree.mk r2.1 r2.2.1 r2.2.2.1 r2.2.2.2.1 r2.2.2.2.2.1)],r2.2.2.2.2.2))) (fun J11=>cond (r2.1 != 8) ((Eh.f k Ac r2.2.2.2.2.2).bind fun r16=>PR.bind (JI.f k Ac r2.2.2.2.2.2 r16.2.2.2) fun E0=>J11 ()) (J11 ()))) (BA (fun (KI:List Tree) (x25:Int)=>PR.bind (Dj.f k Ac x25 (⟨#[61]⟩:ByteArray)) fun r27=>PR.bind (DM.f k Ac r27) fun r29=>(apd 64 KI r29.1).bind fun IQ=>some (PR.ok (22,(⟨#[]⟩:ByteArray),((KI.length:Nat):Int),r2.2.2.2.1,IQ,r29.2))) (fun GF=>Gi.l0 k Ac GF r2.1 r2.2.1 r2.2.2.1 r2.2.2.2.1 r2.2.2.2.2.1 ([]) r2.2.2.2.2.2))
theorem Gi.C0 {Rc:PS} (hR:Rc.Good) {k:Nat}:Gi.C (Gi.g Rc k):=by
 intro Ac Ae b0 Aw B8 Av r h AK
 refine Cz (args:=[pt b0]) Tryz.func70 rfl (B0 rfl) ?_
 intro A X hh_
 obtain ⟨Ba,_⟩:=hh_
 unfold Gi.g at h
 refine K.eq (env':=[(0,pt b0)]) (l':=bk b0 #[Aa Av Ac Aw,iv Ae] 93 :: X) rfl rfl (ksr (knp #[iv 0,sv noS,iv 0,iv 0,nS] 54 fun b1=>(AY (kx 1 (K.Ao (B_ h (fun _ hr2=>(DU.ok hr2 AK)) rfl ⟨(.tail _ Ba),trivial⟩ (fun _ e=>Bk (kpn 1 e rfl)) fun r2 h=>?_))))))
 rintro _ _ ⟨h3,A4,k5,o6,rfl,rfl⟩
 refine Bn (knp #[iv 0,sv noS,iv 0,iv 0,nS] 54 fun b8=>(AQ 0 5 #[iv r2.1,sv r2.2.1,iv r2.2.2.1,iv r2.2.2.2.1,Aa A4 r2.2.2.2.2.1 k5] (Ad (Bz (bnd h fun q9 hq9 h=>?_)))))
 refine Gr [(0,pt b0),(2,pt b1),(3,pt b8),(15,bv q9)] (bk b8 #[iv r2.1,sv r2.2.1,iv r2.2.2.1,iv r2.2.2.2.1,Aa A4 r2.2.2.2.2.1 k5] 54 :: h3 :: bk b0 #[Aa Av Ac Aw,iv r2.2.2.2.2.2] 93 :: bk b1 #[iv 0,sv noS,iv 0,iv 0,nS] 54 :: X) ?_ ?_
 ·clear hq9
  refine AF h (fun h=>?_) fun h=>?_
  ·obtain ⟨J11,Y0,h⟩:=CG h
   refine CH (τ:=Unit) (fun t=>[(2,pt b1),(3,pt b8)]) (fun t=>bk b8 #[iv r2.1,sv r2.2.1,iv r2.2.2.1,iv r2.2.2.2.1,Aa A4 r2.2.2.2.2.1 k5] 54 :: h3 :: bk b0 #[Aa Av Ac Aw,iv r2.2.2.2.2.2] 93 :: bk b1 #[iv 0,sv noS,iv 0,iv 0,nS] 54 :: X) (fun t=>J11 ()=some r) ?_ ?_
   ·rintro ⟨⟩ h
    subst Y0
    refine ksr (kx 1 (kld 0 3 rfl (CE 0 0 5 rfl (K.drop (De #[iv r2.1,sv r2.2.1,iv r2.2.2.1,iv r2.2.2.2.1,Aa A4 r2.2.2.2.2.1 k5] 54 1 fun b12=>(kx 1 (K.mv3 (AQ 0 5 #[iv 23,sv noS,iv 0,iv r2.2.2.2.1,.slice (some ⟨b12,0,none⟩) 1 1] (Ad (Cr ?_))))))))))
    refine CZ (K.Ak (K.Ak (DO (T:=54) (n:=1) (xs:=[(Tree.mk r2.1 r2.2.1 r2.2.2.1 r2.2.2.2.1 r2.2.2.2.2.1)]) (Ci.one (Ec (k:=r2.1) (t:=r2.2.1) (n:=r2.2.2.1) (a:=r2.2.2.2.1) 54 o6)) rfl rfl (B0 rfl) fun h13 IT=>?_)))
    obtain rfl:=Ap h
    exact HY 1 5 rfl [h13,bk b0 #[Aa Av Ac Aw,iv r2.2.2.2.2.2] 93] (K.Ao (K.drop (BH (PR.okI ⟨h13,(some ⟨b12,0,none⟩),1,IT,rfl,rfl⟩))))
   ·skip
    refine ksr (kx 1 (kld 0 0 rfl (kx 1 (Ad ?_))))
    refine AF h (fun h=>?_) fun h=>?_
    ·refine Bc (kx 2 (K.Ak (bnd h fun r16 Kj h=>(CI (Eh.ok Kj AK) rfl ⟨(t3 Ba),trivial⟩ (kx 1 (B_ h (fun _ Kk=>(JI.ok Kk AK)) rfl ⟨(t3 Ba),trivial⟩ (fun _ e=>Bk (Bk (kpn 3 e rfl))) fun E0 h=>?_))))))
     rintro _ _ ⟨rfl,rfl⟩
     exact Fb (Ad (K.mv3 (K.Ao (K.mv3 (K.mv3 (AV () h sb rfl))))))
    ·exact Bt (AB (AV () h sb rfl))
  ·refine Bt (AB (ksr (kx 1 (kld 0 3 rfl (kx 1 (knp #[iv 0,sv noS,iv 0,iv 0,nS] 54 fun b19=>(AQ 0 5 #[iv 22,sv noS,iv 0,iv r2.2.2.2.1,nS] (Ad ?_))))))))
   obtain ⟨GF,Y4,h⟩:=CG h
   refine CH (τ:=(List Tree)×Int×Ab×Ar×Nat) (fun t=>[(0,pt b0),(2,pt b1),(4,pt b19)]) (fun t=>bk b19 #[iv 22,sv noS,iv 0,iv r2.2.2.2.1,Aa t.2.2.2.1 t.1 t.2.2.2.2] 54 :: bk b0 #[Aa Av Ac Aw,iv t.2.1] 93 :: bk b1 #[iv 0,sv noS,iv 0,iv 0,nS] 54 :: t.2.2.1 :: X) (fun t=>GF t.1 t.2.1=some r∧AL (Bb 54) 54 t.2.2.1 (Aa t.2.2.2.1 t.1 t.2.2.2.2) t.1) ?_ ?_
   ·rintro ⟨KI,x25,h21,Im,k23⟩ ⟨h,IU⟩
    subst Y4
    refine ksr (kx 1 (kld 0 4 rfl (kx 2 (AQ 2 1 #[iv 22,sv noS,iv ((KI.length:Nat):Int),iv r2.2.2.2.1,Aa Im KI k23] (AY (kx 1 (K.Ao (B_ h (fun _ Km=>(Dj.ok Km AK)) rfl ⟨(t3 Ba),trivial⟩ (fun _ e=>Bk (kpn 3 e rfl)) fun r27 h=>?_))))))))
    rintro _ _ ⟨rfl,rfl⟩
    refine Fb (Ad (Bz (kpr [(0,0),(1,3),(2,0),(3,1)] [1] (Ax 1 (AU 0 4 rfl (Ax 1 (kpt (ocp h (fun _ SQ=>(DM.ok SQ AK)) rfl ⟨(t3 Ba),trivial⟩ (fun _ e=>Bk (kpn 3 e rfl)) fun r29 h=>?_))))))))
    rintro _ _ ⟨h30,Io,k32,Kq,rfl,rfl⟩
    refine Bn (Dp [2] rfl (BY (K.Bq (bnd h fun IQ SH h=>(F7 rfl GA rfl SH IU Kq fun h36 A37 k38 o39=>(kx 1 (K.Ak (AQ 4 1 #[iv 22,sv noS,iv ((KI.length:Nat):Int),iv r2.2.2.2.1,Aa A37 IQ k38] (AY (CE 0 0 5 rfl ?_))))))))))
    refine K.drop (K.Ak (AQ 0 5 #[iv 22,sv noS,iv ((KI.length:Nat):Int),iv r2.2.2.2.1,Aa A37 IQ k38] (Ad (Cr ?_))))
    obtain rfl:=Ap h
    exact HY 0 5 rfl [h36,bk b0 #[Aa Av Ac Aw,iv r29.2] 93] (K.drop (BH (PR.okI ⟨h36,A37,k38,o39,rfl,rfl⟩)))
   ·skip
    refine ksr (CE 1 0 5 rfl (K.Ao (K.drop (knp #[iv 0,sv noS,iv 0,iv 0,nS] 54 fun b40=>(AQ 0 5 #[iv r2.1,sv r2.2.1,iv r2.2.2.1,iv r2.2.2.2.1,Aa A4 r2.2.2.2.2.1 k5] (Ad (Co (Di (K.mv3 (K.mv5 ?_))))))))))
    refine K.mv5 (K.mv5 (K.mv5 (EL (τ:=Int×ByteArray×Int×Int×(List Tree)×(List Tree)×Int×Nat×Ab×Ar×Nat×Ab×Ar×Nat) (fun t=>[(0,pt b0),(2,pt b1),(4,pt b19),(5,pt t.2.2.2.2.2.2.2.1)]) (fun t=>bk t.2.2.2.2.2.2.2.1 #[iv t.1,sv t.2.1,iv t.2.2.1,iv t.2.2.2.1,Aa t.2.2.2.2.2.2.2.2.2.1 t.2.2.2.2.1 t.2.2.2.2.2.2.2.2.2.2.1] 54 :: bk b19 #[iv 22,sv noS,iv 0,iv r2.2.2.2.1,Aa t.2.2.2.2.2.2.2.2.2.2.2.2.1 t.2.2.2.2.2.1 t.2.2.2.2.2.2.2.2.2.2.2.2.2] 54 :: bk b0 #[Aa Av Ac Aw,iv t.2.2.2.2.2.2.1] 93 :: bk b1 #[iv 0,sv noS,iv 0,iv 0,nS] 54 :: t.2.2.2.2.2.2.2.2.1 :: t.2.2.2.2.2.2.2.2.2.2.2.1 :: X) (fun m t=>Gi.l0 m Ac GF t.1 t.2.1 t.2.2.1 t.2.2.2.1 t.2.2.2.2.1 t.2.2.2.2.2.1 t.2.2.2.2.2.2.1=some r∧AL (Bb 54) 54 t.2.2.2.2.2.2.2.2.1 (Aa t.2.2.2.2.2.2.2.2.2.1 t.2.2.2.2.1 t.2.2.2.2.2.2.2.2.2.2.1) t.2.2.2.2.1∧AL (Bb 54) 54 t.2.2.2.2.2.2.2.2.2.2.2.1 (Aa t.2.2.2.2.2.2.2.2.2.2.2.2.1 t.2.2.2.2.2.1 t.2.2.2.2.2.2.2.2.2.2.2.2.2) t.2.2.2.2.2.1) k (r2.1,r2.2.1,r2.2.2.1,r2.2.2.2.1,r2.2.2.2.2.1,[],r2.2.2.2.2.2,b40,h3,A4,k5,none_,none,0) ⟨h,o6,(AL.nil (Bb 54) 54 none_)⟩ sb rfl ?_)))
    clear h
    rintro G_ ⟨x42,x43,x44,x45,l46,l51,x56,b41,h47,A48,k49,h52,J_,k54⟩ ⟨h,Ri,Hb⟩
    cases G_ with
    | zero=>simp [Gi.l0] at h
    | succ G_ =>
     simp only [Gi.l0] at h
     refine Bz (Co ?_)
     obtain ⟨Vd,A9m,h⟩:=CG h
     refine CH (τ:=Unit) (fun t=>[(0,pt b0),(2,pt b1),(4,pt b19),(5,pt b41)]) (fun t=>bk b41 #[iv x42,sv x43,iv x44,iv x45,Aa A48 l46 k49] 54 :: bk b19 #[iv 22,sv noS,iv 0,iv r2.2.2.2.1,Aa J_ l51 k54] 54 :: bk b0 #[Aa Av Ac Aw,iv x56] 93 :: bk b1 #[iv 0,sv noS,iv 0,iv 0,nS] 54 :: h47 :: h52 :: X) (fun t=>Vd ()=some r) ?_ ?_
     ·rintro ⟨⟩ h
      subst A9m
      refine ksr (kx 1 (kld 1 4 rfl (CE 0 0 5 rfl (De #[iv x42,sv x43,iv x44,iv x45,Aa A48 l46 k49] 54 1 fun b59=>(K.mv5 (K.Ao (DO (T:=54) (n:=1) (xs:=[(Tree.mk x42 x43 x44 x45 l46)]) (Ci.one (Ec (k:=x42) (t:=x43) (n:=x44) (a:=x45) 54 Ri)) rfl rfl (B0 rfl) fun h60 o61=>(K.mv5 (bnd h fun QQ Bbp h=>(F7 rfl GA rfl Bbp Hb o61 fun h63 A64 k65 o66=>?_))))))))))
      refine kx 1 (K.Ak (AQ 4 1 #[iv 22,sv noS,iv 0,iv r2.2.2.2.1,Aa A64 QQ k65] (AY (kx 1 (K.mv3 (bnd h fun EQ MO h=>(CI (CJ.ok MO AK) rfl ⟨(t4 Ba),trivial⟩ (kx 1 (Ad ?_)))))))))
      refine AF h (fun h=>?_) fun h=>?_
      ·refine E6 (VZ rfl (CY (CY (E7 (AB (K.mv3 (K.drop (K.Ak (K.mv3 (K.Ak ?_))))))))))
       exact K.mv3 (AV (QQ,EQ.2,h63,A64,k65) ⟨h,o66⟩ sb rfl)
      ·refine Bt (Bo (AB (Bz (ksr (CE 3 0 5 rfl (K.mv3 (K.drop (Fw (knp #[iv 0,sv noS,iv 0,iv 0,nS] 54 fun b69=>(AQ 0 5 #[iv x42,sv x43,iv x44,iv x45,Aa A48 l46 k49] ?_))))))))))
       refine Fw (kx 1 (K.Ao (B_ h (fun _ Zs=>(DU.ok Zs AK)) rfl ⟨(t4 Ba),trivial⟩ (fun _ e=>Bk (BZ (Bk (kpn 4 e rfl)))) fun Gm h=>?_)))
       rintro _ _ ⟨h71,Sf,To,Py,rfl,rfl⟩
       exact Bn (K.Ak (AQ 0 5 #[iv Gm.1,sv Gm.2.1,iv Gm.2.2.1,iv Gm.2.2.2.1,Aa Sf Gm.2.2.2.2.1 To] (Ad (K.Bq (K.Ak (K.mv5 (K.Bq (K.mv5 (K.mv5 (Ea G_ (Gm.1,Gm.2.1,Gm.2.2.1,Gm.2.2.2.1,Gm.2.2.2.2.1,QQ,Gm.2.2.2.2.2,b69,h71,Sf,To,h63,A64,k65) (Nat.lt_succ_self _) ⟨h,Py,o66⟩ sb rfl))))))))))
     ·skip
      refine ksr (CE 0 0 5 rfl (bnd h fun r76 Bek h=>(FN (P4.ok Bek (AL.rd Ri)) ⟨(.tail _ (.tail _ (.tail _ (.tail _ (.head _))))),trivial⟩ (kx 1 (Ad ?_)))))
      refine AF h (fun h=>?_) fun h=>?_
      ·refine Bc (kx 2 (kld 0 3 rfl (K.Ak (B_ h (fun _ Zv=>(JI.ok Zv AK)) rfl ⟨(t5 Ba),trivial⟩ (fun _ e=>Bk (BZ (Bk (Bk (BZ (Bk (kpn 5 e rfl))))))) fun WV h=>?_))))
       rintro _ _ ⟨rfl,rfl⟩
       exact Fb (Ad (K.mv5 (K.mv5 (K.mv5 (K.mv3 (K.mv5 (K.mv5 (AV () h sb rfl))))))))
      ·exact Bt (AB (AV () h sb rfl))
 ·have h:=hq9
  clear hq9
  refine Bc (kx 1 (K.Ak (bnd h fun r80 OT h=>(CI (EB.ok OT AK) rfl ⟨(t3 Ba),trivial⟩ (kx 2 ?_)))))
  refine Dw 11 h (fun h=>?_) fun h=>?_
  ·exact kx 1 (bnd h fun I5 MP h=>(CI (EB.ok MP AK) rfl ⟨(t3 Ba),trivial⟩ (kx 2 (Ad (K.mv3 (K.Ao (K.mv3 (K.mv3 (C2 ⟨gr,gr,gr,gb (Ap h),trivial⟩)))))))))
  ·exact kx 4 (Ad (K.mv3 (K.Ao (K.mv3 (K.mv3 (C2 ⟨gr,gr,gr,gb (Ap h),trivial⟩))))))
def PS.at:Nat→PS
 | 0=>⟨fun _ _ _=>none,fun _ _=>none,fun _ _=>none,fun _ _=>none,fun _ _ _=>none,fun _ _=>none⟩
 | k+1=>⟨Dr.g (PS.at k) k,Iz.g (PS.at k) k,I2.g (PS.at k) k,Gh.g (PS.at k) k,I0.g (PS.at k) k,Gi.g (PS.at k) k⟩
theorem PS.good:∀ k,(PS.at k).Good
 | 0=>⟨(by unfold Dr.C;intros;rename_i h _;cases (show (none:Option _)=some _ from h)),(by unfold Iz.C;intros;rename_i h _;cases (show (none:Option _)=some _ from h)),(by unfold I2.C;intros;rename_i h _;cases (show (none:Option _)=some _ from h)),(by unfold Gh.C;intros;rename_i h _;cases (show (none:Option _)=some _ from h)),(by unfold I0.C;intros;rename_i h _;cases (show (none:Option _)=some _ from h)),(by unfold Gi.C;intros;rename_i h _;cases (show (none:Option _)=some _ from h))⟩
 | k+1=>⟨Dr.C0 (k:=k) (PS.good k),Iz.C0 (k:=k) (PS.good k),I2.C0 (k:=k) (PS.good k),Gh.C0 (k:=k) (PS.good k),I0.C0 (k:=k) (PS.good k),Gi.C0 (k:=k) (PS.good k)⟩
def Dr.f (k:Nat):=Dr.g (PS.at k) k
theorem Dr.ok {k:Nat}:Dr.C (Dr.f k):=Dr.C0 (k:=k) (PS.good k)
structure H1 where
 Es:Int→ByteArray→Int→Int→List Tree→Option (Int)
def Es.C (fC:Int→ByteArray→Int→Int→List Tree→Option (Int)):Prop:=∀ {Ac Ez Ai r:Int} {Ae:ByteArray} {Au:List Tree} {BF:Ab} {B1:Ar} {B2:Nat} (h:fC Ac Ae Ez Ai Au=some r) (Ck:RdR (Bb 54) BF (Aa B1 Au B2) Au),Ct Tryz.prog 17 #[.agg #[iv Ac,sv Ae,iv Ez,iv Ai,Aa B1 Au B2]] [] [BF] (fun e l1=>e=.returned (iv r)∧l1=[])
structure H1.Good (R:H1):Prop where
 Es:Es.C R.Es
def Es.l0:Nat→(Rc:H1)→(Au:List Tree)→(J3:Int→Option (Int))→(x4:Int)→(x5:Int)→Option (Int)
 | 0,_,_,_,_,_=>none
 | m6+1,Rc,Au,J3,x4,x5=>cond (decide (x5 < ((Au.length:Nat):Int))) ((AZ Au x5).bind fun x8=>(Rc.Es x8.kind x8.text x8.n x8.at_ x8.kids).bind fun r18=>Es.l0 m6 Rc Au J3 (if r18 > x4 then r18 else x4) (IntKind.i64.wrap (x5+1))) (J3 x4)
def Es.g (Rc:H1) (k:Nat) (Ac:Int) (Ae:ByteArray) (Ez:Int) (Ai:Int) (Au:List Tree):Option (Int):=BA (fun (x2:Int)=>some (IntKind.i64.wrap (x2+1))) (fun J3=>Es.l0 k Rc Au J3 0 0)
theorem Es.C0 {Rc:H1} (hR:Rc.Good) {k:Nat}:Es.C (Es.g Rc k):=by
 intro Ac Ez Ai r Ae Au BF B1 B2 h Ck
 refine Cz (args:=[.agg #[iv Ac,sv Ae,iv Ez,iv Ai,Aa B1 Au B2]]) Tryz.func17 rfl (B0 rfl) ?_
 intro A X hh_
 obtain ⟨SL,_⟩:=hh_
 unfold Es.g at h
 refine ksr (knp #[iv Ac,sv Ae,iv Ez,iv Ai,Aa B1 Au B2] 54 fun b1=>(kx 1 (AY (kx 1 (Ad ?_)))))
 obtain ⟨J3,hJ3,h⟩:=CG h
 refine CH (τ:=Int) (fun t=>[(3,iv t)]) (fun t=>X) (fun t=>J3 t=some r) ?_ ?_
 ·rintro x2 h
  subst hJ3
  refine ksr (kx 3 (Ad (Cr ?_)))
  obtain rfl:=Ap h
  exact kdn rfl
 ·skip
  refine ksr (kx 1 (kld 0 4 rfl (K.drop (kx 2 (Ad (Co (EL (τ:=Int×Int) (fun t=>[(3,iv t.1),(7,Aa B1 Au B2),(8,iv ((Au.length:Nat):Int)),(9,iv t.2)]) (fun t=>X) (fun m t=>Es.l0 m Rc Au J3 t.1 t.2=some r) k (0,0) h sb rfl ?_)))))))
  clear h
  rintro m6 ⟨x4,x5⟩ h
  cases m6 with
  | zero=>simp [Es.l0] at h
  | succ m6 =>
   simp only [Es.l0] at h
   refine ksr (kx 1 (Ad (Bz ?_)))
   refine AF h (fun h=>?_) fun h=>?_
   ·refine Bt (AB (Bz (Co (ksr (bnd h fun x8 hx8 h=>(DL (T:=54) (kd:=.i64) (R:=(Bb 54)) rfl hx8 Ck fun p9 u12 q13 e10 y11=>?_))))))
    obtain ⟨GN,k15,rfl,o16⟩:=DI 54 q13
    refine E8 rfl e10 SL (knp #[iv 0,sv noS,iv 0,iv 0,nS] 54 fun b17=>(AQ 0 5 #[iv x8.kind,sv x8.text,iv x8.n,iv x8.at_,Aa GN x8.kids k15] (Fw (kx 1 (CE 0 0 5 rfl (K.drop (bnd h fun r18 Bct h=>(FN (hR.Es Bct o16) ⟨SL,trivial⟩ (kx 2 (knl ?_))))))))))
    exact Bo (AB (Bc (kx 2 (Ad (Ea m6 ((if r18 > x4 then r18 else x4),IntKind.i64.wrap (x5+1)) (Nat.lt_succ_self _) h sb rfl)))))
   ·exact E6 (CY (CY (E7 (AB (AV x4 h sb rfl)))))
def H1.at:Nat→H1
 | 0=>⟨fun _ _ _ _ _=>none⟩
 | k+1=>⟨Es.g (H1.at k) k⟩
theorem H1.good:∀ k,(H1.at k).Good
 | 0=>⟨(by unfold Es.C;intros;rename_i h _;cases (show (none:Option _)=some _ from h))⟩
 | k+1=>⟨Es.C0 (k:=k) (H1.good k)⟩
def Es.f (k:Nat):=Es.g (H1.at k) k
theorem Es.ok {k:Nat}:Es.C (Es.f k):=Es.C0 (k:=k) (H1.good k)
def Nh.f (k:Nat) (a0:ByteArray):Option (Int×ByteArray×Int×Int×List Tree×Int×Int):=(T9.f k a0).bind fun r3=>cond (r3.2.1 != 0) (some (0,(⟨#[]⟩:ByteArray),0,0,[],r3.2.1,r3.2.2)) (PR.elim (Dr.f k r3.1 0 true) (fun Q6=>some (0,(⟨#[]⟩:ByteArray),0,0,[],4,Q6)) fun r10=>BA (fun (_:Unit)=>some (r10.1,r10.2.1,r10.2.2.1,r10.2.2.2.1,r10.2.2.2.2.1,0,0)) (fun Vb=>(Eh.f k r3.1 r10.2.2.2.2.2).bind fun E0=>cond (E0.1 != 6) ((Eh.f k r3.1 r10.2.2.2.2.2).bind fun r19=>PR.elim (JI.f k r3.1 r10.2.2.2.2.2 r19.2.2.2) (fun i21=>some (0,(⟨#[]⟩:ByteArray),0,0,[],4,i21)) fun r20=>Vb ()) (Vb ())))
theorem Nh.ok {k:Nat} {a0:ByteArray} {G:Ab} {r:Int×ByteArray×Int×Int×List Tree×Int×Int} (h:Nh.f k a0=some r) (hG:E2 G): Ct Tryz.prog 15 #[sv a0] [] [G] (fun e l1=>∃ (H0_:Ab) (A0_:Ar) (c0_:Nat),AL (Bb 54) 54 H0_ (Aa A0_ r.2.2.2.2.1 c0_) r.2.2.2.2.1∧e=.returned (.tuple #[.agg #[iv r.1,sv r.2.1,iv r.2.2.1,iv r.2.2.2.1,Aa A0_ r.2.2.2.2.1 c0_],.agg #[iv r.2.2.2.2.2.1,iv r.2.2.2.2.2.2]])∧l1=[H0_]):=by
 refine Aj0 (args:=[sv a0]) Tryz.func15 rfl (B0 rfl) ?_
 intro A X hh_
 obtain ⟨BU,_⟩:=hh_
 unfold Nh.f at h
 refine ksr (knp #[iv 0,sv noS,iv 0,iv 0,nS] 54 fun b1=>(knp #[iv 0,iv 0] 28 fun b2=>(AY (kx 1 (bnd h fun r3 hr3 h=>(B6 (T9.ok hr3 hG) rfl ⟨(t2 BU),trivial⟩ ?_))))))
 rintro _ _ ⟨h4,A5,k6,o7,rfl,rfl⟩
 refine Fb (kx 4 (K.Ao (AQ 0 2 #[iv r3.2.1,iv r3.2.2] (Ad (Bz (ksr (kx 1 (kld 0 0 rfl (kx 1 (Ad ?_))))))))))
 refine AF h (fun h=>?_) fun h=>?_
 ·refine Bz (ZX (kpr [(0,0),(1,3),(2,1)] [0] (Ax 1 (Gt 0 0 2 rfl (kpt (K.Ak (ost 0 5 #[iv 0,sv noS,iv 0,iv 0,nS] (Dp [1] rfl (BY (K.Ao ?_))))))))))
  refine AQ 0 2 #[iv r3.2.1,iv r3.2.2] (K.Ak (K.drop (knl (ZY (AB (Cr (CZ ?_)))))))
  obtain rfl:=Ap h
  exact Ara (v:=.tuple #[.agg #[iv 0,sv noS,iv 0,iv 0,nS],.agg #[iv r3.2.1,iv r3.2.2]]) [.val (iv 0),.val (sv noS),.val (iv 0),.val (iv 0),.val (nS),.val (iv r3.2.1),.val (iv r3.2.2)] [.ld ⟨b1,0,none⟩ (iv 0),.ld ⟨b1,1,none⟩ (sv noS),.ld ⟨b1,2,none⟩ (iv 0),.ld ⟨b1,3,none⟩ (iv 0),.ld ⟨b1,4,none⟩ (nS),.ld ⟨b2,0,none⟩ (iv r3.2.1),.ld ⟨b2,1,none⟩ (iv r3.2.2)] [none_] (by kernel_rfl) (by kernel_rfl) ⟨⟨1,_,_,_,rfl,rfl,rfl⟩,⟨1,_,_,_,rfl,rfl,rfl⟩,⟨1,_,_,_,rfl,rfl,rfl⟩,⟨1,_,_,_,rfl,rfl,rfl⟩,⟨1,_,_,_,rfl,rfl,rfl⟩,⟨0,_,_,_,rfl,rfl,rfl⟩,⟨0,_,_,_,rfl,rfl,rfl⟩,trivial⟩ (Di (K.Ao (K.drop (K.Ao (K.drop (BH ⟨none_,none,0,(AL.nil (Bb 54) 54 none_),rfl,rfl⟩))))))
 ·refine Bt (AB (ksr (kx 1 (Arq { target:=.fn (.func 25) #[pt b1,pt b2],args:=#[] } (by kernel_rfl) (by kernel_rfl) (by kernel_rfl) (AY (kx 2 (knp #[Aa A5 r3.1 k6,iv 0] 93 fun b9=>(kx 1 (AY (kx 1 ?_))))))))))
  rcases WM h with ⟨Q6,Lq,h⟩ | ⟨r10,Lq,h⟩
  ·refine B6 (Dr.ok Lq (Ah.rd o7)) rfl ⟨(.tail _ (.head _)),trivial⟩ ?_
   rintro _ _ ⟨rfl,rfl⟩
   refine Wz (Bk (K.Ao (K.drop (K.Ao ?_))))
   obtain rfl:=Ap h
   exact VY (v:=.tuple #[.agg #[iv 0,sv noS,iv 0,iv 0,nS],.agg #[iv 4,iv Q6]]) (bk b1 #[iv 0,sv noS,iv 0,iv 0,nS] 54 :: bk b2 #[iv 4,iv Q6] 28 :: X) (fun _=>by kernel_rfl) (fun w_ hw_=>Auw hw_) [.val (iv 0),.val (sv noS),.val (iv 0),.val (iv 0),.val (nS),.val (iv 4),.val (iv Q6)] [.ld ⟨b1,0,none⟩ (iv 0),.ld ⟨b1,1,none⟩ (sv noS),.ld ⟨b1,2,none⟩ (iv 0),.ld ⟨b1,3,none⟩ (iv 0),.ld ⟨b1,4,none⟩ (nS),.ld ⟨b2,0,none⟩ (iv 4),.ld ⟨b2,1,none⟩ (iv Q6)] [none_] (by kernel_rfl) (by kernel_rfl) ⟨⟨0,_,_,_,rfl,rfl,rfl⟩,⟨0,_,_,_,rfl,rfl,rfl⟩,⟨0,_,_,_,rfl,rfl,rfl⟩,⟨0,_,_,_,rfl,rfl,rfl⟩,⟨0,_,_,_,rfl,rfl,rfl⟩,⟨1,_,_,_,rfl,rfl,rfl⟩,⟨1,_,_,_,rfl,rfl,rfl⟩,trivial⟩ fun w_ hw_=>(⟨⟨none_,none,0,(AL.nil (Bb 54) 54 none_),rfl,rfl⟩,St.TI 1 hw_.tail.tail⟩)
  refine B6 (Dr.ok Lq (Ah.rd o7)) rfl ⟨(.tail _ (.head _)),trivial⟩ ?_
  rintro _ _ ⟨h11,A12,k13,IT,rfl,rfl⟩
  refine Bn (K.Bq (AQ 0 5 #[iv r10.1,sv r10.2.1,iv r10.2.2.1,iv r10.2.2.2.1,Aa A12 r10.2.2.2.2.1 k13] (Ad ?_)))
  obtain ⟨Vb,A8x,h⟩:=CG h
  refine CH (τ:=Unit) (fun t=>[(2,pt b1),(3,pt b2)]) (fun t=>bk b1 #[iv r10.1,sv r10.2.1,iv r10.2.2.1,iv r10.2.2.2.1,Aa A12 r10.2.2.2.2.1 k13] 54 :: h11 :: bk b2 #[iv r3.2.1,iv r3.2.2] 28 :: X) (fun t=>Vb ()=some r) ?_ ?_
  ·rintro ⟨⟩ h
   subst A8x
   refine ksr (CE 0 0 5 rfl (kx 1 (AQ 0 5 #[iv r10.1,sv r10.2.1,iv r10.2.2.1,iv r10.2.2.2.1,Aa A12 r10.2.2.2.2.1 k13] (K.Ak (AQ 0 2 #[iv 0,iv 0] (Ad (Cr ?_)))))))
   obtain rfl:=Ap h
   exact Aq8 (fun _=>by kernel_rfl) (Bom (pt b1) (pt b2)) (v:=.tuple #[.agg #[iv r10.1,sv r10.2.1,iv r10.2.2.1,iv r10.2.2.2.1,Aa A12 r10.2.2.2.2.1 k13],.agg #[iv 0,iv 0]]) [.val (iv r10.1),.val (sv r10.2.1),.val (iv r10.2.2.1),.val (iv r10.2.2.2.1),.val (Aa A12 r10.2.2.2.2.1 k13),.val (iv 0),.val (iv 0)] [.ld ⟨b1,0,none⟩ (iv r10.1),.ld ⟨b1,1,none⟩ (sv r10.2.1),.ld ⟨b1,2,none⟩ (iv r10.2.2.1),.ld ⟨b1,3,none⟩ (iv r10.2.2.2.1),.ld ⟨b1,4,none⟩ (Aa A12 r10.2.2.2.2.1 k13),.ld ⟨b2,0,none⟩ (iv 0),.ld ⟨b2,1,none⟩ (iv 0)] [h11] (by kernel_rfl) (by kernel_rfl) ⟨⟨1,_,_,_,rfl,rfl,rfl⟩,⟨1,_,_,_,rfl,rfl,rfl⟩,⟨1,_,_,_,rfl,rfl,rfl⟩,⟨1,_,_,_,rfl,rfl,rfl⟩,⟨1,_,_,_,rfl,rfl,rfl⟩,⟨0,_,_,_,rfl,rfl,rfl⟩,⟨0,_,_,_,rfl,rfl,rfl⟩,trivial⟩ (K.drop (K.drop (Arc ⟨h11,A12,k13,IT,rfl,rfl⟩)))
  ·skip
   refine ksr (kx 1 (K.Ak (bnd h fun E0 Kk h=>(CI (Eh.ok Kk (Ah.rd o7)) rfl ⟨(.tail _ (.tail _ (.tail _ (.head _)))),trivial⟩ (kx 2 (Ad ?_))))))
   refine AF h (fun h=>?_) fun h=>?_
   ·refine Bc (kx 2 (bnd h fun r19 hr19 h=>(CI (Eh.ok hr19 (Ah.rd o7)) rfl ⟨(.tail _ (.tail _ (.tail _ (.head _)))),trivial⟩ (kx 1 ?_))))
    rcases WM h with ⟨i21,OH,h⟩ | ⟨r20,OH,h⟩
    ·refine B6 (JI.ok OH (Ah.rd o7)) rfl ⟨(.tail _ (.tail _ (.tail _ (.head _)))),trivial⟩ ?_
     rintro _ _ ⟨rfl,rfl⟩
     refine Wz (Bk (K.Ao (K.drop (K.Ak (K.drop ?_)))))
     obtain rfl:=Ap h
     exact VY (v:=.tuple #[.agg #[iv 0,sv noS,iv 0,iv 0,nS],.agg #[iv 4,iv i21]]) (bk b1 #[iv 0,sv noS,iv 0,iv 0,nS] 54 :: bk b2 #[iv 4,iv i21] 28 :: X) (fun _=>by kernel_rfl) (fun w_ hw_=>Auw hw_) [.val (iv 0),.val (sv noS),.val (iv 0),.val (iv 0),.val (nS),.val (iv 4),.val (iv i21)] [.ld ⟨b1,0,none⟩ (iv 0),.ld ⟨b1,1,none⟩ (sv noS),.ld ⟨b1,2,none⟩ (iv 0),.ld ⟨b1,3,none⟩ (iv 0),.ld ⟨b1,4,none⟩ (nS),.ld ⟨b2,0,none⟩ (iv 4),.ld ⟨b2,1,none⟩ (iv i21)] [none_] (by kernel_rfl) (by kernel_rfl) ⟨⟨0,_,_,_,rfl,rfl,rfl⟩,⟨0,_,_,_,rfl,rfl,rfl⟩,⟨0,_,_,_,rfl,rfl,rfl⟩,⟨0,_,_,_,rfl,rfl,rfl⟩,⟨0,_,_,_,rfl,rfl,rfl⟩,⟨1,_,_,_,rfl,rfl,rfl⟩,⟨1,_,_,_,rfl,rfl,rfl⟩,trivial⟩ fun w_ hw_=>(⟨⟨none_,none,0,(AL.nil (Bb 54) 54 none_),rfl,rfl⟩,St.TI 1 hw_.tail.tail⟩)
    exact CI (JI.ok OH (Ah.rd o7)) rfl ⟨(.tail _ (.tail _ (.tail _ (.head _)))),trivial⟩ (K.drop (K.mv3 (K.drop (Ad (AV () h sb rfl)))))
   ·exact Bt (AB (K.drop (K.mv3 (K.drop (AV () h sb rfl)))))
abbrev Tk:=Int×ByteArray×Int×Int
inductive PV (α:Type) where
 | ok (a:α) (r:List Tk)
 | bad (at_:Int)
def PV.bind {α β:Type} (x:Option (PV α)) (f:α→List Tk→Option (PV β)):Option (PV β) :=
 match x with
 | none=>none
 | some (.ok a r)=>f a r
 | some (.bad i)=>some (.bad i)
def hd (ts:List Tk):Tk:=ts.headD (6,⟨#[]⟩,0,0)
def isT (w:ByteArray) (t:Tk):Bool:=(t.1 == 2 || t.1 == 5) && t.2.1.toList == w.toList
def AN (w:ByteArray) (ts:List Tk):Bool:=isT w (hd ts)
def Gw (w:ByteArray) (ts:List Tk):Option (PV Unit):=if AN w ts then some (.ok () ts.tail) else some (.bad (hd ts).2.2.2)
abbrev J0:ByteArray:=⟨#[59]⟩
abbrev G5:ByteArray:=⟨#[44]⟩
abbrev GU:ByteArray:=⟨#[61]⟩
abbrev QG:ByteArray:=⟨#[40]⟩
abbrev Jz:ByteArray:=⟨#[41]⟩
abbrev VV:ByteArray:=⟨#[91]⟩
abbrev kRb:ByteArray:=⟨#[93]⟩
abbrev kLc:ByteArray:=⟨#[123]⟩
abbrev QH:ByteArray:=⟨#[125]⟩
abbrev Aqc:ByteArray:=⟨#[46]⟩
abbrev Tt:ByteArray:=⟨#[35]⟩
abbrev Ph:ByteArray:=⟨#[45]⟩
abbrev Aqw:ByteArray:=⟨#[114,101,116,117,114,110]⟩
abbrev Ts:ByteArray:=⟨#[102,117,110,99,116,105,111,110]⟩
abbrev Jy:ByteArray:=⟨#[101,110,100]⟩
abbrev Tq:ByteArray:=⟨#[101,108,115,101]⟩
abbrev Tr:ByteArray:=⟨#[101,108,115,101,105,102]⟩
abbrev Tp:ByteArray:=⟨#[100,111]⟩
abbrev Aq7:ByteArray:=⟨#[119,104,105,108,101]⟩
abbrev kIf:ByteArray:=⟨#[105,102]⟩
abbrev Aq3:ByteArray:=⟨#[116,104,101,110]⟩
abbrev Aqk:ByteArray:=⟨#[102,111,114]⟩
abbrev ZW:ByteArray:=⟨#[105,110]⟩
abbrev Aql:ByteArray:=⟨#[108,111,99,97,108]⟩
abbrev Aqa:ByteArray:=⟨#[98,114,101,97,107]⟩
abbrev Aqq:ByteArray:=⟨#[110,105,108]⟩
abbrev Aq5:ByteArray:=⟨#[116,114,117,101]⟩
abbrev Aqj:ByteArray:=⟨#[102,97,108,115,101]⟩
abbrev Tu:ByteArray:=⟨#[110,111,116]⟩
abbrev kOr:ByteArray:=⟨#[111,114]⟩
abbrev Ap9:ByteArray:=⟨#[97,110,100]⟩
abbrev kLt:ByteArray:=⟨#[60]⟩
abbrev kGt:ByteArray:=⟨#[62]⟩
abbrev kLe:ByteArray:=⟨#[60,61]⟩
abbrev kGe:ByteArray:=⟨#[62,61]⟩
abbrev kNe:ByteArray:=⟨#[126,61]⟩
abbrev Aqi:ByteArray:=⟨#[61,61]⟩
abbrev Aqb:ByteArray:=⟨#[46,46]⟩
abbrev Aqt:ByteArray:=⟨#[43]⟩
abbrev Aqy:ByteArray:=⟨#[42]⟩
abbrev Aqx:ByteArray:=⟨#[47,47]⟩
abbrev Aqs:ByteArray:=⟨#[37]⟩
abbrev noB:ByteArray:=⟨#[]⟩
def Jg (kind:Int) (ts:List Tk):Option (PV Tree) :=
 if (hd ts).1=1 then some (.ok (.mk kind (hd ts).2.1 0 (hd ts).2.2.2 []) ts.tail) else some (.bad (hd ts).2.2.2)
def GL:Nat→List Tree→List Tk→Option (PV (List Tree))
 | 0,_,_=>none
 | f+1,acc,ts=>if AN G5 ts then PV.bind (Jg 6 ts.tail) fun n r=>GL f (acc++[n]) r else some (.ok acc ts)
def Ng (f:Nat) (ts:List Tk):Option (PV (List Tree)):=PV.bind (Jg 6 ts) fun n r=>GL f [n] r
def Fu (ts:List Tk):Int :=
 if AN kOr ts then 1 else if AN Ap9 ts then 2
 else if AN kLt ts || AN kGt ts || AN kLe ts || AN kGe ts || AN kNe ts || AN Aqi ts then 3
 else if AN Aqb ts then 4 else if AN Aqt ts || AN Ph ts then 5 else if AN Aqy ts || AN Aqx ts || AN Aqs ts then 6 else 0
def O5 (ts:List Tk):Bool:=(hd ts).1 == 6 || AN Jy ts || AN Tq ts || AN Tr ts
mutual
def DH:Nat→Int→List Tk→Option (PV Tree)
 | 0,_,_=>none
 | f+1,least,ts=>PV.bind (FB f ts) fun n r=>FQ f least n r
def FQ:Nat→Int→Tree→List Tk→Option (PV Tree)
 | 0,_,_,_=>none
 | f+1,least,n,ts =>
  if Fu ts≤least then some (.ok n ts)
  else PV.bind (DH f (if Fu ts=4 then 3 else Fu ts) ts.tail) fun m r=>FQ f least (.mk 11 (hd ts).2.1 0 n.at_ [n,m]) r
def FB:Nat→List Tk→Option (PV Tree)
 | 0,_=>none
 | f+1,ts =>
  if (hd ts).1=3 then some (.ok (.mk 4 noB (hd ts).2.2.1 (hd ts).2.2.2 []) ts.tail)
  else if (hd ts).1=4 then some (.ok (.mk 5 (hd ts).2.1 0 (hd ts).2.2.2 []) ts.tail)
  else if AN Aqq ts then some (.ok (.mk 1 noB 0 (hd ts).2.2.2 []) ts.tail)
  else if AN Aq5 ts then some (.ok (.mk 2 noB 0 (hd ts).2.2.2 []) ts.tail)
  else if AN Aqj ts then some (.ok (.mk 3 noB 0 (hd ts).2.2.2 []) ts.tail)
  else if AN Tu ts || AN Tt ts || AN Ph ts then PV.bind (DH f 7 ts.tail) fun m r=>some (.ok (.mk 10 (hd ts).2.1 0 (hd ts).2.2.2 [m]) r)
  else if AN kLc ts then PV.bind (FA f [] ts.tail) fun l r=>some (.ok (.mk 12 noB 0 (hd ts).2.2.2 l) r)
  else Fm f ts
def FA:Nat→List Tree→List Tk→Option (PV (List Tree))
 | 0,_,_=>none
 | f+1,acc,ts =>
  if AN QH ts then some (.ok acc ts.tail)
  else PV.bind (Gc f ts) fun x r =>
   if AN G5 r then FA f (acc++[x]) r.tail
   else if AN J0 r then FA f (acc++[x]) r.tail
   else PV.bind (Gw QH r) fun _ r=>some (.ok (acc++[x]) r)
def Gc:Nat→List Tk→Option (PV Tree)
 | 0,_=>none
 | f+1,ts =>
  if AN VV ts then
   PV.bind (DH f 0 ts.tail) fun k r=>PV.bind (Gw kRb r) fun _ r=>PV.bind (Gw GU r) fun _ r=>PV.bind (DH f 0 r) fun v r=>some (.ok (.mk 14 noB 0 (hd ts).2.2.2 [k,v]) r)
  else if (hd ts).1=1∧(hd ts.tail).1=5∧(hd ts.tail).2.1.toList=GU.toList then
   PV.bind (DH f 0 ts.tail.tail) fun v r=>some (.ok (.mk 14 noB 0 (hd ts).2.2.2 [.mk 5 (hd ts).2.1 0 (hd ts).2.2.2 [],v]) r)
  else PV.bind (DH f 0 ts) fun v r=>some (.ok (.mk 13 noB 0 (hd ts).2.2.2 [v]) r)
def Fm:Nat→List Tk→Option (PV Tree)
 | 0,_=>none
 | f+1,ts =>
  if AN QG ts then PV.bind (DH f 0 ts.tail) fun e r=>PV.bind (Gw Jz r) fun _ r=>Fl f (hd ts).2.2.2 (.mk 9 noB 0 (hd ts).2.2.2 [e]) r
  else PV.bind (Jg 6 ts) fun n r=>Fl f (hd ts).2.2.2 n r
def Fl:Nat→Int→Tree→List Tk→Option (PV Tree)
 | 0,_,_,_=>none
 | f+1,at_,n,ts =>
  if AN VV ts then PV.bind (DH f 0 ts.tail) fun e r=>PV.bind (Gw kRb r) fun _ r=>Fl f at_ (.mk 7 noB 0 at_ [n,e]) r
  else if AN Aqc ts then PV.bind (Jg 5 ts.tail) fun e r=>Fl f at_ (.mk 7 noB 0 at_ [n,e]) r
  else if AN QG ts then
   PV.bind (if AN Jz ts.tail then some (.ok [] ts.tail) else Fk f ts.tail) fun l r=>PV.bind (Gw Jz r) fun _ r=>Fl f at_ (.mk 8 noB 0 at_ (n :: l)) r
  else some (.ok n ts)
def Fk:Nat→List Tk→Option (PV (List Tree))
 | 0,_=>none
 | f+1,ts=>PV.bind (DH f 0 ts) fun e r=>FP f [e] r
def FP:Nat→List Tree→List Tk→Option (PV (List Tree))
 | 0,_,_=>none
 | f+1,acc,ts=>if AN G5 ts then PV.bind (DH f 0 ts.tail) fun e r=>FP f (acc++[e]) r else some (.ok acc ts)
end
mutual
def Fc:Nat→Bool→List Tk→Option (PV Tree)
 | 0,_,_=>none
 | f+1,chunk,ts=>Fj f chunk (hd ts).2.2.2 [] ts
def Fj:Nat→Bool→Int→List Tree→List Tk→Option (PV Tree)
 | 0,_,_,_,_=>none
 | f+1,chunk,at_,acc,ts =>
  if AN J0 ts then Fj f chunk at_ acc ts.tail
  else if AN Aqw ts then
   PV.bind (if O5 ts.tail || AN J0 ts.tail then some (.ok [] ts.tail) else Fk f ts.tail) fun l r =>
    some (.ok (.mk 20 noB 0 at_ (acc++[.mk 30 noB 0 (hd ts).2.2.2 l])) (if AN J0 r then r.tail else r))
  else if chunk && AN Ts ts then PV.bind (Ge f ts) fun x r=>Fj f chunk at_ (acc++[x]) r
  else if O5 ts then some (.ok (.mk 20 noB 0 at_ acc) ts)
  else PV.bind (Gg f ts) fun x r=>Fj f chunk at_ (acc++[x]) r
def Ge:Nat→List Tk→Option (PV Tree)
 | 0,_=>none
 | f+1,ts =>
  PV.bind (Jg 6 ts.tail) fun nm r=>PV.bind (Gw QG r) fun _ r =>
   PV.bind (if AN Jz r then some (.ok [] r) else Ng f r) fun ps r=>PV.bind (Gw Jz r) fun _ r =>
    PV.bind (Fc f false r) fun b r=>PV.bind (Gw Jy r) fun _ r=>some (.ok (.mk 31 nm.text ps.length (hd ts).2.2.2 (ps++[b])) r)
/-- do, a block, end. -/
def Fx:Nat→List Tk→Option (PV Tree)
 | 0,_=>none
 | f+1,ts=>PV.bind (Gw Tp ts) fun _ r=>PV.bind (Fc f false r) fun b r=>PV.bind (Gw Jy r) fun _ r=>some (.ok b r)
def Gg:Nat→List Tk→Option (PV Tree)
 | 0,_=>none
 | f+1,ts =>
  if AN Tp ts then PV.bind (Fx f ts) fun b r=>some (.ok (.mk 28 noB 0 (hd ts).2.2.2 [b]) r)
  else if AN Aq7 ts then PV.bind (DH f 0 ts.tail) fun e r=>PV.bind (Fx f r) fun b r=>some (.ok (.mk 25 noB 0 (hd ts).2.2.2 [e,b]) r)
  else if AN kIf ts then PV.bind (FO f [] ts.tail) fun l r=>some (.ok (.mk 24 noB 0 (hd ts).2.2.2 l) r)
  else if AN Aqk ts then Gd f (hd ts).2.2.2 ts.tail
  else if AN Aql ts then
   PV.bind (Ng f ts.tail) fun l r=>PV.bind (if AN GU r then Fk f r.tail else some (.ok [] r)) fun es r=>some (.ok (.mk 21 noB l.length (hd ts).2.2.2 (l++es)) r)
  else if AN Aqa ts then some (.ok (.mk 29 noB 0 (hd ts).2.2.2 []) ts.tail)
  else Gf f ts
def FO:Nat→List Tree→List Tk→Option (PV (List Tree))
 | 0,_,_=>none
 | f+1,acc,ts =>
  PV.bind (DH f 0 ts) fun e r=>PV.bind (Gw Aq3 r) fun _ r=>PV.bind (Fc f false r) fun b r =>
   if AN Tr r then FO f (acc++[e]++[b]) r.tail
   else if AN Tq r then PV.bind (Fc f false r.tail) fun c r=>PV.bind (Gw Jy r) fun _ r=>some (.ok (acc++[e]++[b]++[c]) r)
   else PV.bind (Gw Jy r) fun _ r=>some (.ok (acc++[e]++[b]) r)
def Gd:Nat→Int→List Tk→Option (PV Tree)
 | 0,_,_=>none
 | f+1,at_,ts =>
  PV.bind (Jg 6 ts) fun n r =>
   if AN GU r then
    PV.bind (DH f 0 r.tail) fun a r=>PV.bind (Gw G5 r) fun _ r=>PV.bind (DH f 0 r) fun b r =>
     PV.bind (if AN G5 r then PV.bind (DH f 0 r.tail) fun c r=>some (.ok [c] r) else some (.ok [] r)) fun cs r=>PV.bind (Fx f r) fun bd r =>
      some (.ok (.mk 26 noB 0 at_ ([n]++[a]++[b]++cs++[bd])) r)
   else
    PV.bind (GL f [n] r) fun l r=>PV.bind (Gw ZW r) fun _ r=>PV.bind (Fk f r) fun es r=>PV.bind (Fx f r) fun bd r =>
     some (.ok (.mk 27 noB l.length at_ (l++es++[bd])) r)
def Gf:Nat→List Tk→Option (PV Tree)
 | 0,_=>none
 | f+1,ts =>
  PV.bind (Fm f ts) fun e r =>
   if AN GU r || AN G5 r then
    PV.bind (FR f [] e r) fun l r=>PV.bind (Gw GU r) fun _ r=>PV.bind (Fk f r) fun es r=>some (.ok (.mk 22 noB l.length e.at_ (l++es)) r)
   else if e.kind=8 then some (.ok (.mk 23 noB 0 e.at_ [e]) r) else some (.bad (hd r).2.2.2)
/-- The targets of an assignment, from e on. -/
def FR:Nat→List Tree→Tree→List Tk→Option (PV (List Tree))
 | 0,_,_,_=>none
 | f+1,acc,e,ts =>
  if e.kind=6∨e.kind=7 then
   if AN G5 ts then PV.bind (Fm f ts.tail) fun e' r=>FR f (acc++[e]) e' r else some (.ok (acc++[e]) ts)
  else some (.bad e.at_)
end
def Good:List Tk→Prop
 | []=>False
 | [t]=>t.1=6
 | t :: u :: ts=>t.1≠6∧Good (u :: ts)
theorem Good.tail {ts:List Tk} (h:Good ts) (h6:(hd ts).1≠6):Good ts.tail∧ts.tail.length+1=ts.length∧ts.tail <:+ ts:=by
 cases ts with
 | nil=>exact h.elim
 | cons t ts =>
  cases ts with
  | nil=>exact absurd h h6
  | cons u ts=>exact ⟨h.2,rfl,List.suffix_cons t _⟩
theorem AX {w:ByteArray} {ts:List Tk} (h:AN w ts=true):(hd ts).1≠6:=by
 unfold AN isT at h
 intro h6
 rw [h6] at h
 simp at h
def Fwd {α:Type} (n:Nat) (ts:List Tk):PV α→Prop
 | .ok _ r=>Good r∧r.length+n≤ts.length∧r <:+ ts
 | .bad _=>True
def Step {α:Type} (n:Nat) (ts:List Tk) (x:Option (PV α)):Prop:=Good ts→∀ v,x=some v→Fwd n ts v
section
variable {α β:Type} {n m:Nat} {ts:List Tk} {x:Option (PV α)} {f:α→List Tk→Option (PV β)}
theorem bind_some {v:PV β} (h:PV.bind x f=some v):(∃ i,x=some (.bad i)∧v=.bad i)∨∃ a r,x=some (.ok a r)∧f a r=some v:=by
 unfold PV.bind at h
 split at h
 ·cases h
 ·exact .inr ⟨_,_,rfl,h⟩
 ·exact .inl ⟨_,rfl,(Ap h).symm⟩
theorem CP (h1:Step n ts x) (h2:∀ a r,Step m r (f a r)):Step (n+m) ts (PV.bind x f):=fun hg v hv=>by
 rcases bind_some hv with ⟨i,_,rfl⟩ | ⟨a,r,hx,hf⟩
 ·trivial
 ·obtain ⟨g1,g2,g3⟩:=h1 hg _ hx
  have:=h2 a r g1 v hf
  cases v with
  | bad=>trivial
  | ok b s =>
   obtain ⟨g4,g5,g6⟩:=this
   exact ⟨g4,by omega,g6.trans g3⟩
theorem D5 (h:Step n ts x) (hm:m≤n):Step m ts x:=fun hg v hv=>by
 have:=h hg v hv
 cases v with
 | bad=>trivial
 | ok b s=>exact ⟨this.1,by have:=this.2.1;omega,this.2.2⟩
theorem step_none:Step n ts (none:Option (PV α)):=fun _ _ h=>by cases h
theorem step_bad {i:Int}:Step n ts (some (.bad i):Option (PV α)):=fun _ _ h=>by cases h;trivial
theorem step_ok {a:α}:Step 0 ts (some (.ok a ts)):=fun hg _ h=>by cases h;exact ⟨hg,Nat.le_refl _,List.suffix_refl _⟩
theorem DQ (h6:(hd ts).1≠6) (h:Step m ts.tail x):Step (m+1) ts x:=fun hg v hv=>by
 obtain ⟨g1,g2,g3⟩:=hg.tail h6
 have:=h g1 v hv
 cases v with
 | bad=>trivial
 | ok b s=>exact ⟨this.1,by have:=this.2.1;omega,this.2.2.trans g3⟩
theorem Dy {c:Prop} [Decidable c] {y z:Option (PV α)} (h1:c→Step n ts y) (h2:¬ c→Step n ts z):Step n ts (if c then y else z):=by
 by_cases h:c
 ·rw [if_pos h];exact h1 h
 ·rw [if_neg h];exact h2 h
theorem Eu (w:ByteArray) (ts:List Tk):Step 1 ts (Gw w ts):=Dy (fun h=>DQ (AX h) step_ok) fun _=>step_bad
theorem JM (k:Int) (ts:List Tk):Step 1 ts (Jg k ts):=Dy (fun h=>DQ (by omega) step_ok) fun _=>step_bad
theorem Uz:∀ (f:Nat) (acc:List Tree) (ts:List Tk),Step 0 ts (GL f acc ts)
 | 0,_,_=>step_none
 | f+1,acc,ts=>by
  unfold GL
  exact Dy (fun h=>D5 (DQ (AX h) (CP (JM 6 _) fun _ _=>Uz f _ _)) (Nat.zero_le _)) fun _=>step_ok
theorem Xi (f:Nat) (ts:List Tk):Step 1 ts (Ng f ts):=CP (JM 6 ts) fun _ _=>Uz f _ _
end
structure Az6 (f:Nat):Prop where
 exp:∀ least ts,Step 1 ts (DH f least ts)
 loop:∀ least n ts,Step 0 ts (FQ f least n ts)
 operand:∀ ts,Step 1 ts (FB f ts)
 fields:∀ acc ts,Step 1 ts (FA f acc ts)
 field:∀ ts,Step 1 ts (Gc f ts)
 ET:∀ ts,Step 1 ts (Fm f ts)
 DV:∀ at_ n ts,Step 0 ts (Fl f at_ n ts)
 D1:∀ ts,Step 1 ts (Fk f ts)
 GG:∀ acc ts,Step 0 ts (FP f acc ts)
theorem Qi {ts:List Tk} (h:Fu ts≠0):(hd ts).1≠6:=by
 intro h6
 have hf:∀ w,AN w ts=false:=fun w=>by
  cases hw:AN w ts with
  | false=>rfl
  | true=>exact absurd h6 (AX hw)
 exact h (by simp [Fu,hf])
theorem Aje (ts:List Tk):0≤Fu ts∧Fu ts≤6:=by
 unfold Fu
 repeat' split
 all_goals omega
theorem Mq:∀ f,Az6 f
 | 0=>by constructor <;> intros <;> (first | unfold DH | unfold FQ | unfold FB | unfold FA | unfold Gc | unfold Fm | unfold Fl | unfold Fk | unfold FP) <;> exact step_none
 | f+1=>by
  have ih:=Mq f
  constructor
  ·intro least ts;unfold DH
   exact CP (ih.operand ts) fun _ _=>ih.loop _ _ _
  ·intro least n ts;unfold FQ
   refine Dy (fun _=>step_ok) fun h=>?_
   by_cases h0:Fu ts=0
   ·-- a least below 0 is never asked for; then nothing is eaten
    intro hg v hv
    by_cases h6:(hd ts).1=6
    ·rcases bind_some hv with ⟨i,_,rfl⟩ | ⟨a,r,hx,hf⟩
     ·trivial
     ·exfalso
      cases ts with
      | nil=>exact hg
      | cons t ts =>
       cases ts with
       | nil =>
        have hx':DH f (if Fu [t]=4 then 3 else Fu [t]) []=some (.ok a r):=hx
        clear hx hf hv
        cases f with
        | zero=>unfold DH at hx';cases hx'
        | succ f =>
         unfold DH at hx'
         rcases bind_some hx' with ⟨i,_,he⟩ | ⟨a',r',hx,hf⟩
         ·cases he
         ·cases f with
          | zero=>unfold FB at hx;cases hx
          | succ f =>
           unfold FB at hx
           simp only [hd,List.headD_nil,AN,isT] at hx
           cases f with
           | zero=>unfold Fm at hx;simp at hx
           | succ f=>unfold Fm at hx;simp [AN,isT,hd,Jg,PV.bind] at hx
       | cons u ts=>exact hg.1 h6
    ·exact (D5 (DQ h6 (CP (ih.exp _ _) fun _ _=>ih.loop _ _ _)) (Nat.zero_le _)) hg v hv
   ·exact D5 (DQ (Qi h0) (CP (ih.exp _ _) fun _ _=>ih.loop _ _ _)) (Nat.zero_le _)
  ·intro ts;unfold FB
   refine Dy (fun h=>DQ (by omega) step_ok) fun _=>?_
   refine Dy (fun h=>DQ (by omega) step_ok) fun _=>?_
   refine Dy (fun h=>DQ (AX h) step_ok) fun _=>?_
   refine Dy (fun h=>DQ (AX h) step_ok) fun _=>?_
   refine Dy (fun h=>DQ (AX h) step_ok) fun _=>?_
   refine Dy (fun h=>?_) fun _=>?_
   ·have h6:(hd ts).1≠6:=by
     simp only [Bool.or_eq_true] at h
     rcases h with (h | h) | h <;> exact AX h
    exact D5 (DQ h6 (CP (ih.exp _ _) fun _ _=>step_ok)) (by omega)
   refine Dy (fun h=>?_) fun _=>?_
   ·exact D5 (DQ (AX h) (CP (ih.fields _ _) fun _ _=>step_ok)) (by omega)
   ·exact ih.ET ts
  ·intro acc ts;unfold FA
   refine Dy (fun h=>DQ (AX h) step_ok) fun _=>?_
   refine D5 (CP (m:=0) (ih.field ts) fun x r=>?_) (by omega)
   refine Dy (fun h=>D5 (DQ (AX h) (ih.fields _ _)) (by omega)) fun _=>?_
   refine Dy (fun h=>D5 (DQ (AX h) (ih.fields _ _)) (by omega)) fun _=>?_
   exact D5 (CP (Eu _ _) fun _ _=>step_ok) (by omega)
  ·intro ts;unfold Gc
   refine Dy (fun h=>?_) fun _=>?_
   ·exact D5 (DQ (AX h) (CP (ih.exp _ _) fun _ _=>CP (Eu _ _) fun _ _=>CP (Eu _ _) fun _ _=>CP (ih.exp _ _) fun _ _=>step_ok)) (by omega)
   refine Dy (fun h=>?_) fun _=>?_
   ·obtain ⟨h1,h2,_⟩:=h
    exact D5 (DQ (by omega) (DQ (by omega) (CP (ih.exp _ _) fun _ _=>step_ok))) (by omega)
   ·exact CP (ih.exp _ _) fun _ _=>step_ok
  ·intro ts;unfold Fm
   refine Dy (fun h=>?_) fun _=>?_
   ·exact D5 (DQ (AX h) (CP (ih.exp _ _) fun _ _=>CP (Eu _ _) fun _ _=>ih.DV _ _ _)) (by omega)
   ·exact CP (JM _ _) fun _ _=>ih.DV _ _ _
  ·intro at_ n ts;unfold Fl
   refine Dy (fun h=>?_) fun _=>?_
   ·exact D5 (DQ (AX h) (CP (ih.exp _ _) fun _ _=>CP (Eu _ _) fun _ _=>ih.DV _ _ _)) (by omega)
   refine Dy (fun h=>?_) fun _=>?_
   ·exact D5 (DQ (AX h) (CP (JM _ _) fun _ _=>ih.DV _ _ _)) (by omega)
   refine Dy (fun h=>?_) fun _=>step_ok
   ·refine D5 (DQ (AX h) (CP (n:=0) ?_ fun _ _=>CP (Eu _ _) fun _ _=>ih.DV _ _ _)) (by omega)
    exact Dy (fun _=>step_ok) fun _=>D5 (ih.D1 _) (by omega)
  ·intro ts;unfold Fk
   exact CP (ih.exp _ _) fun _ _=>ih.GG _ _
  ·intro acc ts;unfold FP
   exact Dy (fun h=>D5 (DQ (AX h) (CP (ih.exp _ _) fun _ _=>ih.GG _ _)) (by omega)) fun _=>step_ok
structure Az7 (f:Nat):Prop where
 block:∀ c ts,Step 0 ts (Fc f c ts)
 EI:∀ c at_ acc ts,Step 0 ts (Fj f c at_ acc ts)
 function:∀ ts,(hd ts).1≠6→Step 1 ts (Ge f ts)
 body:∀ ts,Step 1 ts (Fx f ts)
 stat:∀ ts,Step 1 ts (Gg f ts)
 branches:∀ acc ts,Step 1 ts (FO f acc ts)
 for_:∀ at_ ts,Step 1 ts (Gd f at_ ts)
 plain:∀ ts,Step 1 ts (Gf f ts)
 targets:∀ acc e ts,Step 0 ts (FR f acc e ts)
theorem stepS:∀ f,Az7 f
 | 0=>by constructor <;> intros <;> (first | unfold Fc | unfold Fj | unfold Ge | unfold Fx | unfold Gg | unfold FO | unfold Gd | unfold Gf | unfold FR) <;> exact step_none
 | f+1=>by
  have ih:=stepS f
  have ie:=Mq f
  constructor
  ·intro c ts;unfold Fc
   exact ih.EI _ _ _ _
  ·intro c at_ acc ts;unfold Fj
   refine Dy (fun h=>D5 (DQ (AX h) (ih.EI _ _ _ _)) (by omega)) fun _=>?_
   refine Dy (fun h=>?_) fun _=>?_
   ·refine D5 (DQ (AX h) (CP (n:=0) (m:=0) ?_ fun l r=>?_)) (by omega)
    ·exact Dy (fun _=>step_ok) fun _=>D5 (ie.D1 _) (by omega)
    ·by_cases h:AN J0 r=true
     ·rw [if_pos h];exact D5 (DQ (AX h) step_ok) (by omega)
     ·rw [if_neg h];exact step_ok
   refine Dy (fun h=>?_) fun _=>?_
   ·simp only [Bool.and_eq_true] at h
    exact D5 (CP (ih.function _ (AX h.2)) fun _ _=>ih.EI _ _ _ _) (by omega)
   refine Dy (fun _=>step_ok) fun _=>?_
   exact D5 (CP (ih.stat _) fun _ _=>ih.EI _ _ _ _) (by omega)
  ·intro ts h6;unfold Ge
   refine D5 (DQ h6 (CP (JM _ _) fun _ _=>CP (Eu _ _) fun _ r=>CP (n:=0) ?_ fun _ _=>CP (Eu _ _) fun _ _=>CP (ih.block _ _) fun _ _=>CP (Eu _ _) fun _ _=>step_ok)) (by omega)
   exact Dy (fun _=>step_ok) fun _=>D5 (Xi f r) (by omega)
  ·intro ts;unfold Fx
   exact D5 (CP (Eu _ _) fun _ _=>CP (ih.block _ _) fun _ _=>CP (Eu _ _) fun _ _=>step_ok) (by omega)
  ·intro ts;unfold Gg
   refine Dy (fun h=>CP (ih.body _) fun _ _=>step_ok) fun _=>?_
   refine Dy (fun h=>D5 (DQ (AX h) (CP (ie.exp _ _) fun _ _=>CP (ih.body _) fun _ _=>step_ok)) (by omega)) fun _=>?_
   refine Dy (fun h=>D5 (DQ (AX h) (CP (ih.branches _ _) fun _ _=>step_ok)) (by omega)) fun _=>?_
   refine Dy (fun h=>D5 (DQ (AX h) (ih.for_ _ _)) (by omega)) fun _=>?_
   refine Dy (fun h=>?_) fun _=>?_
   ·refine D5 (DQ (AX h) (CP (Xi f _) fun _ r=>CP (n:=0) ?_ fun _ _=>step_ok)) (by omega)
    exact Dy (fun h=>D5 (DQ (AX h) (ie.D1 _)) (by omega)) fun _=>step_ok
   refine Dy (fun h=>DQ (AX h) step_ok) fun _=>ih.plain _
  ·intro acc ts;unfold FO
   refine D5 (CP (ie.exp _ _) fun _ _=>CP (Eu _ _) fun _ _=>CP (m:=0) (ih.block _ _) fun _ r=>?_) (by omega)
   refine Dy (fun h=>D5 (DQ (AX h) (ih.branches _ _)) (by omega)) fun _=>?_
   refine Dy (fun h=>D5 (DQ (AX h) (CP (ih.block _ _) fun _ _=>CP (Eu _ _) fun _ _=>step_ok)) (by omega)) fun _=>?_
   exact D5 (CP (Eu _ _) fun _ _=>step_ok) (by omega)
  ·intro at_ ts;unfold Gd
   refine D5 (CP (m:=0) (JM _ _) fun n r=>?_) (by omega)
   refine Dy (fun h=>?_) fun _=>?_
   ·refine D5 (DQ (AX h) (CP (ie.exp _ _) fun _ _=>CP (Eu _ _) fun _ _=>CP (ie.exp _ _) fun _ r=>CP (n:=0) ?_ fun _ _=>CP (ih.body _) fun _ _=>step_ok)) (by omega)
    exact Dy (fun h=>D5 (DQ (AX h) (CP (ie.exp _ _) fun _ _=>step_ok)) (by omega)) fun _=>step_ok
   ·exact D5 (CP (Uz _ _ _) fun _ _=>CP (Eu _ _) fun _ _=>CP (ie.D1 _) fun _ _=>CP (ih.body _) fun _ _=>step_ok) (by omega)
  ·intro ts;unfold Gf
   refine D5 (CP (m:=0) (ie.ET _) fun e r=>?_) (by omega)
   refine Dy (fun h=>?_) fun _=>?_
   ·exact D5 (CP (ih.targets _ _ _) fun _ _=>CP (Eu _ _) fun _ _=>CP (ie.D1 _) fun _ _=>step_ok) (by omega)
   ·exact Dy (fun _=>step_ok) fun _=>step_bad
  ·intro acc e ts;unfold FR
   refine Dy (fun _=>?_) fun _=>step_bad
   exact Dy (fun h=>D5 (DQ (AX h) (CP (ie.ET _) fun _ _=>ih.targets _ _ _)) (by omega)) fun _=>step_ok
theorem CR {α β:Type} {n:Nat} {ts:List Tk} {x:Option (PV α)} {f:α→List Tk→Option (PV β)} (hg:Good ts) (h1:∃ v,x=some v) (hs:Step n ts x) (h2:∀ a r,Good r→r.length+n≤ts.length→∃ v,f a r=some v):∃ v,PV.bind x f=some v:=by
 obtain ⟨v,rfl⟩:=h1
 cases v with
 | bad i=>exact ⟨_,rfl⟩
 | ok a r =>
  obtain ⟨g1,g2,_⟩:=hs hg _ rfl
  exact h2 a r g1 g2
theorem DE {α:Type} {c:Prop} [Decidable c] {y z:Option (PV α)} (h1:c→∃ v,y=some v) (h2:¬ c→∃ v,z=some v):∃ v,(if c then y else z)=some v:=by
 by_cases h:c
 ·rw [if_pos h];exact h1 h
 ·rw [if_neg h];exact h2 h
theorem IB (w:ByteArray) (ts:List Tk):∃ v,Gw w ts=some v:=DE (fun _=>⟨_,rfl⟩) fun _=>⟨_,rfl⟩
theorem PL (k:Int) (ts:List Tk):∃ v,Jg k ts=some v:=DE (fun _=>⟨_,rfl⟩) fun _=>⟨_,rfl⟩
theorem R6:∀ (f:Nat) (acc:List Tree) (ts:List Tk),Good ts→16 * ts.length+1≤f→∃ v,GL f acc ts=some v
 | 0,_,_,_,h=>by omega
 | f+1,acc,ts,hg,h=>by
  unfold GL
  refine DE (fun hc=>?_) fun _=>⟨_,rfl⟩
  obtain ⟨g1,g2,_⟩:=hg.tail (AX hc)
  exact CR g1 (PL _ _) (JM _ _) fun a r hr hl=>R6 f _ r hr (by omega)
structure Az8 (f:Nat):Prop where
 exp:∀ least ts,0≤least→Good ts→16 * ts.length+5≤f→∃ v,DH f least ts=some v
 loop:∀ least n ts,0≤least→Good ts→16 * ts.length+1≤f→∃ v,FQ f least n ts=some v
 operand:∀ ts,Good ts→16 * ts.length+4≤f→∃ v,FB f ts=some v
 fields:∀ acc ts,Good ts→16 * ts.length+7≤f→∃ v,FA f acc ts=some v
 field:∀ ts,Good ts→16 * ts.length+6≤f→∃ v,Gc f ts=some v
 ET:∀ ts,Good ts→16 * ts.length+3≤f→∃ v,Fm f ts=some v
 DV:∀ at_ n ts,Good ts→16 * ts.length+1≤f→∃ v,Fl f at_ n ts=some v
 D1:∀ ts,Good ts→16 * ts.length+6≤f→∃ v,Fk f ts=some v
 GG:∀ acc ts,Good ts→16 * ts.length+1≤f→∃ v,FP f acc ts=some v
theorem Hd:∀ f,Az8 f
 | 0=>by constructor <;> intros <;> omega
 | f+1=>by
  have ih:=Hd f
  have st:=Mq f
  constructor
  ·intro least ts hl hg h;unfold DH
   exact CR hg (ih.operand _ hg (by omega)) (st.operand _) fun a r hr hn=>ih.loop _ _ _ hl hr (by omega)
  ·intro least n ts hl hg h;unfold FQ
   refine DE (fun _=>⟨_,rfl⟩) fun hb=>?_
   obtain ⟨g1,g2,_⟩:=hg.tail (Qi (by omega))
   exact CR g1 (ih.exp _ _ (by split <;> omega) g1 (by omega)) (st.exp _ _) fun a r hr hn=>ih.loop _ _ _ hl hr (by omega)
  ·intro ts hg h;unfold FB
   refine DE (fun _=>⟨_,rfl⟩) fun _=>DE (fun _=>⟨_,rfl⟩) fun _=>DE (fun _=>⟨_,rfl⟩) fun _=>DE (fun _=>⟨_,rfl⟩) fun _=>DE (fun _=>⟨_,rfl⟩) fun _=>DE (fun hc=>?_) fun _=>DE (fun hc=>?_) fun _=>ih.ET _ hg (by omega)
   ·have h6:(hd ts).1≠6:=by
     simp only [Bool.or_eq_true] at hc
     rcases hc with (h | h) | h <;> exact AX h
    obtain ⟨g1,g2,_⟩:=hg.tail h6
    exact CR g1 (ih.exp _ _ (by omega) g1 (by omega)) (st.exp _ _) fun a r _ _=>⟨_,rfl⟩
   ·obtain ⟨g1,g2,_⟩:=hg.tail (AX hc)
    exact CR g1 (ih.fields _ _ g1 (by omega)) (st.fields _ _) fun a r _ _=>⟨_,rfl⟩
  ·intro acc ts hg h;unfold FA
   refine DE (fun _=>⟨_,rfl⟩) fun _=>CR hg (ih.field _ hg (by omega)) (st.field _) fun x r hr hn=>?_
   refine DE (fun hc=>?_) fun _=>DE (fun hc=>?_) fun _=>CR hr (IB _ _) (Eu _ _) fun _ _ _ _=>⟨_,rfl⟩
   ·obtain ⟨g1,g2,_⟩:=hr.tail (AX hc)
    exact ih.fields _ _ g1 (by omega)
   ·obtain ⟨g1,g2,_⟩:=hr.tail (AX hc)
    exact ih.fields _ _ g1 (by omega)
  ·intro ts hg h;unfold Gc
   refine DE (fun hc=>?_) fun _=>DE (fun hc=>?_) fun _=>CR hg (ih.exp _ _ (by omega) hg (by omega)) (st.exp _ _) fun _ _ _ _=>⟨_,rfl⟩
   ·obtain ⟨g1,g2,_⟩:=hg.tail (AX hc)
    exact CR g1 (ih.exp _ _ (by omega) g1 (by omega)) (st.exp _ _) fun _ r hr hn=>CR hr (IB _ _) (Eu _ _) fun _ r2 hr2 hn2=>CR hr2 (IB _ _) (Eu _ _) fun _ r3 hr3 hn3=>CR hr3 (ih.exp _ _ (by omega) hr3 (by omega)) (st.exp _ _) fun _ _ _ _=>⟨_,rfl⟩
   ·obtain ⟨h1,h2,_⟩:=hc
    obtain ⟨g1,g2,_⟩:=hg.tail (by omega)
    obtain ⟨g3,g4,_⟩:=g1.tail (by omega)
    exact CR g3 (ih.exp _ _ (by omega) g3 (by omega)) (st.exp _ _) fun _ _ _ _=>⟨_,rfl⟩
  ·intro ts hg h;unfold Fm
   refine DE (fun hc=>?_) fun _=>CR hg (PL _ _) (JM _ _) fun _ r hr hn=>ih.DV _ _ _ hr (by omega)
   obtain ⟨g1,g2,_⟩:=hg.tail (AX hc)
   exact CR g1 (ih.exp _ _ (by omega) g1 (by omega)) (st.exp _ _) fun _ r hr hn=>CR hr (IB _ _) (Eu _ _) fun _ r2 hr2 hn2=>ih.DV _ _ _ hr2 (by omega)
  ·intro at_ n ts hg h;unfold Fl
   refine DE (fun hc=>?_) fun _=>DE (fun hc=>?_) fun _=>DE (fun hc=>?_) fun _=>⟨_,rfl⟩
   ·obtain ⟨g1,g2,_⟩:=hg.tail (AX hc)
    exact CR g1 (ih.exp _ _ (by omega) g1 (by omega)) (st.exp _ _) fun _ r hr hn=>CR hr (IB _ _) (Eu _ _) fun _ r2 hr2 hn2=>ih.DV _ _ _ hr2 (by omega)
   ·obtain ⟨g1,g2,_⟩:=hg.tail (AX hc)
    exact CR g1 (PL _ _) (JM _ _) fun _ r hr hn=>ih.DV _ _ _ hr (by omega)
   ·obtain ⟨g1,g2,_⟩:=hg.tail (AX hc)
    exact CR (n:=0) g1 (DE (fun _=>⟨_,rfl⟩) fun _=>ih.D1 _ g1 (by omega)) (Dy (fun _=>step_ok) fun _=>D5 (st.D1 _) (by omega)) fun _ r hr hn=>CR hr (IB _ _) (Eu _ _) fun _ r2 hr2 hn2=>ih.DV _ _ _ hr2 (by omega)
  ·intro ts hg h;unfold Fk
   exact CR hg (ih.exp _ _ (by omega) hg (by omega)) (st.exp _ _) fun _ r hr hn=>ih.GG _ _ hr (by omega)
  ·intro acc ts hg h;unfold FP
   refine DE (fun hc=>?_) fun _=>⟨_,rfl⟩
   obtain ⟨g1,g2,_⟩:=hg.tail (AX hc)
   exact CR g1 (ih.exp _ _ (by omega) g1 (by omega)) (st.exp _ _) fun _ r hr hn=>ih.GG _ _ hr (by omega)
structure A0c (f:Nat):Prop where
 block:∀ c ts,Good ts→16 * ts.length+9≤f→∃ v,Fc f c ts=some v
 EI:∀ c at_ acc ts,Good ts→16 * ts.length+8≤f→∃ v,Fj f c at_ acc ts=some v
 function:∀ ts,(hd ts).1≠6→Good ts→16 * ts.length+7≤f→∃ v,Ge f ts=some v
 body:∀ ts,Good ts→16 * ts.length+6≤f→∃ v,Fx f ts=some v
 stat:∀ ts,Good ts→16 * ts.length+7≤f→∃ v,Gg f ts=some v
 branches:∀ acc ts,Good ts→16 * ts.length+6≤f→∃ v,FO f acc ts=some v
 for_:∀ at_ ts,Good ts→16 * ts.length+1≤f→∃ v,Gd f at_ ts=some v
 plain:∀ ts,Good ts→16 * ts.length+6≤f→∃ v,Gf f ts=some v
 targets:∀ acc e ts,Good ts→16 * ts.length+1≤f→∃ v,FR f acc e ts=some v
theorem Hv:∀ f,A0c f
 | 0=>by constructor <;> intros <;> omega
 | f+1=>by
  have ih:=Hv f
  have ie:=Hd f
  have se:=Mq f
  have ss:=stepS f
  constructor
  ·intro c ts hg h;unfold Fc
   exact ih.EI _ _ _ _ hg (by omega)
  ·intro c at_ acc ts hg h;unfold Fj
   refine DE (fun hc=>?_) fun _=>DE (fun hc=>?_) fun _=>DE (fun hc=>?_) fun _=>DE (fun _=>⟨_,rfl⟩) fun _=>?_
   ·obtain ⟨g1,g2,_⟩:=hg.tail (AX hc)
    exact ih.EI _ _ _ _ g1 (by omega)
   ·obtain ⟨g1,g2,_⟩:=hg.tail (AX hc)
    exact CR (n:=0) g1 (DE (fun _=>⟨_,rfl⟩) fun _=>ie.D1 _ g1 (by omega)) (Dy (fun _=>step_ok) fun _=>D5 (se.D1 _) (by omega)) fun _ r hr hn=>⟨_,rfl⟩
   ·simp only [Bool.and_eq_true] at hc
    exact CR hg (ih.function _ (AX hc.2) hg (by omega)) (ss.function _ (AX hc.2)) fun _ r hr hn=>ih.EI _ _ _ _ hr (by omega)
   ·exact CR hg (ih.stat _ hg (by omega)) (ss.stat _) fun _ r hr hn=>ih.EI _ _ _ _ hr (by omega)
  ·intro ts h6 hg h;unfold Ge
   obtain ⟨g1,g2,_⟩:=hg.tail h6
   exact CR g1 (PL _ _) (JM _ _) fun _ r hr hn=>CR hr (IB _ _) (Eu _ _) fun _ r2 hr2 hn2 =>
    CR (n:=0) hr2 (DE (fun _=>⟨_,rfl⟩) fun _=>CR hr2 (PL _ _) (JM _ _) fun _ r hr hn=>R6 _ _ _ hr (by omega)) (Dy (fun _=>step_ok) fun _=>D5 (Xi f r2) (by omega)) fun _ r3 hr3 hn3 =>
     CR hr3 (IB _ _) (Eu _ _) fun _ r4 hr4 hn4=>CR hr4 (ih.block _ _ hr4 (by omega)) (ss.block _ _) fun _ r5 hr5 hn5=>CR hr5 (IB _ _) (Eu _ _) fun _ _ _ _=>⟨_,rfl⟩
  ·intro ts hg h;unfold Fx
   exact CR hg (IB _ _) (Eu _ _) fun _ r hr hn=>CR hr (ih.block _ _ hr (by omega)) (ss.block _ _) fun _ r5 hr5 hn5=>CR hr5 (IB _ _) (Eu _ _) fun _ _ _ _=>⟨_,rfl⟩
  ·intro ts hg h;unfold Gg
   refine DE (fun hc=>?_) fun _=>DE (fun hc=>?_) fun _=>DE (fun hc=>?_) fun _=>DE (fun hc=>?_) fun _=>DE (fun hc=>?_) fun _=>DE (fun hc=>⟨_,rfl⟩) fun _=>ih.plain _ hg (by omega)
   ·exact CR hg (ih.body _ hg (by omega)) (ss.body _) fun _ _ _ _=>⟨_,rfl⟩
   ·obtain ⟨g1,g2,_⟩:=hg.tail (AX hc)
    exact CR g1 (ie.exp _ _ (by omega) g1 (by omega)) (se.exp _ _) fun _ r hr hn=>CR hr (ih.body _ hr (by omega)) (ss.body _) fun _ _ _ _=>⟨_,rfl⟩
   ·obtain ⟨g1,g2,_⟩:=hg.tail (AX hc)
    exact CR g1 (ih.branches _ _ g1 (by omega)) (ss.branches _ _) fun _ _ _ _=>⟨_,rfl⟩
   ·obtain ⟨g1,g2,_⟩:=hg.tail (AX hc)
    exact ih.for_ _ _ g1 (by omega)
   ·obtain ⟨g1,g2,_⟩:=hg.tail (AX hc)
    refine CR g1 (CR g1 (PL _ _) (JM _ _) fun _ r hr hn=>R6 _ _ _ hr (by omega)) (Xi f _) fun _ r hr hn=>?_
    refine CR (n:=0) hr (DE (fun hc=>?_) fun _=>⟨_,rfl⟩) (Dy (fun h=>D5 (DQ (AX h) (se.D1 _)) (by omega)) fun _=>step_ok) fun _ _ _ _=>⟨_,rfl⟩
    obtain ⟨g3,g4,_⟩:=hr.tail (AX hc)
    exact ie.D1 _ g3 (by omega)
  ·intro acc ts hg h;unfold FO
   refine CR hg (ie.exp _ _ (by omega) hg (by omega)) (se.exp _ _) fun _ r hr hn=>CR hr (IB _ _) (Eu _ _) fun _ r2 hr2 hn2=>CR hr2 (ih.block _ _ hr2 (by omega)) (ss.block _ _) fun _ r3 hr3 hn3=>?_
   refine DE (fun hc=>?_) fun _=>DE (fun hc=>?_) fun _=>CR hr3 (IB _ _) (Eu _ _) fun _ _ _ _=>⟨_,rfl⟩
   ·obtain ⟨g1,g2,_⟩:=hr3.tail (AX hc)
    exact ih.branches _ _ g1 (by omega)
   ·obtain ⟨g1,g2,_⟩:=hr3.tail (AX hc)
    exact CR g1 (ih.block _ _ g1 (by omega)) (ss.block _ _) fun _ r4 hr4 hn4=>CR hr4 (IB _ _) (Eu _ _) fun _ _ _ _=>⟨_,rfl⟩
  ·intro at_ ts hg h;unfold Gd
   refine CR hg (PL _ _) (JM _ _) fun n r hr hn=>DE (fun hc=>?_) fun _=>?_
   ·obtain ⟨g1,g2,_⟩:=hr.tail (AX hc)
    refine CR g1 (ie.exp _ _ (by omega) g1 (by omega)) (se.exp _ _) fun _ r2 hr2 hn2=>CR hr2 (IB _ _) (Eu _ _) fun _ r3 hr3 hn3=>CR hr3 (ie.exp _ _ (by omega) hr3 (by omega)) (se.exp _ _) fun _ r4 hr4 hn4=>?_
    refine CR (n:=0) hr4 (DE (fun hc=>?_) fun _=>⟨_,rfl⟩) (Dy (fun h=>D5 (DQ (AX h) (CP (se.exp _ _) fun _ _=>step_ok)) (by omega)) fun _=>step_ok) fun _ r5 hr5 hn5=>CR hr5 (ih.body _ hr5 (by omega)) (ss.body _) fun _ _ _ _=>⟨_,rfl⟩
    obtain ⟨g3,g4,_⟩:=hr4.tail (AX hc)
    exact CR g3 (ie.exp _ _ (by omega) g3 (by omega)) (se.exp _ _) fun _ _ _ _=>⟨_,rfl⟩
   ·exact CR hr (R6 _ _ _ hr (by omega)) (Uz _ _ _) fun _ r2 hr2 hn2=>CR hr2 (IB _ _) (Eu _ _) fun _ r3 hr3 hn3=>CR hr3 (ie.D1 _ hr3 (by omega)) (se.D1 _) fun _ r4 hr4 hn4=>CR hr4 (ih.body _ hr4 (by omega)) (ss.body _) fun _ _ _ _=>⟨_,rfl⟩
  ·intro ts hg h;unfold Gf
   refine CR hg (ie.ET _ hg (by omega)) (se.ET _) fun e r hr hn=>DE (fun hc=>?_) fun _=>DE (fun _=>⟨_,rfl⟩) fun _=>⟨_,rfl⟩
   exact CR hr (ih.targets _ _ _ hr (by omega)) (ss.targets _ _ _) fun _ r2 hr2 hn2=>CR hr2 (IB _ _) (Eu _ _) fun _ r3 hr3 hn3=>CR hr3 (ie.D1 _ hr3 (by omega)) (se.D1 _) fun _ _ _ _=>⟨_,rfl⟩
  ·intro acc e ts hg h;unfold FR
   refine DE (fun _=>DE (fun hc=>?_) fun _=>⟨_,rfl⟩) fun _=>⟨_,rfl⟩
   obtain ⟨g1,g2,_⟩:=hg.tail (AX hc)
   exact CR g1 (ie.ET _ g1 (by omega)) (se.ET _) fun _ r hr hn=>ih.targets _ _ _ hr (by omega)
end
end Go.Proofs.YtkdjiehclahliaaGreatDoor
