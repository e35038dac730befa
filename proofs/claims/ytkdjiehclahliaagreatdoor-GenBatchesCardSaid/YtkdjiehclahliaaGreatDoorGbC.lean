/- Texts of mine for genBatches_card, part 3. -/
import Derived.Test.YtkdjiehclahliaaGreatDoorGbB
set_option linter.unusedSimpArgs false
set_option linter.unusedVariables false
set_option linter.unusedSectionVars false
namespace Go.Proofs.YtkdjiehclahliaaGreatDoor
set_option maxRecDepth 100000
section
open Go Go.RowKit
def Ai4.f (_k:Nat) (Aac:List (Int×ByteArray×Int×Int)) (Aam:Int):Option (Int×ByteArray×Int×Int):=(Acz Aac Aam).bind fun x2=>some (x2.1,x2.2.1,x2.2.2.1,x2.2.2.2)
theorem Ai4.ok {k b0 Abf:Nat} {Aac:List (Int×ByteArray×Int×Int)} {Aam:Int} {Ac0:Aaa} {Abe:TyO} {r:Int×ByteArray×Int×Int} (h:Ai4.f k Aac Aam=some r) (Abm:RdT e96 4 Ac0 (.slice Abe Aac.length Abf) Aac): Ct Tryz.prog 27 #[pt b0] [bk b0 #[.slice Abe Aac.length Abf,iv Aam] 93] [Ac0] (fun e l1=>e=.returned (.agg #[iv r.1,sv r.2.1,iv r.2.2.1,iv r.2.2.2])∧l1=[bk b0 #[.slice Abe Aac.length Abf,iv Aam] 93]):=by
 refine Afb (args:=[pt b0]) Tryz.func27 rfl (Nat.le_of_ble_eq_true rfl) ?_
 intro A X hh_
 obtain ⟨Abu,_⟩:=hh_
 unfold Ai4.f at h
 refine K.eq (env':=[(0,pt b0)]) (l':=bk b0 #[.slice Abe Aac.length Abf,iv Aam] 93 :: X) rfl rfl (ksr (knp #[iv 0,sv noS,iv 0,iv 0] 96 fun b1=>(knt (Ac1 (kpr [(0,0),(1,0),(2,0),(3,3),(4,0),(5,0),(6,0),(7,3)] [1] (kpx 3 (kpd 0 0 rfl (kpx 3 (kpd 0 1 rfl (kpz ?_))))))))))
 refine bnd h fun x2 hx2 h=>(Ano (T:=96) (kd:=.i64) Bjl rfl hx2 Abm fun p3 e4 y5=>?_)
 have e4:Elem _ p3 [iv x2.1,sv x2.2.1,iv x2.2.2.1,iv x2.2.2.2]:=e4
 refine keN rfl e4 (t2 Abu) (kst 0 4 #[iv x2.1,sv x2.2.1,iv x2.2.2.1,iv x2.2.2.2] (knt (Afj ?_)))
 obtain rfl:=Option.some.inj h
 exact kda 0 4 rfl [bk b0 #[.slice Abe Aac.length Abf,iv Aam] 93] (K.drop (Adj ⟨rfl,rfl⟩))
def Ajq.f (k:Nat) (Aac:List (Int×ByteArray×Int×Int)) (Aam:Int) (a1:ByteArray):Option (Bool):=(Ai4.f k Aac Aam).bind fun r1=>(cond (r1.1 == 2) (some (r1.2.1.toList == a1.toList)) (cond (r1.1 == 5) (some (r1.2.1.toList == a1.toList)) (some false)):Option Bool).bind fun q3=>some (q3)
theorem Ajq.ok {k b0 Abf:Nat} {Aac:List (Int×ByteArray×Int×Int)} {Aam:Int} {a1:ByteArray} {Ac0:Aaa} {Abe:TyO} {r:Bool} (h:Ajq.f k Aac Aam a1=some r) (Abm:RdT e96 4 Ac0 (.slice Abe Aac.length Abf) Aac): Ct Tryz.prog 42 #[pt b0,sv a1] [bk b0 #[.slice Abe Aac.length Abf,iv Aam] 93] [Ac0] (fun e l1=>e=.returned (bv r)∧l1=[bk b0 #[.slice Abe Aac.length Abf,iv Aam] 93]):=by
 refine Afb (args:=[pt b0,sv a1]) Tryz.func42 rfl (Nat.le_of_ble_eq_true rfl) ?_
 intro A X hh_
 obtain ⟨Abu,_⟩:=hh_
 unfold Ajq.f at h
 refine K.eq (env':=[(0,pt b0),(1,sv a1)]) (l':=bk b0 #[.slice Abe Aac.length Abf,iv Aam] 93 :: X) rfl rfl (ksr (kx 1 (Aby (kx 1 (bnd h fun r1 hr1 h=>(kc1 (Ai4.ok (b0:=b0) hr1 Abm) rfl ⟨Abu,trivial⟩ (knp #[iv 0,sv noS,iv 0,iv 0] 96 fun b2=>(kst 0 4 #[iv r1.1,sv r1.2.1,iv r1.2.2.1,iv r1.2.2.2] (knt (bnd h fun q3 hq3 h=>?_))))))))))
 refine An7 [(4,bv q3)] (bk b0 #[.slice Abe Aac.length Abf,iv Aam] 93 :: X) ?_ ?_
 ·clear hq3
  refine Afj ?_
  obtain rfl:=Option.some.inj h
  exact kdn rfl
 ·have h:=hq3
  clear hq3
  refine Ach (kx 1 (kld 0 0 rfl (kx 2 ?_)))
  refine kcs 11 h (fun h=>?_) fun h=>?_
  ·exact kx 6 (kld 0 1 rfl (K.drop (kx 4 (knt (Agb ⟨gb (Option.some.inj h),trivial⟩)))))
  ·refine kx 1 (kld 0 0 rfl (kx 3 ?_))
   refine kcs 16 h (fun h=>?_) fun h=>?_
   ·exact kx 1 (kld 0 1 rfl (K.drop (kx 4 (knt (Agb ⟨gb (Option.some.inj h),trivial⟩)))))
   ·exact kx 6 (knt (K.drop (Agb ⟨gb (Option.some.inj h),trivial⟩)))
def Afl.f (k:Nat) (Aac:List (Int×ByteArray×Int×Int)) (Aam:Int) (a1:ByteArray):Option (Bool×Int):=(Ajq.f k Aac Aam a1).bind fun r1=>cond r1 (some (true,IntKind.i64.wrap (Aam+1))) (some (false,Aam))
theorem Afl.ok {k b0 Abf:Nat} {Aac:List (Int×ByteArray×Int×Int)} {Aam:Int} {a1:ByteArray} {Ac0:Aaa} {Abe:TyO} {r:Bool×Int} (h:Afl.f k Aac Aam a1=some r) (Abm:RdT e96 4 Ac0 (.slice Abe Aac.length Abf) Aac): Ct Tryz.prog 40 #[pt b0,sv a1] [bk b0 #[.slice Abe Aac.length Abf,iv Aam] 93] [Ac0] (fun e l1=>e=.returned (bv r.1)∧l1=[bk b0 #[.slice Abe Aac.length Abf,iv r.2] 93]):=by
 refine Afb (args:=[pt b0,sv a1]) Tryz.func40 rfl (Nat.le_of_ble_eq_true rfl) ?_
 intro A X hh_
 obtain ⟨Abu,_⟩:=hh_
 unfold Afl.f at h
 refine K.eq (env':=[(0,pt b0),(1,sv a1)]) (l':=bk b0 #[.slice Abe Aac.length Abf,iv Aam] 93 :: X) rfl rfl (ksr (kx 1 (knt (Ac1 (ksr (kx 2 (bnd h fun r1 hr1 h=>(kc1 (Ajq.ok (b0:=b0) hr1 Abm) rfl ⟨Abu,trivial⟩ (knt ?_)))))))))
 refine kcn h (fun h=>?_) fun h=>?_
 ·refine ksr (kx 3 (kld 0 1 rfl (kx 3 (kst 1 1 #[.slice Abe Aac.length Abf,iv (IntKind.i64.wrap (Aam+1))] (Aby (kx 1 (knt (Afj (Ahj ?_)))))))))
  obtain rfl:=Option.some.inj h
  exact kdn rfl
 ·refine Adv (Abr (ksr (kx 1 (knt (Afj ?_)))))
  obtain rfl:=Option.some.inj h
  exact kdn rfl
def Ap2 (i:Int):Value:=.iface 90 (.agg #[.int .i64 4,.int .i64 i])
def Atp.f (_k:Nat) (Aac:List (Int×ByteArray×Int×Int)) (Aam:Int) (a1:Int):Option (PR (Unit)):=some (PR.bad a1)
theorem Atp.ok {k b0 Abf:Nat} {Aac:List (Int×ByteArray×Int×Int)} {Aam a1:Int} {Ac0:Aaa} {Abe:TyO} {r:PR (Unit)} (h:Atp.f k Aac Aam a1=some r) (Abm:RdT e96 4 Ac0 (.slice Abe Aac.length Abf) Aac): Ct Tryz.prog 28 #[pt b0,iv a1] [bk b0 #[.slice Abe Aac.length Abf,iv Aam] 93] [Ac0] (PR.Post Ap2 (fun (r:Unit) e l1=>e=.returned (.tuple #[])∧l1=[bk b0 #[.slice Abe Aac.length Abf,iv Aam] 93]) r):=by
 refine Afb (args:=[pt b0,iv a1]) Tryz.func28 rfl (Nat.le_of_ble_eq_true rfl) ?_
 intro A X hh_
 obtain ⟨Abu,_⟩:=hh_
 unfold Atp.f at h
 refine K.eq (env':=[(0,pt b0),(1,iv a1)]) (l':=bk b0 #[.slice Abe Aac.length Abf,iv Aam] 93 :: X) rfl rfl (Ach (kx 3 ?_))
 obtain rfl:=Option.some.inj h
 exact Cck (v:=Ap2 a1) (by kernel_rfl) (by kernel_rfl) (by kernel_rfl) (Cb4 [] (K.drop (Adj PR.B3f)))
def Agc.f (k:Nat) (Aac:List (Int×ByteArray×Int×Int)) (Aam:Int) (a1:ByteArray):Option (PR (Int)):=(Afl.f k Aac Aam a1).bind fun r1=>cond (!r1.1) ((Ai4.f k Aac r1.2).bind fun r3=>PR.bind (Atp.f k Aac r1.2 r3.2.2.2) fun r4=>some (PR.ok (r1.2))) (some (PR.ok (r1.2)))
theorem Agc.ok {k b0 Abf:Nat} {Aac:List (Int×ByteArray×Int×Int)} {Aam:Int} {a1:ByteArray} {Ac0:Aaa} {Abe:TyO} {r:PR (Int)} (h:Agc.f k Aac Aam a1=some r) (Abm:RdT e96 4 Ac0 (.slice Abe Aac.length Abf) Aac): Ct Tryz.prog 65 #[pt b0,sv a1] [bk b0 #[.slice Abe Aac.length Abf,iv Aam] 93] [Ac0] (PR.Post Ap2 (fun (r:Int) e l1=>e=.returned (.tuple #[])∧l1=[bk b0 #[.slice Abe Aac.length Abf,iv r] 93]) r):=by
 refine Afb (args:=[pt b0,sv a1]) Tryz.func65 rfl (Nat.le_of_ble_eq_true rfl) ?_
 intro A X hh_
 obtain ⟨Abu,_⟩:=hh_
 unfold Agc.f at h
 refine K.eq (env':=[(0,pt b0),(1,sv a1)]) (l':=bk b0 #[.slice Abe Aac.length Abf,iv Aam] 93 :: X) rfl rfl (ksr (kx 2 (bnd h fun r1 hr1 h=>(kc1 (Afl.ok (b0:=b0) hr1 Abm) rfl ⟨Abu,trivial⟩ (kx 1 (knt ?_))))))
 refine kcn h (fun h=>?_) fun h=>?_
 ·refine Ach (kx 2 (bnd h fun r3 hr3 h=>(kc1 (Ai4.ok (b0:=b0) hr3 Abm) rfl ⟨Abu,trivial⟩ (kx 1 (kcp h (fun _ hr4=>(Atp.ok (b0:=b0) hr4 Abm)) rfl ⟨Abu,trivial⟩ (fun _ e=>kpn 0 e rfl) fun r4 h=>?_)))))
  rintro _ _ ⟨rfl,rfl⟩
  refine Ak8 (knl (Ae2 ?_))
  obtain rfl:=Option.some.inj h
  exact Bky ⟨rfl,rfl⟩ rfl
 ·refine Adv (Ae2 ?_)
  obtain rfl:=Option.some.inj h
  exact Bky ⟨rfl,rfl⟩ rfl
def Aox.f (k:Nat) (Aac:List (Int×ByteArray×Int×Int)) (Aam:Int):Option (PR (Int×ByteArray×Int×Int×List Tree×Int)):=(Ai4.f k Aac Aam).bind fun r2=>Adg (fun (_:Unit)=>some (PR.ok (6,r2.2.1,0,r2.2.2.2,[],IntKind.i64.wrap (Aam+1)))) (fun J4=>cond (r2.1 != 1) (PR.bind (Atp.f k Aac Aam r2.2.2.2) fun r6=>J4 ()) (J4 ()))
theorem Aox.ok {k b0 Abf:Nat} {Aac:List (Int×ByteArray×Int×Int)} {Aam:Int} {Ac0:Aaa} {Abe:TyO} {r:PR (Int×ByteArray×Int×Int×List Tree×Int)} (h:Aox.f k Aac Aam=some r) (Abm:RdT e96 4 Ac0 (.slice Abe Aac.length Abf) Aac): Ct Tryz.prog 66 #[pt b0] [bk b0 #[.slice Abe Aac.length Abf,iv Aam] 93] [Ac0] (PR.Post Ap2 (fun (r:Int×ByteArray×Int×Int×List Tree×Int) e l1=>∃ (H0_:Aaa) (A0_:TyO) (c0_:Nat),Abp (Abx 54) 54 H0_ (.slice A0_ r.2.2.2.2.1.length c0_) r.2.2.2.2.1∧e=.returned (.agg #[iv r.1,sv r.2.1,iv r.2.2.1,iv r.2.2.2.1,.slice A0_ r.2.2.2.2.1.length c0_])∧l1=[H0_,bk b0 #[.slice Abe Aac.length Abf,iv r.2.2.2.2.2] 93]) r):=by
 refine Afb (args:=[pt b0]) Tryz.func66 rfl (Nat.le_of_ble_eq_true rfl) ?_
 intro A X hh_
 obtain ⟨Abu,_⟩:=hh_
 unfold Aox.f at h
 refine K.eq (env':=[(0,pt b0)]) (l':=bk b0 #[.slice Abe Aac.length Abf,iv Aam] 93 :: X) rfl rfl (ksr (knp #[iv 0,sv noS,iv 0,iv 0,nS] 54 fun b1=>(Aby (kx 1 (K.mv1 (bnd h fun r2 hr2 h=>(kc1 (Ai4.ok (b0:=b0) hr2 Abm) rfl ⟨(.tail _ Abu),trivial⟩ (knp #[iv 0,sv noS,iv 0,iv 0] 96 fun b3=>(kst 0 4 #[iv r2.1,sv r2.2.1,iv r2.2.2.1,iv r2.2.2.2] (knt ?_))))))))))
 obtain ⟨J4,hJ4,h⟩:=Agm h
 refine Agn (τ:=Unit) (fun t=>[(0,pt b0),(2,pt b1),(3,pt b3)]) (fun t=>bk b3 #[iv r2.1,sv r2.2.1,iv r2.2.2.1,iv r2.2.2.2] 96 :: bk b0 #[.slice Abe Aac.length Abf,iv Aam] 93 :: bk b1 #[iv 0,sv noS,iv 0,iv 0,nS] 54 :: X) (fun t=>J4 ()=some r) ?_ ?_
 ·rintro ⟨⟩ h
  subst hJ4
  refine ksr (kx 3 (kld 1 1 rfl (kx 3 (K.mv1 (kst 1 1 #[.slice Abe Aac.length Abf,iv (IntKind.i64.wrap (Aam+1))] (Aby (kx 1 (kld 1 1 rfl (kx 1 (kld 1 3 rfl ?_))))))))))
  refine K.mv1 (K.drop (kx 1 (K.mv1 (kst 0 5 #[iv 6,sv r2.2.1,iv 0,iv r2.2.2.2,nS] (knt (Afj ?_))))))
  obtain rfl:=Option.some.inj h
  exact kda 0 5 rfl [none_,bk b0 #[.slice Abe Aac.length Abf,iv (IntKind.i64.wrap (Aam+1))] 93] (Agh (K.mv1 (K.drop (Adj (PR.okI ⟨none_,none,0,(Abp.nil (Abx 54) 54 none_),rfl,rfl⟩)))))
 ·skip
  refine ksr (kx 1 (kld 0 0 rfl (kx 1 (knt ?_))))
  refine kcn h (fun h=>?_) fun h=>?_
  ·refine Ach (kx 2 (kld 0 3 rfl (K.mv1 (kcp h (fun _ hr6=>(Atp.ok (b0:=b0) hr6 Abm)) rfl ⟨(t2 Abu),trivial⟩ (fun _ e=>Ab5 (kpn 2 e rfl)) fun r6 h=>?_))))
   rintro _ _ ⟨rfl,rfl⟩
   exact Ak8 (knt (K.mv2 (K.mv1 (K.mv2 (Adb () h sb rfl)))))
  ·exact Adv (Abr (Adb () h sb rfl))
theorem An2:Am2 Tryz.prog 52 54 5 64 Tryz.t54 (.agg #[iv 0,sv noS,iv 0,iv 0,nS]):=⟨by kernel_rfl,by kernel_rfl,by kernel_rfl,by kernel_rfl,by kernel_rfl,by kernel_rfl,by decide⟩
def Aps.l0:Nat→(Aac:List (Int×ByteArray×Int×Int))→(J14:(List Tree)→Int→Option (PR (List Tree×Int)))→(l15:List Tree)→(x20:Int)→Option (PR (List Tree×Int))
 | 0,_,_,_,_=>none
 | m21+1,Aac,J14,l15,x20=>(Afl.f m21 Aac x20 (⟨#[44]⟩:ByteArray)).bind fun r24=>cond r24.1 (PR.bind (Aox.f m21 Aac r24.2) fun r26=>(apd 64 l15 [(Tree.mk r26.1 r26.2.1 r26.2.2.1 r26.2.2.2.1 r26.2.2.2.2.1)]).bind fun l35=>Aps.l0 m21 Aac J14 l35 r26.2.2.2.2.2) (J14 l15 r24.2)
def Aps.f (k:Nat) (Aac:List (Int×ByteArray×Int×Int)) (Aam:Int):Option (PR (List Tree×Int)):=PR.bind (Aox.f k Aac Aam) fun r1=>Adg (fun (l8:List Tree) (x13:Int)=>some (PR.ok (l8,x13))) (fun J14=>Aps.l0 k Aac J14 ([(Tree.mk r1.1 r1.2.1 r1.2.2.1 r1.2.2.2.1 r1.2.2.2.2.1)]) r1.2.2.2.2.2)
theorem Aps.ok {k b0 Abf:Nat} {Aac:List (Int×ByteArray×Int×Int)} {Aam:Int} {Ac0:Aaa} {Abe:TyO} {r:PR (List Tree×Int)} (h:Aps.f k Aac Aam=some r) (Abm:RdT e96 4 Ac0 (.slice Abe Aac.length Abf) Aac): Ct Tryz.prog 67 #[pt b0] [bk b0 #[.slice Abe Aac.length Abf,iv Aam] 93] [Ac0] (PR.Post Ap2 (fun (r:List Tree×Int) e l1=>∃ (H0_:Aaa) (A0_:TyO) (c0_:Nat),Abp (Abx 54) 54 H0_ (.slice A0_ r.1.length c0_) r.1∧e=.returned (.slice A0_ r.1.length c0_)∧l1=[H0_,bk b0 #[.slice Abe Aac.length Abf,iv r.2] 93]) r):=by
 refine Afb (args:=[pt b0]) Tryz.func67 rfl (Nat.le_of_ble_eq_true rfl) ?_
 intro A X hh_
 obtain ⟨Abu,_⟩:=hh_
 unfold Aps.f at h
 refine K.eq (env':=[(0,pt b0)]) (l':=bk b0 #[.slice Abe Aac.length Abf,iv Aam] 93 :: X) rfl rfl (ksr (kx 1 (Aby (kx 1 (kcp h (fun _ hr1=>(Aox.ok (b0:=b0) hr1 Abm)) rfl ⟨Abu,trivial⟩ (fun _ e=>Ab5 (kpn 0 e rfl)) fun r1 h=>?_)))))
 rintro _ _ ⟨h2,A3,k4,o5,rfl,rfl⟩
 refine Acg (kns #[iv r1.1,sv r1.2.1,iv r1.2.2.1,iv r1.2.2.2.1,.slice A3 r1.2.2.2.2.1.length k4] 54 1 fun b7=>(kx 1 (knt ?_)))
 obtain ⟨J14,Aw0,h⟩:=Agm h
 refine Agn (τ:=(List Tree)×Int×Aaa×TyO×Nat) (fun t=>[(3,.slice t.2.2.2.1 t.1.length t.2.2.2.2)]) (fun t=>bk b0 #[.slice Abe Aac.length Abf,iv t.2.1] 93 :: t.2.2.1 :: X) (fun t=>J14 t.1 t.2.1=some r∧Abp (Abx 54) 54 t.2.2.1 (.slice t.2.2.2.1 t.1.length t.2.2.2.2) t.1) ?_ ?_
 ·rintro ⟨l8,x13,h9,A10,k11⟩ ⟨h,o12⟩
  subst Aw0
  refine ksr (kx 2 (knt (Afj ?_)))
  obtain rfl:=Option.some.inj h
  exact kdv (.slice A10 l8.length k11) [h9,bk b0 #[.slice Abe Aac.length Abf,iv x13] 93] (K.mv1 (Adj (PR.okI ⟨h9,A10,k11,o12,rfl,rfl⟩)))
 ·skip
  refine Aez (K.mv1 (K.mv1 (Ah3 (T:=54) (n:=1) (xs:=[(Tree.mk r1.1 r1.2.1 r1.2.2.1 r1.2.2.2.1 r1.2.2.2.2.1)]) (Aec.one (Ait (k:=r1.1) (t:=r1.2.1) (n:=r1.2.2.1) (a:=r1.2.2.2.1) 54 o5)) rfl rfl (Nat.le_of_ble_eq_true rfl) fun h22 o23=>(K.mv1 (Akr (τ:=(List Tree)×Int×Aaa×TyO×Nat) (fun t=>[(0,pt b0),(3,.slice t.2.2.2.1 t.1.length t.2.2.2.2)]) (fun t=>bk b0 #[.slice Abe Aac.length Abf,iv t.2.1] 93 :: t.2.2.1 :: X) (fun m t=>Aps.l0 m Aac J14 t.1 t.2.1=some r∧Abp (Abx 54) 54 t.2.2.1 (.slice t.2.2.2.1 t.1.length t.2.2.2.2) t.1) k ([(Tree.mk r1.1 r1.2.1 r1.2.2.1 r1.2.2.2.1 r1.2.2.2.2.1)],r1.2.2.2.2.2,h22,(some ⟨b7,0,none⟩),1) ⟨h,o23⟩ sb rfl ?_)))))
  clear h
  rintro m21 ⟨l15,x20,h16,A17,k18⟩ ⟨h,o19⟩
  cases m21 with
  | zero=>simp [Aps.l0] at h
  | succ m21 =>
   simp only [Aps.l0] at h
   refine Ac1 (ksr (kx 1 (bnd h fun r24 A5j h=>(kc1 (Afl.ok (b0:=b0) A5j Abm) rfl ⟨(.tail _ Abu),trivial⟩ (knt ?_)))))
   refine kcn h (fun h=>?_) fun h=>?_
   ·refine Adv (Abr (Aez (Ach (kx 2 (kcp h (fun _ Azy=>(Aox.ok (b0:=b0) Azy Abm)) rfl ⟨(.tail _ Abu),trivial⟩ (fun _ e=>Adz (Ab5 (Adz (Ab5 (kpn 1 e rfl))))) fun r26 h=>?_)))))
    rintro _ _ ⟨h27,A28,k29,o30,rfl,rfl⟩
    refine Acg (kns #[iv r26.1,sv r26.2.1,iv r26.2.2.1,iv r26.2.2.2.1,.slice A28 r26.2.2.2.2.1.length k29] 54 1 fun b32=>(K.mv1 (K.mv1 (Ah3 (T:=54) (n:=1) (xs:=[(Tree.mk r26.1 r26.2.1 r26.2.2.1 r26.2.2.2.1 r26.2.2.2.2.1)]) (Aec.one (Ait (k:=r26.1) (t:=r26.2.1) (n:=r26.2.2.1) (a:=r26.2.2.2.1) 54 o30)) rfl rfl (Nat.le_of_ble_eq_true rfl) fun h33 o34=>(K.mv2 (bnd h fun l35 Bem h=>(Alq rfl An2 rfl Bem o19 o34 fun h36 A37 k38 o39=>(kx 1 (knl (Acx ?_))))))))))
    exact Abr (K.mv1 (Aiw m21 (l35,r26.2.2.2.2.2,h36,A37,k38) (Nat.lt_succ_self _) ⟨h,o39⟩ sb rfl))
   ·exact Akp (Af5 (Af5 (Akq (Abr (Adb (l15,r24.2,h16,A17,k18) ⟨h,o19⟩ sb rfl)))))
def A0j.f (k:Nat) (Aac:List (Int×ByteArray×Int×Int)) (Aam:Int):Option (Bool):=((Ai4.f k Aac Aam).bind fun r2=>cond (r2.1 == 6) (some true) ((Ajq.f k Aac Aam (⟨#[101,110,100]⟩:ByteArray)).bind fun r4=>cond r4 (some true) ((Ajq.f k Aac Aam (⟨#[101,108,115,101]⟩:ByteArray)).bind fun r6=>cond r6 (some true) ((Ajq.f k Aac Aam (⟨#[101,108,115,101,105,102]⟩:ByteArray)).bind fun r8=>some r8))):Option Bool).bind fun q1=>some (q1)
theorem A0j.ok {k b0 Abf:Nat} {Aac:List (Int×ByteArray×Int×Int)} {Aam:Int} {Ac0:Aaa} {Abe:TyO} {r:Bool} (h:A0j.f k Aac Aam=some r) (Abm:RdT e96 4 Ac0 (.slice Abe Aac.length Abf) Aac): Ct Tryz.prog 41 #[pt b0] [bk b0 #[.slice Abe Aac.length Abf,iv Aam] 93] [Ac0] (fun e l1=>e=.returned (bv r)∧l1=[bk b0 #[.slice Abe Aac.length Abf,iv Aam] 93]):=by
 refine Afb (args:=[pt b0]) Tryz.func41 rfl (Nat.le_of_ble_eq_true rfl) ?_
 intro A X hh_
 obtain ⟨Abu,_⟩:=hh_
 unfold A0j.f at h
 refine K.eq (env':=[(0,pt b0)]) (l':=bk b0 #[.slice Abe Aac.length Abf,iv Aam] 93 :: X) rfl rfl (ksr (kx 1 (knt (bnd h fun q1 hq1 h=>?_))))
 refine An7 [(2,bv q1)] (bk b0 #[.slice Abe Aac.length Abf,iv Aam] 93 :: X) ?_ ?_
 ·clear hq1
  refine Afj ?_
  obtain rfl:=Option.some.inj h
  exact kdn rfl
 ·have h:=hq1
  clear hq1
  refine Ach (kx 1 (bnd h fun r2 hr2 h=>(kc1 (Ai4.ok (b0:=b0) hr2 Abm) rfl ⟨Abu,trivial⟩ (kx 3 ?_))))
  refine kcs 7 h (fun h=>?_) fun h=>?_
  ·exact kx 12 (knt (Agb ⟨gb (Option.some.inj h),trivial⟩))
  ·refine kx 1 (bnd h fun r4 hr4 h=>(kc1 (Ajq.ok (b0:=b0) hr4 Abm) rfl ⟨Abu,trivial⟩ (kx 2 ?_)))
   refine kcs 11 h (fun h=>?_) fun h=>?_
   ·exact kx 8 (knt (Agb ⟨gb (Option.some.inj h),trivial⟩))
   ·refine kx 1 (bnd h fun r6 hr6 h=>(kc1 (Ajq.ok (b0:=b0) hr6 Abm) rfl ⟨Abu,trivial⟩ (kx 2 ?_)))
    refine kcs 15 h (fun h=>?_) fun h=>?_
    ·exact kx 4 (knt (Agb ⟨gb (Option.some.inj h),trivial⟩))
    ·exact kx 1 (bnd h fun r8 hr8 h=>(kc1 (Ajq.ok (b0:=b0) hr8 Abm) rfl ⟨Abu,trivial⟩ (kx 2 (knt (Agb ⟨gb (Option.some.inj h),trivial⟩)))))
def A7w.f (_k:Nat) (Aac:Int) (Aam:ByteArray) (Amj:Int) (Aah:Int):Option (Int):=(cond (Aac != 5) (some (Aac != 2)) (some false):Option Bool).bind fun q2=>cond q2 (some (0)) (cond (Aam.toList == (⟨#[111,114]⟩:ByteArray).toList) (some (1)) (cond (Aam.toList == (⟨#[97,110,100]⟩:ByteArray).toList) (some (2)) (Adg (fun (x6:Bool)=>cond x6 (some (3)) (cond (Aam.toList == (⟨#[46,46]⟩:ByteArray).toList) (some (4)) (Adg (fun (x10:Bool)=>cond x10 (some (5)) (Adg (fun (x13:Bool)=>cond x13 (some (6)) (some (0))) (fun J14=>cond (Aam.toList == (⟨#[42]⟩:ByteArray).toList) (J14 (Aam.toList == (⟨#[42]⟩:ByteArray).toList)) (cond (Aam.toList == (⟨#[47,47]⟩:ByteArray).toList) (J14 (Aam.toList == (⟨#[47,47]⟩:ByteArray).toList)) (J14 (Aam.toList == (⟨#[37]⟩:ByteArray).toList)))))) (fun J11=>cond (Aam.toList == (⟨#[43]⟩:ByteArray).toList) (J11 (Aam.toList == (⟨#[43]⟩:ByteArray).toList)) (J11 (Aam.toList == (⟨#[45]⟩:ByteArray).toList)))))) (fun J7=>cond (Aam.toList == (⟨#[60]⟩:ByteArray).toList) (J7 (Aam.toList == (⟨#[60]⟩:ByteArray).toList)) (cond (Aam.toList == (⟨#[62]⟩:ByteArray).toList) (J7 (Aam.toList == (⟨#[62]⟩:ByteArray).toList)) (cond (Aam.toList == (⟨#[60,61]⟩:ByteArray).toList) (J7 (Aam.toList == (⟨#[60,61]⟩:ByteArray).toList)) (cond (Aam.toList == (⟨#[62,61]⟩:ByteArray).toList) (J7 (Aam.toList == (⟨#[62,61]⟩:ByteArray).toList)) (cond (Aam.toList == (⟨#[126,61]⟩:ByteArray).toList) (J7 (Aam.toList == (⟨#[126,61]⟩:ByteArray).toList)) (J7 (Aam.toList == (⟨#[61,61]⟩:ByteArray).toList))))))))))
theorem A7w.ok {k:Nat} {Aac Amj Aah r:Int} {Aam:ByteArray} (h:A7w.f k Aac Aam Amj Aah=some r): Ct Tryz.prog 105 #[.agg #[iv Aac,sv Aam,iv Amj,iv Aah]] [] [] (fun e l1=>e=.returned (iv r)∧l1=[]):=by
 refine Afb (args:=[.agg #[iv Aac,sv Aam,iv Amj,iv Aah]]) Tryz.func105 rfl (Nat.le_of_ble_eq_true rfl) ?_
 intro A X hh_
 unfold A7w.f at h
 refine ksr (knp #[iv Aac,sv Aam,iv Amj,iv Aah] 96 fun b1=>(kx 1 (knt (Ac1 (bnd h fun q2 hq2 h=>?_)))))
 refine An7 [(1,pt b1),(10,bv q2)] (bk b1 #[iv Aac,sv Aam,iv Amj,iv Aah] 96 :: X) ?_ ?_
 ·clear hq2
  refine kcn h (fun h=>?_) fun h=>?_
  ·refine ksr (kx 1 (knt (Afj (Ahj ?_))))
   obtain rfl:=Option.some.inj h
   exact K.drop (kdn rfl)
  ·refine Adv (Abr (Ac1 (ksr (kx 1 (kld 0 1 rfl (K.drop (knt (Aez (ksr (kx 2 ?_))))))))))
   refine knt ?_
   refine kcn h (fun h=>?_) fun h=>?_
   ·refine ksr (kx 1 (knt (Afj (Ajk (Ahj ?_)))))
    obtain rfl:=Option.some.inj h
    exact kdn rfl
   ·refine ksr (kx 2 (knt ?_))
    refine kcn h (fun h=>?_) fun h=>?_
    ·refine ksr (kx 1 (knt (Afj (Ajk (Ahj ?_)))))
     obtain rfl:=Option.some.inj h
     exact kdn rfl
    ·obtain ⟨J7,hJ7,h⟩:=Agm h
     refine Agn (τ:=Bool) (fun t=>[(12,sv Aam),(17,bv t)]) (fun t=>X) (fun t=>J7 t=some r) ?_ ?_
     ·rintro x6 h
      subst hJ7
      refine kcn h (fun h=>?_) fun h=>?_
      ·refine ksr (kx 1 (knt (Afj (Ajk (Ahj ?_)))))
       obtain rfl:=Option.some.inj h
       exact kdn rfl
      ·refine ksr (kx 2 (knt ?_))
       refine kcn h (fun h=>?_) fun h=>?_
       ·refine ksr (kx 1 (knt (Afj (Ajk (Ahj ?_)))))
        obtain rfl:=Option.some.inj h
        exact kdn rfl
       ·obtain ⟨J11,Brb,h⟩:=Agm h
        refine Agn (τ:=Bool) (fun t=>[(12,sv Aam),(26,bv t)]) (fun t=>X) (fun t=>J11 t=some r) ?_ ?_
        ·rintro x10 h
         subst Brb
         refine kcn h (fun h=>?_) fun h=>?_
         ·refine ksr (kx 1 (knt (Afj (Ajk (Ahj ?_)))))
          obtain rfl:=Option.some.inj h
          exact kdn rfl
         ·obtain ⟨J14,Aw0,h⟩:=Agm h
          refine Agn (τ:=Bool) (fun t=>[(29,bv t)]) (fun t=>X) (fun t=>J14 t=some r) ?_ ?_
          ·rintro x13 h
           subst Aw0
           refine kcn h (fun h=>?_) fun h=>?_
           ·refine ksr (kx 1 (knt (Afj (Ajk (Ahj ?_)))))
            obtain rfl:=Option.some.inj h
            exact kdn rfl
           ·refine Adv (Acx (Abr (ksr (kx 1 (knt (Afj ?_))))))
            obtain rfl:=Option.some.inj h
            exact kdn rfl
          ·skip
           refine ksr (kx 2 (knt ?_))
           refine kcn h (fun h=>?_) fun h=>?_
           ·exact Adv (Abr (Adb (Aam.toList == (⟨#[42]⟩:ByteArray).toList) h sb rfl))
           ·refine ksr (kx 2 (knt ?_))
            refine kcn h (fun h=>?_) fun h=>?_
            ·exact Adv (Abr (Adb (Aam.toList == (⟨#[47,47]⟩:ByteArray).toList) h sb rfl))
            ·exact Ach (kx 2 (knt (Adb (Aam.toList == (⟨#[37]⟩:ByteArray).toList) h sb rfl)))
        ·skip
         refine ksr (kx 2 (knt ?_))
         refine kcn h (fun h=>?_) fun h=>?_
         ·exact Adv (Abr (Adb (Aam.toList == (⟨#[43]⟩:ByteArray).toList) h sb rfl))
         ·exact Ach (kx 2 (knt (Adb (Aam.toList == (⟨#[45]⟩:ByteArray).toList) h sb rfl)))
     ·skip
      refine ksr (kx 2 (knt ?_))
      refine kcn h (fun h=>?_) fun h=>?_
      ·exact Adv (Abr (Adb (Aam.toList == (⟨#[60]⟩:ByteArray).toList) h sb rfl))
      ·refine ksr (kx 2 (knt ?_))
       refine kcn h (fun h=>?_) fun h=>?_
       ·exact Adv (Abr (Adb (Aam.toList == (⟨#[62]⟩:ByteArray).toList) h sb rfl))
       ·refine ksr (kx 2 (knt ?_))
        refine kcn h (fun h=>?_) fun h=>?_
        ·exact Adv (Abr (Adb (Aam.toList == (⟨#[60,61]⟩:ByteArray).toList) h sb rfl))
        ·refine ksr (kx 2 (knt ?_))
         refine kcn h (fun h=>?_) fun h=>?_
         ·exact Adv (Abr (Adb (Aam.toList == (⟨#[62,61]⟩:ByteArray).toList) h sb rfl))
         ·refine ksr (kx 2 (knt ?_))
          refine kcn h (fun h=>?_) fun h=>?_
          ·exact Adv (Abr (Adb (Aam.toList == (⟨#[126,61]⟩:ByteArray).toList) h sb rfl))
          ·exact Ach (kx 2 (knt (Adb (Aam.toList == (⟨#[61,61]⟩:ByteArray).toList) h sb rfl)))
 ·have h:=hq2
  clear hq2
  refine Ach (kx 1 (kld 0 0 rfl (kx 2 ?_)))
  refine kcs 6 h (fun h=>?_) fun h=>?_
  ·exact kx 1 (kld 0 0 rfl (kx 2 (knt (Agb ⟨gr,gb (Option.some.inj h),trivial⟩))))
  ·exact kx 4 (knt (Agb ⟨gr,gb (Option.some.inj h),trivial⟩))
def A7x.f (_k:Nat) (Aac:Int) (Aam:ByteArray) (Amj:Int) (Aah:Int) (Aa9:List Tree):Option (Bool):=(cond (Aac == 6) (some true) (some (Aac == 7)):Option Bool).bind fun q2=>some (q2)
theorem A7x.ok {k Acv:Nat} {Aac Amj Aah:Int} {Aam:ByteArray} {Aa9:List Tree} {Ade:Aaa} {Acu:TyO} {r:Bool} (h:A7x.f k Aac Aam Amj Aah Aa9=some r) (Aei:RdR (Abx 54) Ade (.slice Acu Aa9.length Acv) Aa9): Ct Tryz.prog 107 #[.agg #[iv Aac,sv Aam,iv Amj,iv Aah,.slice Acu Aa9.length Acv]] [] [Ade] (fun e l1=>e=.returned (bv r)∧l1=[]):=by
 refine Afb (args:=[.agg #[iv Aac,sv Aam,iv Amj,iv Aah,.slice Acu Aa9.length Acv]]) Tryz.func107 rfl (Nat.le_of_ble_eq_true rfl) ?_
 intro A X hh_
 obtain ⟨Beq,_⟩:=hh_
 unfold A7x.f at h
 refine ksr (knp #[iv Aac,sv Aam,iv Amj,iv Aah,.slice Acu Aa9.length Acv] 54 fun b1=>(kx 1 (knt (bnd h fun q2 hq2 h=>?_))))
 refine An7 [(2,bv q2)] (X) ?_ ?_
 ·clear hq2
  refine Afj ?_
  obtain rfl:=Option.some.inj h
  exact kdn rfl
 ·have h:=hq2
  clear hq2
  refine Ach (kx 1 (kld 0 0 rfl (kx 2 ?_)))
  refine kcs 6 h (fun h=>?_) fun h=>?_
  ·exact kx 5 (knt (K.drop (Agb ⟨gb (Option.some.inj h),trivial⟩)))
  ·exact kx 1 (kld 0 0 rfl (K.drop (kx 3 (knt (Agb ⟨gb (Option.some.inj h),trivial⟩)))))
theorem St.Bgh {A:World} {X:List Aaa} {w:World}:∀ (n:Nat),St A X w→St A (List.replicate n none_++X) w
 | 0,h=>h
 | n+1,h=>by
  have:=St.Bgh n h
  exact ⟨⟨fun _ _ h=>(by cases h),fun _ _ _=>.inl rfl,this.sat⟩,this.os,this.tape,this.output,this.size⟩
theorem C9c (p q:Value) (w:World) :
  CallsD Tryz.prog 25 #[p,q] .returning w fun e u' w'=>e=.returned (.tuple #[])∧u'=.returning∧w=w':=by
 refine callsD_of_wpS Tryz.func25 rfl fun c₀ cs hu=>?_
 apply wpS_seq
 apply wpS_region
 simp [wpOpsS,go_sem,recoverD,hu,Tryz.ntmps25,Exit.thenS,Array.replicate_succ]
 refine wpS_of_wp ?_
 go_wp2
 cases c₀
 simp_all [bodyPostS,results,Tryz.results25]
theorem Ce7 {A w:World} {X:List Aaa} {p q:Nat} {x0 x1 x2 x3 x4 y0 y1:Value} {i:Int} (hw:St A (blk p (.cells #[x0,x1,x2,x3,x4] 54 (0,0)) :: blk q (.cells #[y0,y1] 28 (0,0)) :: X) w) :
  CallsD Tryz.prog 25 #[.pointer (some ⟨p,0,none⟩),.pointer (some ⟨q,0,none⟩)] (.panicking [{ v:=Ap2 i,recovered:=false }]) w fun e u' w'=>e=.returned (.tuple #[])∧settle u'=.returning∧St A (blk p (.cells #[.int .i64 (0:Int),.string (⟨#[]⟩:ByteArray),.int .i64 (0:Int),.int .i64 (0:Int),.slice none 0 0] 54 (0,0)) :: blk q (.cells #[.int .i64 (4:Int),.int .i64 i] 28 (0,0)) :: X) w':=by
 refine callsD_of_wpS Tryz.func25 rfl fun c₀ cs hu=>?_
 apply wpS_seq
 apply wpS_region
 simp [wpOpsS,go_sem,recoverD,hu,Tryz.ntmps25,Exit.thenS,Array.replicate_succ]
 refine wpS_of_wp ?_
 refine (?_:K [] A Tryz.f25.ntmps [(0,.pointer (some ⟨p,0,none⟩)),(1,.pointer (some ⟨q,0,none⟩)),(5,.iface 90 (.agg #[.int .i64 (4:Int),.int .i64 i]))] (blk p (.cells #[x0,x1,x2,x3,x4] 54 (0,0)) :: blk q (.cells #[y0,y1] 28 (0,0)) :: X) _) _ w ⟨rfl,rfl,?_⟩ hw
 rotate_left
 ·intro j v hj
  simp only [Env.get] at hj
  match j with
  | 0=>cases hj;rfl
  | 1=>cases hj;rfl
  | 2=>cases hj
  | 3=>cases hj
  | 4=>cases hj
  | 5=>cases hj;rfl
  | j+6=>cases hj
 refine Aez ?_
 refine Ac1 ?_
 refine Ach ?_
 refine Bk8 1 [(0,.pointer (some ⟨p,0,none⟩)),(1,.pointer (some ⟨q,0,none⟩)),(5,.iface 90 (.agg #[.int .i64 (4:Int),.int .i64 i])),(7,.bool false)] (by kernel_rfl) ?_
 refine Avl ?_
 refine Abr ?_
 refine Bkt (by kernel_rfl) ?_
 refine Ac1 ?_
 refine Ach ?_
 refine Bk8 3 [(0,.pointer (some ⟨p,0,none⟩)),(1,.pointer (some ⟨q,0,none⟩)),(5,.iface 90 (.agg #[.int .i64 (4:Int),.int .i64 i])),(9,.bool true),(10,.agg #[.int .i64 (4:Int),.int .i64 i])] (by kernel_rfl) ?_
 refine Avl ?_
 refine Abr ?_
 refine Bku (by kernel_rfl) ?_
 refine Ac1 ?_
 refine Ach ?_
 refine Bk7 (.cells #[.int .i64 (0:Int),.int .i64 (0:Int)] 90 (0,0)) (fun b=>.pointer (some ⟨b,0,none⟩)) (by kernel_rfl) (by kernel_rfl) (fun _=>by kernel_rfl) fun b1=>?_
 refine Bf4 (cs':=#[.int .i64 (4:Int),.int .i64 i]) [.st ⟨b1,0,none⟩ (.int .i64 (4:Int)),.st ⟨b1,1,none⟩ (.int .i64 i)] (by kernel_rfl) (by kernel_rfl) (by kernel_rfl) ⟨rfl,rfl,trivial⟩ (by kernel_rfl) ?_
 refine Avl ?_
 refine Abr ?_
 refine Bfz [(0,0),(1,3),(2,1)] (fun w=>Alz [blk b1 (.cells #[.int .i64 (4:Int),.int .i64 i] 90 (0,0))] w) (by kernel_rfl) (by kernel_rfl) (fun _ _ d _ _ h=>by cases d <;> exact h) (fun w h_=>⟨h_.sat.on _ (.head _),trivial⟩) ?_
 simp only [Aka,List.filterMap_cons,List.filterMap_nil,List.getElem?_toArray,List.getElem?_cons_zero,List.getElem?_cons_succ,Option.map_some,List.drop_succ_cons,List.drop_zero,List.length_cons,List.length_nil]
 refine Ccn 1 [(0,.pointer (some ⟨p,0,none⟩)),(1,.pointer (some ⟨q,0,none⟩)),(3,.pointer (some ⟨b1,0,none⟩)),(11,.agg #[.int .i64 (0:Int),.string (⟨#[]⟩:ByteArray),.int .i64 (0:Int),.int .i64 (0:Int),.slice none 0 0])] (by kernel_rfl) (by kernel_rfl) ?_
 refine Blj (v:=.agg #[.int .i64 (4:Int),.int .i64 i]) [blk b1 (.cells #[.int .i64 (4:Int),.int .i64 i] 90 (0,0))] [.val (.int .i64 (4:Int)),.val (.int .i64 i)] [.ld ⟨b1,0,none⟩ (.int .i64 (4:Int)),.ld ⟨b1,1,none⟩ (.int .i64 i)] (by kernel_rfl) (by kernel_rfl) (by kernel_rfl) (fun _ h=>h) ⟨⟨0,_,_,_,rfl,rfl,rfl⟩,⟨0,_,_,_,rfl,rfl,rfl⟩,trivial⟩ ?_
 refine Bvc (by kernel_rfl) ?_
 refine K.mv1 ?_
 refine Bl6 (cs':=#[.int .i64 (0:Int),.string (⟨#[]⟩:ByteArray),.int .i64 (0:Int),.int .i64 (0:Int),.slice none 0 0]) [.st ⟨p,0,none⟩ (.int .i64 (0:Int)),.st ⟨p,1,none⟩ (.string (⟨#[]⟩:ByteArray)),.st ⟨p,2,none⟩ (.int .i64 (0:Int)),.st ⟨p,3,none⟩ (.int .i64 (0:Int)),.st ⟨p,4,none⟩ (.slice none 0 0)] (by kernel_rfl) (by kernel_rfl) ⟨rfl,rfl,rfl,rfl,rfl,trivial⟩ (by kernel_rfl) ?_
 refine A6v (fun w h_=>⟨h_.sat.on _ (.tail _ (.head _)),trivial⟩) ?_
 refine Bu8 ?_
 refine K.mv2 ?_
 refine Bf4 (cs':=#[.int .i64 (4:Int),.int .i64 i]) [.st ⟨q,0,none⟩ (.int .i64 (4:Int)),.st ⟨q,1,none⟩ (.int .i64 i)] (by kernel_rfl) (by kernel_rfl) (by kernel_rfl) ⟨rfl,rfl,trivial⟩ (by kernel_rfl) ?_
 refine K.mv2 ?_
 refine K.drop ?_
 refine Avl ?_
 refine Acx ?_
 refine K.mv1 ?_
 intro a' w' ha' hw'
 have hd:=ha'.defers
 simp [bodyPostS,results,Tryz.results25,hd,settle]
 exact hw'
structure PE where
 Af6:List (Int×ByteArray×Int×Int)→Int→Int→Option (PR (Int×ByteArray×Int×Int×List Tree×Int))
 Arp:List (Int×ByteArray×Int×Int)→Int→Option (PR (Int×ByteArray×Int×Int×List Tree×Int))
 Aig:List (Int×ByteArray×Int×Int)→Int→Option (PR (Int×ByteArray×Int×Int×List Tree×Int))
 Amh:List (Int×ByteArray×Int×Int)→Int→Option (PR (List Tree×Int))
 Ari:List (Int×ByteArray×Int×Int)→Int→Option (PR (Int×ByteArray×Int×Int×List Tree×Int))
 Ah1:List (Int×ByteArray×Int×Int)→Int→Option (PR (List Tree×Int))
def Af6.C (fC:List (Int×ByteArray×Int×Int)→Int→Int→Option (PR (Int×ByteArray×Int×Int×List Tree×Int))):Prop:=∀ {Aac:List (Int×ByteArray×Int×Int)} {Aam a1:Int} {b0 Abf:Nat} {Ac0:Aaa} {Abe:TyO} {r:PR (Int×ByteArray×Int×Int×List Tree×Int)} (h:fC Aac Aam a1=some r) (Abm:RdT e96 4 Ac0 (.slice Abe Aac.length Abf) Aac),Ct Tryz.prog 64 #[pt b0,iv a1] [bk b0 #[.slice Abe Aac.length Abf,iv Aam] 93] [Ac0] (PR.Post Ap2 (fun (r:Int×ByteArray×Int×Int×List Tree×Int) e l1=>∃ (H0_:Aaa) (A0_:TyO) (c0_:Nat),Abp (Abx 54) 54 H0_ (.slice A0_ r.2.2.2.2.1.length c0_) r.2.2.2.2.1∧e=.returned (.agg #[iv r.1,sv r.2.1,iv r.2.2.1,iv r.2.2.2.1,.slice A0_ r.2.2.2.2.1.length c0_])∧l1=[H0_,bk b0 #[.slice Abe Aac.length Abf,iv r.2.2.2.2.2] 93]) r)
def Arp.C (fC:List (Int×ByteArray×Int×Int)→Int→Option (PR (Int×ByteArray×Int×Int×List Tree×Int))):Prop:=∀ {Aac:List (Int×ByteArray×Int×Int)} {Aam:Int} {b0 Abf:Nat} {Ac0:Aaa} {Abe:TyO} {r:PR (Int×ByteArray×Int×Int×List Tree×Int)} (h:fC Aac Aam=some r) (Abm:RdT e96 4 Ac0 (.slice Abe Aac.length Abf) Aac),Ct Tryz.prog 104 #[pt b0] [bk b0 #[.slice Abe Aac.length Abf,iv Aam] 93] [Ac0] (PR.Post Ap2 (fun (r:Int×ByteArray×Int×Int×List Tree×Int) e l1=>∃ (H0_:Aaa) (A0_:TyO) (c0_:Nat),Abp (Abx 54) 54 H0_ (.slice A0_ r.2.2.2.2.1.length c0_) r.2.2.2.2.1∧e=.returned (.agg #[iv r.1,sv r.2.1,iv r.2.2.1,iv r.2.2.2.1,.slice A0_ r.2.2.2.2.1.length c0_])∧l1=[H0_,bk b0 #[.slice Abe Aac.length Abf,iv r.2.2.2.2.2] 93]) r)
def Aig.C (fC:List (Int×ByteArray×Int×Int)→Int→Option (PR (Int×ByteArray×Int×Int×List Tree×Int))):Prop:=∀ {Aac:List (Int×ByteArray×Int×Int)} {Aam:Int} {b0 Abf:Nat} {Ac0:Aaa} {Abe:TyO} {r:PR (Int×ByteArray×Int×Int×List Tree×Int)} (h:fC Aac Aam=some r) (Abm:RdT e96 4 Ac0 (.slice Abe Aac.length Abf) Aac),Ct Tryz.prog 106 #[pt b0] [bk b0 #[.slice Abe Aac.length Abf,iv Aam] 93] [Ac0] (PR.Post Ap2 (fun (r:Int×ByteArray×Int×Int×List Tree×Int) e l1=>∃ (H0_:Aaa) (A0_:TyO) (c0_:Nat),Abp (Abx 54) 54 H0_ (.slice A0_ r.2.2.2.2.1.length c0_) r.2.2.2.2.1∧e=.returned (.agg #[iv r.1,sv r.2.1,iv r.2.2.1,iv r.2.2.2.1,.slice A0_ r.2.2.2.2.1.length c0_])∧l1=[H0_,bk b0 #[.slice Abe Aac.length Abf,iv r.2.2.2.2.2] 93]) r)
def Amh.C (fC:List (Int×ByteArray×Int×Int)→Int→Option (PR (List Tree×Int))):Prop:=∀ {Aac:List (Int×ByteArray×Int×Int)} {Aam:Int} {b0 Abf:Nat} {Ac0:Aaa} {Abe:TyO} {r:PR (List Tree×Int)} (h:fC Aac Aam=some r) (Abm:RdT e96 4 Ac0 (.slice Abe Aac.length Abf) Aac),Ct Tryz.prog 125 #[pt b0] [bk b0 #[.slice Abe Aac.length Abf,iv Aam] 93] [Ac0] (PR.Post Ap2 (fun (r:List Tree×Int) e l1=>∃ (H0_:Aaa) (A0_:TyO) (c0_:Nat),Abp (Abx 54) 54 H0_ (.slice A0_ r.1.length c0_) r.1∧e=.returned (.slice A0_ r.1.length c0_)∧l1=[H0_,bk b0 #[.slice Abe Aac.length Abf,iv r.2] 93]) r)
def Ari.C (fC:List (Int×ByteArray×Int×Int)→Int→Option (PR (Int×ByteArray×Int×Int×List Tree×Int))):Prop:=∀ {Aac:List (Int×ByteArray×Int×Int)} {Aam:Int} {b0 Abf:Nat} {Ac0:Aaa} {Abe:TyO} {r:PR (Int×ByteArray×Int×Int×List Tree×Int)} (h:fC Aac Aam=some r) (Abm:RdT e96 4 Ac0 (.slice Abe Aac.length Abf) Aac),Ct Tryz.prog 134 #[pt b0] [bk b0 #[.slice Abe Aac.length Abf,iv Aam] 93] [Ac0] (PR.Post Ap2 (fun (r:Int×ByteArray×Int×Int×List Tree×Int) e l1=>∃ (H0_:Aaa) (A0_:TyO) (c0_:Nat),Abp (Abx 54) 54 H0_ (.slice A0_ r.2.2.2.2.1.length c0_) r.2.2.2.2.1∧e=.returned (.agg #[iv r.1,sv r.2.1,iv r.2.2.1,iv r.2.2.2.1,.slice A0_ r.2.2.2.2.1.length c0_])∧l1=[H0_,bk b0 #[.slice Abe Aac.length Abf,iv r.2.2.2.2.2] 93]) r)
def Ah1.C (fC:List (Int×ByteArray×Int×Int)→Int→Option (PR (List Tree×Int))):Prop:=∀ {Aac:List (Int×ByteArray×Int×Int)} {Aam:Int} {b0 Abf:Nat} {Ac0:Aaa} {Abe:TyO} {r:PR (List Tree×Int)} (h:fC Aac Aam=some r) (Abm:RdT e96 4 Ac0 (.slice Abe Aac.length Abf) Aac),Ct Tryz.prog 43 #[pt b0] [bk b0 #[.slice Abe Aac.length Abf,iv Aam] 93] [Ac0] (PR.Post Ap2 (fun (r:List Tree×Int) e l1=>∃ (H0_:Aaa) (A0_:TyO) (c0_:Nat),Abp (Abx 54) 54 H0_ (.slice A0_ r.1.length c0_) r.1∧e=.returned (.slice A0_ r.1.length c0_)∧l1=[H0_,bk b0 #[.slice Abe Aac.length Abf,iv r.2] 93]) r)
structure PE.Good (R:PE):Prop where
 Af6:Af6.C R.Af6
 Arp:Arp.C R.Arp
 Aig:Aig.C R.Aig
 Amh:Amh.C R.Amh
 Ari:Ari.C R.Ari
 Ah1:Ah1.C R.Ah1
def Af6.l0:Nat→(Rc:PE)→(Aac:List (Int×ByteArray×Int×Int))→(a1:Int)→(r2:Int×ByteArray×Int×Int×List Tree×Int)→(x9:Int)→(x10:ByteArray)→(x11:Int)→(l12:List Tree)→(x17:Int)→Option (PR (Int×ByteArray×Int×Int×List Tree×Int))
 | 0,_,_,_,_,_,_,_,_,_=>none
 | m18+1,Rc,Aac,a1,r2,x9,x10,x11,l12,x17=>(Ai4.f m18 Aac x17).bind fun r19=>(A7w.f m18 r19.1 r19.2.1 r19.2.2.1 r19.2.2.2).bind fun r21=>cond (decide (r21≤a1)) (some (PR.ok (x9,x10,x11,r2.2.2.2.1,l12,x17))) (Adg (fun (x23:Int)=>PR.bind (Rc.Af6 Aac (IntKind.i64.wrap (x17+1)) x23) fun r25=>Af6.l0 m18 Rc Aac a1 r2 11 r19.2.1 0 ([(Tree.mk x9 x10 x11 r2.2.2.2.1 l12),(Tree.mk r25.1 r25.2.1 r25.2.2.1 r25.2.2.2.1 r25.2.2.2.2.1)]) r25.2.2.2.2.2) (fun J24=>cond (r21 == 4) (J24 (IntKind.i64.wrap (r21 - 1))) (J24 r21)))
def Af6.g (Rc:PE) (k:Nat) (Aac:List (Int×ByteArray×Int×Int)) (Aam:Int) (a1:Int):Option (PR (Int×ByteArray×Int×Int×List Tree×Int)):=PR.bind (Rc.Arp Aac Aam) fun r2=>Af6.l0 k Rc Aac a1 r2 r2.1 r2.2.1 r2.2.2.1 r2.2.2.2.2.1 r2.2.2.2.2.2
theorem Af6.okg {Rc:PE} (hR:Rc.Good) {k:Nat}:Af6.C (Af6.g Rc k):=by
 intro Aac Aam a1 b0 Abf Ac0 Abe r h Abm
 refine Afb (args:=[pt b0,iv a1]) Tryz.func64 rfl (Nat.le_of_ble_eq_true rfl) ?_
 intro A X hh_
 obtain ⟨Abu,_⟩:=hh_
 unfold Af6.g at h
 refine K.eq (env':=[(0,pt b0),(1,iv a1)]) (l':=bk b0 #[.slice Abe Aac.length Abf,iv Aam] 93 :: X) rfl rfl (ksr (knp #[iv 0,sv noS,iv 0,iv 0,nS] 54 fun b1=>(Aby (kx 1 (K.mv1 (kcp h (fun _ hr2=>(hR.Arp (b0:=b0) hr2 Abm)) rfl ⟨(.tail _ Abu),trivial⟩ (fun _ e=>Ab5 (kpn 1 e rfl)) fun r2 h=>?_))))))
 rintro _ _ ⟨h3,A4,k5,o6,rfl,rfl⟩
 refine Acg (knp #[iv 0,sv noS,iv 0,iv 0,nS] 54 fun b8=>(kst 0 5 #[iv r2.1,sv r2.2.1,iv r2.2.2.1,iv r2.2.2.2.1,.slice A4 r2.2.2.2.2.1.length k5] (knt (Aez (K.mv1 (K.mv3 (K.mv3 (K.mv3 (Akr (τ:=Int×ByteArray×Int×(List Tree)×Int×Aaa×TyO×Nat) (fun t=>[(0,pt b0),(1,iv a1),(4,pt b1),(5,pt b8)]) (fun t=>bk b8 #[iv t.1,sv t.2.1,iv t.2.2.1,iv r2.2.2.2.1,.slice t.2.2.2.2.2.2.1 t.2.2.2.1.length t.2.2.2.2.2.2.2] 54 :: bk b0 #[.slice Abe Aac.length Abf,iv t.2.2.2.2.1] 93 :: bk b1 #[iv 0,sv noS,iv 0,iv 0,nS] 54 :: t.2.2.2.2.2.1 :: X) (fun m t=>Af6.l0 m Rc Aac a1 r2 t.1 t.2.1 t.2.2.1 t.2.2.2.1 t.2.2.2.2.1=some r∧Abp (Abx 54) 54 t.2.2.2.2.2.1 (.slice t.2.2.2.2.2.2.1 t.2.2.2.1.length t.2.2.2.2.2.2.2) t.2.2.2.1) k (r2.1,r2.2.1,r2.2.2.1,r2.2.2.2.2.1,r2.2.2.2.2.2,h3,A4,k5) ⟨h,o6⟩ sb rfl ?_)))))))))
 clear h
 rintro m18 ⟨x9,x10,x11,l12,x17,h13,A14,k15⟩ ⟨h,o16⟩
 cases m18 with
 | zero=>simp [Af6.l0] at h
 | succ m18 =>
  simp only [Af6.l0] at h
  refine Aez (ksr (kx 1 (K.mv1 (bnd h fun r19 hr19 h=>(kc1 (Ai4.ok (b0:=b0) hr19 Abm) rfl ⟨(t3 Abu),trivial⟩ (knp #[iv 0,sv noS,iv 0,iv 0] 96 fun b20=>(kst 0 4 #[iv r19.1,sv r19.2.1,iv r19.2.2.1,iv r19.2.2.2] (Aby (kla 0 0 4 rfl (bnd h fun r21 Aun h=>?_))))))))))
  refine kcv (A7w.ok Aun) trivial (kx 1 (knt (Ac1 (ksr (kx 3 (knt ?_))))))
  refine kcn h (fun h=>?_) fun h=>?_
  ·refine ksr (kla 2 0 5 rfl (K.drop (K.mv1 (K.drop (K.mv1 (kst 0 5 #[iv x9,sv x10,iv x11,iv r2.2.2.2.1,.slice A14 l12.length k15] (knt (Afj (Ahj (Ajk ?_))))))))))
   refine Ahj (Ajk ?_)
   obtain rfl:=Option.some.inj h
   exact kda 0 5 rfl [h13,bk b0 #[.slice Abe Aac.length Abf,iv x17] 93] (K.drop (K.mv1 (Adj (PR.okI ⟨h13,A14,k15,o16,rfl,rfl⟩))))
  ·refine Adv (Abr (ksr (kx 3 (kld 1 1 rfl (kx 3 (K.mv1 (kst 1 1 #[.slice Abe Aac.length Abf,iv (IntKind.i64.wrap (x17+1))] (Aby (kx 2 (knt ?_))))))))))
   obtain ⟨J24,Brn,h⟩:=Agm h
   refine Agn (τ:=Int) (fun t=>[(0,pt b0),(1,iv a1),(4,pt b1),(5,pt b8),(6,pt b20),(8,iv t)]) (fun t=>bk b0 #[.slice Abe Aac.length Abf,iv (IntKind.i64.wrap (x17+1))] 93 :: bk b20 #[iv r19.1,sv r19.2.1,iv r19.2.2.1,iv r19.2.2.2] 96 :: bk b8 #[iv x9,sv x10,iv x11,iv r2.2.2.2.1,.slice A14 l12.length k15] 54 :: bk b1 #[iv 0,sv noS,iv 0,iv 0,nS] 54 :: h13 :: X) (fun t=>J24 t=some r) ?_ ?_
   ·rintro x23 h
    subst Brn
    refine kpr [(0,0),(1,3),(2,0),(3,3),(4,3),(5,0),(6,0),(7,1),(8,1)] [1,2] (kpx 1 (kpd 0 1 rfl (kpx 1 (kpd 1 3 rfl (kpa 1 0 5 rfl (kpx 2 (kpt (ocp h (fun _ Beu=>(hR.Af6 (b0:=b0) Beu Abm)) rfl ⟨(t4 Abu),trivial⟩ (fun _ e=>Adz (Ab5 (Adz (kpn 4 e rfl)))) fun r25 h=>?_))))))))
    rintro _ _ ⟨h26,A27,k28,o29,rfl,rfl⟩
    refine Acg (kan [2,3] rfl (kpt (ons #[iv x9,sv x10,iv x11,iv r2.2.2.2.1,.slice A14 l12.length k15,iv r25.1,sv r25.2.1,iv r25.2.2.1,iv r25.2.2.2.1,.slice A27 r25.2.2.2.2.1.length k28] 54 2 fun b31=>(kan [3,4] rfl (kpz (kx 1 (K.mv4 (kst 0 5 #[iv 11,sv r19.2.1,iv 0,iv r2.2.2.2.1,.slice (some ⟨b31,0,none⟩) 2 2] (K.mv4 (K.drop ?_))))))))))
    refine knl (Acx (Abr (K.mv2 (K.mv5 (Aup fun p32=>(K.mv2 (Ah3 (T:=54) (n:=2) (xs:=[(Tree.mk x9 x10 x11 r2.2.2.2.1 l12),(Tree.mk r25.1 r25.2.1 r25.2.2.1 r25.2.2.2.1 r25.2.2.2.2.1)]) (Aec.cons (Ait (k:=x9) (t:=x10) (n:=x11) (a:=r2.2.2.2.1) 54 o16) p32 (Aec.one (Ait (k:=r25.1) (t:=r25.2.1) (n:=r25.2.2.1) (a:=r25.2.2.2.1) 54 o29))) rfl rfl (Nat.le_of_ble_eq_true rfl) fun h33 o34=>(K.mv3 (K.mv3 (K.mv3 ?_))))))))))
    exact Aiw m18 (11,r19.2.1,0,[(Tree.mk x9 x10 x11 r2.2.2.2.1 l12),(Tree.mk r25.1 r25.2.1 r25.2.2.1 r25.2.2.2.1 r25.2.2.2.2.1)],r25.2.2.2.2.2,h33,(some ⟨b31,0,none⟩),2) (Nat.lt_succ_self _) ⟨h,o34⟩ sb rfl
   ·skip
    refine ksr (kx 2 (knt ?_))
    refine kcn h (fun h=>?_) fun h=>?_
    ·exact Ach (kx 3 (knt (Adb (IntKind.i64.wrap (r21 - 1)) h sb rfl)))
    ·exact Adv (Abr (Adb r21 h sb rfl))
def Arp.g (Rc:PE) (k:Nat) (Aac:List (Int×ByteArray×Int×Int)) (Aam:Int):Option (PR (Int×ByteArray×Int×Int×List Tree×Int)):=(Ai4.f k Aac Aam).bind fun r2=>Adg (fun (x5:Int) (x6:ByteArray) (x7:Int)=>some (PR.ok (x5,x6,x7,r2.2.2.2,[],IntKind.i64.wrap (Aam+1)))) (fun J8=>cond (r2.1 == 3) (J8 4 (⟨#[]⟩:ByteArray) r2.2.2.1) (cond (r2.1 == 4) (J8 5 r2.2.1 0) ((Ajq.f k Aac Aam (⟨#[110,105,108]⟩:ByteArray)).bind fun r11=>cond r11 (J8 1 (⟨#[]⟩:ByteArray) 0) ((Ajq.f k Aac Aam (⟨#[116,114,117,101]⟩:ByteArray)).bind fun r13=>cond r13 (J8 2 (⟨#[]⟩:ByteArray) 0) ((Ajq.f k Aac Aam (⟨#[102,97,108,115,101]⟩:ByteArray)).bind fun r15=>cond r15 (J8 3 (⟨#[]⟩:ByteArray) 0) (Adg (fun (x17:Bool) (x18:Int)=>cond x17 (PR.bind (Rc.Af6 Aac x18 7) fun r21=>some (PR.ok (10,r2.2.1,0,r2.2.2.2,[(Tree.mk r21.1 r21.2.1 r21.2.2.1 r21.2.2.2.1 r21.2.2.2.2.1)],r21.2.2.2.2.2))) ((Afl.f k Aac x18 (⟨#[123]⟩:ByteArray)).bind fun r30=>cond r30.1 (PR.bind (Rc.Amh Aac r30.2) fun r32=>some (PR.ok (12,(⟨#[]⟩:ByteArray),0,r2.2.2.2,r32.1,r32.2))) (PR.bind (Rc.Aig Aac r30.2) fun r38=>some (PR.ok (r38.1,r38.2.1,r38.2.2.1,r38.2.2.2.1,r38.2.2.2.2.1,r38.2.2.2.2.2))))) (fun J19=>(Afl.f k Aac Aam (⟨#[110,111,116]⟩:ByteArray)).bind fun r44=>cond r44.1 (J19 r44.1 r44.2) ((Afl.f k Aac r44.2 (⟨#[35]⟩:ByteArray)).bind fun r46=>cond r46.1 (J19 r46.1 r46.2) ((Afl.f k Aac r46.2 (⟨#[45]⟩:ByteArray)).bind fun r48=>J19 r48.1 r48.2)))))))))
theorem Arp.okg {Rc:PE} (hR:Rc.Good) {k:Nat}:Arp.C (Arp.g Rc k):=by
 intro Aac Aam b0 Abf Ac0 Abe r h Abm
 refine Afb (args:=[pt b0]) Tryz.func104 rfl (Nat.le_of_ble_eq_true rfl) ?_
 intro A X hh_
 obtain ⟨Abu,_⟩:=hh_
 unfold Arp.g at h
 refine K.eq (env':=[(0,pt b0)]) (l':=bk b0 #[.slice Abe Aac.length Abf,iv Aam] 93 :: X) rfl rfl (ksr (knp #[iv 0,sv noS,iv 0,iv 0,nS] 54 fun b1=>(Aby (kx 1 (K.mv1 (bnd h fun r2 hr2 h=>(kc1 (Ai4.ok (b0:=b0) hr2 Abm) rfl ⟨(.tail _ Abu),trivial⟩ (knp #[iv 0,sv noS,iv 0,iv 0] 96 fun b3=>(kst 0 4 #[iv r2.1,sv r2.2.1,iv r2.2.2.1,iv r2.2.2.2] (Aby ?_))))))))))
 refine kx 1 (kld 0 3 rfl (kx 1 (knp #[iv 0,sv noS,iv 0,iv 0,nS] 54 fun b4=>(kst 0 5 #[iv 0,sv noS,iv 0,iv r2.2.2.2,nS] (knt ?_)))))
 obtain ⟨J8,hJ8,h⟩:=Agm h
 refine Agn (τ:=Int×ByteArray×Int) (fun t=>[(0,pt b0),(2,pt b1),(4,pt b4)]) (fun t=>bk b4 #[iv t.1,sv t.2.1,iv t.2.2,iv r2.2.2.2,nS] 54 :: bk b0 #[.slice Abe Aac.length Abf,iv Aam] 93 :: bk b1 #[iv 0,sv noS,iv 0,iv 0,nS] 54 :: X) (fun t=>J8 t.1 t.2.1 t.2.2=some r) ?_ ?_
 ·rintro ⟨x5,x6,x7⟩ h
  subst hJ8
  refine ksr (kx 3 (kld 1 1 rfl (kx 3 (K.mv1 (kst 1 1 #[.slice Abe Aac.length Abf,iv (IntKind.i64.wrap (Aam+1))] (Aby (kla 1 0 5 rfl (K.mv1 (K.drop (K.mv1 ?_))))))))))
  refine kst 0 5 #[iv x5,sv x6,iv x7,iv r2.2.2.2,nS] (knt (Afj ?_))
  obtain rfl:=Option.some.inj h
  exact kda 0 5 rfl [none_,bk b0 #[.slice Abe Aac.length Abf,iv (IntKind.i64.wrap (Aam+1))] 93] (Agh (K.mv1 (K.drop (Adj (PR.okI ⟨none_,none,0,(Abp.nil (Abx 54) 54 none_),rfl,rfl⟩)))))
 ·skip
  refine Aez (ksr (kx 1 (kld 1 0 rfl (kx 2 (knt ?_)))))
  refine kcn h (fun h=>?_) fun h=>?_
  ·refine kpr [(0,0),(1,3),(2,0),(3,1)] [1] (kpx 1 (kpd 0 2 rfl (kpx 1 (kpt (ost 0 1 #[iv 4,sv noS,iv 0,iv r2.2.2.2,nS] (kan [1] rfl (kpz (kx 1 (kst 2 1 #[iv 4,sv noS,iv r2.2.2.1,iv r2.2.2.2,nS] (K.mv1 ?_))))))))))
   exact K.drop (knl (Acx (Abr (Adb (4,(⟨#[]⟩:ByteArray),r2.2.2.1) h sb rfl))))
  ·refine ksr (kx 1 (kld 1 0 rfl (kx 2 (knt ?_))))
   refine kcn h (fun h=>?_) fun h=>?_
   ·refine kpr [(0,0),(1,3),(2,0),(3,1)] [1] (kpx 1 (kpd 0 1 rfl (kpx 1 (kpt (ost 0 1 #[iv 5,sv noS,iv 0,iv r2.2.2.2,nS] (kan [1] rfl (kpz (kx 1 (kst 1 1 #[iv 5,sv r2.2.1,iv 0,iv r2.2.2.2,nS] (K.mv1 ?_))))))))))
    exact K.drop (knl (Acx (Abr (Adb (5,r2.2.1,0) h sb rfl))))
   ·refine ksr (kx 1 (K.mv2 (bnd h fun r11 A5f h=>(kc1 (Ajq.ok (b0:=b0) A5f Abm) rfl ⟨(t3 Abu),trivial⟩ (kx 1 (knt ?_))))))
    refine kcn h (fun h=>?_) fun h=>?_
    ·exact Ach (kx 1 (K.mv1 (kst 0 1 #[iv 1,sv noS,iv 0,iv r2.2.2.2,nS] (K.mv2 (K.drop (knl (Acx (Abr (Adb (1,(⟨#[]⟩:ByteArray),0) h sb rfl)))))))))
    ·refine ksr (kx 1 (bnd h fun r13 A5h h=>(kc1 (Ajq.ok (b0:=b0) A5h Abm) rfl ⟨(t3 Abu),trivial⟩ (kx 1 (knt ?_)))))
     refine kcn h (fun h=>?_) fun h=>?_
     ·exact Ach (kx 1 (K.mv1 (kst 0 1 #[iv 2,sv noS,iv 0,iv r2.2.2.2,nS] (K.mv2 (K.drop (knl (Acx (Abr (Adb (2,(⟨#[]⟩:ByteArray),0) h sb rfl)))))))))
     ·refine ksr (kx 1 (bnd h fun r15 Aw2 h=>(kc1 (Ajq.ok (b0:=b0) Aw2 Abm) rfl ⟨(t3 Abu),trivial⟩ (kx 1 (knt ?_)))))
      refine kcn h (fun h=>?_) fun h=>?_
      ·exact Ach (kx 1 (K.mv1 (kst 0 1 #[iv 3,sv noS,iv 0,iv r2.2.2.2,nS] (K.mv2 (K.drop (knl (Acx (Abr (Adb (3,(⟨#[]⟩:ByteArray),0) h sb rfl)))))))))
      ·obtain ⟨J19,Brm,h⟩:=Agm h
       refine Agn (τ:=Bool×Int) (fun t=>[(0,pt b0),(2,pt b1),(3,pt b3),(40,bv t.1)]) (fun t=>bk b0 #[.slice Abe Aac.length Abf,iv t.2] 93 :: bk b3 #[iv r2.1,sv r2.2.1,iv r2.2.2.1,iv r2.2.2.2] 96 :: bk b1 #[iv 0,sv noS,iv 0,iv 0,nS] 54 :: X) (fun t=>J19 t.1 t.2=some r) ?_ ?_
       ·rintro ⟨x17,x18⟩ h
        subst Brm
        refine kcn h (fun h=>?_) fun h=>?_
        ·refine Ac1 (kpr [(0,0),(1,3),(2,0),(3,3),(4,0),(5,1),(6,1)] [1] (kpx 1 (kpd 0 1 rfl (kpx 1 (kpd 0 3 rfl (kpx 1 (kpt (ocp h (fun _ Aun=>(hR.Af6 (b0:=b0) Aun Abm)) rfl ⟨(t2 Abu),trivial⟩ (fun _ e=>Ab5 (Adz (Ab5 (kpn 2 e rfl)))) fun r21 h=>?_))))))))
         rintro _ _ ⟨h22,A23,k24,o25,rfl,rfl⟩
         refine Acg (kan [2] rfl (kpt (ons #[iv r21.1,sv r21.2.1,iv r21.2.2.1,iv r21.2.2.2.1,.slice A23 r21.2.2.2.2.1.length k24] 54 1 fun b27=>(kan [3] rfl (kpz (kx 1 (K.mv4 (kst 0 5 #[iv 10,sv r2.2.1,iv 0,iv r2.2.2.2,.slice (some ⟨b27,0,none⟩) 1 1] (K.mv4 (K.drop ?_))))))))))
         refine knt (Afj (Ajk (Ahj (K.mv2 (K.mv2 (Ah3 (T:=54) (n:=1) (xs:=[(Tree.mk r21.1 r21.2.1 r21.2.2.1 r21.2.2.2.1 r21.2.2.2.2.1)]) (Aec.one (Ait (k:=r21.1) (t:=r21.2.1) (n:=r21.2.2.1) (a:=r21.2.2.2.1) 54 o25)) rfl rfl (Nat.le_of_ble_eq_true rfl) fun h28 o29=>?_))))))
         obtain rfl:=Option.some.inj h
         exact kda 1 5 rfl [h28,bk b0 #[.slice Abe Aac.length Abf,iv r21.2.2.2.2.2] 93] (K.mv1 (K.drop (Adj (PR.okI ⟨h28,(some ⟨b27,0,none⟩),1,o29,rfl,rfl⟩))))
        ·refine ksr (kx 1 (bnd h fun r30 Bta h=>(kc1 (Afl.ok (b0:=b0) Bta Abm) rfl ⟨(t2 Abu),trivial⟩ (kx 1 (knt ?_)))))
         refine kcn h (fun h=>?_) fun h=>?_
         ·refine Ac1 (kpr [(0,0),(1,3),(2,0),(3,1)] [1] (kpx 1 (kpd 0 3 rfl (kpx 1 (kpt (ocp h (fun _ A5l=>(hR.Amh (b0:=b0) A5l Abm)) rfl ⟨(t2 Abu),trivial⟩ (fun _ e=>Ab5 (Adz (Ab5 (kpn 2 e rfl)))) fun r32 h=>?_))))))
          rintro _ _ ⟨h33,A34,k35,o36,rfl,rfl⟩
          refine Acg (kan [2] rfl (kpz (kx 1 (K.mv3 (kst 0 5 #[iv 12,sv noS,iv 0,iv r2.2.2.2,.slice A34 r32.1.length k35] (K.mv3 (K.drop (knt (Afj (Ajk ?_))))))))))
          refine Ahj ?_
          obtain rfl:=Option.some.inj h
          exact kda 0 5 rfl [h33,bk b0 #[.slice Abe Aac.length Abf,iv r32.2] 93] (K.drop (Adj (PR.okI ⟨h33,A34,k35,o36,rfl,rfl⟩)))
         ·refine ksr (kx 1 (kcp h (fun _ A5p=>(hR.Aig (b0:=b0) A5p Abm)) rfl ⟨(t2 Abu),trivial⟩ (fun _ e=>Ab5 (Adz (Ab5 (kpn 2 e rfl)))) fun r38 h=>?_))
          rintro _ _ ⟨h39,A40,k41,o42,rfl,rfl⟩
          refine Acg (K.mv2 (K.drop (K.mv2 (kst 0 5 #[iv r38.1,sv r38.2.1,iv r38.2.2.1,iv r38.2.2.2.1,.slice A40 r38.2.2.2.2.1.length k41] (knt (Afj (Ajk (Ahj ?_))))))))
          obtain rfl:=Option.some.inj h
          exact kda 0 5 rfl [h39,bk b0 #[.slice Abe Aac.length Abf,iv r38.2.2.2.2.2] 93] (K.drop (Adj (PR.okI ⟨h39,A40,k41,o42,rfl,rfl⟩)))
       ·skip
        refine ksr (kx 1 (bnd h fun r44 A5v h=>(kc1 (Afl.ok (b0:=b0) A5v Abm) rfl ⟨(t3 Abu),trivial⟩ (K.mv1 (K.drop (kx 1 (knt ?_)))))))
        refine kcn h (fun h=>?_) fun h=>?_
        ·exact Adv (Abr (Adb (r44.1,r44.2) h sb rfl))
        ·refine ksr (kx 1 (bnd h fun r46 Btj h=>(kc1 (Afl.ok (b0:=b0) Btj Abm) rfl ⟨(t2 Abu),trivial⟩ (kx 1 (knt ?_)))))
         refine kcn h (fun h=>?_) fun h=>?_
         ·exact Adv (Abr (Adb (r46.1,r46.2) h sb rfl))
         ·exact Ach (kx 1 (bnd h fun r48 Btk h=>(kc1 (Afl.ok (b0:=b0) Btk Abm) rfl ⟨(t2 Abu),trivial⟩ (kx 1 (knt (Adb (r48.1,r48.2) h sb rfl))))))
def Aig.l0:Nat→(Rc:PE)→(Aac:List (Int×ByteArray×Int×Int))→(r2:Int×ByteArray×Int×Int)→(x15:Int)→(x16:ByteArray)→(x17:Int)→(x18:Int)→(l19:List Tree)→(x24:Int)→Option (PR (Int×ByteArray×Int×Int×List Tree×Int))
 | 0,_,_,_,_,_,_,_,_,_=>none
 | m25+1,Rc,Aac,r2,x15,x16,x17,x18,l19,x24=>(Afl.f m25 Aac x24 (⟨#[91]⟩:ByteArray)).bind fun r26=>cond r26.1 (PR.bind (Rc.Af6 Aac r26.2 0) fun r28=>PR.bind (Agc.f m25 Aac r28.2.2.2.2.2 (⟨#[93]⟩:ByteArray)) fun r35=>Aig.l0 m25 Rc Aac r2 7 (⟨#[]⟩:ByteArray) 0 r2.2.2.2 ([(Tree.mk x15 x16 x17 x18 l19),(Tree.mk r28.1 r28.2.1 r28.2.2.1 r28.2.2.2.1 r28.2.2.2.2.1)]) r35) ((Afl.f m25 Aac r26.2 (⟨#[46]⟩:ByteArray)).bind fun r40=>cond r40.1 (PR.bind (Aox.f m25 Aac r40.2) fun r42=>Aig.l0 m25 Rc Aac r2 7 (⟨#[]⟩:ByteArray) 0 r2.2.2.2 ([(Tree.mk x15 x16 x17 x18 l19),(Tree.mk 5 r42.2.1 r42.2.2.1 r42.2.2.2.1 r42.2.2.2.2.1)]) r42.2.2.2.2.2) ((Afl.f m25 Aac r40.2 (⟨#[40]⟩:ByteArray)).bind fun r53=>cond r53.1 (Adg (fun (l56:List Tree) (x61:Int)=>PR.bind (Agc.f m25 Aac x61 (⟨#[41]⟩:ByteArray)) fun r63=>Aig.l0 m25 Rc Aac r2 8 (⟨#[]⟩:ByteArray) 0 r2.2.2.2 l56 r63) (fun J62=>(Ajq.f m25 Aac r53.2 (⟨#[41]⟩:ByteArray)).bind fun r65=>cond (!r65) (PR.bind (Rc.Ah1 Aac r53.2) fun r67=>(apd 64 [(Tree.mk x15 x16 x17 x18 l19)] r67.1).bind fun l75=>J62 l75 r67.2) (J62 ([(Tree.mk x15 x16 x17 x18 l19)]) r53.2))) (some (PR.ok (x15,x16,x17,x18,l19,r53.2)))))
def Aig.g (Rc:PE) (k:Nat) (Aac:List (Int×ByteArray×Int×Int)) (Aam:Int):Option (PR (Int×ByteArray×Int×Int×List Tree×Int)):=(Ai4.f k Aac Aam).bind fun r2=>Adg (fun (x4:Int) (x5:ByteArray) (x6:Int) (x7:Int) (l8:List Tree) (x13:Int)=>Aig.l0 k Rc Aac r2 x4 x5 x6 x7 l8 x13) (fun J14=>(Afl.f k Aac Aam (⟨#[40]⟩:ByteArray)).bind fun r82=>cond r82.1 (PR.bind (Rc.Af6 Aac r82.2 0) fun r84=>PR.bind (Agc.f k Aac r84.2.2.2.2.2 (⟨#[41]⟩:ByteArray)) fun r91=>J14 9 (⟨#[]⟩:ByteArray) 0 r2.2.2.2 ([(Tree.mk r84.1 r84.2.1 r84.2.2.1 r84.2.2.2.1 r84.2.2.2.2.1)]) r91) (PR.bind (Aox.f k Aac r82.2) fun r95=>J14 r95.1 r95.2.1 r95.2.2.1 r95.2.2.2.1 r95.2.2.2.2.1 r95.2.2.2.2.2))
theorem Aig.okg {Rc:PE} (hR:Rc.Good) {k:Nat}:Aig.C (Aig.g Rc k):=by
 intro Aac Aam b0 Abf Ac0 Abe r h Abm
 refine Afb (args:=[pt b0]) Tryz.func106 rfl (Nat.le_of_ble_eq_true rfl) ?_
 intro A X hh_
 obtain ⟨Abu,_⟩:=hh_
 unfold Aig.g at h
 refine K.eq (env':=[(0,pt b0)]) (l':=bk b0 #[.slice Abe Aac.length Abf,iv Aam] 93 :: X) rfl rfl (ksr (knp #[iv 0,sv noS,iv 0,iv 0,nS] 54 fun b1=>(Aby (kx 1 (K.mv1 (bnd h fun r2 hr2 h=>(kc1 (Ai4.ok (b0:=b0) hr2 Abm) rfl ⟨(.tail _ Abu),trivial⟩ (kx 2 (Aby (knp #[iv 0,sv noS,iv 0,iv 0,nS] 54 fun b3=>?_))))))))))
 refine knt ?_
 obtain ⟨J14,Aw0,h⟩:=Agm h
 refine Agn (τ:=Int×ByteArray×Int×Int×(List Tree)×Int×Aaa×TyO×Nat) (fun t=>[(0,pt b0),(2,pt b1),(3,iv r2.2.2.2),(4,pt b3)]) (fun t=>bk b3 #[iv t.1,sv t.2.1,iv t.2.2.1,iv t.2.2.2.1,.slice t.2.2.2.2.2.2.2.1 t.2.2.2.2.1.length t.2.2.2.2.2.2.2.2] 54 :: bk b0 #[.slice Abe Aac.length Abf,iv t.2.2.2.2.2.1] 93 :: bk b1 #[iv 0,sv noS,iv 0,iv 0,nS] 54 :: t.2.2.2.2.2.2.1 :: X) (fun t=>J14 t.1 t.2.1 t.2.2.1 t.2.2.2.1 t.2.2.2.2.1 t.2.2.2.2.2.1=some r∧Abp (Abx 54) 54 t.2.2.2.2.2.2.1 (.slice t.2.2.2.2.2.2.2.1 t.2.2.2.2.1.length t.2.2.2.2.2.2.2.2) t.2.2.2.2.1) ?_ ?_
 ·rintro ⟨x4,x5,x6,x7,l8,x13,h9,A10,k11⟩ ⟨h,o12⟩
  subst Aw0
  refine Aez (Akr (τ:=Int×ByteArray×Int×Int×(List Tree)×Int×Aaa×TyO×Nat) (fun t=>[(0,pt b0),(2,pt b1),(3,iv r2.2.2.2),(4,pt b3)]) (fun t=>bk b3 #[iv t.1,sv t.2.1,iv t.2.2.1,iv t.2.2.2.1,.slice t.2.2.2.2.2.2.2.1 t.2.2.2.2.1.length t.2.2.2.2.2.2.2.2] 54 :: bk b0 #[.slice Abe Aac.length Abf,iv t.2.2.2.2.2.1] 93 :: bk b1 #[iv 0,sv noS,iv 0,iv 0,nS] 54 :: t.2.2.2.2.2.2.1 :: X) (fun m t=>Aig.l0 m Rc Aac r2 t.1 t.2.1 t.2.2.1 t.2.2.2.1 t.2.2.2.2.1 t.2.2.2.2.2.1=some r∧Abp (Abx 54) 54 t.2.2.2.2.2.2.1 (.slice t.2.2.2.2.2.2.2.1 t.2.2.2.2.1.length t.2.2.2.2.2.2.2.2) t.2.2.2.2.1) k (x4,x5,x6,x7,l8,x13,h9,A10,k11) ⟨h,o12⟩ sb rfl ?_)
  clear h
  rintro m25 ⟨x15,x16,x17,x18,l19,x24,h20,A21,k22⟩ ⟨h,o23⟩
  cases m25 with
  | zero=>simp [Aig.l0] at h
  | succ m25 =>
   simp only [Aig.l0] at h
   refine Aez (Aez (ksr (kx 1 (K.mv1 (bnd h fun r26 Azy h=>(kc1 (Afl.ok (b0:=b0) Azy Abm) rfl ⟨(t3 Abu),trivial⟩ (kx 1 (knt ?_))))))))
   refine kcn h (fun h=>?_) fun h=>?_
   ·refine Ac1 (kpr [(0,0),(1,3),(2,0),(3,1)] [1] (kpx 1 (kpa 0 0 5 rfl (kpx 1 (kpt (ocp h (fun _ Bex=>(hR.Af6 (b0:=b0) Bex Abm)) rfl ⟨(t3 Abu),trivial⟩ (fun _ e=>Ab5 (Adz (Adz (Ab5 (Adz (kpn 3 e rfl)))))) fun r28 h=>?_))))))
    rintro _ _ ⟨h29,A30,k31,o32,rfl,rfl⟩
    refine Acg (kan [2] rfl (kpz (kns #[iv x15,sv x16,iv x17,iv x18,.slice A21 l19.length k22,iv r28.1,sv r28.2.1,iv r28.2.2.1,iv r28.2.2.2.1,.slice A30 r28.2.2.2.2.1.length k31] 54 2 fun b34=>(kx 1 (K.mv3 (kst 0 5 #[iv 7,sv noS,iv 0,iv r2.2.2.2,.slice (some ⟨b34,0,none⟩) 2 2] (knr (kx 1 (K.mv3 (kcp h (fun _ A5m=>(Agc.ok (b0:=b0) A5m Abm)) rfl ⟨(t5 Abu),trivial⟩ (fun _ e=>Adz (Adz (Ab5 (Adz (kpn 5 e rfl))))) fun r35 h=>?_))))))))))
    rintro _ _ ⟨rfl,rfl⟩
    refine Ak8 (knl (Acx (Acx (Abr (K.mv3 (K.mv5 (Aup fun p37=>(K.mv3 (Ah3 (T:=54) (n:=2) (xs:=[(Tree.mk x15 x16 x17 x18 l19),(Tree.mk r28.1 r28.2.1 r28.2.2.1 r28.2.2.2.1 r28.2.2.2.2.1)]) (Aec.cons (Ait (k:=x15) (t:=x16) (n:=x17) (a:=x18) 54 o23) p37 (Aec.one (Ait (k:=r28.1) (t:=r28.2.1) (n:=r28.2.2.1) (a:=r28.2.2.2.1) 54 o32))) rfl rfl (Nat.le_of_ble_eq_true rfl) fun h38 o39=>(K.mv3 ?_))))))))))
    exact K.mv2 (K.mv3 (Aiw m25 (7,(⟨#[]⟩:ByteArray),0,r2.2.2.2,[(Tree.mk x15 x16 x17 x18 l19),(Tree.mk r28.1 r28.2.1 r28.2.2.1 r28.2.2.2.1 r28.2.2.2.2.1)],r35,h38,(some ⟨b34,0,none⟩),2) (Nat.lt_succ_self _) ⟨h,o39⟩ sb rfl))
   ·refine ksr (kx 1 (bnd h fun r40 Bez h=>(kc1 (Afl.ok (b0:=b0) Bez Abm) rfl ⟨(t3 Abu),trivial⟩ (kx 1 (knt ?_)))))
    refine kcn h (fun h=>?_) fun h=>?_
    ·refine ksr (kx 1 (kcp h (fun _ Btd=>(Aox.ok (b0:=b0) Btd Abm)) rfl ⟨(t3 Abu),trivial⟩ (fun _ e=>Ab5 (Adz (Adz (Ab5 (Adz (kpn 3 e rfl)))))) fun r42 h=>?_))
     rintro _ _ ⟨h43,A44,k45,o46,rfl,rfl⟩
     refine Acg (knp #[iv 0,sv noS,iv 0,iv 0,nS] 54 fun b48=>(kst 0 5 #[iv r42.1,sv r42.2.1,iv r42.2.2.1,iv r42.2.2.2.1,.slice A44 r42.2.2.2.2.1.length k45] (Aby (kx 1 (kst 0 1 #[iv 5,sv r42.2.1,iv r42.2.2.1,iv r42.2.2.2.1,.slice A44 r42.2.2.2.2.1.length k45] (knr (kx 1 (kla 3 0 5 rfl (kla 0 0 5 rfl (K.drop ?_))))))))))
     refine kns #[iv x15,sv x16,iv x17,iv x18,.slice A21 l19.length k22,iv 5,sv r42.2.1,iv r42.2.2.1,iv r42.2.2.2.1,.slice A44 r42.2.2.2.2.1.length k45] 54 2 fun b49=>(kx 1 (K.mv3 (kst 0 5 #[iv 7,sv noS,iv 0,iv r2.2.2.2,.slice (some ⟨b49,0,none⟩) 2 2] (knl (Acx (Acx (Abr (K.mv2 (K.mv5 (Aup fun p50=>?_))))))))))
     exact K.mv2 (Ah3 (T:=54) (n:=2) (xs:=[(Tree.mk x15 x16 x17 x18 l19),(Tree.mk 5 r42.2.1 r42.2.2.1 r42.2.2.2.1 r42.2.2.2.2.1)]) (Aec.cons (Ait (k:=x15) (t:=x16) (n:=x17) (a:=x18) 54 o23) p50 (Aec.one (Ait (k:=5) (t:=r42.2.1) (n:=r42.2.2.1) (a:=r42.2.2.2.1) 54 o46))) rfl rfl (Nat.le_of_ble_eq_true rfl) fun h51 o52=>(K.mv3 (K.mv3 (K.mv3 (Aiw m25 (7,(⟨#[]⟩:ByteArray),0,r2.2.2.2,[(Tree.mk x15 x16 x17 x18 l19),(Tree.mk 5 r42.2.1 r42.2.2.1 r42.2.2.2.1 r42.2.2.2.2.1)],r42.2.2.2.2.2,h51,(some ⟨b49,0,none⟩),2) (Nat.lt_succ_self _) ⟨h,o52⟩ sb rfl)))))
    ·refine ksr (kx 1 (bnd h fun r53 Btn h=>(kc1 (Afl.ok (b0:=b0) Btn Abm) rfl ⟨(t3 Abu),trivial⟩ (kx 1 (knt ?_)))))
     refine kcn h (fun h=>?_) fun h=>?_
     ·refine ksr (kx 1 (kla 1 0 5 rfl (kns #[iv x15,sv x16,iv x17,iv x18,.slice A21 l19.length k22] 54 1 fun b55=>(kx 1 (K.mv2 (kst 0 5 #[iv 8,sv noS,iv 0,iv r2.2.2.2,.slice (some ⟨b55,0,none⟩) 1 1] (knt ?_)))))))
      obtain ⟨J62,Ctb,h⟩:=Agm h
      refine Agn (τ:=(List Tree)×Int×Aaa×TyO×Nat) (fun t=>[(0,pt b0),(2,pt b1),(3,iv r2.2.2.2),(4,pt b3)]) (fun t=>bk b3 #[iv 8,sv noS,iv 0,iv r2.2.2.2,.slice t.2.2.2.1 t.1.length t.2.2.2.2] 54 :: bk b0 #[.slice Abe Aac.length Abf,iv t.2.1] 93 :: bk b1 #[iv 0,sv noS,iv 0,iv 0,nS] 54 :: t.2.2.1 :: X) (fun t=>J62 t.1 t.2.1=some r∧Abp (Abx 54) 54 t.2.2.1 (.slice t.2.2.2.1 t.1.length t.2.2.2.2) t.1) ?_ ?_
      ·rintro ⟨l56,x61,h57,A58,k59⟩ ⟨h,o60⟩
       subst Ctb
       refine Ach (kx 1 (K.mv1 (kcp h (fun _ Btp=>(Agc.ok (b0:=b0) Btp Abm)) rfl ⟨(t3 Abu),trivial⟩ (fun _ e=>Adz (Adz (Ab5 (Adz (kpn 3 e rfl))))) fun r63 h=>?_)))
       rintro _ _ ⟨rfl,rfl⟩
       exact Ak8 (knl (Acx (Acx (Abr (K.mv3 (K.mv3 (K.mv2 (K.mv3 (Aiw m25 (8,(⟨#[]⟩:ByteArray),0,r2.2.2.2,l56,r63,h57,A58,k59) (Nat.lt_succ_self _) ⟨h,o60⟩ sb rfl)))))))))
      ·skip
       refine ksr (kx 1 (K.mv2 (bnd h fun r65 Cx4 h=>(kc1 (Ajq.ok (b0:=b0) Cx4 Abm) rfl ⟨(t4 Abu),trivial⟩ (kx 1 (knt ?_))))))
       refine kcn h (fun h=>?_) fun h=>?_
       ·refine kpr [(0,0),(1,3),(2,0),(3,1)] [1] (kpx 1 (kpd 0 4 rfl (kpx 1 (kpt (ocp h (fun _ Azz=>(hR.Ah1 (b0:=b0) Azz Abm)) rfl ⟨(t4 Abu),trivial⟩ (fun _ e=>Ab5 (Adz (Adz (Ab5 (Adz (kpn 4 e rfl)))))) fun r67 h=>?_)))))
        rintro _ _ ⟨h68,A69,k70,o71,rfl,rfl⟩
        refine Acg (kan [2] rfl (kpz (K.mv5 (K.mv4 (Ah3 (T:=54) (n:=1) (xs:=[(Tree.mk x15 x16 x17 x18 l19)]) (Aec.one (Ait (k:=x15) (t:=x16) (n:=x17) (a:=x18) 54 o23)) rfl rfl (Nat.le_of_ble_eq_true rfl) fun h73 o74=>(K.mv1 (K.mv1 (bnd h fun l75 Bkc h=>(Alq rfl An2 rfl Bkc o74 o71 fun h76 A77 k78 o79=>(kx 1 ?_))))))))))
        exact K.mv2 (kst 4 1 #[iv 8,sv noS,iv 0,iv r2.2.2.2,.slice A77 l75.length k78] (knt (K.mv1 (K.mv3 (K.mv3 (K.mv3 (Adb (l75,r67.2,h76,A77,k78) ⟨h,o79⟩ sb rfl)))))))
       ·exact Adv (Abr (K.mv4 (K.mv3 (Ah3 (T:=54) (n:=1) (xs:=[(Tree.mk x15 x16 x17 x18 l19)]) (Aec.one (Ait (k:=x15) (t:=x16) (n:=x17) (a:=x18) 54 o23)) rfl rfl (Nat.le_of_ble_eq_true rfl) fun h80 o81=>(K.mv3 (K.mv2 (K.mv3 (Adb ([(Tree.mk x15 x16 x17 x18 l19)],r53.2,h80,(some ⟨b55,0,none⟩),1) ⟨h,o81⟩ sb rfl))))))))
     ·refine ksr (kla 1 0 5 rfl (K.mv1 (K.drop (K.mv1 (kst 0 5 #[iv x15,sv x16,iv x17,iv x18,.slice A21 l19.length k22] (knt (Afj (Ajk (Ajk (Ahj ?_))))))))))
      refine Ajk ?_
      obtain rfl:=Option.some.inj h
      exact kda 0 5 rfl [h20,bk b0 #[.slice Abe Aac.length Abf,iv r53.2] 93] (K.drop (K.mv1 (Adj (PR.okI ⟨h20,A21,k22,o23,rfl,rfl⟩))))
 ·skip
  refine ksr (kx 1 (K.mv1 (bnd h fun r82 Az0 h=>(kc1 (Afl.ok (b0:=b0) Az0 Abm) rfl ⟨(t2 Abu),trivial⟩ (knt ?_)))))
  refine kcn h (fun h=>?_) fun h=>?_
  ·refine ksr (kx 2 (kcp h (fun _ Btz=>(hR.Af6 (b0:=b0) Btz Abm)) rfl ⟨(t2 Abu),trivial⟩ (fun _ e=>Ab5 (Ab5 (kpn 2 e rfl))) fun r84 h=>?_))
   rintro _ _ ⟨h85,A86,k87,o88,rfl,rfl⟩
   refine Acg (kns #[iv r84.1,sv r84.2.1,iv r84.2.2.1,iv r84.2.2.2.1,.slice A86 r84.2.2.2.2.1.length k87] 54 1 fun b90=>(kx 1 (K.mv3 (kst 0 5 #[iv 9,sv noS,iv 0,iv r2.2.2.2,.slice (some ⟨b90,0,none⟩) 1 1] (knr (kx 1 (K.mv3 (kcp h (fun _ Cyi=>(Agc.ok (b0:=b0) Cyi Abm)) rfl ⟨(t4 Abu),trivial⟩ (fun _ e=>Ab5 (kpn 4 e rfl)) fun r91 h=>?_))))))))
   rintro _ _ ⟨rfl,rfl⟩
   exact Ak8 (knt (K.mv3 (K.mv3 (Ah3 (T:=54) (n:=1) (xs:=[(Tree.mk r84.1 r84.2.1 r84.2.2.1 r84.2.2.2.1 r84.2.2.2.2.1)]) (Aec.one (Ait (k:=r84.1) (t:=r84.2.1) (n:=r84.2.2.1) (a:=r84.2.2.2.1) 54 o88)) rfl rfl (Nat.le_of_ble_eq_true rfl) fun h93 o94=>(K.mv3 (K.mv2 (K.mv3 (Adb (9,(⟨#[]⟩:ByteArray),0,r2.2.2.2,[(Tree.mk r84.1 r84.2.1 r84.2.2.1 r84.2.2.2.1 r84.2.2.2.2.1)],r91,h93,(some ⟨b90,0,none⟩),1) ⟨h,o94⟩ sb rfl))))))))
  ·refine Ach (kx 1 (kcp h (fun _ Az1=>(Aox.ok (b0:=b0) Az1 Abm)) rfl ⟨(t2 Abu),trivial⟩ (fun _ e=>Ab5 (kpn 2 e rfl)) fun r95 h=>?_))
   rintro _ _ ⟨h96,A97,k98,o99,rfl,rfl⟩
   exact Acg (K.mv2 (kst 0 5 #[iv r95.1,sv r95.2.1,iv r95.2.2.1,iv r95.2.2.2.1,.slice A97 r95.2.2.2.2.1.length k98] (knt (K.mv1 (K.mv3 (K.mv3 (K.mv3 (Adb (r95.1,r95.2.1,r95.2.2.1,r95.2.2.2.1,r95.2.2.2.2.1,r95.2.2.2.2.2,h96,A97,k98) ⟨h,o99⟩ sb rfl))))))))
def Amh.l0:Nat→(Rc:PE)→(Aac:List (Int×ByteArray×Int×Int))→(J7:(List Tree)→Int→Option (PR (List Tree×Int)))→(l10:List Tree)→(x15:Int)→Option (PR (List Tree×Int))
 | 0,_,_,_,_,_=>none
 | m16+1,Rc,Aac,J7,l10,x15=>(Ajq.f m16 Aac x15 (⟨#[125]⟩:ByteArray)).bind fun r17=>cond (!r17) (PR.bind (Rc.Ari Aac x15) fun r19=>(apd 64 l10 [(Tree.mk r19.1 r19.2.1 r19.2.2.1 r19.2.2.2.1 r19.2.2.2.2.1)]).bind fun l28=>Adg (fun (x33:Bool) (x34:Int)=>cond x33 (J7 l28 x34) (Amh.l0 m16 Rc Aac J7 l28 x34)) (fun J35=>(Afl.f m16 Aac r19.2.2.2.2.2 (⟨#[44]⟩:ByteArray)).bind fun r37=>cond (!r37.1) ((Afl.f m16 Aac r37.2 (⟨#[59]⟩:ByteArray)).bind fun r39=>J35 (!r39.1) r39.2) (J35 false r37.2))) (J7 l10 x15)
def Amh.g (Rc:PE) (k:Nat) (Aac:List (Int×ByteArray×Int×Int)) (Aam:Int):Option (PR (List Tree×Int)):=Adg (fun (l1:List Tree) (x6:Int)=>PR.bind (Agc.f k Aac x6 (⟨#[125]⟩:ByteArray)) fun r8=>some (PR.ok (l1,r8))) (fun J7=>Amh.l0 k Rc Aac J7 ([]) Aam)
theorem Amh.okg {Rc:PE} (hR:Rc.Good) {k:Nat}:Amh.C (Amh.g Rc k):=by
 intro Aac Aam b0 Abf Ac0 Abe r h Abm
 refine Afb (args:=[pt b0]) Tryz.func125 rfl (Nat.le_of_ble_eq_true rfl) ?_
 intro A X hh_
 obtain ⟨Abu,_⟩:=hh_
 unfold Amh.g at h
 refine K.eq (env':=[(0,pt b0)]) (l':=bk b0 #[.slice Abe Aac.length Abf,iv Aam] 93 :: X) rfl rfl (ksr (kx 1 (Aby (kx 1 (knt ?_)))))
 obtain ⟨J7,hJ7,h⟩:=Agm h
 refine Agn (τ:=(List Tree)×Int×Aaa×TyO×Nat) (fun t=>[(0,pt b0),(3,.slice t.2.2.2.1 t.1.length t.2.2.2.2)]) (fun t=>bk b0 #[.slice Abe Aac.length Abf,iv t.2.1] 93 :: t.2.2.1 :: X) (fun t=>J7 t.1 t.2.1=some r∧Abp (Abx 54) 54 t.2.2.1 (.slice t.2.2.2.1 t.1.length t.2.2.2.2) t.1) ?_ ?_
 ·rintro ⟨l1,x6,h2,A3,k4⟩ ⟨h,o5⟩
  subst hJ7
  refine ksr (kx 1 (kcp h (fun _ hr8=>(Agc.ok (b0:=b0) hr8 Abm)) rfl ⟨(.tail _ Abu),trivial⟩ (fun _ e=>Ab5 (kpn 1 e rfl)) fun r8 h=>?_))
  rintro _ _ ⟨rfl,rfl⟩
  refine Ak8 (Aby (kx 2 (knt (Afj ?_))))
  obtain rfl:=Option.some.inj h
  exact kdv (.slice A3 l1.length k4) [h2,bk b0 #[.slice Abe Aac.length Abf,iv r8] 93] (K.mv1 (Adj (PR.okI ⟨h2,A3,k4,o5,rfl,rfl⟩)))
 ·skip
  refine Aez (Agh (K.mv1 (Akr (τ:=(List Tree)×Int×Aaa×TyO×Nat) (fun t=>[(0,pt b0),(3,.slice t.2.2.2.1 t.1.length t.2.2.2.2)]) (fun t=>bk b0 #[.slice Abe Aac.length Abf,iv t.2.1] 93 :: t.2.2.1 :: X) (fun m t=>Amh.l0 m Rc Aac J7 t.1 t.2.1=some r∧Abp (Abx 54) 54 t.2.2.1 (.slice t.2.2.2.1 t.1.length t.2.2.2.2) t.1) k ([],Aam,none_,none,0) ⟨h,(Abp.nil (Abx 54) 54 none_)⟩ sb rfl ?_)))
  clear h
  rintro m16 ⟨l10,x15,h11,A12,k13⟩ ⟨h,o14⟩
  cases m16 with
  | zero=>simp [Amh.l0] at h
  | succ m16 =>
   simp only [Amh.l0] at h
   refine Ac1 (ksr (kx 1 (bnd h fun r17 Aul h=>(kc1 (Ajq.ok (b0:=b0) Aul Abm) rfl ⟨(.tail _ Abu),trivial⟩ (kx 1 (knt ?_))))))
   refine kcn h (fun h=>?_) fun h=>?_
   ·refine Adv (Abr (Aez (ksr (kx 2 (kcp h (fun _ hr19=>(hR.Ari (b0:=b0) hr19 Abm)) rfl ⟨(.tail _ Abu),trivial⟩ (fun _ e=>Ab5 (Adz (Ab5 (Adz (Ab5 (kpn 1 e rfl)))))) fun r19 h=>?_)))))
    rintro _ _ ⟨h20,A21,k22,o23,rfl,rfl⟩
    refine Acg (kns #[iv r19.1,sv r19.2.1,iv r19.2.2.1,iv r19.2.2.2.1,.slice A21 r19.2.2.2.2.1.length k22] 54 1 fun b25=>(K.mv1 (K.mv1 (Ah3 (T:=54) (n:=1) (xs:=[(Tree.mk r19.1 r19.2.1 r19.2.2.1 r19.2.2.2.1 r19.2.2.2.2.1)]) (Aec.one (Ait (k:=r19.1) (t:=r19.2.1) (n:=r19.2.2.1) (a:=r19.2.2.2.1) 54 o23)) rfl rfl (Nat.le_of_ble_eq_true rfl) fun h26 o27=>(K.mv2 (bnd h fun l28 Br0 h=>(Alq rfl An2 rfl Br0 o14 o27 fun h29 A30 k31 o32=>(kx 1 (knt ?_)))))))))
    obtain ⟨J35,Cs4,h⟩:=Agm h
    refine Agn (τ:=Bool×Int) (fun t=>[(0,pt b0),(3,.slice A30 l28.length k31),(19,bv t.1)]) (fun t=>h29 :: bk b0 #[.slice Abe Aac.length Abf,iv t.2] 93 :: X) (fun t=>J35 t.1 t.2=some r) ?_ ?_
    ·rintro ⟨x33,x34⟩ h
     subst Cs4
     refine kcn h (fun h=>?_) fun h=>?_
     ·exact Akp (Bkx rfl (Af5 (Akq (Abr (K.mv1 (Adb (l28,x34,h29,A30,k31) ⟨h,o32⟩ sb rfl))))))
     ·exact Adv (Acx (Abr (K.mv1 (Aiw m16 (l28,x34,h29,A30,k31) (Nat.lt_succ_self _) ⟨h,o32⟩ sb rfl))))
    ·skip
     refine Ach (kx 1 (K.mv1 (bnd h fun r37 A5o h=>(kc1 (Afl.ok (b0:=b0) A5o Abm) rfl ⟨(.tail _ Abu),trivial⟩ (kx 2 ?_)))))
     refine kcs 15 h (fun h=>?_) fun h=>?_
     ·exact kx 1 (bnd h fun r39 hr39 h=>(kc1 (Afl.ok (b0:=b0) hr39 Abm) rfl ⟨(.tail _ Abu),trivial⟩ (kx 2 (knt (K.mv1 (Adb (!r39.1,r39.2) h sb rfl))))))
     ·exact kx 4 (knt (K.mv1 (Adb (false,r37.2) h sb rfl)))
   ·exact Akp (Af5 (Af5 (Akq (Abr (Adb (l10,x15,h11,A12,k13) ⟨h,o14⟩ sb rfl)))))
def Ari.g (Rc:PE) (k:Nat) (Aac:List (Int×ByteArray×Int×Int)) (Aam:Int):Option (PR (Int×ByteArray×Int×Int×List Tree×Int)):=(Ai4.f k Aac Aam).bind fun r2=>Adg (fun (x5:Int) (l6:List Tree) (x11:Int)=>PR.bind (Rc.Af6 Aac x11 0) fun r13=>(apd 64 l6 [(Tree.mk r13.1 r13.2.1 r13.2.2.1 r13.2.2.2.1 r13.2.2.2.2.1)]).bind fun l22=>some (PR.ok (x5,(⟨#[]⟩:ByteArray),0,r2.2.2.2,l22,r13.2.2.2.2.2))) (fun J12=>(Afl.f k Aac Aam (⟨#[91]⟩:ByteArray)).bind fun r27=>cond r27.1 (PR.bind (Rc.Af6 Aac r27.2 0) fun r29=>PR.bind (Agc.f k Aac r29.2.2.2.2.2 (⟨#[93]⟩:ByteArray)) fun r36=>PR.bind (Agc.f k Aac r36 (⟨#[61]⟩:ByteArray)) fun r38=>J12 14 ([(Tree.mk r29.1 r29.2.1 r29.2.2.1 r29.2.2.2.1 r29.2.2.2.2.1)]) r38) ((cond (r2.1 == 1) ((Acz Aac (IntKind.i64.wrap (r27.2+1))).bind fun x57=>cond (x57.1 == 5) ((Acz Aac (IntKind.i64.wrap (r27.2+1))).bind fun x65=>some (x65.2.1.toList == (⟨#[61]⟩:ByteArray).toList)) (some false)) (some false):Option Bool).bind fun q42=>cond q42 (PR.bind (Aox.f k Aac r27.2) fun r44=>PR.bind (Agc.f k Aac r44.2.2.2.2.2 (⟨#[61]⟩:ByteArray)) fun r52=>J12 14 ([(Tree.mk 5 r44.2.1 r44.2.2.1 r44.2.2.2.1 r44.2.2.2.2.1)]) r52) (J12 13 ([]) r27.2)))
theorem Ari.okg {Rc:PE} (hR:Rc.Good) {k:Nat}:Ari.C (Ari.g Rc k):=by
 intro Aac Aam b0 Abf Ac0 Abe r h Abm
 refine Afb (args:=[pt b0]) Tryz.func134 rfl (Nat.le_of_ble_eq_true rfl) ?_
 intro A X hh_
 obtain ⟨Abu,_⟩:=hh_
 unfold Ari.g at h
 refine K.eq (env':=[(0,pt b0)]) (l':=bk b0 #[.slice Abe Aac.length Abf,iv Aam] 93 :: X) rfl rfl (ksr (knp #[iv 0,sv noS,iv 0,iv 0,nS] 54 fun b1=>(Aby (kx 1 (K.mv1 (bnd h fun r2 hr2 h=>(kc1 (Ai4.ok (b0:=b0) hr2 Abm) rfl ⟨(.tail _ Abu),trivial⟩ (knp #[iv 0,sv noS,iv 0,iv 0] 96 fun b3=>(kst 0 4 #[iv r2.1,sv r2.2.1,iv r2.2.2.1,iv r2.2.2.2] (Aby ?_))))))))))
 refine kx 1 (kld 0 3 rfl (kx 1 (knp #[iv 0,sv noS,iv 0,iv 0,nS] 54 fun b4=>(kst 0 5 #[iv 14,sv noS,iv 0,iv r2.2.2.2,nS] (knt ?_)))))
 obtain ⟨J12,Brd,h⟩:=Agm h
 refine Agn (τ:=Int×(List Tree)×Int×Aaa×TyO×Nat) (fun t=>[(0,pt b0),(2,pt b1),(4,pt b4)]) (fun t=>bk b4 #[iv t.1,sv noS,iv 0,iv r2.2.2.2,.slice t.2.2.2.2.1 t.2.1.length t.2.2.2.2.2] 54 :: bk b0 #[.slice Abe Aac.length Abf,iv t.2.2.1] 93 :: bk b1 #[iv 0,sv noS,iv 0,iv 0,nS] 54 :: t.2.2.2.1 :: X) (fun t=>J12 t.1 t.2.1 t.2.2.1=some r∧Abp (Abx 54) 54 t.2.2.2.1 (.slice t.2.2.2.2.1 t.2.1.length t.2.2.2.2.2) t.2.1) ?_ ?_
 ·rintro ⟨x5,l6,x11,h7,A8,k9⟩ ⟨h,o10⟩
  subst Brd
  refine Ac1 (kpr [(0,0),(1,3),(2,0),(3,1),(4,1)] [0] (kpx 1 (kpd 0 4 rfl (kpx 1 (kpt (K.mv1 (ocp h (fun _ A5h=>(hR.Af6 (b0:=b0) A5h Abm)) rfl ⟨(t3 Abu),trivial⟩ (fun _ e=>Ab5 (kpn 3 e rfl)) fun r13 h=>?_)))))))
  rintro _ _ ⟨h14,A15,k16,o17,rfl,rfl⟩
  refine Acg (kan [2] rfl (kpt (ons #[iv r13.1,sv r13.2.1,iv r13.2.2.1,iv r13.2.2.2.1,.slice A15 r13.2.2.2.2.1.length k16] 54 1 fun b19=>(kan [3] rfl (kpz (K.mv1 (K.mv1 (Ah3 (T:=54) (n:=1) (xs:=[(Tree.mk r13.1 r13.2.1 r13.2.2.1 r13.2.2.2.1 r13.2.2.2.2.1)]) (Aec.one (Ait (k:=r13.1) (t:=r13.2.1) (n:=r13.2.2.1) (a:=r13.2.2.2.1) 54 o17)) rfl rfl (Nat.le_of_ble_eq_true rfl) fun h20 o21=>(K.mv4 (bnd h fun l22 Cuj h=>?_))))))))))
  refine Alq rfl An2 rfl Cuj o10 o21 fun h23 A24 k25 o26=>(kx 1 (K.mv2 (kst 4 1 #[iv x5,sv noS,iv 0,iv r2.2.2.2,.slice A24 l22.length k25] (Aby (kla 0 0 5 rfl (K.drop (K.mv2 (kst 0 5 #[iv x5,sv noS,iv 0,iv r2.2.2.2,.slice A24 l22.length k25] (knt (Afj ?_))))))))))
  obtain rfl:=Option.some.inj h
  exact kda 0 5 rfl [h23,bk b0 #[.slice Abe Aac.length Abf,iv r13.2.2.2.2.2] 93] (K.drop (Adj (PR.okI ⟨h23,A24,k25,o26,rfl,rfl⟩)))
 ·skip
  refine Aez (ksr (kx 1 (K.mv2 (bnd h fun r27 Auo h=>(kc1 (Afl.ok (b0:=b0) Auo Abm) rfl ⟨(t3 Abu),trivial⟩ (kx 1 (knt ?_)))))))
  refine kcn h (fun h=>?_) fun h=>?_
  ·refine ksr (kx 1 (kcp h (fun _ Bey=>(hR.Af6 (b0:=b0) Bey Abm)) rfl ⟨(t3 Abu),trivial⟩ (fun _ e=>Ab5 (Adz (Ab5 (kpn 3 e rfl)))) fun r29 h=>?_))
   rintro _ _ ⟨h30,A31,k32,o33,rfl,rfl⟩
   refine Acg (K.mv3 (K.drop (kns #[iv r29.1,sv r29.2.1,iv r29.2.2.1,iv r29.2.2.2.1,.slice A31 r29.2.2.2.2.1.length k32] 54 1 fun b35=>(kx 1 (K.mv3 (kst 4 1 #[iv 14,sv noS,iv 0,iv r2.2.2.2,.slice (some ⟨b35,0,none⟩) 1 1] (Aby (kx 1 (K.mv3 (kcp h (fun _ Aw3=>(Agc.ok (b0:=b0) Aw3 Abm)) rfl ⟨(t4 Abu),trivial⟩ (fun _ e=>Ab5 (Adz (Ab5 (kpn 4 e rfl)))) fun r36 h=>?_))))))))))
   rintro _ _ ⟨rfl,rfl⟩
   refine Ak8 (knr (kx 1 (kcp h (fun _ A5p=>(Agc.ok (b0:=b0) A5p Abm)) rfl ⟨(t4 Abu),trivial⟩ (fun _ e=>Adz (Ab5 (kpn 4 e rfl))) fun r38 h=>?_)))
   rintro _ _ ⟨rfl,rfl⟩
   exact Ak8 (knl (Acx (Abr (K.mv3 (K.mv3 (Ah3 (T:=54) (n:=1) (xs:=[(Tree.mk r29.1 r29.2.1 r29.2.2.1 r29.2.2.2.1 r29.2.2.2.2.1)]) (Aec.one (Ait (k:=r29.1) (t:=r29.2.1) (n:=r29.2.2.1) (a:=r29.2.2.2.1) 54 o33)) rfl rfl (Nat.le_of_ble_eq_true rfl) fun h40 o41=>(K.mv3 (K.mv2 (K.mv3 (Adb (14,[(Tree.mk r29.1 r29.2.1 r29.2.2.1 r29.2.2.2.1 r29.2.2.2.2.1)],r38,h40,(some ⟨b35,0,none⟩),1) ⟨h,o41⟩ sb rfl))))))))))
  ·refine bnd h fun q42 Bsb h=>?_
   refine An7 [(0,pt b0),(2,pt b1),(4,pt b4),(23,bv q42)] (bk b0 #[.slice Abe Aac.length Abf,iv r27.2] 93 :: bk b4 #[iv 14,sv noS,iv 0,iv r2.2.2.2,nS] 54 :: bk b1 #[iv 0,sv noS,iv 0,iv 0,nS] 54 :: X) ?_ ?_
   ·clear Bsb
    refine kcn h (fun h=>?_) fun h=>?_
    ·refine ksr (kx 1 (kcp h (fun _ A5v=>(Aox.ok (b0:=b0) A5v Abm)) rfl ⟨(t2 Abu),trivial⟩ (fun _ e=>Ab5 (Adz (Ab5 (kpn 2 e rfl)))) fun r44 h=>?_))
     rintro _ _ ⟨h45,A46,k47,o48,rfl,rfl⟩
     refine Acg (knp #[iv 0,sv noS,iv 0,iv 0,nS] 54 fun b50=>(kst 0 5 #[iv r44.1,sv r44.2.1,iv r44.2.2.1,iv r44.2.2.2.1,.slice A46 r44.2.2.2.2.1.length k47] (Aby (kx 1 (kst 0 1 #[iv 5,sv r44.2.1,iv r44.2.2.1,iv r44.2.2.2.1,.slice A46 r44.2.2.2.2.1.length k47] (Aby (kla 0 0 5 rfl (K.drop (kns #[iv 5,sv r44.2.1,iv r44.2.2.1,iv r44.2.2.2.1,.slice A46 r44.2.2.2.2.1.length k47] 54 1 fun b51=>(kx 1 ?_))))))))))
     refine K.mv3 (kst 4 1 #[iv 14,sv noS,iv 0,iv r2.2.2.2,.slice (some ⟨b51,0,none⟩) 1 1] (knr (kx 1 (K.mv3 (kcp h (fun _ Btm=>(Agc.ok (b0:=b0) Btm Abm)) rfl ⟨(t4 Abu),trivial⟩ (fun _ e=>Adz (Ab5 (kpn 4 e rfl))) fun r52 h=>?_)))))
     rintro _ _ ⟨rfl,rfl⟩
     exact Ak8 (knl (Acx (Abr (K.mv3 (K.mv3 (Ah3 (T:=54) (n:=1) (xs:=[(Tree.mk 5 r44.2.1 r44.2.2.1 r44.2.2.2.1 r44.2.2.2.2.1)]) (Aec.one (Ait (k:=5) (t:=r44.2.1) (n:=r44.2.2.1) (a:=r44.2.2.2.1) 54 o48)) rfl rfl (Nat.le_of_ble_eq_true rfl) fun h54 o55=>(K.mv3 (K.mv2 (K.mv3 (Adb (14,[(Tree.mk 5 r44.2.1 r44.2.2.1 r44.2.2.2.1 r44.2.2.2.2.1)],r52,h54,(some ⟨b51,0,none⟩),1) ⟨h,o55⟩ sb rfl))))))))))
    ·refine Ach (kx 1 (K.mv1 (kst 0 1 #[iv 13,sv noS,iv 0,iv r2.2.2.2,nS] (knl (Acx (Abr (Agh (K.mv3 (K.mv3 (K.mv3 ?_))))))))))
     exact Adb (13,[],r27.2,none_,none,0) ⟨h,(Abp.nil (Abx 54) 54 none_)⟩ sb rfl
   ·have h:=Bsb
    clear Bsb
    refine Asu [(0,0),(1,3),(2,0),(3,0),(4,0),(5,0),(6,0),(7,3),(8,0),(9,0),(10,0),(11,3),(12,0),(13,0),(14,0),(15,3),(16,0),(17,0),(18,0),(19,0),(20,0),(21,0),(22,3),(23,0),(24,0),(25,0),(26,3),(27,0)] [bk b0 #[.slice Abe Aac.length Abf,iv r27.2] 93,bk b3 #[iv r2.1,sv r2.2.1,iv r2.2.2.1,iv r2.2.2.2] 96,Ac0] (fun w h_=>⟨h_.sat.on _ (.head _),h_.sat.on _ (.tail _ (.tail _ (.head _))),h_.sat.on _ (t4 Abu),trivial⟩) (kpx 1 (kpd 1 0 rfl (kpx 2 ?_)))
    refine kcs 27 h (fun h=>?_) fun h=>?_
    ·refine kpx 3 (kpd 0 0 rfl (kpx 3 (kpd 0 1 rfl (kpx 1 (bnd h fun x57 C0c h=>(Ccq (T:=96) (kd:=.i64) Bjl rfl C0c Abm fun p58 e59 y60=>?_))))))
     have e59:Elem _ p58 [iv x57.1,sv x57.2.1,iv x57.2.2.1,iv x57.2.2.2]:=e59
     refine Ccp (off:=0) rfl e59 y60 fun p61 e62 y63=>?_
     have e62:Elem _ p61 [iv x57.1,sv x57.2.1,iv x57.2.2.1,iv x57.2.2.2]:=e62
     refine Bu9 rfl (by kernel_rfl) (by kernel_rfl) (by kernel_rfl) (by kernel_rfl) e62 (fun w h_=>h_.mem _ (.tail _ (.tail _ (.head _)))) (kpx 3 ?_)
     refine kcs 42 h (fun h=>?_) fun h=>?_
     ·refine kpx 3 (kpd 0 0 rfl (kpx 3 (kpd 0 1 rfl (kpx 1 (kpz (bnd h fun x65 C0d h=>(Ano (T:=96) (kd:=.i64) Bjl rfl C0d Abm fun p66 e67 y68=>?_)))))))
      have e67:Elem _ p66 [iv x65.1,sv x65.2.1,iv x65.2.2.1,iv x65.2.2.2]:=e67
      refine K.mv2 (K.drop (An8 (off:=1) rfl e67 y68 fun p69 e70 y71=>?_))
      have e70:Elem _ p69 [sv x65.2.1,iv x65.2.2.1,iv x65.2.2.2]:=e70
      exact Apm rfl (by kernel_rfl) (by kernel_rfl) (by kernel_rfl) (by kernel_rfl) e70 (t3 Abu) (kx 3 (knt (Agb ⟨gr,gr,gr,gb (Option.some.inj h),trivial⟩)))
     ·exact kpx 3 (A6y (by kernel_rfl) (by kernel_rfl) (kpx 3 (A6y (by kernel_rfl) (by kernel_rfl) (kpx 1 (kpz (kx 6 (knt (K.mv2 (K.drop (Agb ⟨gr,gr,gr,gb (Option.some.inj h),trivial⟩))))))))))
    ·refine kpx 3 (A6y (by kernel_rfl) (by kernel_rfl) (kpx 3 (A6y (by kernel_rfl) (by kernel_rfl) (kpx 3 (A6y (by kernel_rfl) (by kernel_rfl) (kpx 6 (A6y (by kernel_rfl) (by kernel_rfl) (kpx 3 (A6y (by kernel_rfl) (by kernel_rfl) (kpx 1 ?_))))))))))
     exact kpz (kx 6 (knt (K.mv2 (K.drop (Agb ⟨gr,gr,gr,gb (Option.some.inj h),trivial⟩)))))
def Ah1.l0:Nat→(Rc:PE)→(Aac:List (Int×ByteArray×Int×Int))→(J14:(List Tree)→Int→Option (PR (List Tree×Int)))→(l15:List Tree)→(x20:Int)→Option (PR (List Tree×Int))
 | 0,_,_,_,_,_=>none
 | m21+1,Rc,Aac,J14,l15,x20=>(Afl.f m21 Aac x20 (⟨#[44]⟩:ByteArray)).bind fun r24=>cond r24.1 (PR.bind (Rc.Af6 Aac r24.2 0) fun r26=>(apd 64 l15 [(Tree.mk r26.1 r26.2.1 r26.2.2.1 r26.2.2.2.1 r26.2.2.2.2.1)]).bind fun l35=>Ah1.l0 m21 Rc Aac J14 l35 r26.2.2.2.2.2) (J14 l15 r24.2)
def Ah1.g (Rc:PE) (k:Nat) (Aac:List (Int×ByteArray×Int×Int)) (Aam:Int):Option (PR (List Tree×Int)):=PR.bind (Rc.Af6 Aac Aam 0) fun r1=>Adg (fun (l8:List Tree) (x13:Int)=>some (PR.ok (l8,x13))) (fun J14=>Ah1.l0 k Rc Aac J14 ([(Tree.mk r1.1 r1.2.1 r1.2.2.1 r1.2.2.2.1 r1.2.2.2.2.1)]) r1.2.2.2.2.2)
theorem Ah1.okg {Rc:PE} (hR:Rc.Good) {k:Nat}:Ah1.C (Ah1.g Rc k):=by
 intro Aac Aam b0 Abf Ac0 Abe r h Abm
 refine Afb (args:=[pt b0]) Tryz.func43 rfl (Nat.le_of_ble_eq_true rfl) ?_
 intro A X hh_
 obtain ⟨Abu,_⟩:=hh_
 unfold Ah1.g at h
 refine K.eq (env':=[(0,pt b0)]) (l':=bk b0 #[.slice Abe Aac.length Abf,iv Aam] 93 :: X) rfl rfl (ksr (kx 1 (Aby (kx 1 (kcp h (fun _ hr1=>(hR.Af6 (b0:=b0) hr1 Abm)) rfl ⟨Abu,trivial⟩ (fun _ e=>Ab5 (kpn 0 e rfl)) fun r1 h=>?_)))))
 rintro _ _ ⟨h2,A3,k4,o5,rfl,rfl⟩
 refine Acg (kns #[iv r1.1,sv r1.2.1,iv r1.2.2.1,iv r1.2.2.2.1,.slice A3 r1.2.2.2.2.1.length k4] 54 1 fun b7=>(kx 1 (knt ?_)))
 obtain ⟨J14,Aw0,h⟩:=Agm h
 refine Agn (τ:=(List Tree)×Int×Aaa×TyO×Nat) (fun t=>[(3,.slice t.2.2.2.1 t.1.length t.2.2.2.2)]) (fun t=>bk b0 #[.slice Abe Aac.length Abf,iv t.2.1] 93 :: t.2.2.1 :: X) (fun t=>J14 t.1 t.2.1=some r∧Abp (Abx 54) 54 t.2.2.1 (.slice t.2.2.2.1 t.1.length t.2.2.2.2) t.1) ?_ ?_
 ·rintro ⟨l8,x13,h9,A10,k11⟩ ⟨h,o12⟩
  subst Aw0
  refine ksr (kx 2 (knt (Afj ?_)))
  obtain rfl:=Option.some.inj h
  exact kdv (.slice A10 l8.length k11) [h9,bk b0 #[.slice Abe Aac.length Abf,iv x13] 93] (K.mv1 (Adj (PR.okI ⟨h9,A10,k11,o12,rfl,rfl⟩)))
 ·skip
  refine Aez (K.mv1 (K.mv1 (Ah3 (T:=54) (n:=1) (xs:=[(Tree.mk r1.1 r1.2.1 r1.2.2.1 r1.2.2.2.1 r1.2.2.2.2.1)]) (Aec.one (Ait (k:=r1.1) (t:=r1.2.1) (n:=r1.2.2.1) (a:=r1.2.2.2.1) 54 o5)) rfl rfl (Nat.le_of_ble_eq_true rfl) fun h22 o23=>(K.mv1 (Akr (τ:=(List Tree)×Int×Aaa×TyO×Nat) (fun t=>[(0,pt b0),(3,.slice t.2.2.2.1 t.1.length t.2.2.2.2)]) (fun t=>bk b0 #[.slice Abe Aac.length Abf,iv t.2.1] 93 :: t.2.2.1 :: X) (fun m t=>Ah1.l0 m Rc Aac J14 t.1 t.2.1=some r∧Abp (Abx 54) 54 t.2.2.1 (.slice t.2.2.2.1 t.1.length t.2.2.2.2) t.1) k ([(Tree.mk r1.1 r1.2.1 r1.2.2.1 r1.2.2.2.1 r1.2.2.2.2.1)],r1.2.2.2.2.2,h22,(some ⟨b7,0,none⟩),1) ⟨h,o23⟩ sb rfl ?_)))))
  clear h
  rintro m21 ⟨l15,x20,h16,A17,k18⟩ ⟨h,o19⟩
  cases m21 with
  | zero=>simp [Ah1.l0] at h
  | succ m21 =>
   simp only [Ah1.l0] at h
   refine Ac1 (ksr (kx 1 (bnd h fun r24 A5j h=>(kc1 (Afl.ok (b0:=b0) A5j Abm) rfl ⟨(.tail _ Abu),trivial⟩ (knt ?_)))))
   refine kcn h (fun h=>?_) fun h=>?_
   ·refine Adv (Abr (Aez (Ach (kx 2 (kcp h (fun _ Azy=>(hR.Af6 (b0:=b0) Azy Abm)) rfl ⟨(.tail _ Abu),trivial⟩ (fun _ e=>Adz (Ab5 (Adz (Ab5 (kpn 1 e rfl))))) fun r26 h=>?_)))))
    rintro _ _ ⟨h27,A28,k29,o30,rfl,rfl⟩
    refine Acg (kns #[iv r26.1,sv r26.2.1,iv r26.2.2.1,iv r26.2.2.2.1,.slice A28 r26.2.2.2.2.1.length k29] 54 1 fun b32=>(K.mv1 (K.mv1 (Ah3 (T:=54) (n:=1) (xs:=[(Tree.mk r26.1 r26.2.1 r26.2.2.1 r26.2.2.2.1 r26.2.2.2.2.1)]) (Aec.one (Ait (k:=r26.1) (t:=r26.2.1) (n:=r26.2.2.1) (a:=r26.2.2.2.1) 54 o30)) rfl rfl (Nat.le_of_ble_eq_true rfl) fun h33 o34=>(K.mv2 (bnd h fun l35 Bem h=>(Alq rfl An2 rfl Bem o19 o34 fun h36 A37 k38 o39=>(kx 1 (knl (Acx ?_))))))))))
    exact Abr (K.mv1 (Aiw m21 (l35,r26.2.2.2.2.2,h36,A37,k38) (Nat.lt_succ_self _) ⟨h,o39⟩ sb rfl))
   ·exact Akp (Af5 (Af5 (Akq (Abr (Adb (l15,r24.2,h16,A17,k18) ⟨h,o19⟩ sb rfl)))))
def PE.at:Nat→PE
 | 0=>⟨fun _ _ _=>none,fun _ _=>none,fun _ _=>none,fun _ _=>none,fun _ _=>none,fun _ _=>none⟩
 | k+1=>⟨Af6.g (PE.at k) k,Arp.g (PE.at k) k,Aig.g (PE.at k) k,Amh.g (PE.at k) k,Ari.g (PE.at k) k,Ah1.g (PE.at k) k⟩
theorem PE.good:∀ k,(PE.at k).Good
 | 0=>⟨(by unfold Af6.C;intros;rename_i h _;cases (show (none:Option _)=some _ from h)),(by unfold Arp.C;intros;rename_i h _;cases (show (none:Option _)=some _ from h)),(by unfold Aig.C;intros;rename_i h _;cases (show (none:Option _)=some _ from h)),(by unfold Amh.C;intros;rename_i h _;cases (show (none:Option _)=some _ from h)),(by unfold Ari.C;intros;rename_i h _;cases (show (none:Option _)=some _ from h)),(by unfold Ah1.C;intros;rename_i h _;cases (show (none:Option _)=some _ from h))⟩
 | k+1=>⟨Af6.okg (k:=k) (PE.good k),Arp.okg (k:=k) (PE.good k),Aig.okg (k:=k) (PE.good k),Amh.okg (k:=k) (PE.good k),Ari.okg (k:=k) (PE.good k),Ah1.okg (k:=k) (PE.good k)⟩
def Af6.f (k:Nat):=Af6.g (PE.at k) k
theorem Af6.ok {k:Nat}:Af6.C (Af6.f k):=Af6.okg (k:=k) (PE.good k)
def Aig.f (k:Nat):=Aig.g (PE.at k) k
theorem Aig.ok {k:Nat}:Aig.C (Aig.f k):=Aig.okg (k:=k) (PE.good k)
def Ah1.f (k:Nat):=Ah1.g (PE.at k) k
theorem Ah1.ok {k:Nat}:Ah1.C (Ah1.f k):=Ah1.okg (k:=k) (PE.good k)
structure PS where
 Agv:List (Int×ByteArray×Int×Int)→Int→Bool→Option (PR (Int×ByteArray×Int×Int×List Tree×Int))
 Arj:List (Int×ByteArray×Int×Int)→Int→Option (PR (Int×ByteArray×Int×Int×List Tree×Int))
 Arq:List (Int×ByteArray×Int×Int)→Int→Option (PR (Int×ByteArray×Int×Int×List Tree×Int))
 Amy:List (Int×ByteArray×Int×Int)→Int→Option (PR (List Tree×Int))
 Arl:List (Int×ByteArray×Int×Int)→Int→Int→Option (PR (Int×ByteArray×Int×Int×List Tree×Int))
 Am0:List (Int×ByteArray×Int×Int)→Int→Option (PR (Int×ByteArray×Int×Int×List Tree×Int))
def Agv.C (fC:List (Int×ByteArray×Int×Int)→Int→Bool→Option (PR (Int×ByteArray×Int×Int×List Tree×Int))):Prop:=∀ {Aac:List (Int×ByteArray×Int×Int)} {Aam:Int} {a1:Bool} {b0 Abf:Nat} {Ac0:Aaa} {Abe:TyO} {r:PR (Int×ByteArray×Int×Int×List Tree×Int)} (h:fC Aac Aam a1=some r) (Abm:RdT e96 4 Ac0 (.slice Abe Aac.length Abf) Aac),Ct Tryz.prog 26 #[pt b0,bv a1] [bk b0 #[.slice Abe Aac.length Abf,iv Aam] 93] [Ac0] (PR.Post Ap2 (fun (r:Int×ByteArray×Int×Int×List Tree×Int) e l1=>∃ (H0_:Aaa) (A0_:TyO) (c0_:Nat),Abp (Abx 54) 54 H0_ (.slice A0_ r.2.2.2.2.1.length c0_) r.2.2.2.2.1∧e=.returned (.agg #[iv r.1,sv r.2.1,iv r.2.2.1,iv r.2.2.2.1,.slice A0_ r.2.2.2.2.1.length c0_])∧l1=[H0_,bk b0 #[.slice Abe Aac.length Abf,iv r.2.2.2.2.2] 93]) r)
def Arj.C (fC:List (Int×ByteArray×Int×Int)→Int→Option (PR (Int×ByteArray×Int×Int×List Tree×Int))):Prop:=∀ {Aac:List (Int×ByteArray×Int×Int)} {Aam:Int} {b0 Abf:Nat} {Ac0:Aaa} {Abe:TyO} {r:PR (Int×ByteArray×Int×Int×List Tree×Int)} (h:fC Aac Aam=some r) (Abm:RdT e96 4 Ac0 (.slice Abe Aac.length Abf) Aac),Ct Tryz.prog 44 #[pt b0] [bk b0 #[.slice Abe Aac.length Abf,iv Aam] 93] [Ac0] (PR.Post Ap2 (fun (r:Int×ByteArray×Int×Int×List Tree×Int) e l1=>∃ (H0_:Aaa) (A0_:TyO) (c0_:Nat),Abp (Abx 54) 54 H0_ (.slice A0_ r.2.2.2.2.1.length c0_) r.2.2.2.2.1∧e=.returned (.agg #[iv r.1,sv r.2.1,iv r.2.2.1,iv r.2.2.2.1,.slice A0_ r.2.2.2.2.1.length c0_])∧l1=[H0_,bk b0 #[.slice Abe Aac.length Abf,iv r.2.2.2.2.2] 93]) r)
def Arq.C (fC:List (Int×ByteArray×Int×Int)→Int→Option (PR (Int×ByteArray×Int×Int×List Tree×Int))):Prop:=∀ {Aac:List (Int×ByteArray×Int×Int)} {Aam:Int} {b0 Abf:Nat} {Ac0:Aaa} {Abe:TyO} {r:PR (Int×ByteArray×Int×Int×List Tree×Int)} (h:fC Aac Aam=some r) (Abm:RdT e96 4 Ac0 (.slice Abe Aac.length Abf) Aac),Ct Tryz.prog 45 #[pt b0] [bk b0 #[.slice Abe Aac.length Abf,iv Aam] 93] [Ac0] (PR.Post Ap2 (fun (r:Int×ByteArray×Int×Int×List Tree×Int) e l1=>∃ (H0_:Aaa) (A0_:TyO) (c0_:Nat),Abp (Abx 54) 54 H0_ (.slice A0_ r.2.2.2.2.1.length c0_) r.2.2.2.2.1∧e=.returned (.agg #[iv r.1,sv r.2.1,iv r.2.2.1,iv r.2.2.2.1,.slice A0_ r.2.2.2.2.1.length c0_])∧l1=[H0_,bk b0 #[.slice Abe Aac.length Abf,iv r.2.2.2.2.2] 93]) r)
def Amy.C (fC:List (Int×ByteArray×Int×Int)→Int→Option (PR (List Tree×Int))):Prop:=∀ {Aac:List (Int×ByteArray×Int×Int)} {Aam:Int} {b0 Abf:Nat} {Ac0:Aaa} {Abe:TyO} {r:PR (List Tree×Int)} (h:fC Aac Aam=some r) (Abm:RdT e96 4 Ac0 (.slice Abe Aac.length Abf) Aac),Ct Tryz.prog 68 #[pt b0] [bk b0 #[.slice Abe Aac.length Abf,iv Aam] 93] [Ac0] (PR.Post Ap2 (fun (r:List Tree×Int) e l1=>∃ (H0_:Aaa) (A0_:TyO) (c0_:Nat),Abp (Abx 54) 54 H0_ (.slice A0_ r.1.length c0_) r.1∧e=.returned (.slice A0_ r.1.length c0_)∧l1=[H0_,bk b0 #[.slice Abe Aac.length Abf,iv r.2] 93]) r)
def Arl.C (fC:List (Int×ByteArray×Int×Int)→Int→Int→Option (PR (Int×ByteArray×Int×Int×List Tree×Int))):Prop:=∀ {Aac:List (Int×ByteArray×Int×Int)} {Aam a1:Int} {b0 Abf:Nat} {Ac0:Aaa} {Abe:TyO} {r:PR (Int×ByteArray×Int×Int×List Tree×Int)} (h:fC Aac Aam a1=some r) (Abm:RdT e96 4 Ac0 (.slice Abe Aac.length Abf) Aac),Ct Tryz.prog 69 #[pt b0,iv a1] [bk b0 #[.slice Abe Aac.length Abf,iv Aam] 93] [Ac0] (PR.Post Ap2 (fun (r:Int×ByteArray×Int×Int×List Tree×Int) e l1=>∃ (H0_:Aaa) (A0_:TyO) (c0_:Nat),Abp (Abx 54) 54 H0_ (.slice A0_ r.2.2.2.2.1.length c0_) r.2.2.2.2.1∧e=.returned (.agg #[iv r.1,sv r.2.1,iv r.2.2.1,iv r.2.2.2.1,.slice A0_ r.2.2.2.2.1.length c0_])∧l1=[H0_,bk b0 #[.slice Abe Aac.length Abf,iv r.2.2.2.2.2] 93]) r)
def Am0.C (fC:List (Int×ByteArray×Int×Int)→Int→Option (PR (Int×ByteArray×Int×Int×List Tree×Int))):Prop:=∀ {Aac:List (Int×ByteArray×Int×Int)} {Aam:Int} {b0 Abf:Nat} {Ac0:Aaa} {Abe:TyO} {r:PR (Int×ByteArray×Int×Int×List Tree×Int)} (h:fC Aac Aam=some r) (Abm:RdT e96 4 Ac0 (.slice Abe Aac.length Abf) Aac),Ct Tryz.prog 70 #[pt b0] [bk b0 #[.slice Abe Aac.length Abf,iv Aam] 93] [Ac0] (PR.Post Ap2 (fun (r:Int×ByteArray×Int×Int×List Tree×Int) e l1=>∃ (H0_:Aaa) (A0_:TyO) (c0_:Nat),Abp (Abx 54) 54 H0_ (.slice A0_ r.2.2.2.2.1.length c0_) r.2.2.2.2.1∧e=.returned (.agg #[iv r.1,sv r.2.1,iv r.2.2.1,iv r.2.2.2.1,.slice A0_ r.2.2.2.2.1.length c0_])∧l1=[H0_,bk b0 #[.slice Abe Aac.length Abf,iv r.2.2.2.2.2] 93]) r)
structure PS.Good (R:PS):Prop where
 Agv:Agv.C R.Agv
 Arj:Arj.C R.Arj
 Arq:Arq.C R.Arq
 Amy:Amy.C R.Amy
 Arl:Arl.C R.Arl
 Am0:Am0.C R.Am0
def Agv.l0:Nat→(Rc:PS)→(Aac:List (Int×ByteArray×Int×Int))→(a1:Bool)→(r2:Int×ByteArray×Int×Int)→(l4:List Tree)→(x9:Int)→Option (PR (Int×ByteArray×Int×Int×List Tree×Int))
 | 0,_,_,_,_,_,_=>none
 | m10+1,Rc,Aac,a1,r2,l4,x9=>(Ai4.f m10 Aac x9).bind fun r11=>(Afl.f m10 Aac x9 (⟨#[59]⟩:ByteArray)).bind fun r13=>cond r13.1 (Agv.l0 m10 Rc Aac a1 r2 l4 r13.2) ((Afl.f m10 Aac r13.2 (⟨#[114,101,116,117,114,110]⟩:ByteArray)).bind fun r15=>cond r15.1 (Adg (fun (l18:List Tree) (x23:Int)=>(Afl.f m10 Aac x23 (⟨#[59]⟩:ByteArray)).bind fun r25=>(apd 64 l4 [(Tree.mk 30 (⟨#[]⟩:ByteArray) 0 r11.2.2.2 l18)]).bind fun l29=>some (PR.ok (20,(⟨#[]⟩:ByteArray),0,r2.2.2.2,l29,r25.2))) (fun J24=>((A0j.f m10 Aac r15.2).bind fun r42=>cond (!r42) ((Ajq.f m10 Aac r15.2 (⟨#[59]⟩:ByteArray)).bind fun r44=>some (!r44)) (some false):Option Bool).bind fun q34=>cond q34 (PR.bind (Ah1.f m10 Aac r15.2) fun r36=>J24 r36.1 r36.2) (J24 ([]) r15.2))) ((cond a1 ((Ajq.f m10 Aac r15.2 (⟨#[102,117,110,99,116,105,111,110]⟩:ByteArray)).bind fun r78=>some r78) (some false):Option Bool).bind fun q45=>cond q45 (PR.bind (Rc.Arj Aac r15.2) fun r47=>(apd 64 l4 [(Tree.mk r47.1 r47.2.1 r47.2.2.1 r47.2.2.2.1 r47.2.2.2.2.1)]).bind fun l56=>Agv.l0 m10 Rc Aac a1 r2 l56 r47.2.2.2.2.2) ((A0j.f m10 Aac r15.2).bind fun r61=>cond r61 (some (PR.ok (20,(⟨#[]⟩:ByteArray),0,r2.2.2.2,l4,r15.2))) (PR.bind (Rc.Arq Aac r15.2) fun r63=>(apd 64 l4 [(Tree.mk r63.1 r63.2.1 r63.2.2.1 r63.2.2.2.1 r63.2.2.2.2.1)]).bind fun l72=>Agv.l0 m10 Rc Aac a1 r2 l72 r63.2.2.2.2.2))))
def Agv.g (Rc:PS) (k:Nat) (Aac:List (Int×ByteArray×Int×Int)) (Aam:Int) (a1:Bool):Option (PR (Int×ByteArray×Int×Int×List Tree×Int)):=(Ai4.f k Aac Aam).bind fun r2=>Agv.l0 k Rc Aac a1 r2 ([]) Aam
theorem Agv.okg {Rc:PS} (hR:Rc.Good) {k:Nat}:Agv.C (Agv.g Rc k):=by
 intro Aac Aam a1 b0 Abf Ac0 Abe r h Abm
 refine Afb (args:=[pt b0,bv a1]) Tryz.func26 rfl (Nat.le_of_ble_eq_true rfl) ?_
 intro A X hh_
 obtain ⟨Abu,_⟩:=hh_
 unfold Agv.g at h
 refine K.eq (env':=[(0,pt b0),(1,bv a1)]) (l':=bk b0 #[.slice Abe Aac.length Abf,iv Aam] 93 :: X) rfl rfl (ksr (knp #[iv 0,sv noS,iv 0,iv 0,nS] 54 fun b1=>(Aby (kx 1 (K.mv1 (bnd h fun r2 hr2 h=>(kc1 (Ai4.ok (b0:=b0) hr2 Abm) rfl ⟨(.tail _ Abu),trivial⟩ (kx 2 (knp #[iv 0,sv noS,iv 0,iv 0,nS] 54 fun b3=>(kst 0 5 #[iv 20,sv noS,iv 0,iv r2.2.2.2,nS] ?_))))))))))
 refine knt (Aez (Agh (K.mv3 (K.mv3 (K.mv3 (Akr (τ:=(List Tree)×Int×Aaa×TyO×Nat) (fun t=>[(0,pt b0),(1,bv a1),(4,pt b1),(5,pt b3)]) (fun t=>bk b3 #[iv 20,sv noS,iv 0,iv r2.2.2.2,.slice t.2.2.2.1 t.1.length t.2.2.2.2] 54 :: bk b0 #[.slice Abe Aac.length Abf,iv t.2.1] 93 :: bk b1 #[iv 0,sv noS,iv 0,iv 0,nS] 54 :: t.2.2.1 :: X) (fun m t=>Agv.l0 m Rc Aac a1 r2 t.1 t.2.1=some r∧Abp (Abx 54) 54 t.2.2.1 (.slice t.2.2.2.1 t.1.length t.2.2.2.2) t.1) k ([],Aam,none_,none,0) ⟨h,(Abp.nil (Abx 54) 54 none_)⟩ sb rfl ?_))))))
 clear h
 rintro m10 ⟨l4,x9,h5,A6,k7⟩ ⟨h,o8⟩
 cases m10 with
 | zero=>simp [Agv.l0] at h
 | succ m10 =>
  simp only [Agv.l0] at h
  refine Aez (ksr (kx 1 (K.mv1 (bnd h fun r11 A5f h=>(kc1 (Ai4.ok (b0:=b0) A5f Abm) rfl ⟨(t3 Abu),trivial⟩ (knp #[iv 0,sv noS,iv 0,iv 0] 96 fun b12=>(kst 0 4 #[iv r11.1,sv r11.2.1,iv r11.2.2.1,iv r11.2.2.2] (knt (Aez (ksr ?_))))))))))
  refine kx 1 (K.mv1 (bnd h fun r13 A5h h=>(kc1 (Afl.ok (b0:=b0) A5h Abm) rfl ⟨(t4 Abu),trivial⟩ (kx 1 (knt ?_)))))
  refine kcn h (fun h=>?_) fun h=>?_
  ·exact Adv (Acx (Acx (Abr (K.mv1 (K.drop (K.mv3 (K.mv3 (K.mv2 (K.mv3 (Aiw m10 (l4,r13.2,h5,A6,k7) (Nat.lt_succ_self _) ⟨h,o8⟩ sb rfl))))))))))
  ·refine ksr (kx 1 (bnd h fun r15 Aw2 h=>(kc1 (Afl.ok (b0:=b0) Aw2 Abm) rfl ⟨(t4 Abu),trivial⟩ (kx 1 (knt ?_)))))
   refine kcn h (fun h=>?_) fun h=>?_
   ·refine ksr (kx 1 (kld 1 3 rfl (K.mv1 (K.drop (kx 1 (knp #[iv 0,sv noS,iv 0,iv 0,nS] 54 fun b17=>(kst 0 5 #[iv 30,sv noS,iv 0,iv r11.2.2.2,nS] (knt ?_))))))))
    obtain ⟨J24,Brn,h⟩:=Agm h
    refine Agn (τ:=(List Tree)×Int×Aaa×TyO×Nat) (fun t=>[(0,pt b0),(4,pt b1),(5,pt b3),(7,pt b17)]) (fun t=>bk b17 #[iv 30,sv noS,iv 0,iv r11.2.2.2,.slice t.2.2.2.1 t.1.length t.2.2.2.2] 54 :: bk b0 #[.slice Abe Aac.length Abf,iv t.2.1] 93 :: bk b3 #[iv 20,sv noS,iv 0,iv r2.2.2.2,.slice A6 l4.length k7] 54 :: bk b1 #[iv 0,sv noS,iv 0,iv 0,nS] 54 :: h5 :: t.2.2.1 :: X) (fun t=>J24 t.1 t.2.1=some r∧Abp (Abx 54) 54 t.2.2.1 (.slice t.2.2.2.1 t.1.length t.2.2.2.2) t.1) ?_ ?_
    ·rintro ⟨l18,x23,h19,A20,k21⟩ ⟨h,o22⟩
     subst Brn
     refine ksr (kx 1 (K.mv1 (bnd h fun r25 Beu h=>(kc1 (Afl.ok (b0:=b0) Beu Abm) rfl ⟨(t5 Abu),trivial⟩ (Aby (kx 1 (kld 2 4 rfl (kla 1 0 5 rfl (K.mv1 (K.drop ?_))))))))))
     refine kns #[iv 30,sv noS,iv 0,iv r11.2.2.2,.slice A20 l18.length k21] 54 1 fun b26=>(K.mv5 (K.mv1 (Ah3 (T:=54) (n:=1) (xs:=[(Tree.mk 30 (⟨#[]⟩:ByteArray) 0 r11.2.2.2 l18)]) (Aec.one (Ait (k:=30) (t:=(⟨#[]⟩:ByteArray)) (n:=0) (a:=r11.2.2.2) 54 o22)) rfl rfl (Nat.le_of_ble_eq_true rfl) fun h27 o28=>(K.mv4 (bnd h fun l29 Cuu h=>(Alq rfl An2 rfl Cuu o8 o28 fun h30 A31 k32 o33=>(kx 1 (K.mv2 (kst 4 1 #[iv 20,sv noS,iv 0,iv r2.2.2.2,.slice A31 l29.length k32] (Aby ?_))))))))))
     refine kla 0 0 5 rfl (K.drop (K.mv2 (kst 0 5 #[iv 20,sv noS,iv 0,iv r2.2.2.2,.slice A31 l29.length k32] (knt (Afj (Ajk (Ajk (Ahj (Ajk ?_)))))))))
     obtain rfl:=Option.some.inj h
     exact kda 0 5 rfl [h30,bk b0 #[.slice Abe Aac.length Abf,iv r25.2] 93] (K.drop (Adj (PR.okI ⟨h30,A31,k32,o33,rfl,rfl⟩)))
    ·skip
     refine bnd h fun q34 Bsa h=>?_
     refine An7 [(0,pt b0),(4,pt b1),(5,pt b3),(7,pt b17),(37,bv q34)] (bk b17 #[iv 30,sv noS,iv 0,iv r11.2.2.2,nS] 54 :: bk b0 #[.slice Abe Aac.length Abf,iv r15.2] 93 :: bk b3 #[iv 20,sv noS,iv 0,iv r2.2.2.2,.slice A6 l4.length k7] 54 :: bk b1 #[iv 0,sv noS,iv 0,iv 0,nS] 54 :: h5 :: X) ?_ ?_
     ·clear Bsa
      refine kcn h (fun h=>?_) fun h=>?_
      ·refine Ach (kx 1 (K.mv1 (kcp h (fun _ Aw3=>(Ah1.ok (b0:=b0) Aw3 Abm)) rfl ⟨(t4 Abu),trivial⟩ (fun _ e=>Ab5 (Adz (Adz (Ab5 (Adz (kpn 4 e rfl)))))) fun r36 h=>?_)))
       rintro _ _ ⟨h37,A38,k39,o40,rfl,rfl⟩
       refine Acg (kx 1 (K.mv2 (kst 4 1 #[iv 30,sv noS,iv 0,iv r11.2.2.2,.slice A38 r36.1.length k39] (knt (K.mv1 (K.mv5 (K.mv5 (K.mv5 (K.mv5 (K.mv5 ?_))))))))))
       exact Adb (r36.1,r36.2,h37,A38,k39) ⟨h,o40⟩ sb rfl
      ·exact Adv (Abr (Agh (K.mv5 (K.mv5 (K.mv5 (K.mv5 (K.mv5 (Adb ([],r15.2,none_,none,0) ⟨h,(Abp.nil (Abx 54) 54 none_)⟩ sb rfl))))))))
     ·have h:=Bsa
      clear Bsa
      refine Ach (kx 1 (K.mv1 (bnd h fun r42 Btd h=>(kc1 (A0j.ok (b0:=b0) Btd Abm) rfl ⟨(t4 Abu),trivial⟩ (kx 2 ?_)))))
      refine kcs 33 h (fun h=>?_) fun h=>?_
      ·exact kx 1 (bnd h fun r44 A5v h=>(kc1 (Ajq.ok (b0:=b0) A5v Abm) rfl ⟨(t4 Abu),trivial⟩ (kx 2 (knt (K.mv4 (K.mv4 (K.mv4 (K.mv3 (K.mv4 (Agb ⟨gr,gr,gr,gr,gb (Option.some.inj h),trivial⟩))))))))))
      ·exact kx 4 (knt (K.mv4 (K.mv4 (K.mv4 (K.mv3 (K.mv4 (Agb ⟨gr,gr,gr,gr,gb (Option.some.inj h),trivial⟩)))))))
   ·refine bnd h fun q45 Bsc h=>?_
    refine An7 [(0,pt b0),(1,bv a1),(4,pt b1),(5,pt b3),(50,bv q45)] (bk b0 #[.slice Abe Aac.length Abf,iv r15.2] 93 :: bk b3 #[iv 20,sv noS,iv 0,iv r2.2.2.2,.slice A6 l4.length k7] 54 :: bk b1 #[iv 0,sv noS,iv 0,iv 0,nS] 54 :: h5 :: X) ?_ ?_
    ·clear Bsc
     refine kcn h (fun h=>?_) fun h=>?_
     ·refine kpr [(0,0),(1,3),(2,0),(3,1),(4,1)] [1] (kpx 1 (kpd 0 4 rfl (kpx 1 (kpt (ocp h (fun _ hr47=>(hR.Arj (b0:=b0) hr47 Abm)) rfl ⟨(t3 Abu),trivial⟩ (fun _ e=>Adz (Adz (Ab5 (Adz (kpn 3 e rfl))))) fun r47 h=>?_)))))
      rintro _ _ ⟨h48,A49,k50,o51,rfl,rfl⟩
      refine Acg (kan [2] rfl (kpt (ons #[iv r47.1,sv r47.2.1,iv r47.2.2.1,iv r47.2.2.2.1,.slice A49 r47.2.2.2.2.1.length k50] 54 1 fun b53=>(kan [3] rfl (kpz (K.mv1 (K.mv1 (Ah3 (T:=54) (n:=1) (xs:=[(Tree.mk r47.1 r47.2.1 r47.2.2.1 r47.2.2.2.1 r47.2.2.2.2.1)]) (Aec.one (Ait (k:=r47.1) (t:=r47.2.1) (n:=r47.2.2.1) (a:=r47.2.2.2.1) 54 o51)) rfl rfl (Nat.le_of_ble_eq_true rfl) fun h54 o55=>(K.mv4 (bnd h fun l56 Cu6 h=>?_))))))))))
      refine Alq rfl An2 rfl Cu6 o8 o55 fun h57 A58 k59 o60=>(kx 1 (K.mv2 (kst 4 1 #[iv 20,sv noS,iv 0,iv r2.2.2.2,.slice A58 l56.length k59] (knl (Acx (Acx (Abr (K.mv1 (K.mv3 (K.mv3 ?_))))))))))
      exact K.mv3 (Aiw m10 (l56,r47.2.2.2.2.2,h57,A58,k59) (Nat.lt_succ_self _) ⟨h,o60⟩ sb rfl)
     ·refine ksr (kx 1 (bnd h fun r61 Cx3 h=>(kc1 (A0j.ok (b0:=b0) Cx3 Abm) rfl ⟨(t3 Abu),trivial⟩ (kx 1 (knt ?_)))))
      refine kcn h (fun h=>?_) fun h=>?_
      ·refine ksr (kla 1 0 5 rfl (K.mv1 (K.drop (K.mv1 (kst 0 5 #[iv 20,sv noS,iv 0,iv r2.2.2.2,.slice A6 l4.length k7] (knt (Afj (Ajk (Ajk (Ahj ?_))))))))))
       refine Ajk ?_
       obtain rfl:=Option.some.inj h
       exact kda 0 5 rfl [h5,bk b0 #[.slice Abe Aac.length Abf,iv r15.2] 93] (K.drop (K.mv1 (Adj (PR.okI ⟨h5,A6,k7,o8,rfl,rfl⟩))))
      ·refine kpr [(0,0),(1,3),(2,0),(3,1),(4,1)] [1] (kpx 1 (kpd 0 4 rfl (kpx 1 (kpt (ocp h (fun _ Btp=>(hR.Arq (b0:=b0) Btp Abm)) rfl ⟨(t3 Abu),trivial⟩ (fun _ e=>Adz (Adz (Ab5 (Adz (kpn 3 e rfl))))) fun r63 h=>?_)))))
       rintro _ _ ⟨h64,A65,k66,o67,rfl,rfl⟩
       refine Acg (kan [2] rfl (kpt (ons #[iv r63.1,sv r63.2.1,iv r63.2.2.1,iv r63.2.2.2.1,.slice A65 r63.2.2.2.2.1.length k66] 54 1 fun b69=>(kan [3] rfl (kpz (K.mv1 (K.mv1 (Ah3 (T:=54) (n:=1) (xs:=[(Tree.mk r63.1 r63.2.1 r63.2.2.1 r63.2.2.2.1 r63.2.2.2.2.1)]) (Aec.one (Ait (k:=r63.1) (t:=r63.2.1) (n:=r63.2.2.1) (a:=r63.2.2.2.1) 54 o67)) rfl rfl (Nat.le_of_ble_eq_true rfl) fun h70 o71=>(K.mv4 (bnd h fun l72 Bj9 h=>?_))))))))))
       refine Alq rfl An2 rfl Bj9 o8 o71 fun h73 A74 k75 o76=>(kx 1 (K.mv2 (kst 4 1 #[iv 20,sv noS,iv 0,iv r2.2.2.2,.slice A74 l72.length k75] (knl (Acx (Acx (Abr (K.mv1 (K.mv3 (K.mv3 ?_))))))))))
       exact K.mv3 (Aiw m10 (l72,r63.2.2.2.2.2,h73,A74,k75) (Nat.lt_succ_self _) ⟨h,o76⟩ sb rfl)
    ·have h:=Bsc
     clear Bsc
     refine Ach (kx 2 ?_)
     refine kcs 52 h (fun h=>?_) fun h=>?_
     ·exact kx 1 (bnd h fun r78 Bty h=>(kc1 (Ajq.ok (b0:=b0) Bty Abm) rfl ⟨(t4 Abu),trivial⟩ (K.mv1 (K.drop (kx 2 (knt (Agb ⟨gr,gr,gr,gr,gb (Option.some.inj h),trivial⟩)))))))
     ·exact kx 4 (knt (K.mv1 (K.drop (Agb ⟨gr,gr,gr,gr,gb (Option.some.inj h),trivial⟩))))
def Arj.g (Rc:PS) (k:Nat) (Aac:List (Int×ByteArray×Int×Int)) (Aam:Int):Option (PR (Int×ByteArray×Int×Int×List Tree×Int)):=(Ai4.f k Aac Aam).bind fun r2=>PR.bind (Agc.f k Aac Aam (⟨#[102,117,110,99,116,105,111,110]⟩:ByteArray)) fun r4=>PR.bind (Aox.f k Aac r4) fun r6=>PR.bind (Agc.f k Aac r6.2.2.2.2.2 (⟨#[40]⟩:ByteArray)) fun r12=>Adg (fun (x14:Int) (l15:List Tree)=>PR.bind (Agc.f k Aac x14 (⟨#[41]⟩:ByteArray)) fun r21=>PR.bind (Rc.Agv Aac r21 false) fun r23=>(apd 64 l15 [(Tree.mk r23.1 r23.2.1 r23.2.2.1 r23.2.2.2.1 r23.2.2.2.2.1)]).bind fun l32=>PR.bind (Agc.f k Aac r23.2.2.2.2.2 (⟨#[101,110,100]⟩:ByteArray)) fun r37=>some (PR.ok (31,r6.2.1,((l15.length:Nat):Int),r2.2.2.2,l32,r37))) (fun J20=>(Ajq.f k Aac r12 (⟨#[41]⟩:ByteArray)).bind fun r39=>cond (!r39) (PR.bind (Aps.f k Aac r12) fun r41=>J20 r41.2 r41.1) (J20 r12 ([])))
theorem Arj.okg {Rc:PS} (hR:Rc.Good) {k:Nat}:Arj.C (Arj.g Rc k):=by
 intro Aac Aam b0 Abf Ac0 Abe r h Abm
 refine Afb (args:=[pt b0]) Tryz.func44 rfl (Nat.le_of_ble_eq_true rfl) ?_
 intro A X hh_
 obtain ⟨Abu,_⟩:=hh_
 unfold Arj.g at h
 refine K.eq (env':=[(0,pt b0)]) (l':=bk b0 #[.slice Abe Aac.length Abf,iv Aam] 93 :: X) rfl rfl (ksr (knp #[iv 0,sv noS,iv 0,iv 0,nS] 54 fun b1=>(Aby (kx 1 (K.mv1 (bnd h fun r2 hr2 h=>(kc1 (Ai4.ok (b0:=b0) hr2 Abm) rfl ⟨(.tail _ Abu),trivial⟩ (kx 2 (knp #[iv 0,sv noS,iv 0,iv 0,nS] 54 fun b3=>(kst 0 5 #[iv 31,sv noS,iv 0,iv r2.2.2.2,nS] ?_))))))))))
 refine Aby (kx 1 (K.mv1 (kcp h (fun _ hr4=>(Agc.ok (b0:=b0) hr4 Abm)) rfl ⟨(t2 Abu),trivial⟩ (fun _ e=>Ab5 (kpn 2 e rfl)) fun r4 h=>?_)))
 rintro _ _ ⟨rfl,rfl⟩
 refine Ak8 (Aby (kx 1 (kcp h (fun _ hr6=>(Aox.ok (b0:=b0) hr6 Abm)) rfl ⟨(t2 Abu),trivial⟩ (fun _ e=>Ab5 (kpn 2 e rfl)) fun r6 h=>?_)))
 rintro _ _ ⟨h7,A8,k9,o10,rfl,rfl⟩
 refine Acg (kx 2 (K.mv2 (kst 1 1 #[iv 31,sv r6.2.1,iv 0,iv r2.2.2.2,nS] (K.mv1 (K.drop (Aby (kx 1 (K.mv1 (kcp h (fun _ Bsw=>(Agc.ok (b0:=b0) Bsw Abm)) rfl ⟨(t2 Abu),trivial⟩ (fun _ e=>Ab5 (kpn 2 e rfl)) fun r12 h=>?_)))))))))
 rintro _ _ ⟨rfl,rfl⟩
 refine Ak8 (knt ?_)
 obtain ⟨J20,Csy,h⟩:=Agm h
 refine Agn (τ:=Int×(List Tree)×Aaa×TyO×Nat) (fun t=>[(0,pt b0),(2,pt b1),(3,pt b3)]) (fun t=>bk b0 #[.slice Abe Aac.length Abf,iv t.1] 93 :: bk b3 #[iv 31,sv r6.2.1,iv 0,iv r2.2.2.2,.slice t.2.2.2.1 t.2.1.length t.2.2.2.2] 54 :: bk b1 #[iv 0,sv noS,iv 0,iv 0,nS] 54 :: t.2.2.1 :: X) (fun t=>J20 t.1 t.2.1=some r∧Abp (Abx 54) 54 t.2.2.1 (.slice t.2.2.2.1 t.2.1.length t.2.2.2.2) t.2.1) ?_ ?_
 ·rintro ⟨x14,l15,h16,A17,k18⟩ ⟨h,o19⟩
  subst Csy
  refine ksr (kx 1 (kld 1 4 rfl (kx 2 (K.mv1 (kst 2 1 #[iv 31,sv r6.2.1,iv ((l15.length:Nat):Int),iv r2.2.2.2,.slice A17 l15.length k18] (Aby (kx 1 (K.mv1 (kcp h (fun _ Aun=>(Agc.ok (b0:=b0) Aun Abm)) rfl ⟨(t3 Abu),trivial⟩ (fun _ e=>Ab5 (kpn 3 e rfl)) fun r21 h=>?_)))))))))
  rintro _ _ ⟨rfl,rfl⟩
  refine Ak8 (knt (Ac1 (kpr [(0,0),(1,3),(2,0),(3,1),(4,1)] [1] (kpx 1 (kpd 0 4 rfl (kpx 1 (kpt (ocp h (fun _ Bs9=>(hR.Agv (b0:=b0) Bs9 Abm)) rfl ⟨(t3 Abu),trivial⟩ (fun _ e=>Ab5 (kpn 3 e rfl)) fun r23 h=>?_))))))))
  rintro _ _ ⟨h24,A25,k26,o27,rfl,rfl⟩
  refine Acg (kan [2] rfl (kpt (ons #[iv r23.1,sv r23.2.1,iv r23.2.2.1,iv r23.2.2.2.1,.slice A25 r23.2.2.2.2.1.length k26] 54 1 fun b29=>(kan [3] rfl (kpz (K.mv1 (K.mv1 (Ah3 (T:=54) (n:=1) (xs:=[(Tree.mk r23.1 r23.2.1 r23.2.2.1 r23.2.2.2.1 r23.2.2.2.2.1)]) (Aec.one (Ait (k:=r23.1) (t:=r23.2.1) (n:=r23.2.2.1) (a:=r23.2.2.2.1) 54 o27)) rfl rfl (Nat.le_of_ble_eq_true rfl) fun h30 o31=>(K.mv4 (bnd h fun l32 Bj5 h=>?_))))))))))
  refine Alq rfl An2 rfl Bj5 o19 o31 fun h33 A34 k35 o36=>(kx 1 (K.mv2 (kst 4 1 #[iv 31,sv r6.2.1,iv ((l15.length:Nat):Int),iv r2.2.2.2,.slice A34 l32.length k35] (Aby (kx 1 (K.mv2 (kcp h (fun _ A5o=>(Agc.ok (b0:=b0) A5o Abm)) rfl ⟨(t3 Abu),trivial⟩ (fun _ e=>Ab5 (kpn 3 e rfl)) fun r37 h=>?_)))))))
  rintro _ _ ⟨rfl,rfl⟩
  refine Ak8 (Aby (kla 1 0 5 rfl (K.mv1 (K.drop (K.mv2 (kst 0 5 #[iv 31,sv r6.2.1,iv ((l15.length:Nat):Int),iv r2.2.2.2,.slice A34 l32.length k35] (knt (Afj ?_))))))))
  obtain rfl:=Option.some.inj h
  exact kda 0 5 rfl [h33,bk b0 #[.slice Abe Aac.length Abf,iv r37] 93] (K.drop (K.mv1 (Adj (PR.okI ⟨h33,A34,k35,o36,rfl,rfl⟩))))
 ·skip
  refine ksr (kx 1 (bnd h fun r39 hr39 h=>(kc1 (Ajq.ok (b0:=b0) hr39 Abm) rfl ⟨(t2 Abu),trivial⟩ (kx 1 (knt ?_)))))
  refine kcn h (fun h=>?_) fun h=>?_
  ·refine Ach (kx 1 (kcp h (fun _ A5r=>(Aps.ok (b0:=b0) A5r Abm)) rfl ⟨(t2 Abu),trivial⟩ (fun _ e=>Ab5 (kpn 2 e rfl)) fun r41 h=>?_))
   rintro _ _ ⟨h42,A43,k44,o45,rfl,rfl⟩
   exact Acg (kx 1 (K.mv2 (kst 4 1 #[iv 31,sv r6.2.1,iv 0,iv r2.2.2.2,.slice A43 r41.1.length k44] (knt (K.mv1 (K.mv3 (K.mv2 (K.mv3 (Adb (r41.2,r41.1,h42,A43,k44) ⟨h,o45⟩ sb rfl)))))))))
  ·exact Adv (Abr (Agh (K.mv3 (K.mv3 (K.mv3 (Adb (r12,[],none_,none,0) ⟨h,(Abp.nil (Abx 54) 54 none_)⟩ sb rfl))))))
def Arq.g (Rc:PS) (k:Nat) (Aac:List (Int×ByteArray×Int×Int)) (Aam:Int):Option (PR (Int×ByteArray×Int×Int×List Tree×Int)):=(Ai4.f k Aac Aam).bind fun r2=>Adg (fun (x5:Int) (x6:Int) (l7:List Tree) (x12:Int)=>some (PR.ok (x5,(⟨#[]⟩:ByteArray),x6,r2.2.2.2,l7,x12))) (fun J13=>(Afl.f k Aac Aam (⟨#[100,111]⟩:ByteArray)).bind fun r14=>cond r14.1 (PR.bind (Rc.Agv Aac r14.2 false) fun r16=>PR.bind (Agc.f k Aac r16.2.2.2.2.2 (⟨#[101,110,100]⟩:ByteArray)) fun r23=>J13 28 0 ([(Tree.mk r16.1 r16.2.1 r16.2.2.1 r16.2.2.2.1 r16.2.2.2.2.1)]) r23) ((Afl.f k Aac r14.2 (⟨#[119,104,105,108,101]⟩:ByteArray)).bind fun r27=>cond r27.1 (PR.bind (Af6.f k Aac r27.2 0) fun r29=>PR.bind (Agc.f k Aac r29.2.2.2.2.2 (⟨#[100,111]⟩:ByteArray)) fun r36=>PR.bind (Rc.Agv Aac r36 false) fun r38=>(apd 64 [(Tree.mk r29.1 r29.2.1 r29.2.2.1 r29.2.2.2.1 r29.2.2.2.2.1)] [(Tree.mk r38.1 r38.2.1 r38.2.2.1 r38.2.2.2.1 r38.2.2.2.2.1)]).bind fun l49=>PR.bind (Agc.f k Aac r38.2.2.2.2.2 (⟨#[101,110,100]⟩:ByteArray)) fun r54=>J13 25 0 l49 r54) ((Afl.f k Aac r27.2 (⟨#[105,102]⟩:ByteArray)).bind fun r56=>cond r56.1 (PR.bind (Rc.Amy Aac r56.2) fun r58=>J13 24 0 r58.1 r58.2) ((Afl.f k Aac r56.2 (⟨#[102,111,114]⟩:ByteArray)).bind fun r64=>cond r64.1 (PR.bind (Rc.Arl Aac r64.2 r2.2.2.2) fun r66=>some (PR.ok (r66.1,r66.2.1,r66.2.2.1,r66.2.2.2.1,r66.2.2.2.2.1,r66.2.2.2.2.2))) ((Afl.f k Aac r64.2 (⟨#[108,111,99,97,108]⟩:ByteArray)).bind fun r72=>cond r72.1 (PR.bind (Aps.f k Aac r72.2) fun r74=>(Afl.f k Aac r74.2 (⟨#[61]⟩:ByteArray)).bind fun r80=>cond r80.1 (PR.bind (Ah1.f k Aac r80.2) fun r82=>(apd 64 r74.1 r82.1).bind fun l88=>J13 21 ((r74.1.length:Nat):Int) l88 r82.2) (J13 21 ((r74.1.length:Nat):Int) r74.1 r80.2)) ((Afl.f k Aac r72.2 (⟨#[98,114,101,97,107]⟩:ByteArray)).bind fun r93=>cond r93.1 (J13 29 0 ([]) r93.2) (PR.bind (Rc.Am0 Aac r93.2) fun r95=>some (PR.ok (r95.1,r95.2.1,r95.2.2.1,r95.2.2.2.1,r95.2.2.2.2.1,r95.2.2.2.2.2)))))))))
theorem Arq.okg {Rc:PS} (hR:Rc.Good) {k:Nat}:Arq.C (Arq.g Rc k):=by
 intro Aac Aam b0 Abf Ac0 Abe r h Abm
 refine Afb (args:=[pt b0]) Tryz.func45 rfl (Nat.le_of_ble_eq_true rfl) ?_
 intro A X hh_
 obtain ⟨Abu,_⟩:=hh_
 unfold Arq.g at h
 refine K.eq (env':=[(0,pt b0)]) (l':=bk b0 #[.slice Abe Aac.length Abf,iv Aam] 93 :: X) rfl rfl (ksr (knp #[iv 0,sv noS,iv 0,iv 0,nS] 54 fun b1=>(Aby (kx 1 (K.mv1 (bnd h fun r2 hr2 h=>(kc1 (Ai4.ok (b0:=b0) hr2 Abm) rfl ⟨(.tail _ Abu),trivial⟩ (knp #[iv 0,sv noS,iv 0,iv 0] 96 fun b3=>(kst 0 4 #[iv r2.1,sv r2.2.1,iv r2.2.2.1,iv r2.2.2.2] (Aby ?_))))))))))
 refine kx 1 (kld 0 3 rfl (kx 1 (knp #[iv 0,sv noS,iv 0,iv 0,nS] 54 fun b4=>(kst 0 5 #[iv 0,sv noS,iv 0,iv r2.2.2.2,nS] (knt ?_)))))
 obtain ⟨J13,Csq,h⟩:=Agm h
 refine Agn (τ:=Int×Int×(List Tree)×Int×Aaa×TyO×Nat) (fun t=>[(2,pt b1),(4,pt b4)]) (fun t=>bk b4 #[iv t.1,sv noS,iv t.2.1,iv r2.2.2.2,.slice t.2.2.2.2.2.1 t.2.2.1.length t.2.2.2.2.2.2] 54 :: bk b0 #[.slice Abe Aac.length Abf,iv t.2.2.2.1] 93 :: bk b1 #[iv 0,sv noS,iv 0,iv 0,nS] 54 :: t.2.2.2.2.1 :: X) (fun t=>J13 t.1 t.2.1 t.2.2.1 t.2.2.2.1=some r∧Abp (Abx 54) 54 t.2.2.2.2.1 (.slice t.2.2.2.2.2.1 t.2.2.1.length t.2.2.2.2.2.2) t.2.2.1) ?_ ?_
 ·rintro ⟨x5,x6,l7,x12,h8,A9,k10⟩ ⟨h,o11⟩
  subst Csq
  refine ksr (kla 0 0 5 rfl (K.drop (K.mv1 (kst 0 5 #[iv x5,sv noS,iv x6,iv r2.2.2.2,.slice A9 l7.length k10] (knt (Afj ?_))))))
  obtain rfl:=Option.some.inj h
  exact kda 0 5 rfl [h8,bk b0 #[.slice Abe Aac.length Abf,iv x12] 93] (K.drop (K.mv1 (Adj (PR.okI ⟨h8,A9,k10,o11,rfl,rfl⟩))))
 ·skip
  refine Aez (ksr (kx 1 (K.mv2 (bnd h fun r14 Cwj h=>(kc1 (Afl.ok (b0:=b0) Cwj Abm) rfl ⟨(t3 Abu),trivial⟩ (kx 1 (knt ?_)))))))
  refine kcn h (fun h=>?_) fun h=>?_
  ·refine ksr (kx 1 (kcp h (fun _ Auk=>(hR.Agv (b0:=b0) Auk Abm)) rfl ⟨(t3 Abu),trivial⟩ (fun _ e=>Ab5 (Adz (Ab5 (kpn 3 e rfl)))) fun r16 h=>?_))
   rintro _ _ ⟨h17,A18,k19,o20,rfl,rfl⟩
   refine Acg (K.mv3 (K.drop (kns #[iv r16.1,sv r16.2.1,iv r16.2.2.1,iv r16.2.2.2.1,.slice A18 r16.2.2.2.2.1.length k19] 54 1 fun b22=>(kx 1 (K.mv3 (kst 0 1 #[iv 28,sv noS,iv 0,iv r2.2.2.2,nS] (kx 1 (kst 4 1 #[iv 28,sv noS,iv 0,iv r2.2.2.2,.slice (some ⟨b22,0,none⟩) 1 1] (knr (kx 1 ?_))))))))))
   refine K.mv3 (kcp h (fun _ Bs9=>(Agc.ok (b0:=b0) Bs9 Abm)) rfl ⟨(t4 Abu),trivial⟩ (fun _ e=>Adz (Ab5 (kpn 4 e rfl))) fun r23 h=>?_)
   rintro _ _ ⟨rfl,rfl⟩
   exact Ak8 (knl (Acx (Abr (K.mv3 (K.mv3 (Ah3 (T:=54) (n:=1) (xs:=[(Tree.mk r16.1 r16.2.1 r16.2.2.1 r16.2.2.2.1 r16.2.2.2.2.1)]) (Aec.one (Ait (k:=r16.1) (t:=r16.2.1) (n:=r16.2.2.1) (a:=r16.2.2.2.1) 54 o20)) rfl rfl (Nat.le_of_ble_eq_true rfl) fun h25 o26=>(K.mv3 (K.mv2 (K.mv3 (Adb (28,0,[(Tree.mk r16.1 r16.2.1 r16.2.2.1 r16.2.2.2.1 r16.2.2.2.2.1)],r23,h25,(some ⟨b22,0,none⟩),1) ⟨h,o26⟩ sb rfl))))))))))
  ·refine ksr (kx 1 (bnd h fun r27 Auo h=>(kc1 (Afl.ok (b0:=b0) Auo Abm) rfl ⟨(t3 Abu),trivial⟩ (kx 1 (knt ?_)))))
   refine kcn h (fun h=>?_) fun h=>?_
   ·refine ksr (kx 1 (kcp h (fun _ Bey=>(Af6.ok (b0:=b0) Bey Abm)) rfl ⟨(t3 Abu),trivial⟩ (fun _ e=>Ab5 (Adz (Ab5 (kpn 3 e rfl)))) fun r29 h=>?_))
    rintro _ _ ⟨h30,A31,k32,o33,rfl,rfl⟩
    refine Acg (K.mv3 (K.drop (kns #[iv r29.1,sv r29.2.1,iv r29.2.2.1,iv r29.2.2.2.1,.slice A31 r29.2.2.2.2.1.length k32] 54 1 fun b35=>(kx 1 (K.mv3 (kst 0 1 #[iv 25,sv noS,iv 0,iv r2.2.2.2,nS] (kx 1 (kst 4 1 #[iv 25,sv noS,iv 0,iv r2.2.2.2,.slice (some ⟨b35,0,none⟩) 1 1] (Aby (kx 1 ?_))))))))))
    refine K.mv3 (kcp h (fun _ Aw3=>(Agc.ok (b0:=b0) Aw3 Abm)) rfl ⟨(t4 Abu),trivial⟩ (fun _ e=>Ab5 (Adz (Ab5 (kpn 4 e rfl)))) fun r36 h=>?_)
    rintro _ _ ⟨rfl,rfl⟩
    refine Ak8 (knt (Ac1 (kpr [(0,0),(1,3),(2,0),(3,1),(4,1)] [1] (kpx 1 (kpd 0 4 rfl (kpx 1 (kpt (ocp h (fun _ A5p=>(hR.Agv (b0:=b0) A5p Abm)) rfl ⟨(t4 Abu),trivial⟩ (fun _ e=>Ab5 (Adz (Ab5 (kpn 4 e rfl)))) fun r38 h=>?_))))))))
    rintro _ _ ⟨h39,A40,k41,o42,rfl,rfl⟩
    refine Acg (kan [2] rfl (kpt (ons #[iv r38.1,sv r38.2.1,iv r38.2.2.1,iv r38.2.2.2.1,.slice A40 r38.2.2.2.2.1.length k41] 54 1 fun b44=>(kan [3] rfl (kpz (K.mv1 (K.mv1 (Ah3 (T:=54) (n:=1) (xs:=[(Tree.mk r38.1 r38.2.1 r38.2.2.1 r38.2.2.2.1 r38.2.2.2.2.1)]) (Aec.one (Ait (k:=r38.1) (t:=r38.2.1) (n:=r38.2.2.1) (a:=r38.2.2.2.1) 54 o42)) rfl rfl (Nat.le_of_ble_eq_true rfl) fun h45 o46=>(K.mv4 (K.mv4 ?_))))))))))
    refine Ah3 (T:=54) (n:=1) (xs:=[(Tree.mk r29.1 r29.2.1 r29.2.2.1 r29.2.2.2.1 r29.2.2.2.2.1)]) (Aec.one (Ait (k:=r29.1) (t:=r29.2.1) (n:=r29.2.2.1) (a:=r29.2.2.2.1) 54 o33)) rfl rfl (Nat.le_of_ble_eq_true rfl) fun h47 o48=>(K.mv1 (K.mv1 (bnd h fun l49 hl49 h=>(Alq rfl An2 rfl hl49 o48 o46 fun h50 A51 k52 o53=>(kx 1 (K.mv2 (kst 4 1 #[iv 25,sv noS,iv 0,iv r2.2.2.2,.slice A51 l49.length k52] (knr (kx 1 (K.mv2 ?_))))))))))
    refine kcp h (fun _ Be0=>(Agc.ok (b0:=b0) Be0 Abm)) rfl ⟨(t3 Abu),trivial⟩ (fun _ e=>Adz (Ab5 (kpn 3 e rfl))) fun r54 h=>?_
    rintro _ _ ⟨rfl,rfl⟩
    exact Ak8 (knl (Acx (Abr (K.mv2 (K.mv3 (K.mv2 (K.mv3 (Adb (25,0,l49,r54,h50,A51,k52) ⟨h,o53⟩ sb rfl))))))))
   ·refine ksr (kx 1 (bnd h fun r56 Bto h=>(kc1 (Afl.ok (b0:=b0) Bto Abm) rfl ⟨(t3 Abu),trivial⟩ (kx 1 (knt ?_)))))
    refine kcn h (fun h=>?_) fun h=>?_
    ·refine Ach (kx 1 (kcp h (fun _ Be4=>(hR.Amy (b0:=b0) Be4 Abm)) rfl ⟨(t3 Abu),trivial⟩ (fun _ e=>Adz (Ab5 (kpn 3 e rfl))) fun r58 h=>?_))
     rintro _ _ ⟨h59,A60,k61,o62,rfl,rfl⟩
     refine Acg (K.mv3 (K.drop (kx 1 (K.mv2 (kst 0 1 #[iv 24,sv noS,iv 0,iv r2.2.2.2,nS] (kx 1 (kst 4 1 #[iv 24,sv noS,iv 0,iv r2.2.2.2,.slice A60 r58.1.length k61] (knl (Acx (Abr ?_))))))))))
     exact K.mv1 (K.mv3 (K.mv3 (K.mv3 (Adb (24,0,r58.1,r58.2,h59,A60,k61) ⟨h,o62⟩ sb rfl))))
    ·refine ksr (kx 1 (bnd h fun r64 Btq h=>(kc1 (Afl.ok (b0:=b0) Btq Abm) rfl ⟨(t3 Abu),trivial⟩ (kx 1 (knt ?_)))))
     refine kcn h (fun h=>?_) fun h=>?_
     ·refine ksr (kx 2 (kld 2 3 rfl (K.mv1 (K.drop (K.mv1 (K.drop (kcp h (fun _ Btr=>(hR.Arl (b0:=b0) Btr Abm)) rfl ⟨(.tail _ Abu),trivial⟩ (fun _ e=>Ab5 (Adz (Ab5 (kpn 1 e rfl)))) fun r66 h=>?_)))))))
      rintro _ _ ⟨h67,A68,k69,o70,rfl,rfl⟩
      refine Acg (K.mv2 (kst 0 5 #[iv r66.1,sv r66.2.1,iv r66.2.2.1,iv r66.2.2.2.1,.slice A68 r66.2.2.2.2.1.length k69] (knt (Afj (Ajk (Ahj ?_))))))
      obtain rfl:=Option.some.inj h
      exact kda 0 5 rfl [h67,bk b0 #[.slice Abe Aac.length Abf,iv r66.2.2.2.2.2] 93] (K.drop (Adj (PR.okI ⟨h67,A68,k69,o70,rfl,rfl⟩)))
     ·refine ksr (kx 1 (bnd h fun r72 Be6 h=>(kc1 (Afl.ok (b0:=b0) Be6 Abm) rfl ⟨(t3 Abu),trivial⟩ (K.mv2 (K.drop (kx 1 (knt ?_)))))))
      refine kcn h (fun h=>?_) fun h=>?_
      ·refine ksr (kx 1 (kcp h (fun _ Btv=>(Aps.ok (b0:=b0) Btv Abm)) rfl ⟨(t2 Abu),trivial⟩ (fun _ e=>Ab5 (Adz (Ab5 (kpn 2 e rfl)))) fun r74 h=>?_))
       rintro _ _ ⟨h75,A76,k77,o78,rfl,rfl⟩
       refine Acg (kx 1 (K.mv2 (kst 0 1 #[iv 21,sv noS,iv 0,iv r2.2.2.2,nS] (kx 1 (kst 4 1 #[iv 21,sv noS,iv 0,iv r2.2.2.2,.slice A76 r74.1.length k77] (Aby (kx 1 (kld 0 4 rfl (kx 2 (kst 2 1 #[iv 21,sv noS,iv ((r74.1.length:Nat):Int),iv r2.2.2.2,.slice A76 r74.1.length k77] ?_))))))))))
       refine Aby (kx 1 (K.mv2 (bnd h fun r80 A5z h=>(kc1 (Afl.ok (b0:=b0) A5z Abm) rfl ⟨(t3 Abu),trivial⟩ (knt ?_)))))
       refine kcn h (fun h=>?_) fun h=>?_
       ·refine kpr [(0,0),(1,3),(2,0),(3,1)] [1] (kpx 1 (kpd 0 4 rfl (kpx 1 (kpt (ocp h (fun _ Az0=>(Ah1.ok (b0:=b0) Az0 Abm)) rfl ⟨(t3 Abu),trivial⟩ (fun _ e=>Adz (Ab5 (kpn 3 e rfl))) fun r82 h=>?_)))))
        rintro _ _ ⟨h83,A84,k85,o86,rfl,rfl⟩
        refine Acg (kan [2] rfl (kpz (K.mv3 (bnd h fun l88 Cvl h=>(Alq rfl An2 rfl Cvl o78 o86 fun h89 A90 k91 o92=>(kx 1 (K.mv2 (kst 4 1 #[iv 21,sv noS,iv ((r74.1.length:Nat):Int),iv r2.2.2.2,.slice A90 l88.length k91] (knl (Acx ?_))))))))))
        exact Abr (K.mv1 (K.mv3 (K.mv3 (K.mv3 (Adb (21,((r74.1.length:Nat):Int),l88,r82.2,h89,A90,k91) ⟨h,o92⟩ sb rfl)))))
       ·exact Adv (Acx (Abr (K.mv2 (K.mv3 (K.mv2 (K.mv3 (Adb (21,((r74.1.length:Nat):Int),r74.1,r80.2,h75,A76,k77) ⟨h,o78⟩ sb rfl)))))))
      ·refine ksr (kx 1 (bnd h fun r93 Be7 h=>(kc1 (Afl.ok (b0:=b0) Be7 Abm) rfl ⟨(t2 Abu),trivial⟩ (kx 1 (knt ?_)))))
       refine kcn h (fun h=>?_) fun h=>?_
       ·refine Ach (kx 1 (K.mv1 (kst 0 1 #[iv 29,sv noS,iv 0,iv r2.2.2.2,nS] (knl (Acx (Abr (Agh (K.mv3 (K.mv3 (K.mv3 ?_))))))))))
        exact Adb (29,0,[],r93.2,none_,none,0) ⟨h,(Abp.nil (Abx 54) 54 none_)⟩ sb rfl
       ·refine ksr (kx 1 (kcp h (fun _ Az1=>(hR.Am0 (b0:=b0) Az1 Abm)) rfl ⟨(t2 Abu),trivial⟩ (fun _ e=>Ab5 (Adz (Ab5 (kpn 2 e rfl)))) fun r95 h=>?_))
        rintro _ _ ⟨h96,A97,k98,o99,rfl,rfl⟩
        refine Acg (K.mv2 (K.drop (K.mv2 (kst 0 5 #[iv r95.1,sv r95.2.1,iv r95.2.2.1,iv r95.2.2.2.1,.slice A97 r95.2.2.2.2.1.length k98] (knt (Afj (Ajk (Ahj ?_))))))))
        obtain rfl:=Option.some.inj h
        exact kda 0 5 rfl [h96,bk b0 #[.slice Abe Aac.length Abf,iv r95.2.2.2.2.2] 93] (K.drop (Adj (PR.okI ⟨h96,A97,k98,o99,rfl,rfl⟩)))
def Amy.l0:Nat→(Rc:PS)→(Aac:List (Int×ByteArray×Int×Int))→(J7:(List Tree)→Int→Option (PR (List Tree×Int)))→(l33:List Tree)→(x38:Int)→Option (PR (List Tree×Int))
 | 0,_,_,_,_,_=>none
 | m39+1,Rc,Aac,J7,l33,x38=>PR.bind (Af6.f m39 Aac x38 0) fun r40=>(apd 64 l33 [(Tree.mk r40.1 r40.2.1 r40.2.2.1 r40.2.2.2.1 r40.2.2.2.2.1)]).bind fun l49=>PR.bind (Agc.f m39 Aac r40.2.2.2.2.2 (⟨#[116,104,101,110]⟩:ByteArray)) fun r54=>PR.bind (Rc.Agv Aac r54 false) fun r56=>(apd 64 l49 [(Tree.mk r56.1 r56.2.1 r56.2.2.1 r56.2.2.2.1 r56.2.2.2.2.1)]).bind fun l65=>(Afl.f m39 Aac r56.2.2.2.2.2 (⟨#[101,108,115,101,105,102]⟩:ByteArray)).bind fun r70=>cond (!r70.1) (J7 l65 r70.2) (Amy.l0 m39 Rc Aac J7 l65 r70.2)
def Amy.g (Rc:PS) (k:Nat) (Aac:List (Int×ByteArray×Int×Int)) (Aam:Int):Option (PR (List Tree×Int)):=Adg (fun (l1:List Tree) (x6:Int)=>Adg (fun (l8:List Tree) (x13:Int)=>PR.bind (Agc.f k Aac x13 (⟨#[101,110,100]⟩:ByteArray)) fun r15=>some (PR.ok (l8,r15))) (fun J14=>(Afl.f k Aac x6 (⟨#[101,108,115,101]⟩:ByteArray)).bind fun r17=>cond r17.1 (PR.bind (Rc.Agv Aac r17.2 false) fun r19=>(apd 64 l1 [(Tree.mk r19.1 r19.2.1 r19.2.2.1 r19.2.2.2.1 r19.2.2.2.2.1)]).bind fun l28=>J14 l28 r19.2.2.2.2.2) (J14 l1 r17.2))) (fun J7=>Amy.l0 k Rc Aac J7 ([]) Aam)
theorem Amy.okg {Rc:PS} (hR:Rc.Good) {k:Nat}:Amy.C (Amy.g Rc k):=by
 intro Aac Aam b0 Abf Ac0 Abe r h Abm
 refine Afb (args:=[pt b0]) Tryz.func68 rfl (Nat.le_of_ble_eq_true rfl) ?_
 intro A X hh_
 obtain ⟨Abu,_⟩:=hh_
 unfold Amy.g at h
 refine K.eq (env':=[(0,pt b0)]) (l':=bk b0 #[.slice Abe Aac.length Abf,iv Aam] 93 :: X) rfl rfl (ksr (kx 1 (Aby (kx 1 (knt ?_)))))
 obtain ⟨J7,hJ7,h⟩:=Agm h
 refine Agn (τ:=(List Tree)×Int×Aaa×TyO×Nat) (fun t=>[(0,pt b0),(3,.slice t.2.2.2.1 t.1.length t.2.2.2.2)]) (fun t=>bk b0 #[.slice Abe Aac.length Abf,iv t.2.1] 93 :: t.2.2.1 :: X) (fun t=>J7 t.1 t.2.1=some r∧Abp (Abx 54) 54 t.2.2.1 (.slice t.2.2.2.1 t.1.length t.2.2.2.2) t.1) ?_ ?_
 ·rintro ⟨l1,x6,h2,A3,k4⟩ ⟨h,o5⟩
  subst hJ7
  obtain ⟨J14,Aw0,h⟩:=Agm h
  refine Agn (τ:=(List Tree)×Int×Aaa×TyO×Nat) (fun t=>[(0,pt b0),(3,.slice t.2.2.2.1 t.1.length t.2.2.2.2)]) (fun t=>bk b0 #[.slice Abe Aac.length Abf,iv t.2.1] 93 :: t.2.2.1 :: X) (fun t=>J14 t.1 t.2.1=some r∧Abp (Abx 54) 54 t.2.2.1 (.slice t.2.2.2.1 t.1.length t.2.2.2.2) t.1) ?_ ?_
  ·rintro ⟨l8,x13,h9,A10,k11⟩ ⟨h,o12⟩
   subst Aw0
   refine ksr (kx 1 (kcp h (fun _ Aw2=>(Agc.ok (b0:=b0) Aw2 Abm)) rfl ⟨(.tail _ Abu),trivial⟩ (fun _ e=>Ab5 (kpn 1 e rfl)) fun r15 h=>?_))
   rintro _ _ ⟨rfl,rfl⟩
   refine Ak8 (Aby (kx 2 (knt (Afj ?_))))
   obtain rfl:=Option.some.inj h
   exact kdv (.slice A10 l8.length k11) [h9,bk b0 #[.slice Abe Aac.length Abf,iv r15] 93] (K.mv1 (Adj (PR.okI ⟨h9,A10,k11,o12,rfl,rfl⟩)))
  ·skip
   refine ksr (kx 1 (bnd h fun r17 Aul h=>(kc1 (Afl.ok (b0:=b0) Aul Abm) rfl ⟨(.tail _ Abu),trivial⟩ (knt ?_))))
   refine kcn h (fun h=>?_) fun h=>?_
   ·refine Ach (kx 2 (kcp h (fun _ hr19=>(hR.Agv (b0:=b0) hr19 Abm)) rfl ⟨(.tail _ Abu),trivial⟩ (fun _ e=>Ab5 (kpn 1 e rfl)) fun r19 h=>?_))
    rintro _ _ ⟨h20,A21,k22,o23,rfl,rfl⟩
    refine Acg (kns #[iv r19.1,sv r19.2.1,iv r19.2.2.1,iv r19.2.2.2.1,.slice A21 r19.2.2.2.2.1.length k22] 54 1 fun b25=>(K.mv1 (K.mv1 (Ah3 (T:=54) (n:=1) (xs:=[(Tree.mk r19.1 r19.2.1 r19.2.2.1 r19.2.2.2.1 r19.2.2.2.2.1)]) (Aec.one (Ait (k:=r19.1) (t:=r19.2.1) (n:=r19.2.2.1) (a:=r19.2.2.2.1) 54 o23)) rfl rfl (Nat.le_of_ble_eq_true rfl) fun h26 o27=>(K.mv2 (bnd h fun l28 Br0 h=>(Alq rfl An2 rfl Br0 o5 o27 fun h29 A30 k31 o32=>(kx 1 (knt (K.mv1 ?_))))))))))
    exact Adb (l28,r19.2.2.2.2.2,h29,A30,k31) ⟨h,o32⟩ sb rfl
   ·exact Adv (Abr (Adb (l1,r17.2,h2,A3,k4) ⟨h,o5⟩ sb rfl))
 ·skip
  refine Aez (Agh (K.mv1 (Akr (τ:=(List Tree)×Int×Aaa×TyO×Nat) (fun t=>[(0,pt b0),(3,.slice t.2.2.2.1 t.1.length t.2.2.2.2)]) (fun t=>bk b0 #[.slice Abe Aac.length Abf,iv t.2.1] 93 :: t.2.2.1 :: X) (fun m t=>Amy.l0 m Rc Aac J7 t.1 t.2.1=some r∧Abp (Abx 54) 54 t.2.2.1 (.slice t.2.2.2.1 t.1.length t.2.2.2.2) t.1) k ([],Aam,none_,none,0) ⟨h,(Abp.nil (Abx 54) 54 none_)⟩ sb rfl ?_)))
  clear h
  rintro m39 ⟨l33,x38,h34,A35,k36⟩ ⟨h,o37⟩
  cases m39 with
  | zero=>simp [Amy.l0] at h
  | succ m39 =>
   simp only [Amy.l0] at h
   refine Aez (ksr (kx 2 (kcp h (fun _ Bez=>(Af6.ok (b0:=b0) Bez Abm)) rfl ⟨(.tail _ Abu),trivial⟩ (fun _ e=>Ab5 (Adz (Ab5 (Adz (Ab5 (kpn 1 e rfl)))))) fun r40 h=>?_)))
   rintro _ _ ⟨h41,A42,k43,o44,rfl,rfl⟩
   refine Acg (kns #[iv r40.1,sv r40.2.1,iv r40.2.2.1,iv r40.2.2.2.1,.slice A42 r40.2.2.2.2.1.length k43] 54 1 fun b46=>(K.mv1 (K.mv1 (Ah3 (T:=54) (n:=1) (xs:=[(Tree.mk r40.1 r40.2.1 r40.2.2.1 r40.2.2.2.1 r40.2.2.2.2.1)]) (Aec.one (Ait (k:=r40.1) (t:=r40.2.1) (n:=r40.2.2.1) (a:=r40.2.2.2.1) 54 o44)) rfl rfl (Nat.le_of_ble_eq_true rfl) fun h47 o48=>(K.mv2 (bnd h fun l49 hl49 h=>(Alq rfl An2 rfl hl49 o37 o48 fun h50 A51 k52 o53=>(kx 1 (Aby (kx 1 ?_))))))))))
   refine K.mv1 (kcp h (fun _ Be0=>(Agc.ok (b0:=b0) Be0 Abm)) rfl ⟨(.tail _ Abu),trivial⟩ (fun _ e=>Ab5 (Adz (Ab5 (Adz (Ab5 (kpn 1 e rfl)))))) fun r54 h=>?_)
   rintro _ _ ⟨rfl,rfl⟩
   refine Ak8 (Aby (kx 2 (kcp h (fun _ Bto=>(hR.Agv (b0:=b0) Bto Abm)) rfl ⟨(.tail _ Abu),trivial⟩ (fun _ e=>Ab5 (Adz (Ab5 (Adz (Ab5 (kpn 1 e rfl)))))) fun r56 h=>?_)))
   rintro _ _ ⟨h57,A58,k59,o60,rfl,rfl⟩
   refine Acg (kns #[iv r56.1,sv r56.2.1,iv r56.2.2.1,iv r56.2.2.2.1,.slice A58 r56.2.2.2.2.1.length k59] 54 1 fun b62=>(K.mv1 (K.mv1 (Ah3 (T:=54) (n:=1) (xs:=[(Tree.mk r56.1 r56.2.1 r56.2.2.1 r56.2.2.2.1 r56.2.2.2.2.1)]) (Aec.one (Ait (k:=r56.1) (t:=r56.2.1) (n:=r56.2.2.1) (a:=r56.2.2.2.1) 54 o60)) rfl rfl (Nat.le_of_ble_eq_true rfl) fun h63 o64=>(K.mv2 (bnd h fun l65 Cva h=>(Alq rfl An2 rfl Cva o53 o64 fun h66 A67 k68 o69=>(kx 1 (Aby (kx 1 ?_))))))))))
   refine K.mv1 (bnd h fun r70 Btt h=>(kc1 (Afl.ok (b0:=b0) Btt Abm) rfl ⟨(.tail _ Abu),trivial⟩ (kx 1 (knt ?_))))
   refine kcn h (fun h=>?_) fun h=>?_
   ·exact Akp (Bkx rfl (Af5 (Akq (Abr (Adb (l65,r70.2,h66,A67,k68) ⟨h,o69⟩ sb rfl)))))
   ·exact Adv (Acx (Abr (Aiw m39 (l65,r70.2,h66,A67,k68) (Nat.lt_succ_self _) ⟨h,o69⟩ sb rfl)))
def Arl.g (Rc:PS) (k:Nat) (Aac:List (Int×ByteArray×Int×Int)) (Aam:Int) (a1:Int):Option (PR (Int×ByteArray×Int×Int×List Tree×Int)):=PR.bind (Aox.f k Aac Aam) fun r2=>Adg (fun (x10:Int) (x11:Int) (l12:List Tree) (x17:Int)=>PR.bind (Agc.f k Aac x17 (⟨#[100,111]⟩:ByteArray)) fun r19=>PR.bind (Rc.Agv Aac r19 false) fun r21=>(apd 64 l12 [(Tree.mk r21.1 r21.2.1 r21.2.2.1 r21.2.2.2.1 r21.2.2.2.2.1)]).bind fun l30=>PR.bind (Agc.f k Aac r21.2.2.2.2.2 (⟨#[101,110,100]⟩:ByteArray)) fun r35=>some (PR.ok (x10,(⟨#[]⟩:ByteArray),x11,a1,l30,r35))) (fun J18=>(Afl.f k Aac r2.2.2.2.2.2 (⟨#[61]⟩:ByteArray)).bind fun r37=>cond r37.1 (PR.bind (Af6.f k Aac r37.2 0) fun r39=>(apd 64 [(Tree.mk r2.1 r2.2.1 r2.2.2.1 r2.2.2.2.1 r2.2.2.2.2.1)] [(Tree.mk r39.1 r39.2.1 r39.2.2.1 r39.2.2.2.1 r39.2.2.2.2.1)]).bind fun l50=>PR.bind (Agc.f k Aac r39.2.2.2.2.2 (⟨#[44]⟩:ByteArray)) fun r55=>PR.bind (Af6.f k Aac r55 0) fun r57=>(apd 64 l50 [(Tree.mk r57.1 r57.2.1 r57.2.2.1 r57.2.2.2.1 r57.2.2.2.2.1)]).bind fun l66=>(Afl.f k Aac r57.2.2.2.2.2 (⟨#[44]⟩:ByteArray)).bind fun r71=>cond r71.1 (PR.bind (Af6.f k Aac r71.2 0) fun r73=>(apd 64 l66 [(Tree.mk r73.1 r73.2.1 r73.2.2.1 r73.2.2.2.1 r73.2.2.2.2.1)]).bind fun l82=>J18 26 0 l82 r73.2.2.2.2.2) (J18 26 0 l66 r71.2)) (Adg (fun (x87:Int) (l88:List Tree)=>PR.bind (Agc.f k Aac x87 (⟨#[105,110]⟩:ByteArray)) fun r94=>PR.bind (Ah1.f k Aac r94) fun r96=>(apd 64 l88 r96.1).bind fun Ba4=>J18 27 ((l88.length:Nat):Int) Ba4 r96.2) (fun J93=>(Afl.f k Aac r37.2 (⟨#[44]⟩:ByteArray)).bind fun Bgu=>cond Bgu.1 (PR.bind (Aps.f k Aac Bgu.2) fun Bm1=>(apd 64 [(Tree.mk r2.1 r2.2.1 r2.2.2.1 r2.2.2.2.1 r2.2.2.2.2.1)] Bm1.1).bind fun Az8=>J93 Bm1.2 Az8) (J93 Bgu.2 ([(Tree.mk r2.1 r2.2.1 r2.2.2.1 r2.2.2.2.1 r2.2.2.2.2.1)])))))
theorem Arl.okg {Rc:PS} (hR:Rc.Good) {k:Nat}:Arl.C (Arl.g Rc k):=by
 intro Aac Aam a1 b0 Abf Ac0 Abe r h Abm
 refine Afb (args:=[pt b0,iv a1]) Tryz.func69 rfl (Nat.le_of_ble_eq_true rfl) ?_
 intro A X hh_
 obtain ⟨Abu,_⟩:=hh_
 unfold Arl.g at h
 refine K.eq (env':=[(0,pt b0),(1,iv a1)]) (l':=bk b0 #[.slice Abe Aac.length Abf,iv Aam] 93 :: X) rfl rfl (ksr (knp #[iv 0,sv noS,iv 0,iv 0,nS] 54 fun b1=>(Aby (kx 2 (K.mv1 (kcp h (fun _ hr2=>(Aox.ok (b0:=b0) hr2 Abm)) rfl ⟨(.tail _ Abu),trivial⟩ (fun _ e=>Ab5 (kpn 1 e rfl)) fun r2 h=>?_))))))
 rintro _ _ ⟨h3,A4,k5,o6,rfl,rfl⟩
 refine Acg (kns #[iv r2.1,sv r2.2.1,iv r2.2.2.1,iv r2.2.2.2.1,.slice A4 r2.2.2.2.2.1.length k5] 54 1 fun b8=>(kx 1 (knp #[iv 0,sv noS,iv 0,iv 0,nS] 54 fun b9=>(kst 0 5 #[iv 27,sv noS,iv 0,iv a1,.slice (some ⟨b8,0,none⟩) 1 1] (knt ?_)))))
 obtain ⟨J18,Brk,h⟩:=Agm h
 refine Agn (τ:=Int×Int×(List Tree)×Int×Aaa×TyO×Nat) (fun t=>[(0,pt b0),(4,pt b1),(5,pt b9)]) (fun t=>bk b9 #[iv t.1,sv noS,iv t.2.1,iv a1,.slice t.2.2.2.2.2.1 t.2.2.1.length t.2.2.2.2.2.2] 54 :: bk b0 #[.slice Abe Aac.length Abf,iv t.2.2.2.1] 93 :: bk b1 #[iv 0,sv noS,iv 0,iv 0,nS] 54 :: t.2.2.2.2.1 :: X) (fun t=>J18 t.1 t.2.1 t.2.2.1 t.2.2.2.1=some r∧Abp (Abx 54) 54 t.2.2.2.2.1 (.slice t.2.2.2.2.2.1 t.2.2.1.length t.2.2.2.2.2.2) t.2.2.1) ?_ ?_
 ·rintro ⟨x10,x11,l12,x17,h13,A14,k15⟩ ⟨h,o16⟩
  subst Brk
  refine ksr (kx 1 (K.mv1 (kcp h (fun _ hr19=>(Agc.ok (b0:=b0) hr19 Abm)) rfl ⟨(t3 Abu),trivial⟩ (fun _ e=>Ab5 (kpn 3 e rfl)) fun r19 h=>?_)))
  rintro _ _ ⟨rfl,rfl⟩
  refine Ak8 (knt (Ac1 (kpr [(0,0),(1,3),(2,0),(3,1),(4,1)] [1] (kpx 1 (kpd 0 4 rfl (kpx 1 (kpt (ocp h (fun _ Aun=>(hR.Agv (b0:=b0) Aun Abm)) rfl ⟨(t3 Abu),trivial⟩ (fun _ e=>Ab5 (kpn 3 e rfl)) fun r21 h=>?_))))))))
  rintro _ _ ⟨h22,A23,k24,o25,rfl,rfl⟩
  refine Acg (kan [2] rfl (kpt (ons #[iv r21.1,sv r21.2.1,iv r21.2.2.1,iv r21.2.2.2.1,.slice A23 r21.2.2.2.2.1.length k24] 54 1 fun b27=>(kan [3] rfl (kpz (K.mv1 (K.mv1 (Ah3 (T:=54) (n:=1) (xs:=[(Tree.mk r21.1 r21.2.1 r21.2.2.1 r21.2.2.2.1 r21.2.2.2.2.1)]) (Aec.one (Ait (k:=r21.1) (t:=r21.2.1) (n:=r21.2.2.1) (a:=r21.2.2.2.1) 54 o25)) rfl rfl (Nat.le_of_ble_eq_true rfl) fun h28 o29=>(K.mv4 (bnd h fun l30 Br1 h=>?_))))))))))
  refine Alq rfl An2 rfl Br1 o16 o29 fun h31 A32 k33 o34=>(kx 1 (K.mv2 (kst 4 1 #[iv x10,sv noS,iv x11,iv a1,.slice A32 l30.length k33] (Aby (kx 1 (K.mv2 (kcp h (fun _ A5m=>(Agc.ok (b0:=b0) A5m Abm)) rfl ⟨(t3 Abu),trivial⟩ (fun _ e=>Ab5 (kpn 3 e rfl)) fun r35 h=>?_)))))))
  rintro _ _ ⟨rfl,rfl⟩
  refine Ak8 (Aby (kla 1 0 5 rfl (K.mv1 (K.drop (K.mv2 (kst 0 5 #[iv x10,sv noS,iv x11,iv a1,.slice A32 l30.length k33] (knt (Afj ?_))))))))
  obtain rfl:=Option.some.inj h
  exact kda 0 5 rfl [h31,bk b0 #[.slice Abe Aac.length Abf,iv r35] 93] (K.drop (K.mv1 (Adj (PR.okI ⟨h31,A32,k33,o34,rfl,rfl⟩))))
 ·skip
  refine ksr (kx 1 (K.mv3 (bnd h fun r37 A5o h=>(kc1 (Afl.ok (b0:=b0) A5o Abm) rfl ⟨(t4 Abu),trivial⟩ (knt ?_)))))
  refine kcn h (fun h=>?_) fun h=>?_
  ·refine ksr (kx 1 (K.mv1 (kst 0 1 #[iv 26,sv noS,iv 0,iv a1,.slice (some ⟨b8,0,none⟩) 1 1] (knt (Ac1 (kpr [(0,0),(1,3),(2,0),(3,1),(4,1)] [0] (kpx 1 (kpd 0 4 rfl (kpx 1 (kpt ?_))))))))))
   refine K.mv1 (ocp h (fun _ hr39=>(Af6.ok (b0:=b0) hr39 Abm)) rfl ⟨(t4 Abu),trivial⟩ (fun _ e=>Ab5 (Ab5 (kpn 4 e rfl))) fun r39 h=>?_)
   rintro _ _ ⟨h40,A41,k42,o43,rfl,rfl⟩
   refine Acg (kan [2] rfl (kpt (ons #[iv r39.1,sv r39.2.1,iv r39.2.2.1,iv r39.2.2.2.1,.slice A41 r39.2.2.2.2.1.length k42] 54 1 fun b45=>(kan [3] rfl (kpz (K.mv1 (K.mv1 (Ah3 (T:=54) (n:=1) (xs:=[(Tree.mk r39.1 r39.2.1 r39.2.2.1 r39.2.2.2.1 r39.2.2.2.2.1)]) (Aec.one (Ait (k:=r39.1) (t:=r39.2.1) (n:=r39.2.2.1) (a:=r39.2.2.2.1) 54 o43)) rfl rfl (Nat.le_of_ble_eq_true rfl) fun h46 o47=>(K.mv4 (K.mv4 ?_))))))))))
   refine Ah3 (T:=54) (n:=1) (xs:=[(Tree.mk r2.1 r2.2.1 r2.2.2.1 r2.2.2.2.1 r2.2.2.2.2.1)]) (Aec.one (Ait (k:=r2.1) (t:=r2.2.1) (n:=r2.2.2.1) (a:=r2.2.2.2.1) 54 o6)) rfl rfl (Nat.le_of_ble_eq_true rfl) fun h48 o49=>(K.mv1 (K.mv1 (bnd h fun l50 Cu3 h=>(Alq rfl An2 rfl Cu3 o49 o47 fun h51 A52 k53 o54=>(kx 1 (K.mv2 (kst 4 1 #[iv 26,sv noS,iv 0,iv a1,.slice A52 l50.length k53] (Aby (kx 1 (K.mv2 ?_))))))))))
   refine kcp h (fun _ Be1=>(Agc.ok (b0:=b0) Be1 Abm)) rfl ⟨(t3 Abu),trivial⟩ (fun _ e=>Ab5 (Ab5 (kpn 3 e rfl))) fun r55 h=>?_
   rintro _ _ ⟨rfl,rfl⟩
   refine Ak8 (knt (Ac1 (kpr [(0,0),(1,3),(2,0),(3,1),(4,1)] [1] (kpx 1 (kpd 0 4 rfl (kpx 1 (kpt (ocp h (fun _ Cx2=>(Af6.ok (b0:=b0) Cx2 Abm)) rfl ⟨(t3 Abu),trivial⟩ (fun _ e=>Ab5 (Ab5 (kpn 3 e rfl))) fun r57 h=>?_))))))))
   rintro _ _ ⟨h58,A59,k60,o61,rfl,rfl⟩
   refine Acg (kan [2] rfl (kpt (ons #[iv r57.1,sv r57.2.1,iv r57.2.2.1,iv r57.2.2.2.1,.slice A59 r57.2.2.2.2.1.length k60] 54 1 fun b63=>(kan [3] rfl (kpz (K.mv1 (K.mv1 (Ah3 (T:=54) (n:=1) (xs:=[(Tree.mk r57.1 r57.2.1 r57.2.2.1 r57.2.2.2.1 r57.2.2.2.2.1)]) (Aec.one (Ait (k:=r57.1) (t:=r57.2.1) (n:=r57.2.2.1) (a:=r57.2.2.2.1) 54 o61)) rfl rfl (Nat.le_of_ble_eq_true rfl) fun h64 o65=>(K.mv3 (bnd h fun l66 Cve h=>?_))))))))))
   refine Alq rfl An2 rfl Cve o54 o65 fun h67 A68 k69 o70=>(kx 1 (K.mv2 (kst 4 1 #[iv 26,sv noS,iv 0,iv a1,.slice A68 l66.length k69] (Aby (kx 1 (K.mv2 (bnd h fun r71 Cx5 h=>(kc1 (Afl.ok (b0:=b0) Cx5 Abm) rfl ⟨(t3 Abu),trivial⟩ (knt ?_)))))))))
   refine kcn h (fun h=>?_) fun h=>?_
   ·refine kpr [(0,0),(1,3),(2,0),(3,1),(4,1)] [1] (kpx 1 (kpd 0 4 rfl (kpx 1 (kpt (ocp h (fun _ Btu=>(Af6.ok (b0:=b0) Btu Abm)) rfl ⟨(t3 Abu),trivial⟩ (fun _ e=>Ab5 (kpn 3 e rfl)) fun r73 h=>?_)))))
    rintro _ _ ⟨h74,A75,k76,o77,rfl,rfl⟩
    refine Acg (kan [2] rfl (kpt (ons #[iv r73.1,sv r73.2.1,iv r73.2.2.1,iv r73.2.2.2.1,.slice A75 r73.2.2.2.2.1.length k76] 54 1 fun b79=>(kan [3] rfl (kpz (K.mv1 (K.mv1 (Ah3 (T:=54) (n:=1) (xs:=[(Tree.mk r73.1 r73.2.1 r73.2.2.1 r73.2.2.2.1 r73.2.2.2.2.1)]) (Aec.one (Ait (k:=r73.1) (t:=r73.2.1) (n:=r73.2.2.1) (a:=r73.2.2.2.1) 54 o77)) rfl rfl (Nat.le_of_ble_eq_true rfl) fun h80 o81=>(K.mv3 (bnd h fun l82 Bkd h=>?_))))))))))
    exact Alq rfl An2 rfl Bkd o70 o81 fun h83 A84 k85 o86=>(kx 1 (K.mv2 (kst 4 1 #[iv 26,sv noS,iv 0,iv a1,.slice A84 l82.length k85] (knt (K.mv1 (K.mv3 (K.mv3 (K.mv3 (Adb (26,0,l82,r73.2.2.2.2.2,h83,A84,k85) ⟨h,o86⟩ sb rfl)))))))))
   ·exact Adv (Abr (K.mv2 (K.mv3 (K.mv2 (K.mv3 (Adb (26,0,l66,r71.2,h67,A68,k69) ⟨h,o70⟩ sb rfl))))))
  ·obtain ⟨J93,Cth,h⟩:=Agm h
   refine Agn (τ:=Int×(List Tree)×Aaa×TyO×Nat) (fun t=>[(0,pt b0),(4,pt b1),(5,pt b9)]) (fun t=>bk b0 #[.slice Abe Aac.length Abf,iv t.1] 93 :: bk b9 #[iv 27,sv noS,iv 0,iv a1,.slice t.2.2.2.1 t.2.1.length t.2.2.2.2] 54 :: bk b1 #[iv 0,sv noS,iv 0,iv 0,nS] 54 :: t.2.2.1 :: X) (fun t=>J93 t.1 t.2.1=some r∧Abp (Abx 54) 54 t.2.2.1 (.slice t.2.2.2.1 t.2.1.length t.2.2.2.2) t.2.1) ?_ ?_
   ·rintro ⟨x87,l88,h89,A90,k91⟩ ⟨h,o92⟩
    subst Cth
    refine ksr (kx 1 (kld 1 4 rfl (kx 2 (K.mv1 (kst 2 1 #[iv 27,sv noS,iv ((l88.length:Nat):Int),iv a1,.slice A90 l88.length k91] (Aby (kx 1 (K.mv1 (kcp h (fun _ Cyj=>(Agc.ok (b0:=b0) Cyj Abm)) rfl ⟨(t3 Abu),trivial⟩ (fun _ e=>Ab5 (Ab5 (kpn 3 e rfl))) fun r94 h=>?_)))))))))
    rintro _ _ ⟨rfl,rfl⟩
    refine Ak8 (knt (kpr [(0,0),(1,3),(2,0),(3,1)] [1] (kpx 1 (kpd 0 4 rfl (kpx 1 (kpt (ocp h (fun _ Cyk=>(Ah1.ok (b0:=b0) Cyk Abm)) rfl ⟨(t3 Abu),trivial⟩ (fun _ e=>Ab5 (kpn 3 e rfl)) fun r96 h=>?_)))))))
    rintro _ _ ⟨h97,A98,k99,Bl2,rfl,rfl⟩
    refine Acg (kan [2] rfl (kpz (K.mv4 (bnd h fun Ba4 Ct3 h=>(Alq rfl An2 rfl Ct3 o92 Bl2 fun Crr B0n B9e C46=>(kx 1 (K.mv2 (kst 4 1 #[iv 27,sv noS,iv ((l88.length:Nat):Int),iv a1,.slice B0n Ba4.length B9e] (knt (K.mv1 ?_))))))))))
    exact K.mv3 (K.mv3 (K.mv3 (Adb (27,((l88.length:Nat):Int),Ba4,r96.2,Crr,B0n,B9e) ⟨h,C46⟩ sb rfl)))
   ·skip
    refine ksr (kx 1 (bnd h fun Bgu Cvz h=>(kc1 (Afl.ok (b0:=b0) Cvz Abm) rfl ⟨(t4 Abu),trivial⟩ (knt ?_))))
    refine kcn h (fun h=>?_) fun h=>?_
    ·refine kpr [(0,0),(1,3),(2,0),(3,1)] [1] (kpx 1 (kpd 0 4 rfl (kpx 1 (kpt (ocp h (fun _ Cv0=>(Aps.ok (b0:=b0) Cv0 Abm)) rfl ⟨(t4 Abu),trivial⟩ (fun _ e=>Ab5 (Ab5 (kpn 4 e rfl))) fun Bm1 h=>?_)))))
     rintro _ _ ⟨Dfh,Ddy,Dg6,C5b,rfl,rfl⟩
     refine Acg (kan [2] rfl (kpz (K.mv4 (K.mv4 (Ah3 (T:=54) (n:=1) (xs:=[(Tree.mk r2.1 r2.2.1 r2.2.2.1 r2.2.2.2.1 r2.2.2.2.2.1)]) (Aec.one (Ait (k:=r2.1) (t:=r2.2.1) (n:=r2.2.2.1) (a:=r2.2.2.2.1) 54 o6)) rfl rfl (Nat.le_of_ble_eq_true rfl) fun Dfl Bv6=>(K.mv1 (K.mv1 (bnd h fun Az8 Bj4 h=>(Alq rfl An2 rfl Bj4 Bv6 C5b fun Crx B0s B9m C5h=>(kx 1 ?_))))))))))
     exact K.mv2 (kst 4 1 #[iv 27,sv noS,iv 0,iv a1,.slice B0s Az8.length B9m] (knt (K.mv1 (K.mv3 (K.mv2 (K.mv3 (Adb (Bm1.2,Az8,Crx,B0s,B9m) ⟨h,C5h⟩ sb rfl)))))))
    ·exact Adv (Abr (K.mv3 (K.mv3 (Ah3 (T:=54) (n:=1) (xs:=[(Tree.mk r2.1 r2.2.1 r2.2.2.1 r2.2.2.2.1 r2.2.2.2.2.1)]) (Aec.one (Ait (k:=r2.1) (t:=r2.2.1) (n:=r2.2.2.1) (a:=r2.2.2.2.1) 54 o6)) rfl rfl (Nat.le_of_ble_eq_true rfl) fun h122 A7p=>(K.mv3 (K.mv3 (K.mv3 (Adb (Bgu.2,[(Tree.mk r2.1 r2.2.1 r2.2.2.1 r2.2.2.2.1 r2.2.2.2.2.1)],h122,(some ⟨b8,0,none⟩),1) ⟨h,A7p⟩ sb rfl))))))))
def Am0.l0:Nat→(Aac:List (Int×ByteArray×Int×Int))→(J26:(List Tree)→Int→Option (PR (Int×ByteArray×Int×Int×List Tree×Int)))→(x42:Int)→(x43:ByteArray)→(x44:Int)→(x45:Int)→(l46:List Tree)→(l51:List Tree)→(x56:Int)→Option (PR (Int×ByteArray×Int×Int×List Tree×Int))
 | 0,_,_,_,_,_,_,_,_,_=>none
 | m57+1,Aac,J26,x42,x43,x44,x45,l46,l51,x56=>Adg (fun (_:Unit)=>(apd 64 l51 [(Tree.mk x42 x43 x44 x45 l46)]).bind fun l62=>(Afl.f m57 Aac x56 (⟨#[44]⟩:ByteArray)).bind fun r67=>cond (!r67.1) (J26 l62 r67.2) (PR.bind (Aig.f m57 Aac r67.2) fun r70=>Am0.l0 m57 Aac J26 r70.1 r70.2.1 r70.2.2.1 r70.2.2.2.1 r70.2.2.2.2.1 l62 r70.2.2.2.2.2)) (fun J58=>(A7x.f m57 x42 x43 x44 x45 l46).bind fun r76=>cond (!r76) (PR.bind (Atp.f m57 Aac x56 x45) fun r78=>J58 ()) (J58 ()))
def Am0.g (Rc:PS) (k:Nat) (Aac:List (Int×ByteArray×Int×Int)) (Aam:Int):Option (PR (Int×ByteArray×Int×Int×List Tree×Int)):=PR.bind (Aig.f k Aac Aam) fun r2=>((Ajq.f k Aac r2.2.2.2.2.2 (⟨#[61]⟩:ByteArray)).bind fun r80=>cond (!r80) ((Ajq.f k Aac r2.2.2.2.2.2 (⟨#[44]⟩:ByteArray)).bind fun r82=>some (!r82)) (some false):Option Bool).bind fun q9=>cond q9 (Adg (fun (_:Unit)=>some (PR.ok (23,(⟨#[]⟩:ByteArray),0,r2.2.2.2.1,[(Tree.mk r2.1 r2.2.1 r2.2.2.1 r2.2.2.2.1 r2.2.2.2.2.1)],r2.2.2.2.2.2))) (fun J11=>cond (r2.1 != 8) ((Ai4.f k Aac r2.2.2.2.2.2).bind fun r16=>PR.bind (Atp.f k Aac r2.2.2.2.2.2 r16.2.2.2) fun r17=>J11 ()) (J11 ()))) (Adg (fun (l20:List Tree) (x25:Int)=>PR.bind (Agc.f k Aac x25 (⟨#[61]⟩:ByteArray)) fun r27=>PR.bind (Ah1.f k Aac r27) fun r29=>(apd 64 l20 r29.1).bind fun l35=>some (PR.ok (22,(⟨#[]⟩:ByteArray),((l20.length:Nat):Int),r2.2.2.2.1,l35,r29.2))) (fun J26=>Am0.l0 k Aac J26 r2.1 r2.2.1 r2.2.2.1 r2.2.2.2.1 r2.2.2.2.2.1 ([]) r2.2.2.2.2.2))
theorem Am0.okg {Rc:PS} (hR:Rc.Good) {k:Nat}:Am0.C (Am0.g Rc k):=by
 intro Aac Aam b0 Abf Ac0 Abe r h Abm
 refine Afb (args:=[pt b0]) Tryz.func70 rfl (Nat.le_of_ble_eq_true rfl) ?_
 intro A X hh_
 obtain ⟨Abu,_⟩:=hh_
 unfold Am0.g at h
 refine K.eq (env':=[(0,pt b0)]) (l':=bk b0 #[.slice Abe Aac.length Abf,iv Aam] 93 :: X) rfl rfl (ksr (knp #[iv 0,sv noS,iv 0,iv 0,nS] 54 fun b1=>(Aby (kx 1 (K.mv1 (kcp h (fun _ hr2=>(Aig.ok (b0:=b0) hr2 Abm)) rfl ⟨(.tail _ Abu),trivial⟩ (fun _ e=>Ab5 (kpn 1 e rfl)) fun r2 h=>?_))))))
 rintro _ _ ⟨h3,A4,k5,o6,rfl,rfl⟩
 refine Acg (knp #[iv 0,sv noS,iv 0,iv 0,nS] 54 fun b8=>(kst 0 5 #[iv r2.1,sv r2.2.1,iv r2.2.2.1,iv r2.2.2.2.1,.slice A4 r2.2.2.2.2.1.length k5] (knt (Ac1 (bnd h fun q9 hq9 h=>?_)))))
 refine An7 [(0,pt b0),(2,pt b1),(3,pt b8),(15,bv q9)] (bk b8 #[iv r2.1,sv r2.2.1,iv r2.2.2.1,iv r2.2.2.2.1,.slice A4 r2.2.2.2.2.1.length k5] 54 :: h3 :: bk b0 #[.slice Abe Aac.length Abf,iv r2.2.2.2.2.2] 93 :: bk b1 #[iv 0,sv noS,iv 0,iv 0,nS] 54 :: X) ?_ ?_
 ·clear hq9
  refine kcn h (fun h=>?_) fun h=>?_
  ·obtain ⟨J11,Brb,h⟩:=Agm h
   refine Agn (τ:=Unit) (fun t=>[(2,pt b1),(3,pt b8)]) (fun t=>bk b8 #[iv r2.1,sv r2.2.1,iv r2.2.2.1,iv r2.2.2.2.1,.slice A4 r2.2.2.2.2.1.length k5] 54 :: h3 :: bk b0 #[.slice Abe Aac.length Abf,iv r2.2.2.2.2.2] 93 :: bk b1 #[iv 0,sv noS,iv 0,iv 0,nS] 54 :: X) (fun t=>J11 ()=some r) ?_ ?_
   ·rintro ⟨⟩ h
    subst Brb
    refine ksr (kx 1 (kld 0 3 rfl (kla 0 0 5 rfl (K.drop (kns #[iv r2.1,sv r2.2.1,iv r2.2.2.1,iv r2.2.2.2.1,.slice A4 r2.2.2.2.2.1.length k5] 54 1 fun b12=>(kx 1 (K.mv3 (kst 0 5 #[iv 23,sv noS,iv 0,iv r2.2.2.2.1,.slice (some ⟨b12,0,none⟩) 1 1] (knt (Afj ?_))))))))))
    refine Ahj (K.mv2 (K.mv2 (Ah3 (T:=54) (n:=1) (xs:=[(Tree.mk r2.1 r2.2.1 r2.2.2.1 r2.2.2.2.1 r2.2.2.2.2.1)]) (Aec.one (Ait (k:=r2.1) (t:=r2.2.1) (n:=r2.2.2.1) (a:=r2.2.2.2.1) 54 o6)) rfl rfl (Nat.le_of_ble_eq_true rfl) fun h13 o14=>?_)))
    obtain rfl:=Option.some.inj h
    exact kda 1 5 rfl [h13,bk b0 #[.slice Abe Aac.length Abf,iv r2.2.2.2.2.2] 93] (K.mv1 (K.drop (Adj (PR.okI ⟨h13,(some ⟨b12,0,none⟩),1,o14,rfl,rfl⟩))))
   ·skip
    refine ksr (kx 1 (kld 0 0 rfl (kx 1 (knt ?_))))
    refine kcn h (fun h=>?_) fun h=>?_
    ·refine Ach (kx 2 (K.mv2 (bnd h fun r16 Auk h=>(kc1 (Ai4.ok (b0:=b0) Auk Abm) rfl ⟨(t3 Abu),trivial⟩ (kx 1 (kcp h (fun _ Aul=>(Atp.ok (b0:=b0) Aul Abm)) rfl ⟨(t3 Abu),trivial⟩ (fun _ e=>Ab5 (Ab5 (kpn 3 e rfl))) fun r17 h=>?_))))))
     rintro _ _ ⟨rfl,rfl⟩
     exact Ak8 (knt (K.mv3 (K.mv1 (K.mv3 (K.mv3 (Adb () h sb rfl))))))
    ·exact Adv (Abr (Adb () h sb rfl))
  ·refine Adv (Abr (ksr (kx 1 (kld 0 3 rfl (kx 1 (knp #[iv 0,sv noS,iv 0,iv 0,nS] 54 fun b19=>(kst 0 5 #[iv 22,sv noS,iv 0,iv r2.2.2.2.1,nS] (knt ?_))))))))
   obtain ⟨J26,Cs2,h⟩:=Agm h
   refine Agn (τ:=(List Tree)×Int×Aaa×TyO×Nat) (fun t=>[(0,pt b0),(2,pt b1),(4,pt b19)]) (fun t=>bk b19 #[iv 22,sv noS,iv 0,iv r2.2.2.2.1,.slice t.2.2.2.1 t.1.length t.2.2.2.2] 54 :: bk b0 #[.slice Abe Aac.length Abf,iv t.2.1] 93 :: bk b1 #[iv 0,sv noS,iv 0,iv 0,nS] 54 :: t.2.2.1 :: X) (fun t=>J26 t.1 t.2.1=some r∧Abp (Abx 54) 54 t.2.2.1 (.slice t.2.2.2.1 t.1.length t.2.2.2.2) t.1) ?_ ?_
   ·rintro ⟨l20,x25,h21,A22,k23⟩ ⟨h,o24⟩
    subst Cs2
    refine ksr (kx 1 (kld 0 4 rfl (kx 2 (kst 2 1 #[iv 22,sv noS,iv ((l20.length:Nat):Int),iv r2.2.2.2.1,.slice A22 l20.length k23] (Aby (kx 1 (K.mv1 (kcp h (fun _ Auo=>(Agc.ok (b0:=b0) Auo Abm)) rfl ⟨(t3 Abu),trivial⟩ (fun _ e=>Ab5 (kpn 3 e rfl)) fun r27 h=>?_))))))))
    rintro _ _ ⟨rfl,rfl⟩
    refine Ak8 (knt (Ac1 (kpr [(0,0),(1,3),(2,0),(3,1)] [1] (kpx 1 (kpd 0 4 rfl (kpx 1 (kpt (ocp h (fun _ Bey=>(Ah1.ok (b0:=b0) Bey Abm)) rfl ⟨(t3 Abu),trivial⟩ (fun _ e=>Ab5 (kpn 3 e rfl)) fun r29 h=>?_))))))))
    rintro _ _ ⟨h30,A31,k32,o33,rfl,rfl⟩
    refine Acg (kan [2] rfl (kpz (K.mv4 (bnd h fun l35 Bem h=>(Alq rfl An2 rfl Bem o24 o33 fun h36 A37 k38 o39=>(kx 1 (K.mv2 (kst 4 1 #[iv 22,sv noS,iv ((l20.length:Nat):Int),iv r2.2.2.2.1,.slice A37 l35.length k38] (Aby (kla 0 0 5 rfl ?_))))))))))
    refine K.drop (K.mv2 (kst 0 5 #[iv 22,sv noS,iv ((l20.length:Nat):Int),iv r2.2.2.2.1,.slice A37 l35.length k38] (knt (Afj ?_))))
    obtain rfl:=Option.some.inj h
    exact kda 0 5 rfl [h36,bk b0 #[.slice Abe Aac.length Abf,iv r29.2] 93] (K.drop (Adj (PR.okI ⟨h36,A37,k38,o39,rfl,rfl⟩)))
   ·skip
    refine ksr (kla 1 0 5 rfl (K.mv1 (K.drop (knp #[iv 0,sv noS,iv 0,iv 0,nS] 54 fun b40=>(kst 0 5 #[iv r2.1,sv r2.2.1,iv r2.2.2.1,iv r2.2.2.2.1,.slice A4 r2.2.2.2.2.1.length k5] (knt (Aez (Agh (K.mv3 (K.mv5 ?_))))))))))
    refine K.mv5 (K.mv5 (K.mv5 (Akr (τ:=Int×ByteArray×Int×Int×(List Tree)×(List Tree)×Int×Nat×Aaa×TyO×Nat×Aaa×TyO×Nat) (fun t=>[(0,pt b0),(2,pt b1),(4,pt b19),(5,pt t.2.2.2.2.2.2.2.1)]) (fun t=>bk t.2.2.2.2.2.2.2.1 #[iv t.1,sv t.2.1,iv t.2.2.1,iv t.2.2.2.1,.slice t.2.2.2.2.2.2.2.2.2.1 t.2.2.2.2.1.length t.2.2.2.2.2.2.2.2.2.2.1] 54 :: bk b19 #[iv 22,sv noS,iv 0,iv r2.2.2.2.1,.slice t.2.2.2.2.2.2.2.2.2.2.2.2.1 t.2.2.2.2.2.1.length t.2.2.2.2.2.2.2.2.2.2.2.2.2] 54 :: bk b0 #[.slice Abe Aac.length Abf,iv t.2.2.2.2.2.2.1] 93 :: bk b1 #[iv 0,sv noS,iv 0,iv 0,nS] 54 :: t.2.2.2.2.2.2.2.2.1 :: t.2.2.2.2.2.2.2.2.2.2.2.1 :: X) (fun m t=>Am0.l0 m Aac J26 t.1 t.2.1 t.2.2.1 t.2.2.2.1 t.2.2.2.2.1 t.2.2.2.2.2.1 t.2.2.2.2.2.2.1=some r∧Abp (Abx 54) 54 t.2.2.2.2.2.2.2.2.1 (.slice t.2.2.2.2.2.2.2.2.2.1 t.2.2.2.2.1.length t.2.2.2.2.2.2.2.2.2.2.1) t.2.2.2.2.1∧Abp (Abx 54) 54 t.2.2.2.2.2.2.2.2.2.2.2.1 (.slice t.2.2.2.2.2.2.2.2.2.2.2.2.1 t.2.2.2.2.2.1.length t.2.2.2.2.2.2.2.2.2.2.2.2.2) t.2.2.2.2.2.1) k (r2.1,r2.2.1,r2.2.2.1,r2.2.2.2.1,r2.2.2.2.2.1,[],r2.2.2.2.2.2,b40,h3,A4,k5,none_,none,0) ⟨h,o6,(Abp.nil (Abx 54) 54 none_)⟩ sb rfl ?_)))
    clear h
    rintro m57 ⟨x42,x43,x44,x45,l46,l51,x56,b41,h47,A48,k49,h52,A53,k54⟩ ⟨h,o50,o55⟩
    cases m57 with
    | zero=>simp [Am0.l0] at h
    | succ m57 =>
     simp only [Am0.l0] at h
     refine Ac1 (Aez ?_)
     obtain ⟨J58,Cta,h⟩:=Agm h
     refine Agn (τ:=Unit) (fun t=>[(0,pt b0),(2,pt b1),(4,pt b19),(5,pt b41)]) (fun t=>bk b41 #[iv x42,sv x43,iv x44,iv x45,.slice A48 l46.length k49] 54 :: bk b19 #[iv 22,sv noS,iv 0,iv r2.2.2.2.1,.slice A53 l51.length k54] 54 :: bk b0 #[.slice Abe Aac.length Abf,iv x56] 93 :: bk b1 #[iv 0,sv noS,iv 0,iv 0,nS] 54 :: h47 :: h52 :: X) (fun t=>J58 ()=some r) ?_ ?_
     ·rintro ⟨⟩ h
      subst Cta
      refine ksr (kx 1 (kld 1 4 rfl (kla 0 0 5 rfl (kns #[iv x42,sv x43,iv x44,iv x45,.slice A48 l46.length k49] 54 1 fun b59=>(K.mv5 (K.mv1 (Ah3 (T:=54) (n:=1) (xs:=[(Tree.mk x42 x43 x44 x45 l46)]) (Aec.one (Ait (k:=x42) (t:=x43) (n:=x44) (a:=x45) 54 o50)) rfl rfl (Nat.le_of_ble_eq_true rfl) fun h60 o61=>(K.mv5 (bnd h fun l62 Cu7 h=>(Alq rfl An2 rfl Cu7 o55 o61 fun h63 A64 k65 o66=>?_))))))))))
      refine kx 1 (K.mv2 (kst 4 1 #[iv 22,sv noS,iv 0,iv r2.2.2.2.1,.slice A64 l62.length k65] (Aby (kx 1 (K.mv3 (bnd h fun r67 Azz h=>(kc1 (Afl.ok (b0:=b0) Azz Abm) rfl ⟨(t4 Abu),trivial⟩ (kx 1 (knt ?_)))))))))
      refine kcn h (fun h=>?_) fun h=>?_
      ·refine Akp (Bkx rfl (Af5 (Af5 (Akq (Abr (K.mv3 (K.drop (K.mv2 (K.mv3 (K.mv2 ?_))))))))))
       exact K.mv3 (Adb (l62,r67.2,h63,A64,k65) ⟨h,o66⟩ sb rfl)
      ·refine Adv (Acx (Abr (Ac1 (ksr (kla 3 0 5 rfl (K.mv3 (K.drop (knr (knp #[iv 0,sv noS,iv 0,iv 0,nS] 54 fun b69=>(kst 0 5 #[iv x42,sv x43,iv x44,iv x45,.slice A48 l46.length k49] ?_))))))))))
       refine knr (kx 1 (K.mv1 (kcp h (fun _ Btt=>(Aig.ok (b0:=b0) Btt Abm)) rfl ⟨(t4 Abu),trivial⟩ (fun _ e=>Ab5 (Adz (Ab5 (kpn 4 e rfl)))) fun r70 h=>?_)))
       rintro _ _ ⟨h71,A72,k73,o74,rfl,rfl⟩
       exact Acg (K.mv2 (kst 0 5 #[iv r70.1,sv r70.2.1,iv r70.2.2.1,iv r70.2.2.2.1,.slice A72 r70.2.2.2.2.1.length k73] (knt (K.mv4 (K.mv2 (K.mv5 (K.mv4 (K.mv5 (K.mv5 (Aiw m57 (r70.1,r70.2.1,r70.2.2.1,r70.2.2.2.1,r70.2.2.2.2.1,l62,r70.2.2.2.2.2,b69,h71,A72,k73,h63,A64,k65) (Nat.lt_succ_self _) ⟨h,o74,o66⟩ sb rfl))))))))))
     ·skip
      refine ksr (kla 0 0 5 rfl (bnd h fun r76 Cya h=>(kcv (A7x.ok Cya (Abp.rd o50)) ⟨(.tail _ (.tail _ (.tail _ (.tail _ (.head _))))),trivial⟩ (kx 1 (knt ?_)))))
      refine kcn h (fun h=>?_) fun h=>?_
      ·refine Ach (kx 2 (kld 0 3 rfl (K.mv2 (kcp h (fun _ Bty=>(Atp.ok (b0:=b0) Bty Abm)) rfl ⟨(t5 Abu),trivial⟩ (fun _ e=>Ab5 (Adz (Ab5 (Ab5 (Adz (Ab5 (kpn 5 e rfl))))))) fun r78 h=>?_))))
       rintro _ _ ⟨rfl,rfl⟩
       exact Ak8 (knt (K.mv5 (K.mv5 (K.mv5 (K.mv3 (K.mv5 (K.mv5 (Adb () h sb rfl))))))))
      ·exact Adv (Abr (Adb () h sb rfl))
 ·have h:=hq9
  clear hq9
  refine Ach (kx 1 (K.mv2 (bnd h fun r80 A5z h=>(kc1 (Ajq.ok (b0:=b0) A5z Abm) rfl ⟨(t3 Abu),trivial⟩ (kx 2 ?_)))))
  refine kcs 11 h (fun h=>?_) fun h=>?_
  ·exact kx 1 (bnd h fun r82 Az0 h=>(kc1 (Ajq.ok (b0:=b0) Az0 Abm) rfl ⟨(t3 Abu),trivial⟩ (kx 2 (knt (K.mv3 (K.mv1 (K.mv3 (K.mv3 (Agb ⟨gr,gr,gr,gb (Option.some.inj h),trivial⟩)))))))))
  ·exact kx 4 (knt (K.mv3 (K.mv1 (K.mv3 (K.mv3 (Agb ⟨gr,gr,gr,gb (Option.some.inj h),trivial⟩))))))
def PS.at:Nat→PS
 | 0=>⟨fun _ _ _=>none,fun _ _=>none,fun _ _=>none,fun _ _=>none,fun _ _ _=>none,fun _ _=>none⟩
 | k+1=>⟨Agv.g (PS.at k) k,Arj.g (PS.at k) k,Arq.g (PS.at k) k,Amy.g (PS.at k) k,Arl.g (PS.at k) k,Am0.g (PS.at k) k⟩
theorem PS.good:∀ k,(PS.at k).Good
 | 0=>⟨(by unfold Agv.C;intros;rename_i h _;cases (show (none:Option _)=some _ from h)),(by unfold Arj.C;intros;rename_i h _;cases (show (none:Option _)=some _ from h)),(by unfold Arq.C;intros;rename_i h _;cases (show (none:Option _)=some _ from h)),(by unfold Amy.C;intros;rename_i h _;cases (show (none:Option _)=some _ from h)),(by unfold Arl.C;intros;rename_i h _;cases (show (none:Option _)=some _ from h)),(by unfold Am0.C;intros;rename_i h _;cases (show (none:Option _)=some _ from h))⟩
 | k+1=>⟨Agv.okg (k:=k) (PS.good k),Arj.okg (k:=k) (PS.good k),Arq.okg (k:=k) (PS.good k),Amy.okg (k:=k) (PS.good k),Arl.okg (k:=k) (PS.good k),Am0.okg (k:=k) (PS.good k)⟩
def Agv.f (k:Nat):=Agv.g (PS.at k) k
theorem Agv.ok {k:Nat}:Agv.C (Agv.f k):=Agv.okg (k:=k) (PS.good k)
structure H1 where
 Ajc:Int→ByteArray→Int→Int→List Tree→Option (Int)
def Ajc.C (fC:Int→ByteArray→Int→Int→List Tree→Option (Int)):Prop:=∀ {Aac Amj Aah r:Int} {Aam:ByteArray} {Aa9:List Tree} {Ade:Aaa} {Acu:TyO} {Acv:Nat} (h:fC Aac Aam Amj Aah Aa9=some r) (Aei:RdR (Abx 54) Ade (.slice Acu Aa9.length Acv) Aa9),Ct Tryz.prog 17 #[.agg #[iv Aac,sv Aam,iv Amj,iv Aah,.slice Acu Aa9.length Acv]] [] [Ade] (fun e l1=>e=.returned (iv r)∧l1=[])
structure H1.Good (R:H1):Prop where
 Ajc:Ajc.C R.Ajc
def Ajc.l0:Nat→(Rc:H1)→(Aa9:List Tree)→(J3:Int→Option (Int))→(x4:Int)→(x5:Int)→Option (Int)
 | 0,_,_,_,_,_=>none
 | m6+1,Rc,Aa9,J3,x4,x5=>cond (decide (x5 < ((Aa9.length:Nat):Int))) ((Acz Aa9 x5).bind fun x8=>(Rc.Ajc x8.kind x8.text x8.n x8.at_ x8.kids).bind fun r18=>Ajc.l0 m6 Rc Aa9 J3 (if r18 > x4 then r18 else x4) (IntKind.i64.wrap (x5+1))) (J3 x4)
def Ajc.g (Rc:H1) (k:Nat) (Aac:Int) (Aam:ByteArray) (Amj:Int) (Aah:Int) (Aa9:List Tree):Option (Int):=Adg (fun (x2:Int)=>some (IntKind.i64.wrap (x2+1))) (fun J3=>Ajc.l0 k Rc Aa9 J3 0 0)
theorem Ajc.okg {Rc:H1} (hR:Rc.Good) {k:Nat}:Ajc.C (Ajc.g Rc k):=by
 intro Aac Amj Aah r Aam Aa9 Ade Acu Acv h Aei
 refine Afb (args:=[.agg #[iv Aac,sv Aam,iv Amj,iv Aah,.slice Acu Aa9.length Acv]]) Tryz.func17 rfl (Nat.le_of_ble_eq_true rfl) ?_
 intro A X hh_
 obtain ⟨Beq,_⟩:=hh_
 unfold Ajc.g at h
 refine ksr (knp #[iv Aac,sv Aam,iv Amj,iv Aah,.slice Acu Aa9.length Acv] 54 fun b1=>(kx 1 (Aby (kx 1 (knt ?_)))))
 obtain ⟨J3,hJ3,h⟩:=Agm h
 refine Agn (τ:=Int) (fun t=>[(3,iv t)]) (fun t=>X) (fun t=>J3 t=some r) ?_ ?_
 ·rintro x2 h
  subst hJ3
  refine ksr (kx 3 (knt (Afj ?_)))
  obtain rfl:=Option.some.inj h
  exact kdn rfl
 ·skip
  refine ksr (kx 1 (kld 0 4 rfl (K.drop (kx 2 (knt (Aez (Akr (τ:=Int×Int) (fun t=>[(3,iv t.1),(7,.slice Acu Aa9.length Acv),(8,iv ((Aa9.length:Nat):Int)),(9,iv t.2)]) (fun t=>X) (fun m t=>Ajc.l0 m Rc Aa9 J3 t.1 t.2=some r) k (0,0) h sb rfl ?_)))))))
  clear h
  rintro m6 ⟨x4,x5⟩ h
  cases m6 with
  | zero=>simp [Ajc.l0] at h
  | succ m6 =>
   simp only [Ajc.l0] at h
   refine ksr (kx 1 (knt (Ac1 ?_)))
   refine kcn h (fun h=>?_) fun h=>?_
   ·refine Adv (Abr (Ac1 (Aez (ksr (bnd h fun x8 hx8 h=>(Aht (T:=54) (kd:=.i64) (R:=(Abx 54)) rfl hx8 Aei fun p9 u12 q13 e10 y11=>?_))))))
    obtain ⟨A14,k15,rfl,o16⟩:=Ahx 54 q13
    refine keN rfl e10 Beq (knp #[iv 0,sv noS,iv 0,iv 0,nS] 54 fun b17=>(kst 0 5 #[iv x8.kind,sv x8.text,iv x8.n,iv x8.at_,.slice A14 x8.kids.length k15] (knr (kx 1 (kla 0 0 5 rfl (K.drop (bnd h fun r18 Cws h=>(kcv (hR.Ajc Cws o16) ⟨Beq,trivial⟩ (kx 2 (knl ?_))))))))))
    exact Acx (Abr (Ach (kx 2 (knt (Aiw m6 ((if r18 > x4 then r18 else x4),IntKind.i64.wrap (x5+1)) (Nat.lt_succ_self _) h sb rfl)))))
   ·exact Akp (Af5 (Af5 (Akq (Abr (Adb x4 h sb rfl)))))
def H1.at:Nat→H1
 | 0=>⟨fun _ _ _ _ _=>none⟩
 | k+1=>⟨Ajc.g (H1.at k) k⟩
theorem H1.good:∀ k,(H1.at k).Good
 | 0=>⟨(by unfold Ajc.C;intros;rename_i h _;cases (show (none:Option _)=some _ from h))⟩
 | k+1=>⟨Ajc.okg (k:=k) (H1.good k)⟩
def Ajc.f (k:Nat):=Ajc.g (H1.at k) k
theorem Ajc.ok {k:Nat}:Ajc.C (Ajc.f k):=Ajc.okg (k:=k) (H1.good k)
def A0i.f (k:Nat) (a0:ByteArray):Option (Int×ByteArray×Int×Int×List Tree×Int×Int):=(Bgb.f k a0).bind fun r3=>cond (r3.2.1 != 0) (some (0,(⟨#[]⟩:ByteArray),0,0,[],r3.2.1,r3.2.2)) (PR.elim (Agv.f k r3.1 0 true) (fun i15=>some (0,(⟨#[]⟩:ByteArray),0,0,[],4,i15)) fun r10=>Adg (fun (_:Unit)=>some (r10.1,r10.2.1,r10.2.2.1,r10.2.2.2.1,r10.2.2.2.2.1,0,0)) (fun J16=>(Ai4.f k r3.1 r10.2.2.2.2.2).bind fun r17=>cond (r17.1 != 6) ((Ai4.f k r3.1 r10.2.2.2.2.2).bind fun r19=>PR.elim (Atp.f k r3.1 r10.2.2.2.2.2 r19.2.2.2) (fun i21=>some (0,(⟨#[]⟩:ByteArray),0,0,[],4,i21)) fun r20=>J16 ()) (J16 ())))
theorem A0i.ok {k:Nat} {a0:ByteArray} {G:Aaa} {r:Int×ByteArray×Int×Int×List Tree×Int×Int} (h:A0i.f k a0=some r) (hG:GlP G): Ct Tryz.prog 15 #[sv a0] [] [G] (fun e l1=>∃ (H0_:Aaa) (A0_:TyO) (c0_:Nat),Abp (Abx 54) 54 H0_ (.slice A0_ r.2.2.2.2.1.length c0_) r.2.2.2.2.1∧e=.returned (.tuple #[.agg #[iv r.1,sv r.2.1,iv r.2.2.1,iv r.2.2.2.1,.slice A0_ r.2.2.2.2.1.length c0_],.agg #[iv r.2.2.2.2.2.1,iv r.2.2.2.2.2.2]])∧l1=[H0_]):=by
 refine B4r (args:=[sv a0]) Tryz.func15 rfl (Nat.le_of_ble_eq_true rfl) ?_
 intro A X hh_
 obtain ⟨Adu,_⟩:=hh_
 unfold A0i.f at h
 refine ksr (knp #[iv 0,sv noS,iv 0,iv 0,nS] 54 fun b1=>(knp #[iv 0,iv 0] 28 fun b2=>(Aby (kx 1 (bnd h fun r3 hr3 h=>(kcl (Bgb.ok hr3 hG) rfl ⟨(t2 Adu),trivial⟩ ?_))))))
 rintro _ _ ⟨h4,A5,k6,o7,rfl,rfl⟩
 refine Ak8 (kx 4 (K.mv1 (kst 0 2 #[iv r3.2.1,iv r3.2.2] (knt (Ac1 (ksr (kx 1 (kld 0 0 rfl (kx 1 (knt ?_))))))))))
 refine kcn h (fun h=>?_) fun h=>?_
 ·refine Ac1 (Bu2 (kpr [(0,0),(1,3),(2,1)] [0] (kpx 1 (kpa 0 0 2 rfl (kpt (K.mv2 (ost 0 5 #[iv 0,sv noS,iv 0,iv 0,nS] (kan [1] rfl (kpz (K.mv1 ?_))))))))))
  refine kst 0 2 #[iv r3.2.1,iv r3.2.2] (K.mv2 (K.drop (knl (Bu3 (Abr (Afj (Ahj ?_)))))))
  obtain rfl:=Option.some.inj h
  exact Cb1 (v:=.tuple #[.agg #[iv 0,sv noS,iv 0,iv 0,nS],.agg #[iv r3.2.1,iv r3.2.2]]) [.val (iv 0),.val (sv noS),.val (iv 0),.val (iv 0),.val (nS),.val (iv r3.2.1),.val (iv r3.2.2)] [.ld ⟨b1,0,none⟩ (iv 0),.ld ⟨b1,1,none⟩ (sv noS),.ld ⟨b1,2,none⟩ (iv 0),.ld ⟨b1,3,none⟩ (iv 0),.ld ⟨b1,4,none⟩ (nS),.ld ⟨b2,0,none⟩ (iv r3.2.1),.ld ⟨b2,1,none⟩ (iv r3.2.2)] [none_] (by kernel_rfl) (by kernel_rfl) ⟨⟨1,_,_,_,rfl,rfl,rfl⟩,⟨1,_,_,_,rfl,rfl,rfl⟩,⟨1,_,_,_,rfl,rfl,rfl⟩,⟨1,_,_,_,rfl,rfl,rfl⟩,⟨1,_,_,_,rfl,rfl,rfl⟩,⟨0,_,_,_,rfl,rfl,rfl⟩,⟨0,_,_,_,rfl,rfl,rfl⟩,trivial⟩ (Agh (K.mv1 (K.drop (K.mv1 (K.drop (Adj ⟨none_,none,0,(Abp.nil (Abx 54) 54 none_),rfl,rfl⟩))))))
 ·refine Adv (Abr (ksr (kx 1 (Cci { target:=.fn (.func 25) #[pt b1,pt b2],args:=#[] } (by kernel_rfl) (by kernel_rfl) (by kernel_rfl) (Aby (kx 2 (knp #[.slice A5 r3.1.length k6,iv 0] 93 fun b9=>(kx 1 (Aby (kx 1 ?_))))))))))
  rcases Bmu h with ⟨i15,Aw1,h⟩ | ⟨r10,Aw1,h⟩
  ·refine kcl (Agv.ok (b0:=b9) Aw1 (Aan.rd o7)) rfl ⟨(.tail _ (.head _)),trivial⟩ ?_
   rintro _ _ ⟨rfl,rfl⟩
   refine Bl0 (Ab5 (K.mv1 (K.drop (K.mv1 ?_))))
   obtain rfl:=Option.some.inj h
   exact Bkw (v:=.tuple #[.agg #[iv 0,sv noS,iv 0,iv 0,nS],.agg #[iv 4,iv i15]]) (bk b1 #[iv 0,sv noS,iv 0,iv 0,nS] 54 :: bk b2 #[iv 4,iv i15] 28 :: X) (fun _=>by kernel_rfl) (fun w_ hw_=>Ce7 hw_) [.val (iv 0),.val (sv noS),.val (iv 0),.val (iv 0),.val (nS),.val (iv 4),.val (iv i15)] [.ld ⟨b1,0,none⟩ (iv 0),.ld ⟨b1,1,none⟩ (sv noS),.ld ⟨b1,2,none⟩ (iv 0),.ld ⟨b1,3,none⟩ (iv 0),.ld ⟨b1,4,none⟩ (nS),.ld ⟨b2,0,none⟩ (iv 4),.ld ⟨b2,1,none⟩ (iv i15)] [none_] (by kernel_rfl) (by kernel_rfl) ⟨⟨0,_,_,_,rfl,rfl,rfl⟩,⟨0,_,_,_,rfl,rfl,rfl⟩,⟨0,_,_,_,rfl,rfl,rfl⟩,⟨0,_,_,_,rfl,rfl,rfl⟩,⟨0,_,_,_,rfl,rfl,rfl⟩,⟨1,_,_,_,rfl,rfl,rfl⟩,⟨1,_,_,_,rfl,rfl,rfl⟩,trivial⟩ fun w_ hw_=>(⟨⟨none_,none,0,(Abp.nil (Abx 54) 54 none_),rfl,rfl⟩,St.Bgh 1 hw_.tail.tail⟩)
  refine kcl (Agv.ok (b0:=b9) Aw1 (Aan.rd o7)) rfl ⟨(.tail _ (.head _)),trivial⟩ ?_
  rintro _ _ ⟨h11,A12,k13,o14,rfl,rfl⟩
  refine Acg (K.mv4 (kst 0 5 #[iv r10.1,sv r10.2.1,iv r10.2.2.1,iv r10.2.2.2.1,.slice A12 r10.2.2.2.2.1.length k13] (knt ?_)))
  obtain ⟨J16,Csu,h⟩:=Agm h
  refine Agn (τ:=Unit) (fun t=>[(2,pt b1),(3,pt b2)]) (fun t=>bk b1 #[iv r10.1,sv r10.2.1,iv r10.2.2.1,iv r10.2.2.2.1,.slice A12 r10.2.2.2.2.1.length k13] 54 :: h11 :: bk b2 #[iv r3.2.1,iv r3.2.2] 28 :: X) (fun t=>J16 ()=some r) ?_ ?_
  ·rintro ⟨⟩ h
   subst Csu
   refine ksr (kla 0 0 5 rfl (kx 1 (kst 0 5 #[iv r10.1,sv r10.2.1,iv r10.2.2.1,iv r10.2.2.2.1,.slice A12 r10.2.2.2.2.1.length k13] (K.mv2 (kst 0 2 #[iv 0,iv 0] (knt (Afj ?_)))))))
   obtain rfl:=Option.some.inj h
   exact Cby (fun _=>by kernel_rfl) (C9c (pt b1) (pt b2)) (v:=.tuple #[.agg #[iv r10.1,sv r10.2.1,iv r10.2.2.1,iv r10.2.2.2.1,.slice A12 r10.2.2.2.2.1.length k13],.agg #[iv 0,iv 0]]) [.val (iv r10.1),.val (sv r10.2.1),.val (iv r10.2.2.1),.val (iv r10.2.2.2.1),.val (.slice A12 r10.2.2.2.2.1.length k13),.val (iv 0),.val (iv 0)] [.ld ⟨b1,0,none⟩ (iv r10.1),.ld ⟨b1,1,none⟩ (sv r10.2.1),.ld ⟨b1,2,none⟩ (iv r10.2.2.1),.ld ⟨b1,3,none⟩ (iv r10.2.2.2.1),.ld ⟨b1,4,none⟩ (.slice A12 r10.2.2.2.2.1.length k13),.ld ⟨b2,0,none⟩ (iv 0),.ld ⟨b2,1,none⟩ (iv 0)] [h11] (by kernel_rfl) (by kernel_rfl) ⟨⟨1,_,_,_,rfl,rfl,rfl⟩,⟨1,_,_,_,rfl,rfl,rfl⟩,⟨1,_,_,_,rfl,rfl,rfl⟩,⟨1,_,_,_,rfl,rfl,rfl⟩,⟨1,_,_,_,rfl,rfl,rfl⟩,⟨0,_,_,_,rfl,rfl,rfl⟩,⟨0,_,_,_,rfl,rfl,rfl⟩,trivial⟩ (K.drop (K.drop (Cb3 ⟨h11,A12,k13,o14,rfl,rfl⟩)))
  ·skip
   refine ksr (kx 1 (K.mv2 (bnd h fun r17 Aul h=>(kc1 (Ai4.ok (b0:=b9) Aul (Aan.rd o7)) rfl ⟨(.tail _ (.tail _ (.tail _ (.head _)))),trivial⟩ (kx 2 (knt ?_))))))
   refine kcn h (fun h=>?_) fun h=>?_
   ·refine Ach (kx 2 (bnd h fun r19 hr19 h=>(kc1 (Ai4.ok (b0:=b9) hr19 (Aan.rd o7)) rfl ⟨(.tail _ (.tail _ (.tail _ (.head _)))),trivial⟩ (kx 1 ?_))))
    rcases Bmu h with ⟨i21,A5i,h⟩ | ⟨r20,A5i,h⟩
    ·refine kcl (Atp.ok (b0:=b9) A5i (Aan.rd o7)) rfl ⟨(.tail _ (.tail _ (.tail _ (.head _)))),trivial⟩ ?_
     rintro _ _ ⟨rfl,rfl⟩
     refine Bl0 (Ab5 (K.mv1 (K.drop (K.mv2 (K.drop ?_)))))
     obtain rfl:=Option.some.inj h
     exact Bkw (v:=.tuple #[.agg #[iv 0,sv noS,iv 0,iv 0,nS],.agg #[iv 4,iv i21]]) (bk b1 #[iv 0,sv noS,iv 0,iv 0,nS] 54 :: bk b2 #[iv 4,iv i21] 28 :: X) (fun _=>by kernel_rfl) (fun w_ hw_=>Ce7 hw_) [.val (iv 0),.val (sv noS),.val (iv 0),.val (iv 0),.val (nS),.val (iv 4),.val (iv i21)] [.ld ⟨b1,0,none⟩ (iv 0),.ld ⟨b1,1,none⟩ (sv noS),.ld ⟨b1,2,none⟩ (iv 0),.ld ⟨b1,3,none⟩ (iv 0),.ld ⟨b1,4,none⟩ (nS),.ld ⟨b2,0,none⟩ (iv 4),.ld ⟨b2,1,none⟩ (iv i21)] [none_] (by kernel_rfl) (by kernel_rfl) ⟨⟨0,_,_,_,rfl,rfl,rfl⟩,⟨0,_,_,_,rfl,rfl,rfl⟩,⟨0,_,_,_,rfl,rfl,rfl⟩,⟨0,_,_,_,rfl,rfl,rfl⟩,⟨0,_,_,_,rfl,rfl,rfl⟩,⟨1,_,_,_,rfl,rfl,rfl⟩,⟨1,_,_,_,rfl,rfl,rfl⟩,trivial⟩ fun w_ hw_=>(⟨⟨none_,none,0,(Abp.nil (Abx 54) 54 none_),rfl,rfl⟩,St.Bgh 1 hw_.tail.tail⟩)
    exact kc1 (Atp.ok (b0:=b9) A5i (Aan.rd o7)) rfl ⟨(.tail _ (.tail _ (.tail _ (.head _)))),trivial⟩ (K.drop (K.mv3 (K.drop (knt (Adb () h sb rfl)))))
   ·exact Adv (Abr (K.drop (K.mv3 (K.drop (Adb () h sb rfl)))))
abbrev Tk:=Int×ByteArray×Int×Int
inductive PV (α:Type) where
 | ok (a:α) (r:List Tk)
 | bad (at_:Int)
def PV.bind {α β:Type} (x:Option (PV α)) (f:α→List Tk→Option (PV β)):Option (PV β) :=
 match x with
 | none=>none
 | some (.ok a r)=>f a r
 | some (.bad i)=>some (.bad i)
def hd (ts:List Tk):Tk:=ts.headD (6,⟨#[]⟩,0,0)
def isT (w:ByteArray) (t:Tk):Bool:=(t.1 == 2 || t.1 == 5) && t.2.1.toList == w.toList
def isH (w:ByteArray) (ts:List Tk):Bool:=isT w (hd ts)
def Amd (w:ByteArray) (ts:List Tk):Option (PV Unit):=if isH w ts then some (.ok () ts.tail) else some (.bad (hd ts).2.2.2)
abbrev Atl:ByteArray:=⟨#[59]⟩
abbrev Amo:ByteArray:=⟨#[44]⟩
abbrev kEq:ByteArray:=⟨#[61]⟩
abbrev kLp:ByteArray:=⟨#[40]⟩
abbrev kRp:ByteArray:=⟨#[41]⟩
abbrev kLb:ByteArray:=⟨#[91]⟩
abbrev kRb:ByteArray:=⟨#[93]⟩
abbrev kLc:ByteArray:=⟨#[123]⟩
abbrev kRc:ByteArray:=⟨#[125]⟩
abbrev Cbb:ByteArray:=⟨#[46]⟩
abbrev Bfw:ByteArray:=⟨#[35]⟩
abbrev A6u:ByteArray:=⟨#[45]⟩
abbrev Cbp:ByteArray:=⟨#[114,101,116,117,114,110]⟩
abbrev Bfv:ByteArray:=⟨#[102,117,110,99,116,105,111,110]⟩
abbrev Atk:ByteArray:=⟨#[101,110,100]⟩
abbrev Bfs:ByteArray:=⟨#[101,108,115,101]⟩
abbrev Bfu:ByteArray:=⟨#[101,108,115,101,105,102]⟩
abbrev kDo:ByteArray:=⟨#[100,111]⟩
abbrev Cbx:ByteArray:=⟨#[119,104,105,108,101]⟩
abbrev kIf:ByteArray:=⟨#[105,102]⟩
abbrev Cbu:ByteArray:=⟨#[116,104,101,110]⟩
abbrev Cbh:ByteArray:=⟨#[102,111,114]⟩
abbrev kIn:ByteArray:=⟨#[105,110]⟩
abbrev Cbi:ByteArray:=⟨#[108,111,99,97,108]⟩
abbrev Ca9:ByteArray:=⟨#[98,114,101,97,107]⟩
abbrev Cbj:ByteArray:=⟨#[110,105,108]⟩
abbrev Cbw:ByteArray:=⟨#[116,114,117,101]⟩
abbrev Cbe:ByteArray:=⟨#[102,97,108,115,101]⟩
abbrev Bfy:ByteArray:=⟨#[110,111,116]⟩
abbrev kOr:ByteArray:=⟨#[111,114]⟩
abbrev Ca7:ByteArray:=⟨#[97,110,100]⟩
abbrev kLt:ByteArray:=⟨#[60]⟩
abbrev kGt:ByteArray:=⟨#[62]⟩
abbrev kLe:ByteArray:=⟨#[60,61]⟩
abbrev kGe:ByteArray:=⟨#[62,61]⟩
abbrev kNe:ByteArray:=⟨#[126,61]⟩
abbrev Cbc:ByteArray:=⟨#[61,61]⟩
abbrev Cba:ByteArray:=⟨#[46,46]⟩
abbrev Cbo:ByteArray:=⟨#[43]⟩
abbrev Cbt:ByteArray:=⟨#[42]⟩
abbrev Cbq:ByteArray:=⟨#[47,47]⟩
abbrev Cbm:ByteArray:=⟨#[37]⟩
abbrev noB:ByteArray:=⟨#[]⟩
def Asa (kind:Int) (ts:List Tk):Option (PV Tree) :=
 if (hd ts).1=1 then some (.ok (.mk kind (hd ts).2.1 0 (hd ts).2.2.2 []) ts.tail) else some (.bad (hd ts).2.2.2)
def Aop:Nat→List Tree→List Tk→Option (PV (List Tree))
 | 0,_,_=>none
 | f+1,acc,ts=>if isH Amo ts then PV.bind (Asa 6 ts.tail) fun n r=>Aop f (acc++[n]) r else some (.ok acc ts)
def A0f (f:Nat) (ts:List Tk):Option (PV (List Tree)):=PV.bind (Asa 6 ts) fun n r=>Aop f [n] r
def Akv (ts:List Tk):Int :=
 if isH kOr ts then 1 else if isH Ca7 ts then 2
 else if isH kLt ts || isH kGt ts || isH kLe ts || isH kGe ts || isH kNe ts || isH Cbc ts then 3
 else if isH Cba ts then 4 else if isH Cbo ts || isH A6u ts then 5 else if isH Cbt ts || isH Cbq ts || isH Cbm ts then 6 else 0
def A4w (ts:List Tk):Bool:=(hd ts).1 == 6 || isH Atk ts || isH Bfs ts || isH Bfu ts
mutual
def Ahk:Nat→Int→List Tk→Option (PV Tree)
 | 0,_,_=>none
 | f+1,least,ts=>PV.bind (Akz f ts) fun n r=>Aky f least n r
def Aky:Nat→Int→Tree→List Tk→Option (PV Tree)
 | 0,_,_,_=>none
 | f+1,least,n,ts =>
  if Akv ts≤least then some (.ok n ts)
  else PV.bind (Ahk f (if Akv ts=4 then 3 else Akv ts) ts.tail) fun m r=>Aky f least (.mk 11 (hd ts).2.1 0 n.at_ [n,m]) r
def Akz:Nat→List Tk→Option (PV Tree)
 | 0,_=>none
 | f+1,ts =>
  if (hd ts).1=3 then some (.ok (.mk 4 noB (hd ts).2.2.1 (hd ts).2.2.2 []) ts.tail)
  else if (hd ts).1=4 then some (.ok (.mk 5 (hd ts).2.1 0 (hd ts).2.2.2 []) ts.tail)
  else if isH Cbj ts then some (.ok (.mk 1 noB 0 (hd ts).2.2.2 []) ts.tail)
  else if isH Cbw ts then some (.ok (.mk 2 noB 0 (hd ts).2.2.2 []) ts.tail)
  else if isH Cbe ts then some (.ok (.mk 3 noB 0 (hd ts).2.2.2 []) ts.tail)
  else if isH Bfy ts || isH Bfw ts || isH A6u ts then PV.bind (Ahk f 7 ts.tail) fun m r=>some (.ok (.mk 10 (hd ts).2.1 0 (hd ts).2.2.2 [m]) r)
  else if isH kLc ts then PV.bind (Aj7 f [] ts.tail) fun l r=>some (.ok (.mk 12 noB 0 (hd ts).2.2.2 l) r)
  else Ak2 f ts
def Aj7:Nat→List Tree→List Tk→Option (PV (List Tree))
 | 0,_,_=>none
 | f+1,acc,ts =>
  if isH kRc ts then some (.ok acc ts.tail)
  else PV.bind (Amb f ts) fun x r =>
   if isH Amo r then Aj7 f (acc++[x]) r.tail
   else if isH Atl r then Aj7 f (acc++[x]) r.tail
   else PV.bind (Amd kRc r) fun _ r=>some (.ok (acc++[x]) r)
def Amb:Nat→List Tk→Option (PV Tree)
 | 0,_=>none
 | f+1,ts =>
  if isH kLb ts then
   PV.bind (Ahk f 0 ts.tail) fun k r=>PV.bind (Amd kRb r) fun _ r=>PV.bind (Amd kEq r) fun _ r=>PV.bind (Ahk f 0 r) fun v r=>some (.ok (.mk 14 noB 0 (hd ts).2.2.2 [k,v]) r)
  else if (hd ts).1=1∧(hd ts.tail).1=5∧(hd ts.tail).2.1.toList=kEq.toList then
   PV.bind (Ahk f 0 ts.tail.tail) fun v r=>some (.ok (.mk 14 noB 0 (hd ts).2.2.2 [.mk 5 (hd ts).2.1 0 (hd ts).2.2.2 [],v]) r)
  else PV.bind (Ahk f 0 ts) fun v r=>some (.ok (.mk 13 noB 0 (hd ts).2.2.2 [v]) r)
def Ak2:Nat→List Tk→Option (PV Tree)
 | 0,_=>none
 | f+1,ts =>
  if isH kLp ts then PV.bind (Ahk f 0 ts.tail) fun e r=>PV.bind (Amd kRp r) fun _ r=>Aj9 f (hd ts).2.2.2 (.mk 9 noB 0 (hd ts).2.2.2 [e]) r
  else PV.bind (Asa 6 ts) fun n r=>Aj9 f (hd ts).2.2.2 n r
def Aj9:Nat→Int→Tree→List Tk→Option (PV Tree)
 | 0,_,_,_=>none
 | f+1,at_,n,ts =>
  if isH kLb ts then PV.bind (Ahk f 0 ts.tail) fun e r=>PV.bind (Amd kRb r) fun _ r=>Aj9 f at_ (.mk 7 noB 0 at_ [n,e]) r
  else if isH Cbb ts then PV.bind (Asa 5 ts.tail) fun e r=>Aj9 f at_ (.mk 7 noB 0 at_ [n,e]) r
  else if isH kLp ts then
   PV.bind (if isH kRp ts.tail then some (.ok [] ts.tail) else Aj5 f ts.tail) fun l r=>PV.bind (Amd kRp r) fun _ r=>Aj9 f at_ (.mk 8 noB 0 at_ (n :: l)) r
  else some (.ok n ts)
def Aj5:Nat→List Tk→Option (PV (List Tree))
 | 0,_=>none
 | f+1,ts=>PV.bind (Ahk f 0 ts) fun e r=>Ald f [e] r
def Ald:Nat→List Tree→List Tk→Option (PV (List Tree))
 | 0,_,_=>none
 | f+1,acc,ts=>if isH Amo ts then PV.bind (Ahk f 0 ts.tail) fun e r=>Ald f (acc++[e]) r else some (.ok acc ts)
end
mutual
def Aj4:Nat→Bool→List Tk→Option (PV Tree)
 | 0,_,_=>none
 | f+1,chunk,ts=>Ajo f chunk (hd ts).2.2.2 [] ts
def Ajo:Nat→Bool→Int→List Tree→List Tk→Option (PV Tree)
 | 0,_,_,_,_=>none
 | f+1,chunk,at_,acc,ts =>
  if isH Atl ts then Ajo f chunk at_ acc ts.tail
  else if isH Cbp ts then
   PV.bind (if A4w ts.tail || isH Atl ts.tail then some (.ok [] ts.tail) else Aj5 f ts.tail) fun l r =>
    some (.ok (.mk 20 noB 0 at_ (acc++[.mk 30 noB 0 (hd ts).2.2.2 l])) (if isH Atl r then r.tail else r))
  else if chunk && isH Bfv ts then PV.bind (Amx f ts) fun x r=>Ajo f chunk at_ (acc++[x]) r
  else if A4w ts then some (.ok (.mk 20 noB 0 at_ acc) ts)
  else PV.bind (Alu f ts) fun x r=>Ajo f chunk at_ (acc++[x]) r
def Amx:Nat→List Tk→Option (PV Tree)
 | 0,_=>none
 | f+1,ts =>
  PV.bind (Asa 6 ts.tail) fun nm r=>PV.bind (Amd kLp r) fun _ r =>
   PV.bind (if isH kRp r then some (.ok [] r) else A0f f r) fun ps r=>PV.bind (Amd kRp r) fun _ r =>
    PV.bind (Aj4 f false r) fun b r=>PV.bind (Amd Atk r) fun _ r=>some (.ok (.mk 31 nm.text ps.length (hd ts).2.2.2 (ps++[b])) r)
/-- do, a block, end. -/
def Alc:Nat→List Tk→Option (PV Tree)
 | 0,_=>none
 | f+1,ts=>PV.bind (Amd kDo ts) fun _ r=>PV.bind (Aj4 f false r) fun b r=>PV.bind (Amd Atk r) fun _ r=>some (.ok b r)
def Alu:Nat→List Tk→Option (PV Tree)
 | 0,_=>none
 | f+1,ts =>
  if isH kDo ts then PV.bind (Alc f ts) fun b r=>some (.ok (.mk 28 noB 0 (hd ts).2.2.2 [b]) r)
  else if isH Cbx ts then PV.bind (Ahk f 0 ts.tail) fun e r=>PV.bind (Alc f r) fun b r=>some (.ok (.mk 25 noB 0 (hd ts).2.2.2 [e,b]) r)
  else if isH kIf ts then PV.bind (Al9 f [] ts.tail) fun l r=>some (.ok (.mk 24 noB 0 (hd ts).2.2.2 l) r)
  else if isH Cbh ts then Amw f (hd ts).2.2.2 ts.tail
  else if isH Cbi ts then
   PV.bind (A0f f ts.tail) fun l r=>PV.bind (if isH kEq r then Aj5 f r.tail else some (.ok [] r)) fun es r=>some (.ok (.mk 21 noB l.length (hd ts).2.2.2 (l++es)) r)
  else if isH Ca9 ts then some (.ok (.mk 29 noB 0 (hd ts).2.2.2 []) ts.tail)
  else Amc f ts
def Al9:Nat→List Tree→List Tk→Option (PV (List Tree))
 | 0,_,_=>none
 | f+1,acc,ts =>
  PV.bind (Ahk f 0 ts) fun e r=>PV.bind (Amd Cbu r) fun _ r=>PV.bind (Aj4 f false r) fun b r =>
   if isH Bfu r then Al9 f (acc++[e]++[b]) r.tail
   else if isH Bfs r then PV.bind (Aj4 f false r.tail) fun c r=>PV.bind (Amd Atk r) fun _ r=>some (.ok (acc++[e]++[b]++[c]) r)
   else PV.bind (Amd Atk r) fun _ r=>some (.ok (acc++[e]++[b]) r)
def Amw:Nat→Int→List Tk→Option (PV Tree)
 | 0,_,_=>none
 | f+1,at_,ts =>
  PV.bind (Asa 6 ts) fun n r =>
   if isH kEq r then
    PV.bind (Ahk f 0 r.tail) fun a r=>PV.bind (Amd Amo r) fun _ r=>PV.bind (Ahk f 0 r) fun b r =>
     PV.bind (if isH Amo r then PV.bind (Ahk f 0 r.tail) fun c r=>some (.ok [c] r) else some (.ok [] r)) fun cs r=>PV.bind (Alc f r) fun bd r =>
      some (.ok (.mk 26 noB 0 at_ ([n]++[a]++[b]++cs++[bd])) r)
   else
    PV.bind (Aop f [n] r) fun l r=>PV.bind (Amd kIn r) fun _ r=>PV.bind (Aj5 f r) fun es r=>PV.bind (Alc f r) fun bd r =>
     some (.ok (.mk 27 noB l.length at_ (l++es++[bd])) r)
def Amc:Nat→List Tk→Option (PV Tree)
 | 0,_=>none
 | f+1,ts =>
  PV.bind (Ak2 f ts) fun e r =>
   if isH kEq r || isH Amo r then
    PV.bind (Alg f [] e r) fun l r=>PV.bind (Amd kEq r) fun _ r=>PV.bind (Aj5 f r) fun es r=>some (.ok (.mk 22 noB l.length e.at_ (l++es)) r)
   else if e.kind=8 then some (.ok (.mk 23 noB 0 e.at_ [e]) r) else some (.bad (hd r).2.2.2)
/-- The targets of an assignment, from e on. -/
def Alg:Nat→List Tree→Tree→List Tk→Option (PV (List Tree))
 | 0,_,_,_=>none
 | f+1,acc,e,ts =>
  if e.kind=6∨e.kind=7 then
   if isH Amo ts then PV.bind (Ak2 f ts.tail) fun e' r=>Alg f (acc++[e]) e' r else some (.ok (acc++[e]) ts)
  else some (.bad e.at_)
end
def Good:List Tk→Prop
 | []=>False
 | [t]=>t.1=6
 | t :: u :: ts=>t.1≠6∧Good (u :: ts)
theorem Good.tail {ts:List Tk} (h:Good ts) (h6:(hd ts).1≠6):Good ts.tail∧ts.tail.length+1=ts.length∧ts.tail <:+ ts:=by
 cases ts with
 | nil=>exact h.elim
 | cons t ts =>
  cases ts with
  | nil=>exact absurd h h6
  | cons u ts=>exact ⟨h.2,rfl,List.suffix_cons t _⟩
theorem Abt {w:ByteArray} {ts:List Tk} (h:isH w ts=true):(hd ts).1≠6:=by
 unfold isH isT at h
 intro h6
 rw [h6] at h
 simp at h
def Fwd {α:Type} (n:Nat) (ts:List Tk):PV α→Prop
 | .ok _ r=>Good r∧r.length+n≤ts.length∧r <:+ ts
 | .bad _=>True
def Step {α:Type} (n:Nat) (ts:List Tk) (x:Option (PV α)):Prop:=Good ts→∀ v,x=some v→Fwd n ts v
section
variable {α β:Type} {n m:Nat} {ts:List Tk} {x:Option (PV α)} {f:α→List Tk→Option (PV β)}
theorem bind_some {v:PV β} (h:PV.bind x f=some v):(∃ i,x=some (.bad i)∧v=.bad i)∨∃ a r,x=some (.ok a r)∧f a r=some v:=by
 unfold PV.bind at h
 split at h
 ·cases h
 ·exact .inr ⟨_,_,rfl,h⟩
 ·exact .inl ⟨_,rfl,(Option.some.inj h).symm⟩
theorem Afo (h1:Step n ts x) (h2:∀ a r,Step m r (f a r)):Step (n+m) ts (PV.bind x f):=fun hg v hv=>by
 rcases bind_some hv with ⟨i,_,rfl⟩ | ⟨a,r,hx,hf⟩
 ·trivial
 ·obtain ⟨g1,g2,g3⟩:=h1 hg _ hx
  have:=h2 a r g1 v hf
  cases v with
  | bad=>trivial
  | ok b s =>
   obtain ⟨g4,g5,g6⟩:=this
   exact ⟨g4,by omega,g6.trans g3⟩
theorem Ahe (h:Step n ts x) (hm:m≤n):Step m ts x:=fun hg v hv=>by
 have:=h hg v hv
 cases v with
 | bad=>trivial
 | ok b s=>exact ⟨this.1,by have:=this.2.1;omega,this.2.2⟩
theorem step_none:Step n ts (none:Option (PV α)):=fun _ _ h=>by cases h
theorem step_bad {i:Int}:Step n ts (some (.bad i):Option (PV α)):=fun _ _ h=>by cases h;trivial
theorem step_ok {a:α}:Step 0 ts (some (.ok a ts)):=fun hg _ h=>by cases h;exact ⟨hg,Nat.le_refl _,List.suffix_refl _⟩
theorem Aia (h6:(hd ts).1≠6) (h:Step m ts.tail x):Step (m+1) ts x:=fun hg v hv=>by
 obtain ⟨g1,g2,g3⟩:=hg.tail h6
 have:=h g1 v hv
 cases v with
 | bad=>trivial
 | ok b s=>exact ⟨this.1,by have:=this.2.1;omega,this.2.2.trans g3⟩
theorem Ag4 {c:Prop} [Decidable c] {y z:Option (PV α)} (h1:c→Step n ts y) (h2:¬ c→Step n ts z):Step n ts (if c then y else z):=by
 by_cases h:c
 ·rw [if_pos h];exact h1 h
 ·rw [if_neg h];exact h2 h
theorem Ajg (w:ByteArray) (ts:List Tk):Step 1 ts (Amd w ts):=Ag4 (fun h=>Aia (Abt h) step_ok) fun _=>step_bad
theorem Atu (k:Int) (ts:List Tk):Step 1 ts (Asa k ts):=Ag4 (fun h=>Aia (by omega) step_ok) fun _=>step_bad
theorem Bhp:∀ (f:Nat) (acc:List Tree) (ts:List Tk),Step 0 ts (Aop f acc ts)
 | 0,_,_=>step_none
 | f+1,acc,ts=>by
  unfold Aop
  exact Ag4 (fun h=>Ahe (Aia (Abt h) (Afo (Atu 6 _) fun _ _=>Bhp f _ _)) (Nat.zero_le _)) fun _=>step_ok
theorem Bn0 (f:Nat) (ts:List Tk):Step 1 ts (A0f f ts):=Afo (Atu 6 ts) fun _ _=>Bhp f _ _
end
structure Ck0 (f:Nat):Prop where
 exp:∀ least ts,Step 1 ts (Ahk f least ts)
 loop:∀ least n ts,Step 0 ts (Aky f least n ts)
 operand:∀ ts,Step 1 ts (Akz f ts)
 fields:∀ acc ts,Step 1 ts (Aj7 f acc ts)
 field:∀ ts,Step 1 ts (Amb f ts)
 Akh:∀ ts,Step 1 ts (Ak2 f ts)
 Aik:∀ at_ n ts,Step 0 ts (Aj9 f at_ n ts)
 Ag7:∀ ts,Step 1 ts (Aj5 f ts)
 Aod:∀ acc ts,Step 0 ts (Ald f acc ts)
theorem A9s {ts:List Tk} (h:Akv ts≠0):(hd ts).1≠6:=by
 intro h6
 have hf:∀ w,isH w ts=false:=fun w=>by
  cases hw:isH w ts with
  | false=>rfl
  | true=>exact absurd h6 (Abt hw)
 exact h (by simp [Akv,hf])
theorem B3z (ts:List Tk):0≤Akv ts∧Akv ts≤6:=by
 unfold Akv
 repeat' split
 all_goals omega
theorem Ayw:∀ f,Ck0 f
 | 0=>by constructor <;> intros <;> (first | unfold Ahk | unfold Aky | unfold Akz | unfold Aj7 | unfold Amb | unfold Ak2 | unfold Aj9 | unfold Aj5 | unfold Ald) <;> exact step_none
 | f+1=>by
  have ih:=Ayw f
  constructor
  ·intro least ts;unfold Ahk
   exact Afo (ih.operand ts) fun _ _=>ih.loop _ _ _
  ·intro least n ts;unfold Aky
   refine Ag4 (fun _=>step_ok) fun h=>?_
   by_cases h0:Akv ts=0
   ·-- a least below 0 is never asked for; then nothing is eaten
    intro hg v hv
    by_cases h6:(hd ts).1=6
    ·rcases bind_some hv with ⟨i,_,rfl⟩ | ⟨a,r,hx,hf⟩
     ·trivial
     ·exfalso
      cases ts with
      | nil=>exact hg
      | cons t ts =>
       cases ts with
       | nil =>
        have hx':Ahk f (if Akv [t]=4 then 3 else Akv [t]) []=some (.ok a r):=hx
        clear hx hf hv
        cases f with
        | zero=>unfold Ahk at hx';cases hx'
        | succ f =>
         unfold Ahk at hx'
         rcases bind_some hx' with ⟨i,_,he⟩ | ⟨a',r',hx,hf⟩
         ·cases he
         ·cases f with
          | zero=>unfold Akz at hx;cases hx
          | succ f =>
           unfold Akz at hx
           simp only [hd,List.headD_nil,isH,isT] at hx
           cases f with
           | zero=>unfold Ak2 at hx;simp at hx
           | succ f=>unfold Ak2 at hx;simp [isH,isT,hd,Asa,PV.bind] at hx
       | cons u ts=>exact hg.1 h6
    ·exact (Ahe (Aia h6 (Afo (ih.exp _ _) fun _ _=>ih.loop _ _ _)) (Nat.zero_le _)) hg v hv
   ·exact Ahe (Aia (A9s h0) (Afo (ih.exp _ _) fun _ _=>ih.loop _ _ _)) (Nat.zero_le _)
  ·intro ts;unfold Akz
   refine Ag4 (fun h=>Aia (by omega) step_ok) fun _=>?_
   refine Ag4 (fun h=>Aia (by omega) step_ok) fun _=>?_
   refine Ag4 (fun h=>Aia (Abt h) step_ok) fun _=>?_
   refine Ag4 (fun h=>Aia (Abt h) step_ok) fun _=>?_
   refine Ag4 (fun h=>Aia (Abt h) step_ok) fun _=>?_
   refine Ag4 (fun h=>?_) fun _=>?_
   ·have h6:(hd ts).1≠6:=by
     simp only [Bool.or_eq_true] at h
     rcases h with (h | h) | h <;> exact Abt h
    exact Ahe (Aia h6 (Afo (ih.exp _ _) fun _ _=>step_ok)) (by omega)
   refine Ag4 (fun h=>?_) fun _=>?_
   ·exact Ahe (Aia (Abt h) (Afo (ih.fields _ _) fun _ _=>step_ok)) (by omega)
   ·exact ih.Akh ts
  ·intro acc ts;unfold Aj7
   refine Ag4 (fun h=>Aia (Abt h) step_ok) fun _=>?_
   refine Ahe (Afo (m:=0) (ih.field ts) fun x r=>?_) (by omega)
   refine Ag4 (fun h=>Ahe (Aia (Abt h) (ih.fields _ _)) (by omega)) fun _=>?_
   refine Ag4 (fun h=>Ahe (Aia (Abt h) (ih.fields _ _)) (by omega)) fun _=>?_
   exact Ahe (Afo (Ajg _ _) fun _ _=>step_ok) (by omega)
  ·intro ts;unfold Amb
   refine Ag4 (fun h=>?_) fun _=>?_
   ·exact Ahe (Aia (Abt h) (Afo (ih.exp _ _) fun _ _=>Afo (Ajg _ _) fun _ _=>Afo (Ajg _ _) fun _ _=>Afo (ih.exp _ _) fun _ _=>step_ok)) (by omega)
   refine Ag4 (fun h=>?_) fun _=>?_
   ·obtain ⟨h1,h2,_⟩:=h
    exact Ahe (Aia (by omega) (Aia (by omega) (Afo (ih.exp _ _) fun _ _=>step_ok))) (by omega)
   ·exact Afo (ih.exp _ _) fun _ _=>step_ok
  ·intro ts;unfold Ak2
   refine Ag4 (fun h=>?_) fun _=>?_
   ·exact Ahe (Aia (Abt h) (Afo (ih.exp _ _) fun _ _=>Afo (Ajg _ _) fun _ _=>ih.Aik _ _ _)) (by omega)
   ·exact Afo (Atu _ _) fun _ _=>ih.Aik _ _ _
  ·intro at_ n ts;unfold Aj9
   refine Ag4 (fun h=>?_) fun _=>?_
   ·exact Ahe (Aia (Abt h) (Afo (ih.exp _ _) fun _ _=>Afo (Ajg _ _) fun _ _=>ih.Aik _ _ _)) (by omega)
   refine Ag4 (fun h=>?_) fun _=>?_
   ·exact Ahe (Aia (Abt h) (Afo (Atu _ _) fun _ _=>ih.Aik _ _ _)) (by omega)
   refine Ag4 (fun h=>?_) fun _=>step_ok
   ·refine Ahe (Aia (Abt h) (Afo (n:=0) ?_ fun _ _=>Afo (Ajg _ _) fun _ _=>ih.Aik _ _ _)) (by omega)
    exact Ag4 (fun _=>step_ok) fun _=>Ahe (ih.Ag7 _) (by omega)
  ·intro ts;unfold Aj5
   exact Afo (ih.exp _ _) fun _ _=>ih.Aod _ _
  ·intro acc ts;unfold Ald
   exact Ag4 (fun h=>Ahe (Aia (Abt h) (Afo (ih.exp _ _) fun _ _=>ih.Aod _ _)) (by omega)) fun _=>step_ok
structure Ck2 (f:Nat):Prop where
 block:∀ c ts,Step 0 ts (Aj4 f c ts)
 Ajy:∀ c at_ acc ts,Step 0 ts (Ajo f c at_ acc ts)
 function:∀ ts,(hd ts).1≠6→Step 1 ts (Amx f ts)
 body:∀ ts,Step 1 ts (Alc f ts)
 stat:∀ ts,Step 1 ts (Alu f ts)
 branches:∀ acc ts,Step 1 ts (Al9 f acc ts)
 for_:∀ at_ ts,Step 1 ts (Amw f at_ ts)
 plain:∀ ts,Step 1 ts (Amc f ts)
 targets:∀ acc e ts,Step 0 ts (Alg f acc e ts)
theorem stepS:∀ f,Ck2 f
 | 0=>by constructor <;> intros <;> (first | unfold Aj4 | unfold Ajo | unfold Amx | unfold Alc | unfold Alu | unfold Al9 | unfold Amw | unfold Amc | unfold Alg) <;> exact step_none
 | f+1=>by
  have ih:=stepS f
  have ie:=Ayw f
  constructor
  ·intro c ts;unfold Aj4
   exact ih.Ajy _ _ _ _
  ·intro c at_ acc ts;unfold Ajo
   refine Ag4 (fun h=>Ahe (Aia (Abt h) (ih.Ajy _ _ _ _)) (by omega)) fun _=>?_
   refine Ag4 (fun h=>?_) fun _=>?_
   ·refine Ahe (Aia (Abt h) (Afo (n:=0) (m:=0) ?_ fun l r=>?_)) (by omega)
    ·exact Ag4 (fun _=>step_ok) fun _=>Ahe (ie.Ag7 _) (by omega)
    ·by_cases h:isH Atl r=true
     ·rw [if_pos h];exact Ahe (Aia (Abt h) step_ok) (by omega)
     ·rw [if_neg h];exact step_ok
   refine Ag4 (fun h=>?_) fun _=>?_
   ·simp only [Bool.and_eq_true] at h
    exact Ahe (Afo (ih.function _ (Abt h.2)) fun _ _=>ih.Ajy _ _ _ _) (by omega)
   refine Ag4 (fun _=>step_ok) fun _=>?_
   exact Ahe (Afo (ih.stat _) fun _ _=>ih.Ajy _ _ _ _) (by omega)
  ·intro ts h6;unfold Amx
   refine Ahe (Aia h6 (Afo (Atu _ _) fun _ _=>Afo (Ajg _ _) fun _ r=>Afo (n:=0) ?_ fun _ _=>Afo (Ajg _ _) fun _ _=>Afo (ih.block _ _) fun _ _=>Afo (Ajg _ _) fun _ _=>step_ok)) (by omega)
   exact Ag4 (fun _=>step_ok) fun _=>Ahe (Bn0 f r) (by omega)
  ·intro ts;unfold Alc
   exact Ahe (Afo (Ajg _ _) fun _ _=>Afo (ih.block _ _) fun _ _=>Afo (Ajg _ _) fun _ _=>step_ok) (by omega)
  ·intro ts;unfold Alu
   refine Ag4 (fun h=>Afo (ih.body _) fun _ _=>step_ok) fun _=>?_
   refine Ag4 (fun h=>Ahe (Aia (Abt h) (Afo (ie.exp _ _) fun _ _=>Afo (ih.body _) fun _ _=>step_ok)) (by omega)) fun _=>?_
   refine Ag4 (fun h=>Ahe (Aia (Abt h) (Afo (ih.branches _ _) fun _ _=>step_ok)) (by omega)) fun _=>?_
   refine Ag4 (fun h=>Ahe (Aia (Abt h) (ih.for_ _ _)) (by omega)) fun _=>?_
   refine Ag4 (fun h=>?_) fun _=>?_
   ·refine Ahe (Aia (Abt h) (Afo (Bn0 f _) fun _ r=>Afo (n:=0) ?_ fun _ _=>step_ok)) (by omega)
    exact Ag4 (fun h=>Ahe (Aia (Abt h) (ie.Ag7 _)) (by omega)) fun _=>step_ok
   refine Ag4 (fun h=>Aia (Abt h) step_ok) fun _=>ih.plain _
  ·intro acc ts;unfold Al9
   refine Ahe (Afo (ie.exp _ _) fun _ _=>Afo (Ajg _ _) fun _ _=>Afo (m:=0) (ih.block _ _) fun _ r=>?_) (by omega)
   refine Ag4 (fun h=>Ahe (Aia (Abt h) (ih.branches _ _)) (by omega)) fun _=>?_
   refine Ag4 (fun h=>Ahe (Aia (Abt h) (Afo (ih.block _ _) fun _ _=>Afo (Ajg _ _) fun _ _=>step_ok)) (by omega)) fun _=>?_
   exact Ahe (Afo (Ajg _ _) fun _ _=>step_ok) (by omega)
  ·intro at_ ts;unfold Amw
   refine Ahe (Afo (m:=0) (Atu _ _) fun n r=>?_) (by omega)
   refine Ag4 (fun h=>?_) fun _=>?_
   ·refine Ahe (Aia (Abt h) (Afo (ie.exp _ _) fun _ _=>Afo (Ajg _ _) fun _ _=>Afo (ie.exp _ _) fun _ r=>Afo (n:=0) ?_ fun _ _=>Afo (ih.body _) fun _ _=>step_ok)) (by omega)
    exact Ag4 (fun h=>Ahe (Aia (Abt h) (Afo (ie.exp _ _) fun _ _=>step_ok)) (by omega)) fun _=>step_ok
   ·exact Ahe (Afo (Bhp _ _ _) fun _ _=>Afo (Ajg _ _) fun _ _=>Afo (ie.Ag7 _) fun _ _=>Afo (ih.body _) fun _ _=>step_ok) (by omega)
  ·intro ts;unfold Amc
   refine Ahe (Afo (m:=0) (ie.Akh _) fun e r=>?_) (by omega)
   refine Ag4 (fun h=>?_) fun _=>?_
   ·exact Ahe (Afo (ih.targets _ _ _) fun _ _=>Afo (Ajg _ _) fun _ _=>Afo (ie.Ag7 _) fun _ _=>step_ok) (by omega)
   ·exact Ag4 (fun _=>step_ok) fun _=>step_bad
  ·intro acc e ts;unfold Alg
   refine Ag4 (fun _=>?_) fun _=>step_bad
   exact Ag4 (fun h=>Ahe (Aia (Abt h) (Afo (ie.Akh _) fun _ _=>ih.targets _ _ _)) (by omega)) fun _=>step_ok
theorem Afv {α β:Type} {n:Nat} {ts:List Tk} {x:Option (PV α)} {f:α→List Tk→Option (PV β)} (hg:Good ts) (h1:∃ v,x=some v) (hs:Step n ts x) (h2:∀ a r,Good r→r.length+n≤ts.length→∃ v,f a r=some v):∃ v,PV.bind x f=some v:=by
 obtain ⟨v,rfl⟩:=h1
 cases v with
 | bad i=>exact ⟨_,rfl⟩
 | ok a r =>
  obtain ⟨g1,g2,_⟩:=hs hg _ rfl
  exact h2 a r g1 g2
theorem Ahu {α:Type} {c:Prop} [Decidable c] {y z:Option (PV α)} (h1:c→∃ v,y=some v) (h2:¬ c→∃ v,z=some v):∃ v,(if c then y else z)=some v:=by
 by_cases h:c
 ·rw [if_pos h];exact h1 h
 ·rw [if_neg h];exact h2 h
theorem Ary (w:ByteArray) (ts:List Tk):∃ v,Amd w ts=some v:=Ahu (fun _=>⟨_,rfl⟩) fun _=>⟨_,rfl⟩
theorem A8r (k:Int) (ts:List Tk):∃ v,Asa k ts=some v:=Ahu (fun _=>⟨_,rfl⟩) fun _=>⟨_,rfl⟩
theorem Bbx:∀ (f:Nat) (acc:List Tree) (ts:List Tk),Good ts→16 * ts.length+1≤f→∃ v,Aop f acc ts=some v
 | 0,_,_,_,h=>by omega
 | f+1,acc,ts,hg,h=>by
  unfold Aop
  refine Ahu (fun hc=>?_) fun _=>⟨_,rfl⟩
  obtain ⟨g1,g2,_⟩:=hg.tail (Abt hc)
  exact Afv g1 (A8r _ _) (Atu _ _) fun a r hr hl=>Bbx f _ r hr (by omega)
structure Ck3 (f:Nat):Prop where
 exp:∀ least ts,0≤least→Good ts→16 * ts.length+5≤f→∃ v,Ahk f least ts=some v
 loop:∀ least n ts,0≤least→Good ts→16 * ts.length+1≤f→∃ v,Aky f least n ts=some v
 operand:∀ ts,Good ts→16 * ts.length+4≤f→∃ v,Akz f ts=some v
 fields:∀ acc ts,Good ts→16 * ts.length+7≤f→∃ v,Aj7 f acc ts=some v
 field:∀ ts,Good ts→16 * ts.length+6≤f→∃ v,Amb f ts=some v
 Akh:∀ ts,Good ts→16 * ts.length+3≤f→∃ v,Ak2 f ts=some v
 Aik:∀ at_ n ts,Good ts→16 * ts.length+1≤f→∃ v,Aj9 f at_ n ts=some v
 Ag7:∀ ts,Good ts→16 * ts.length+6≤f→∃ v,Aj5 f ts=some v
 Aod:∀ acc ts,Good ts→16 * ts.length+1≤f→∃ v,Ald f acc ts=some v
theorem Aoz:∀ f,Ck3 f
 | 0=>by constructor <;> intros <;> omega
 | f+1=>by
  have ih:=Aoz f
  have st:=Ayw f
  constructor
  ·intro least ts hl hg h;unfold Ahk
   exact Afv hg (ih.operand _ hg (by omega)) (st.operand _) fun a r hr hn=>ih.loop _ _ _ hl hr (by omega)
  ·intro least n ts hl hg h;unfold Aky
   refine Ahu (fun _=>⟨_,rfl⟩) fun hb=>?_
   obtain ⟨g1,g2,_⟩:=hg.tail (A9s (by omega))
   exact Afv g1 (ih.exp _ _ (by split <;> omega) g1 (by omega)) (st.exp _ _) fun a r hr hn=>ih.loop _ _ _ hl hr (by omega)
  ·intro ts hg h;unfold Akz
   refine Ahu (fun _=>⟨_,rfl⟩) fun _=>Ahu (fun _=>⟨_,rfl⟩) fun _=>Ahu (fun _=>⟨_,rfl⟩) fun _=>Ahu (fun _=>⟨_,rfl⟩) fun _=>Ahu (fun _=>⟨_,rfl⟩) fun _=>Ahu (fun hc=>?_) fun _=>Ahu (fun hc=>?_) fun _=>ih.Akh _ hg (by omega)
   ·have h6:(hd ts).1≠6:=by
     simp only [Bool.or_eq_true] at hc
     rcases hc with (h | h) | h <;> exact Abt h
    obtain ⟨g1,g2,_⟩:=hg.tail h6
    exact Afv g1 (ih.exp _ _ (by omega) g1 (by omega)) (st.exp _ _) fun a r _ _=>⟨_,rfl⟩
   ·obtain ⟨g1,g2,_⟩:=hg.tail (Abt hc)
    exact Afv g1 (ih.fields _ _ g1 (by omega)) (st.fields _ _) fun a r _ _=>⟨_,rfl⟩
  ·intro acc ts hg h;unfold Aj7
   refine Ahu (fun _=>⟨_,rfl⟩) fun _=>Afv hg (ih.field _ hg (by omega)) (st.field _) fun x r hr hn=>?_
   refine Ahu (fun hc=>?_) fun _=>Ahu (fun hc=>?_) fun _=>Afv hr (Ary _ _) (Ajg _ _) fun _ _ _ _=>⟨_,rfl⟩
   ·obtain ⟨g1,g2,_⟩:=hr.tail (Abt hc)
    exact ih.fields _ _ g1 (by omega)
   ·obtain ⟨g1,g2,_⟩:=hr.tail (Abt hc)
    exact ih.fields _ _ g1 (by omega)
  ·intro ts hg h;unfold Amb
   refine Ahu (fun hc=>?_) fun _=>Ahu (fun hc=>?_) fun _=>Afv hg (ih.exp _ _ (by omega) hg (by omega)) (st.exp _ _) fun _ _ _ _=>⟨_,rfl⟩
   ·obtain ⟨g1,g2,_⟩:=hg.tail (Abt hc)
    exact Afv g1 (ih.exp _ _ (by omega) g1 (by omega)) (st.exp _ _) fun _ r hr hn=>Afv hr (Ary _ _) (Ajg _ _) fun _ r2 hr2 hn2=>Afv hr2 (Ary _ _) (Ajg _ _) fun _ r3 hr3 hn3=>Afv hr3 (ih.exp _ _ (by omega) hr3 (by omega)) (st.exp _ _) fun _ _ _ _=>⟨_,rfl⟩
   ·obtain ⟨h1,h2,_⟩:=hc
    obtain ⟨g1,g2,_⟩:=hg.tail (by omega)
    obtain ⟨g3,g4,_⟩:=g1.tail (by omega)
    exact Afv g3 (ih.exp _ _ (by omega) g3 (by omega)) (st.exp _ _) fun _ _ _ _=>⟨_,rfl⟩
  ·intro ts hg h;unfold Ak2
   refine Ahu (fun hc=>?_) fun _=>Afv hg (A8r _ _) (Atu _ _) fun _ r hr hn=>ih.Aik _ _ _ hr (by omega)
   obtain ⟨g1,g2,_⟩:=hg.tail (Abt hc)
   exact Afv g1 (ih.exp _ _ (by omega) g1 (by omega)) (st.exp _ _) fun _ r hr hn=>Afv hr (Ary _ _) (Ajg _ _) fun _ r2 hr2 hn2=>ih.Aik _ _ _ hr2 (by omega)
  ·intro at_ n ts hg h;unfold Aj9
   refine Ahu (fun hc=>?_) fun _=>Ahu (fun hc=>?_) fun _=>Ahu (fun hc=>?_) fun _=>⟨_,rfl⟩
   ·obtain ⟨g1,g2,_⟩:=hg.tail (Abt hc)
    exact Afv g1 (ih.exp _ _ (by omega) g1 (by omega)) (st.exp _ _) fun _ r hr hn=>Afv hr (Ary _ _) (Ajg _ _) fun _ r2 hr2 hn2=>ih.Aik _ _ _ hr2 (by omega)
   ·obtain ⟨g1,g2,_⟩:=hg.tail (Abt hc)
    exact Afv g1 (A8r _ _) (Atu _ _) fun _ r hr hn=>ih.Aik _ _ _ hr (by omega)
   ·obtain ⟨g1,g2,_⟩:=hg.tail (Abt hc)
    exact Afv (n:=0) g1 (Ahu (fun _=>⟨_,rfl⟩) fun _=>ih.Ag7 _ g1 (by omega)) (Ag4 (fun _=>step_ok) fun _=>Ahe (st.Ag7 _) (by omega)) fun _ r hr hn=>Afv hr (Ary _ _) (Ajg _ _) fun _ r2 hr2 hn2=>ih.Aik _ _ _ hr2 (by omega)
  ·intro ts hg h;unfold Aj5
   exact Afv hg (ih.exp _ _ (by omega) hg (by omega)) (st.exp _ _) fun _ r hr hn=>ih.Aod _ _ hr (by omega)
  ·intro acc ts hg h;unfold Ald
   refine Ahu (fun hc=>?_) fun _=>⟨_,rfl⟩
   obtain ⟨g1,g2,_⟩:=hg.tail (Abt hc)
   exact Afv g1 (ih.exp _ _ (by omega) g1 (by omega)) (st.exp _ _) fun _ r hr hn=>ih.Aod _ _ hr (by omega)
structure Ck4 (f:Nat):Prop where
 block:∀ c ts,Good ts→16 * ts.length+9≤f→∃ v,Aj4 f c ts=some v
 Ajy:∀ c at_ acc ts,Good ts→16 * ts.length+8≤f→∃ v,Ajo f c at_ acc ts=some v
 function:∀ ts,(hd ts).1≠6→Good ts→16 * ts.length+7≤f→∃ v,Amx f ts=some v
 body:∀ ts,Good ts→16 * ts.length+6≤f→∃ v,Alc f ts=some v
 stat:∀ ts,Good ts→16 * ts.length+7≤f→∃ v,Alu f ts=some v
 branches:∀ acc ts,Good ts→16 * ts.length+6≤f→∃ v,Al9 f acc ts=some v
 for_:∀ at_ ts,Good ts→16 * ts.length+1≤f→∃ v,Amw f at_ ts=some v
 plain:∀ ts,Good ts→16 * ts.length+6≤f→∃ v,Amc f ts=some v
 targets:∀ acc e ts,Good ts→16 * ts.length+1≤f→∃ v,Alg f acc e ts=some v
theorem Apu:∀ f,Ck4 f
 | 0=>by constructor <;> intros <;> omega
 | f+1=>by
  have ih:=Apu f
  have ie:=Aoz f
  have se:=Ayw f
  have ss:=stepS f
  constructor
  ·intro c ts hg h;unfold Aj4
   exact ih.Ajy _ _ _ _ hg (by omega)
  ·intro c at_ acc ts hg h;unfold Ajo
   refine Ahu (fun hc=>?_) fun _=>Ahu (fun hc=>?_) fun _=>Ahu (fun hc=>?_) fun _=>Ahu (fun _=>⟨_,rfl⟩) fun _=>?_
   ·obtain ⟨g1,g2,_⟩:=hg.tail (Abt hc)
    exact ih.Ajy _ _ _ _ g1 (by omega)
   ·obtain ⟨g1,g2,_⟩:=hg.tail (Abt hc)
    exact Afv (n:=0) g1 (Ahu (fun _=>⟨_,rfl⟩) fun _=>ie.Ag7 _ g1 (by omega)) (Ag4 (fun _=>step_ok) fun _=>Ahe (se.Ag7 _) (by omega)) fun _ r hr hn=>⟨_,rfl⟩
   ·simp only [Bool.and_eq_true] at hc
    exact Afv hg (ih.function _ (Abt hc.2) hg (by omega)) (ss.function _ (Abt hc.2)) fun _ r hr hn=>ih.Ajy _ _ _ _ hr (by omega)
   ·exact Afv hg (ih.stat _ hg (by omega)) (ss.stat _) fun _ r hr hn=>ih.Ajy _ _ _ _ hr (by omega)
  ·intro ts h6 hg h;unfold Amx
   obtain ⟨g1,g2,_⟩:=hg.tail h6
   exact Afv g1 (A8r _ _) (Atu _ _) fun _ r hr hn=>Afv hr (Ary _ _) (Ajg _ _) fun _ r2 hr2 hn2 =>
    Afv (n:=0) hr2 (Ahu (fun _=>⟨_,rfl⟩) fun _=>Afv hr2 (A8r _ _) (Atu _ _) fun _ r hr hn=>Bbx _ _ _ hr (by omega)) (Ag4 (fun _=>step_ok) fun _=>Ahe (Bn0 f r2) (by omega)) fun _ r3 hr3 hn3 =>
     Afv hr3 (Ary _ _) (Ajg _ _) fun _ r4 hr4 hn4=>Afv hr4 (ih.block _ _ hr4 (by omega)) (ss.block _ _) fun _ r5 hr5 hn5=>Afv hr5 (Ary _ _) (Ajg _ _) fun _ _ _ _=>⟨_,rfl⟩
  ·intro ts hg h;unfold Alc
   exact Afv hg (Ary _ _) (Ajg _ _) fun _ r hr hn=>Afv hr (ih.block _ _ hr (by omega)) (ss.block _ _) fun _ r5 hr5 hn5=>Afv hr5 (Ary _ _) (Ajg _ _) fun _ _ _ _=>⟨_,rfl⟩
  ·intro ts hg h;unfold Alu
   refine Ahu (fun hc=>?_) fun _=>Ahu (fun hc=>?_) fun _=>Ahu (fun hc=>?_) fun _=>Ahu (fun hc=>?_) fun _=>Ahu (fun hc=>?_) fun _=>Ahu (fun hc=>⟨_,rfl⟩) fun _=>ih.plain _ hg (by omega)
   ·exact Afv hg (ih.body _ hg (by omega)) (ss.body _) fun _ _ _ _=>⟨_,rfl⟩
   ·obtain ⟨g1,g2,_⟩:=hg.tail (Abt hc)
    exact Afv g1 (ie.exp _ _ (by omega) g1 (by omega)) (se.exp _ _) fun _ r hr hn=>Afv hr (ih.body _ hr (by omega)) (ss.body _) fun _ _ _ _=>⟨_,rfl⟩
   ·obtain ⟨g1,g2,_⟩:=hg.tail (Abt hc)
    exact Afv g1 (ih.branches _ _ g1 (by omega)) (ss.branches _ _) fun _ _ _ _=>⟨_,rfl⟩
   ·obtain ⟨g1,g2,_⟩:=hg.tail (Abt hc)
    exact ih.for_ _ _ g1 (by omega)
   ·obtain ⟨g1,g2,_⟩:=hg.tail (Abt hc)
    refine Afv g1 (Afv g1 (A8r _ _) (Atu _ _) fun _ r hr hn=>Bbx _ _ _ hr (by omega)) (Bn0 f _) fun _ r hr hn=>?_
    refine Afv (n:=0) hr (Ahu (fun hc=>?_) fun _=>⟨_,rfl⟩) (Ag4 (fun h=>Ahe (Aia (Abt h) (se.Ag7 _)) (by omega)) fun _=>step_ok) fun _ _ _ _=>⟨_,rfl⟩
    obtain ⟨g3,g4,_⟩:=hr.tail (Abt hc)
    exact ie.Ag7 _ g3 (by omega)
  ·intro acc ts hg h;unfold Al9
   refine Afv hg (ie.exp _ _ (by omega) hg (by omega)) (se.exp _ _) fun _ r hr hn=>Afv hr (Ary _ _) (Ajg _ _) fun _ r2 hr2 hn2=>Afv hr2 (ih.block _ _ hr2 (by omega)) (ss.block _ _) fun _ r3 hr3 hn3=>?_
   refine Ahu (fun hc=>?_) fun _=>Ahu (fun hc=>?_) fun _=>Afv hr3 (Ary _ _) (Ajg _ _) fun _ _ _ _=>⟨_,rfl⟩
   ·obtain ⟨g1,g2,_⟩:=hr3.tail (Abt hc)
    exact ih.branches _ _ g1 (by omega)
   ·obtain ⟨g1,g2,_⟩:=hr3.tail (Abt hc)
    exact Afv g1 (ih.block _ _ g1 (by omega)) (ss.block _ _) fun _ r4 hr4 hn4=>Afv hr4 (Ary _ _) (Ajg _ _) fun _ _ _ _=>⟨_,rfl⟩
  ·intro at_ ts hg h;unfold Amw
   refine Afv hg (A8r _ _) (Atu _ _) fun n r hr hn=>Ahu (fun hc=>?_) fun _=>?_
   ·obtain ⟨g1,g2,_⟩:=hr.tail (Abt hc)
    refine Afv g1 (ie.exp _ _ (by omega) g1 (by omega)) (se.exp _ _) fun _ r2 hr2 hn2=>Afv hr2 (Ary _ _) (Ajg _ _) fun _ r3 hr3 hn3=>Afv hr3 (ie.exp _ _ (by omega) hr3 (by omega)) (se.exp _ _) fun _ r4 hr4 hn4=>?_
    refine Afv (n:=0) hr4 (Ahu (fun hc=>?_) fun _=>⟨_,rfl⟩) (Ag4 (fun h=>Ahe (Aia (Abt h) (Afo (se.exp _ _) fun _ _=>step_ok)) (by omega)) fun _=>step_ok) fun _ r5 hr5 hn5=>Afv hr5 (ih.body _ hr5 (by omega)) (ss.body _) fun _ _ _ _=>⟨_,rfl⟩
    obtain ⟨g3,g4,_⟩:=hr4.tail (Abt hc)
    exact Afv g3 (ie.exp _ _ (by omega) g3 (by omega)) (se.exp _ _) fun _ _ _ _=>⟨_,rfl⟩
   ·exact Afv hr (Bbx _ _ _ hr (by omega)) (Bhp _ _ _) fun _ r2 hr2 hn2=>Afv hr2 (Ary _ _) (Ajg _ _) fun _ r3 hr3 hn3=>Afv hr3 (ie.Ag7 _ hr3 (by omega)) (se.Ag7 _) fun _ r4 hr4 hn4=>Afv hr4 (ih.body _ hr4 (by omega)) (ss.body _) fun _ _ _ _=>⟨_,rfl⟩
  ·intro ts hg h;unfold Amc
   refine Afv hg (ie.Akh _ hg (by omega)) (se.Akh _) fun e r hr hn=>Ahu (fun hc=>?_) fun _=>Ahu (fun _=>⟨_,rfl⟩) fun _=>⟨_,rfl⟩
   exact Afv hr (ih.targets _ _ _ hr (by omega)) (ss.targets _ _ _) fun _ r2 hr2 hn2=>Afv hr2 (Ary _ _) (Ajg _ _) fun _ r3 hr3 hn3=>Afv hr3 (ie.Ag7 _ hr3 (by omega)) (se.Ag7 _) fun _ _ _ _=>⟨_,rfl⟩
  ·intro acc e ts hg h;unfold Alg
   refine Ahu (fun _=>Ahu (fun hc=>?_) fun _=>⟨_,rfl⟩) fun _=>⟨_,rfl⟩
   obtain ⟨g1,g2,_⟩:=hg.tail (Abt hc)
   exact Afv g1 (ie.Akh _ g1 (by omega)) (se.Akh _) fun _ r hr hn=>ih.targets _ _ _ hr (by omega)
end
end Go.Proofs.YtkdjiehclahliaaGreatDoor
