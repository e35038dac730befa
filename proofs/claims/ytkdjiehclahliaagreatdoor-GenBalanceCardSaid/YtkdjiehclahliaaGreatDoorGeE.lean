/- Texts of mine for genBalance_card, part 5. -/
import Derived.Test.YtkdjiehclahliaaGreatDoorGeD
set_option linter.unusedSimpArgs false
set_option linter.unusedVariables false
set_option linter.unusedSectionVars false
namespace Go.Proofs.YtkdjiehclahliaaGreatDoor
set_option maxRecDepth 100000
section
open Go Go.RowKit
theorem A5h:Ft Tryz.prog 31 43 5 64 Tryz.t43 (.agg #[sv noS,iv 0,iv 0,iv 0,nS]):=⟨by kernel_rfl,by kernel_rfl,by kernel_rfl,by kernel_rfl,by kernel_rfl,by kernel_rfl,by decide⟩
structure CK where
 DA:Db→Ag→ByteArray→Int→Int→Int→Bl→Ag→Int→Ag→Int→ByteArray→Int→Int→List Tree→Bool→Option (PR (Db×Ag×Int×Bl×Ag×Int) (Int×Int))
 E3:Db→Ag→ByteArray→Int→Int→Int→Bl→Ag→Int→Ag→List Tree→Option (PR (Db×Ag×Int×Bl×Ag×Int) (Int×Int))
 Is:Db→Ag→ByteArray→Int→Int→Int→Bl→Ag→Int→Ag→Int→ByteArray→Int→Int→List Tree→Bool→Option (PR (Db×Ag×Int×Bl×Ag×Int) (Int×Int))
 G3:Db→Ag→ByteArray→Int→Int→Int→Bl→Ag→Int→Ag→Int→ByteArray→Int→Int→List Tree→List Tree→Int→ByteArray→Int→Int→List Tree→Int→Option (PR (Db×Ag×Int×Bl×Ag×Int) (Int×Int))
 It:Db→Ag→ByteArray→Int→Int→Int→Bl→Ag→Int→Ag→Int→ByteArray→Int→Int→List Tree→Option (PR (Db×Ag×Int×Bl×Ag×Int) (Int×Int))
def DA.C (fC:Db→Ag→ByteArray→Int→Int→Int→Bl→Ag→Int→Ag→Int→ByteArray→Int→Int→List Tree→Bool→Option (PR (Db×Ag×Int×Bl×Ag×Int) (Int×Int))):Prop:=∀ {Ac:Db} {Ae B9 Bg:Ag} {Bu As:ByteArray} {Bv Bx BO BP Af Aq AC:Int} {By:Bl} {Am:List Tree} {a2:Bool} {b0 Aw BN Bm Cq CB Cb Bj:Nat} {B8 C7 Dc Dq EU Cs G:Ab} {Av BM Cp CA Ca Bi:Ar} {r:PR (Db×Ag×Int×Bl×Ag×Int) (Int×Int)} (h:fC Ac Ae Bu Bv Bx BO By B9 BP Bg Af As Aq AC Am a2=some r) (AK:AL FD 43 B8 (Aa Av Ac Aw) Ac) (Ds:Ah encS 9 1 C7 (Aa BM Ae BN) Ae) (DF:Ah Dt 78 3 Dc (Aa Cp By Cq) By) (D_:Ah encS 9 1 Dq (Aa CA B9 CB) B9) (Ek:Bf encS 1 EU (Aa Ca Bg Cb) Bg) (BJ:RdR (Bb 54) Cs (Aa Bi Am Bj) Am) (hG:E2 G),Ct Tryz.prog 21 #[pt b0,.agg #[iv Af,sv As,iv Aq,iv AC,Aa Bi Am Bj],bv a2] [bk b0 #[Aa Av Ac Aw,Aa BM Ae BN,pt Bm] 75,B8,C7,bk Bm #[sv Bu,iv Bv,iv Bx,iv BO,Aa Cp By Cq,Aa CA B9 CB,iv BP,Aa Ca Bg Cb] 73,Dc,Dq] [EU,Cs,G] (PR.Post KC (fun (r:Db×Ag×Int×Bl×Ag×Int) e l1=>∃ (H0_:Ab) (A0_:Ar) (c0_:Nat) (H1_:Ab) (Dz:Ar) (D0:Nat) (H2_:Ab) (A2_:Ar) (DY:Nat) (H3_:Ab) (A3_:Ar) (DZ:Nat),AL FD 43 H0_ (Aa A0_ r.1 c0_) r.1∧Ah encS 9 1 H1_ (Aa Dz r.2.1 D0) r.2.1∧Ah Dt 78 3 H2_ (Aa A2_ r.2.2.2.1 DY) r.2.2.2.1∧Ah encS 9 1 H3_ (Aa A3_ r.2.2.2.2.1 DZ) r.2.2.2.2.1∧e=.returned (.tuple #[])∧l1=[bk b0 #[Aa A0_ r.1 c0_,Aa Dz r.2.1 D0,pt Bm] 75,H0_,H1_,bk Bm #[sv Bu,iv Bv,iv Bx,iv r.2.2.1,Aa A2_ r.2.2.2.1 DY,Aa A3_ r.2.2.2.2.1 DZ,iv r.2.2.2.2.2,Aa Ca Bg Cb] 73,H2_,H3_]) r)
def E3.C (fC:Db→Ag→ByteArray→Int→Int→Int→Bl→Ag→Int→Ag→List Tree→Option (PR (Db×Ag×Int×Bl×Ag×Int) (Int×Int))):Prop:=∀ {Ac:Db} {Ae B9 Bg:Ag} {Bu:ByteArray} {Bv Bx BO BP:Int} {By:Bl} {a1:List Tree} {b0 Aw BN Bm Cq CB Cb C5:Nat} {B8 C7 Dc Dq EU DW G:Ab} {Av BM Cp CA Ca C3:Ar} {r:PR (Db×Ag×Int×Bl×Ag×Int) (Int×Int)} (h:fC Ac Ae Bu Bv Bx BO By B9 BP Bg a1=some r) (AK:AL FD 43 B8 (Aa Av Ac Aw) Ac) (Ds:Ah encS 9 1 C7 (Aa BM Ae BN) Ae) (DF:Ah Dt 78 3 Dc (Aa Cp By Cq) By) (D_:Ah encS 9 1 Dq (Aa CA B9 CB) B9) (Ek:Bf encS 1 EU (Aa Ca Bg Cb) Bg) (EW:RdR (Bb 54) DW (Aa C3 a1 C5) a1) (hG:E2 G),Ct Tryz.prog 31 #[pt b0,Aa C3 a1 C5] [bk b0 #[Aa Av Ac Aw,Aa BM Ae BN,pt Bm] 75,B8,C7,bk Bm #[sv Bu,iv Bv,iv Bx,iv BO,Aa Cp By Cq,Aa CA B9 CB,iv BP,Aa Ca Bg Cb] 73,Dc,Dq] [EU,DW,G] (PR.Post KC (fun (r:Db×Ag×Int×Bl×Ag×Int) e l1=>∃ (H0_:Ab) (A0_:Ar) (c0_:Nat) (H1_:Ab) (Dz:Ar) (D0:Nat) (H2_:Ab) (A2_:Ar) (DY:Nat) (H3_:Ab) (A3_:Ar) (DZ:Nat),AL FD 43 H0_ (Aa A0_ r.1 c0_) r.1∧Ah encS 9 1 H1_ (Aa Dz r.2.1 D0) r.2.1∧Ah Dt 78 3 H2_ (Aa A2_ r.2.2.2.1 DY) r.2.2.2.1∧Ah encS 9 1 H3_ (Aa A3_ r.2.2.2.2.1 DZ) r.2.2.2.2.1∧e=.returned (.tuple #[])∧l1=[bk b0 #[Aa A0_ r.1 c0_,Aa Dz r.2.1 D0,pt Bm] 75,H0_,H1_,bk Bm #[sv Bu,iv Bv,iv Bx,iv r.2.2.1,Aa A2_ r.2.2.2.1 DY,Aa A3_ r.2.2.2.2.1 DZ,iv r.2.2.2.2.2,Aa Ca Bg Cb] 73,H2_,H3_]) r)
def Is.C (fC:Db→Ag→ByteArray→Int→Int→Int→Bl→Ag→Int→Ag→Int→ByteArray→Int→Int→List Tree→Bool→Option (PR (Db×Ag×Int×Bl×Ag×Int) (Int×Int))):Prop:=∀ {Ac:Db} {Ae B9 Bg:Ag} {Bu As:ByteArray} {Bv Bx BO BP Af Aq AC:Int} {By:Bl} {Am:List Tree} {a2:Bool} {b0 Aw BN Bm Cq CB Cb Bj:Nat} {B8 C7 Dc Dq EU Cs G:Ab} {Av BM Cp CA Ca Bi:Ar} {r:PR (Db×Ag×Int×Bl×Ag×Int) (Int×Int)} (h:fC Ac Ae Bu Bv Bx BO By B9 BP Bg Af As Aq AC Am a2=some r) (AK:AL FD 43 B8 (Aa Av Ac Aw) Ac) (Ds:Ah encS 9 1 C7 (Aa BM Ae BN) Ae) (DF:Ah Dt 78 3 Dc (Aa Cp By Cq) By) (D_:Ah encS 9 1 Dq (Aa CA B9 CB) B9) (Ek:Bf encS 1 EU (Aa Ca Bg Cb) Bg) (BJ:RdR (Bb 54) Cs (Aa Bi Am Bj) Am) (hG:E2 G),Ct Tryz.prog 36 #[pt b0,.agg #[iv Af,sv As,iv Aq,iv AC,Aa Bi Am Bj],bv a2] [bk b0 #[Aa Av Ac Aw,Aa BM Ae BN,pt Bm] 75,B8,C7,bk Bm #[sv Bu,iv Bv,iv Bx,iv BO,Aa Cp By Cq,Aa CA B9 CB,iv BP,Aa Ca Bg Cb] 73,Dc,Dq] [EU,Cs,G] (PR.Post KC (fun (r:Db×Ag×Int×Bl×Ag×Int) e l1=>∃ (H0_:Ab) (A0_:Ar) (c0_:Nat) (H1_:Ab) (Dz:Ar) (D0:Nat) (H2_:Ab) (A2_:Ar) (DY:Nat) (H3_:Ab) (A3_:Ar) (DZ:Nat),AL FD 43 H0_ (Aa A0_ r.1 c0_) r.1∧Ah encS 9 1 H1_ (Aa Dz r.2.1 D0) r.2.1∧Ah Dt 78 3 H2_ (Aa A2_ r.2.2.2.1 DY) r.2.2.2.1∧Ah encS 9 1 H3_ (Aa A3_ r.2.2.2.2.1 DZ) r.2.2.2.2.1∧e=.returned (.tuple #[])∧l1=[bk b0 #[Aa A0_ r.1 c0_,Aa Dz r.2.1 D0,pt Bm] 75,H0_,H1_,bk Bm #[sv Bu,iv Bv,iv Bx,iv r.2.2.1,Aa A2_ r.2.2.2.1 DY,Aa A3_ r.2.2.2.2.1 DZ,iv r.2.2.2.2.2,Aa Ca Bg Cb] 73,H2_,H3_]) r)
def G3.C (fC:Db→Ag→ByteArray→Int→Int→Int→Bl→Ag→Int→Ag→Int→ByteArray→Int→Int→List Tree→List Tree→Int→ByteArray→Int→Int→List Tree→Int→Option (PR (Db×Ag×Int×Bl×Ag×Int) (Int×Int))):Prop:=∀ {Ac:Db} {Ae B9 Bg:Ag} {Bu As M6:ByteArray} {Bv Bx BO BP Af Aq AC M5 M7 M8 a4:Int} {By:Bl} {Am a2 Ld:List Tree} {b0 Aw BN Bm Cq CB Cb Bj FY O0:Nat} {B8 C7 Dc Dq EU Cs Kb XA G:Ab} {Av BM Cp CA Ca Bi FX Oq:Ar} {r:PR (Db×Ag×Int×Bl×Ag×Int) (Int×Int)} (h:fC Ac Ae Bu Bv Bx BO By B9 BP Bg Af As Aq AC Am a2 M5 M6 M7 M8 Ld a4=some r) (AK:AL FD 43 B8 (Aa Av Ac Aw) Ac) (Ds:Ah encS 9 1 C7 (Aa BM Ae BN) Ae) (DF:Ah Dt 78 3 Dc (Aa Cp By Cq) By) (D_:Ah encS 9 1 Dq (Aa CA B9 CB) B9) (Ek:Bf encS 1 EU (Aa Ca Bg Cb) Bg) (BJ:RdR (Bb 54) Cs (Aa Bi Am Bj) Am) (N3:RdR (Bb 54) Kb (Aa FX a2 FY) a2) (Aig:RdR (Bb 54) XA (Aa Oq Ld O0) Ld) (hG:E2 G),Ct Tryz.prog 35 #[pt b0,.agg #[iv Af,sv As,iv Aq,iv AC,Aa Bi Am Bj],Aa FX a2 FY,.agg #[iv M5,sv M6,iv M7,iv M8,Aa Oq Ld O0],iv a4] [bk b0 #[Aa Av Ac Aw,Aa BM Ae BN,pt Bm] 75,B8,C7,bk Bm #[sv Bu,iv Bv,iv Bx,iv BO,Aa Cp By Cq,Aa CA B9 CB,iv BP,Aa Ca Bg Cb] 73,Dc,Dq] [EU,Cs,Kb,XA,G] (PR.Post KC (fun (r:Db×Ag×Int×Bl×Ag×Int) e l1=>∃ (H0_:Ab) (A0_:Ar) (c0_:Nat) (H1_:Ab) (Dz:Ar) (D0:Nat) (H2_:Ab) (A2_:Ar) (DY:Nat) (H3_:Ab) (A3_:Ar) (DZ:Nat),AL FD 43 H0_ (Aa A0_ r.1 c0_) r.1∧Ah encS 9 1 H1_ (Aa Dz r.2.1 D0) r.2.1∧Ah Dt 78 3 H2_ (Aa A2_ r.2.2.2.1 DY) r.2.2.2.1∧Ah encS 9 1 H3_ (Aa A3_ r.2.2.2.2.1 DZ) r.2.2.2.2.1∧e=.returned (.tuple #[])∧l1=[bk b0 #[Aa A0_ r.1 c0_,Aa Dz r.2.1 D0,pt Bm] 75,H0_,H1_,bk Bm #[sv Bu,iv Bv,iv Bx,iv r.2.2.1,Aa A2_ r.2.2.2.1 DY,Aa A3_ r.2.2.2.2.1 DZ,iv r.2.2.2.2.2,Aa Ca Bg Cb] 73,H2_,H3_]) r)
def It.C (fC:Db→Ag→ByteArray→Int→Int→Int→Bl→Ag→Int→Ag→Int→ByteArray→Int→Int→List Tree→Option (PR (Db×Ag×Int×Bl×Ag×Int) (Int×Int))):Prop:=∀ {Ac:Db} {Ae B9 Bg:Ag} {Bu As:ByteArray} {Bv Bx BO BP Af Aq AC:Int} {By:Bl} {Am:List Tree} {b0 Aw BN Bm Cq CB Cb Bj:Nat} {B8 C7 Dc Dq EU Cs G:Ab} {Av BM Cp CA Ca Bi:Ar} {r:PR (Db×Ag×Int×Bl×Ag×Int) (Int×Int)} (h:fC Ac Ae Bu Bv Bx BO By B9 BP Bg Af As Aq AC Am=some r) (AK:AL FD 43 B8 (Aa Av Ac Aw) Ac) (Ds:Ah encS 9 1 C7 (Aa BM Ae BN) Ae) (DF:Ah Dt 78 3 Dc (Aa Cp By Cq) By) (D_:Ah encS 9 1 Dq (Aa CA B9 CB) B9) (Ek:Bf encS 1 EU (Aa Ca Bg Cb) Bg) (BJ:RdR (Bb 54) Cs (Aa Bi Am Bj) Am) (hG:E2 G),Ct Tryz.prog 32 #[pt b0,.agg #[iv Af,sv As,iv Aq,iv AC,Aa Bi Am Bj]] [bk b0 #[Aa Av Ac Aw,Aa BM Ae BN,pt Bm] 75,B8,C7,bk Bm #[sv Bu,iv Bv,iv Bx,iv BO,Aa Cp By Cq,Aa CA B9 CB,iv BP,Aa Ca Bg Cb] 73,Dc,Dq] [EU,Cs,G] (PR.Post KC (fun (r:Db×Ag×Int×Bl×Ag×Int) e l1=>∃ (H0_:Ab) (A0_:Ar) (c0_:Nat) (H1_:Ab) (Dz:Ar) (D0:Nat) (H2_:Ab) (A2_:Ar) (DY:Nat) (H3_:Ab) (A3_:Ar) (DZ:Nat),AL FD 43 H0_ (Aa A0_ r.1 c0_) r.1∧Ah encS 9 1 H1_ (Aa Dz r.2.1 D0) r.2.1∧Ah Dt 78 3 H2_ (Aa A2_ r.2.2.2.1 DY) r.2.2.2.1∧Ah encS 9 1 H3_ (Aa A3_ r.2.2.2.2.1 DZ) r.2.2.2.2.1∧e=.returned (.tuple #[])∧l1=[bk b0 #[Aa A0_ r.1 c0_,Aa Dz r.2.1 D0,pt Bm] 75,H0_,H1_,bk Bm #[sv Bu,iv Bv,iv Bx,iv r.2.2.1,Aa A2_ r.2.2.2.1 DY,Aa A3_ r.2.2.2.2.1 DZ,iv r.2.2.2.2.2,Aa Ca Bg Cb] 73,H2_,H3_]) r)
structure CK.Good (R:CK):Prop where
 DA:DA.C R.DA
 E3:E3.C R.E3
 Is:Is.C R.Is
 G3:G3.C R.G3
 It:It.C R.It
def DA.l0:Nat→(Rc:CK)→(Bu:ByteArray)→(Bv:Int)→(Bx:Int)→(Bg:Ag)→(Aq:Int)→(Am:List Tree)→(x84:Int)→(T6:Db)→(T7:Ag)→(x95:Int)→(l96:Bl)→(Ty:Ag)→(UL:Int)→Option (PR (Db×Ag×Int×Bl×Ag×Int) (Int×Int))
 | 0,_,_,_,_,_,_,_,_,_,_,_,_,_,_=>none
 | TG+1,Rc,Bu,Bv,Bx,Bg,Aq,Am,x84,T6,T7,x95,l96,Ty,UL=>cond (decide (x84 < ((Am.length:Nat):Int))) ((AZ Am x84).bind fun x109=>PR.bind (Rc.DA T6 T7 Bu Bv Bx x95 l96 Ty UL Bg x109.kind x109.text x109.n x109.at_ x109.kids (decide (x84 < Aq))) fun Fe=>DA.l0 TG Rc Bu Bv Bx Bg Aq Am (IntKind.i64.wrap (x84+1)) Fe.1 Fe.2.1 Fe.2.2.1 Fe.2.2.2.1 Fe.2.2.2.2.1 Fe.2.2.2.2.2) (some (PR.ok (T6,T7,x95,l96,Ty,UL)))
def DA.g (Rc:CK) (k:Nat) (Ac:Db) (Ae:Ag) (Bu:ByteArray) (Bv:Int) (Bx:Int) (BO:Int) (By:Bl) (B9:Ag) (BP:Int) (Bg:Ag) (Af:Int) (As:ByteArray) (Aq:Int) (AC:Int) (Am:List Tree) (a2:Bool):Option (PR (Db×Ag×Int×Bl×Ag×Int) (Int×Int)):=cond (Af == 20) (PR.bind (Rc.E3 Ac Ae Bu Bv Bx BO By B9 BP Bg Am) fun r3=>(D8 r3.2.2.2.2.1 0 ((B9.length:Nat):Int)).bind fun l21=>some (PR.ok (r3.1,r3.2.1,r3.2.2.1,r3.2.2.2.1,l21,r3.2.2.2.2.2))) (cond (Af == 31) (PR.bind (Rc.It Ac Ae Bu Bv Bx BO By B9 BP Bg Af As Aq AC Am) fun Fo=>some (PR.ok (Fo.1,Fo.2.1,Fo.2.2.1,Fo.2.2.2.1,Fo.2.2.2.2.1,Fo.2.2.2.2.2))) (cond (Af == 21) (PR.bind (EY.f k Af As Aq AC Am Aq 50) fun Ug=>PR.bind (EY.f k Af As Aq AC Am (IntKind.i64.wrap (((Am.length:Nat):Int) - Aq)) 50) fun r45=>(D8 Am Aq ((Am.length:Nat):Int)).bind fun l47=>PR.bind (Rc.E3 Ac Ae Bu Bv Bx BO By B9 BP Bg l47) fun Ji=>(D8 Am 0 Aq).bind fun l69=>PR.bind (GQ.f k Ji.1 Ji.2.1 Bu Bv Bx Ji.2.2.1 Ji.2.2.2.1 Ji.2.2.2.2.1 Ji.2.2.2.2.2 Bg Af As Aq AC Am l69) fun r73=>some (PR.ok (Ji.1,Ji.2.1,r73.1,Ji.2.2.2.1,r73.2,Ji.2.2.2.2.2))) (cond (Af == 22) (PR.bind (EY.f k Af As Aq AC Am Aq 50) fun r80=>PR.bind (EY.f k Af As Aq AC Am (IntKind.i64.wrap (((Am.length:Nat):Int) - Aq)) 50) fun I5=>DA.l0 k Rc Bu Bv Bx Bg Aq Am 0 Ac Ae BO By B9 BP) (cond (Af == 25) ((AZ Am 0).bind fun RQ=>PR.bind (Rc.DA Ac Ae Bu Bv Bx BO By B9 BP Bg RQ.kind RQ.text RQ.n RQ.at_ RQ.kids false) fun P8=>(AZ Am 1).bind fun JZ=>PR.bind (Rc.G3 P8.1 P8.2.1 Bu Bv Bx P8.2.2.1 P8.2.2.2.1 P8.2.2.2.2.1 P8.2.2.2.2.2 Bg Af As Aq AC Am ([]) JZ.kind JZ.text JZ.n JZ.at_ JZ.kids 0) fun Ks=>some (PR.ok (Ks.1,Ks.2.1,Ks.2.2.1,Ks.2.2.2.1,Ks.2.2.2.2.1,Ks.2.2.2.2.2))) (cond (Af == 26) ((D8 Am 1 (IntKind.i64.wrap (((Am.length:Nat):Int) - 1))).bind fun Pm=>PR.bind (Rc.E3 Ac Ae Bu Bv Bx BO By B9 BP Bg Pm) fun P9=>(D8 Am 0 1).bind fun Ar9=>(AZ Am (IntKind.i64.wrap (((Am.length:Nat):Int) - 1))).bind fun RS=>PR.bind (Rc.G3 P9.1 P9.2.1 Bu Bv Bx P9.2.2.1 P9.2.2.2.1 P9.2.2.2.2.1 P9.2.2.2.2.2 Bg Af As Aq AC Am Ar9 RS.kind RS.text RS.n RS.at_ RS.kids 3) fun Kt=>some (PR.ok (Kt.1,Kt.2.1,Kt.2.2.1,Kt.2.2.2.1,Kt.2.2.2.2.1,Kt.2.2.2.2.2))) (cond (Af == 27) (PR.bind (EY.f k Af As Aq AC Am Aq 50) fun Bpy=>PR.bind (EY.f k Af As Aq AC Am (IntKind.i64.wrap ((IntKind.i64.wrap (((Am.length:Nat):Int) - 1)) - Aq)) 50) fun Bpz=>(D8 Am Aq (IntKind.i64.wrap (((Am.length:Nat):Int) - 1))).bind fun Asb=>PR.bind (Rc.E3 Ac Ae Bu Bv Bx BO By B9 BP Bg Asb) fun PB=>(D8 Am 0 Aq).bind fun Ase=>(AZ Am (IntKind.i64.wrap (((Am.length:Nat):Int) - 1))).bind fun RU=>PR.bind (Rc.G3 PB.1 PB.2.1 Bu Bv Bx PB.2.2.1 PB.2.2.2.1 PB.2.2.2.2.1 PB.2.2.2.2.2 Bg Af As Aq AC Am Ase RU.kind RU.text RU.n RU.at_ RU.kids 3) fun Ku=>some (PR.ok (Ku.1,Ku.2.1,Ku.2.2.1,Ku.2.2.2.1,Ku.2.2.2.2.1,Ku.2.2.2.2.2))) (cond (Af == 29) (cond (BP == 0) (PR.bind (GR.f k 5 AC) fun Bp1=>some (PR.ok (Ac,Ae,BO,By,B9,BP))) (some (PR.ok (Ac,Ae,BO,By,B9,BP)))) (PR.bind (Rc.Is Ac Ae Bu Bv Bx BO By B9 BP Bg Af As Aq AC Am a2) fun Kv=>some (PR.ok (Kv.1,Kv.2.1,Kv.2.2.1,Kv.2.2.2.1,Kv.2.2.2.2.1,Kv.2.2.2.2.2))))))))))
theorem DA.C0 {Rc:CK} (hR:Rc.Good) {k:Nat}:DA.C (DA.g Rc k):=by
 intro Ac Ae B9 Bg Bu As Bv Bx BO BP Af Aq AC By Am a2 b0 Aw BN Bm Cq CB Cb Bj B8 C7 Dc Dq EU Cs G Av BM Cp CA Ca Bi r h AK Ds DF D_ Ek BJ hG
 refine Cz (args:=[pt b0,.agg #[iv Af,sv As,iv Aq,iv AC,Aa Bi Am Bj],bv a2]) Tryz.func21 rfl (B0 rfl) ?_
 intro A X hh_
 obtain ⟨Fa,BD,BU,_⟩:=hh_
 unfold DA.g at h
 refine K.eq (env':=[(0,pt b0),(1,.agg #[iv Af,sv As,iv Aq,iv AC,Aa Bi Am Bj]),(2,bv a2)]) (l':=bk b0 #[Aa Av Ac Aw,Aa BM Ae BN,pt Bm] 75 :: B8 :: C7 :: bk Bm #[sv Bu,iv Bv,iv Bx,iv BO,Aa Cp By Cq,Aa CA B9 CB,iv BP,Aa Ca Bg Cb] 73 :: Dc :: Dq :: X) rfl rfl (ksr (knp #[iv Af,sv As,iv Aq,iv AC,Aa Bi Am Bj] 54 fun b1=>(AY (kx 1 (kld 0 4 rfl (kx 3 (AY (kx 1 (kld 0 0 rfl (Ad ?_))))))))))
 refine Co (ksr (kx 2 (Ad ?_)))
 refine AF h (fun h=>?_) fun h=>?_
 ·refine ksr (kx 3 (kld 1 2 rfl (kx 2 (kld 4 5 rfl (kx 2 (AY (kx 2 (kld 0 4 rfl (K.drop (K.mv5 ?_))))))))))
  refine K.mv5 (K.mv5 (K.mv5 (K.mv5 (K.mv5 (B_ h (fun _ hr3=>(hR.E3 hr3 AK Ds DF D_ Ek BJ hG)) rfl ⟨Fa,BD,BU,trivial⟩ (fun _ e=>Bk (BZ (kpn 0 e rfl))) fun r3 h=>?_)))))
  rintro _ _ ⟨h5,A6,k7,h9,Fz,k11,h13,GN,k15,h17,Fh,k19,o8,Hm,o16,o20,rfl,rfl⟩
  refine Er (Ad (kpr [(0,0),(1,0),(2,0),(3,3),(4,0),(5,0),(6,0),(7,3),(8,0),(9,0),(10,3),(11,0),(12,0)] [0,3] (Ax 3 (AU 0 2 rfl (Ax 3 (AU 0 2 rfl (Ax 2 (AU 1 5 rfl (Ax 1 (bnd h fun l21 YE h=>?_))))))))))
  refine Ary (T:=9) (sz:=1) (k:=.i64) (xs:=r3.2.2.2.2.1) ((B9.length:Nat):Int) IZ rfl (by kernel_rfl) (by kernel_rfl) (by kernel_rfl) (by kernel_rfl) (by kernel_rfl) (by kernel_rfl) YE o20 fun Gv=>(BY (kx 2 (K.mv3 (AQ 5 1 #[sv Bu,iv Bv,iv Bx,iv r3.2.2.1,Aa GN r3.2.2.2.1 k15,Aa Fh l21 k19,iv r3.2.2.2.2.2,Aa Ca Bg Cb] (knl (Bo (Cw ?_)))))))
  obtain rfl:=Ap h
  exact kdv (.tuple #[]) [bk b0 #[Aa A6 r3.1 k7,Aa Fz r3.2.1 k11,pt Bm] 75,h5,h9,bk Bm #[sv Bu,iv Bv,iv Bx,iv r3.2.2.1,Aa GN r3.2.2.2.1 k15,Aa Fh l21 k19,iv r3.2.2.2.2.2,Aa Ca Bg Cb] 73,h13,h17] (K.mv5 (K.mv5 (K.Ak (K.mv5 (K.mv5 (K.mv5 (BH (PR.okI ⟨h5,A6,k7,h9,Fz,k11,h13,GN,k15,h17,Fh,k19,o8,Hm,o16,Gv,rfl,rfl⟩))))))))
 ·refine ksr (kx 2 (Ad ?_))
  refine AF h (fun h=>?_) fun h=>?_
  ·refine Bc (kx 1 (CE 0 0 5 rfl (K.drop (K.mv5 (K.mv5 (K.mv5 (K.mv5 (K.mv5 (K.mv5 (B_ h (fun _ OI=>(hR.It OI AK Ds DF D_ Ek BJ hG)) rfl ⟨Fa,BD,BU,trivial⟩ (fun _ e=>BZ (kpn 0 e rfl)) fun Fo h=>?_))))))))))
   rintro _ _ ⟨h26,A27,k28,h30,Io,k32,h34,A35,QD,h38,A39,Jc,o29,Kq,Pv,o41,rfl,rfl⟩
   refine Er (knl (Bo (Cw ?_)))
   obtain rfl:=Ap h
   exact kdv (.tuple #[]) [bk b0 #[Aa A27 Fo.1 k28,Aa Io Fo.2.1 k32,pt Bm] 75,h26,h30,bk Bm #[sv Bu,iv Bv,iv Bx,iv Fo.2.2.1,Aa A35 Fo.2.2.2.1 QD,Aa A39 Fo.2.2.2.2.1 Jc,iv Fo.2.2.2.2.2,Aa Ca Bg Cb] 73,h34,h38] (BH (PR.okI ⟨h26,A27,k28,h30,Io,k32,h34,A35,QD,h38,A39,Jc,o29,Kq,Pv,o41,rfl,rfl⟩))
  ·refine ksr (kx 2 (Ad ?_))
   refine AF h (fun h=>?_) fun h=>?_
   ·refine ksr (CE 0 0 5 rfl (kx 1 (kld 0 2 rfl (B_ h (fun _ Zh=>(EY.ok Zh BJ)) rfl ⟨(t7 BD),trivial⟩ (fun _ e=>Bk (BZ (kpn 7 e rfl))) fun Ug h=>?_))))
    rintro _ _ ⟨rfl,rfl⟩
    refine GI (AY (CE 0 0 5 rfl (kx 1 (kld 0 4 rfl (kx 2 (kld 0 2 rfl (kx 1 (B_ h (fun _ Zi=>(EY.ok Zi BJ)) rfl ⟨(t7 BD),trivial⟩ (fun _ e=>Bk (BZ (kpn 7 e rfl))) fun r45 h=>?_))))))))
    rintro _ _ ⟨rfl,rfl⟩
    refine GI (AY (kx 2 (kld 0 4 rfl (kx 1 (kld 0 2 rfl (bnd h fun l47 Bbj h=>(Pj (T:=54) (R:=(Bb 54)) (xs:=Am) Aq ((Am.length:Nat):Int) rfl (by kernel_rfl) (by kernel_rfl) (by kernel_rfl) (.inr ⟨_,.i64,rfl,(by kernel_rfl)⟩) (.inl ⟨rfl,rfl⟩) (by kernel_rfl) (by kernel_rfl) Bbj BJ fun A48 k49 Ri=>(K.mv6 (K.mv6 (K.mv6 ?_))))))))))
    refine K.mv6 (K.mv6 (K.mv6 (B_ h (fun _ Bd7=>(hR.E3 Bd7 AK Ds DF D_ Ek Ri hG)) rfl ⟨(.tail _ Fa),(.tail _ BD),(.tail _ BU),trivial⟩ (fun _ e=>Bk (BZ (kpn 1 e rfl))) fun Ji h=>?_)))
    rintro _ _ ⟨h53,Om,Pf,h57,GO,k59,h61,Se,k63,h65,Jo,Jw,Mi,o60,Rk,Rl,rfl,rfl⟩
    refine Er (Ad (kpr [(0,0),(1,3),(2,0),(3,3),(4,0),(5,3),(6,0)] [6] (Ax 1 (Gt 0 0 5 rfl (Ax 1 (AU 0 4 rfl (Ax 1 (AU 0 2 rfl (bnd h fun l69 Bbs h=>(KH (T:=54) (R:=(Bb 54)) (xs:=Am) 0 Aq rfl (by kernel_rfl) (by kernel_rfl) (by kernel_rfl) (.inl ⟨rfl,rfl⟩) (.inr ⟨_,.i64,rfl,(by kernel_rfl)⟩) (by kernel_rfl) (by kernel_rfl) Bbs BJ fun A70 k71 o72=>?_))))))))))
    refine BY (K.mv5 (K.Bq (K.Ak (B_ h (fun _ Zt=>(GQ.ok Zt (AL.rd Mi) (Ah.rd o60) (Ah.rd Rk) Rl Ek BJ o72)) rfl ⟨(.head _),(.tail _ (.head _)),(.tail _ (.tail _ (.head _))),(t4 Fa),(t4 BD),(t4 BD),trivial⟩ (fun _ e=>BZ (kpn 4 e rfl)) fun r73 h=>?_))))
    rintro _ _ ⟨h75,KU,Lu,o78,rfl,rfl⟩
    refine NS (K.mv6 (K.drop (knl (Bo (Cw ?_)))))
    obtain rfl:=Ap h
    exact kdv (.tuple #[]) [bk b0 #[Aa Om Ji.1 Pf,Aa GO Ji.2.1 k59,pt Bm] 75,h53,h57,bk Bm #[sv Bu,iv Bv,iv Bx,iv r73.1,Aa Se Ji.2.2.2.1 k63,Aa KU r73.2 Lu,iv Ji.2.2.2.2.2,Aa Ca Bg Cb] 73,h61,h75] (K.Ak (K.mv5 (K.mv3 (K.mv5 (K.mv5 (K.mv5 (BH (PR.okI ⟨h53,Om,Pf,h57,GO,k59,h61,Se,k63,h75,KU,Lu,Mi,o60,Rk,o78,rfl,rfl⟩))))))))
   ·refine ksr (kx 2 (Ad ?_))
    refine AF h (fun h=>?_) fun h=>?_
    ·refine ksr (CE 0 0 5 rfl (kx 1 (kld 0 2 rfl (B_ h (fun _ OT=>(EY.ok OT BJ)) rfl ⟨(t7 BD),trivial⟩ (fun _ e=>Bk (BZ (kpn 7 e rfl))) fun r80 h=>?_))))
     rintro _ _ ⟨rfl,rfl⟩
     refine GI (AY (CE 0 0 5 rfl (kx 1 (kld 0 4 rfl (kx 2 (kld 0 2 rfl (kx 1 (B_ h (fun _ MP=>(EY.ok MP BJ)) rfl ⟨(t7 BD),trivial⟩ (fun _ e=>Bk (BZ (kpn 7 e rfl))) fun I5 h=>?_))))))))
     rintro _ _ ⟨rfl,rfl⟩
     refine GI (AY (kx 1 (kld 0 4 rfl (kx 2 (Ad (Co (K.mv6 (K.mv6 (K.mv5 (K.mv5 ?_))))))))))
     refine K.mv6 (K.mv6 (K.mv6 (EL (τ:=Int×Db×Ag×Int×Bl×Ag×Int×Ab×Ar×Nat×Ab×Ar×Nat×Ab×Ar×Nat×Ab×Ar×Nat) (fun t=>[(0,pt b0),(4,pt b1),(98,Aa Bi Am Bj),(99,iv ((Am.length:Nat):Int)),(100,iv t.1)]) (fun t=>bk b1 #[iv Af,sv As,iv Aq,iv AC,Aa Bi Am Bj] 54 :: bk b0 #[Aa t.2.2.2.2.2.2.2.2.1 t.2.1 t.2.2.2.2.2.2.2.2.2.1,Aa t.2.2.2.2.2.2.2.2.2.2.2.1 t.2.2.1 t.2.2.2.2.2.2.2.2.2.2.2.2.1,pt Bm] 75 :: bk Bm #[sv Bu,iv Bv,iv Bx,iv t.2.2.2.1,Aa t.2.2.2.2.2.2.2.2.2.2.2.2.2.2.1 t.2.2.2.2.1 t.2.2.2.2.2.2.2.2.2.2.2.2.2.2.2.1,Aa t.2.2.2.2.2.2.2.2.2.2.2.2.2.2.2.2.2.1 t.2.2.2.2.2.1 t.2.2.2.2.2.2.2.2.2.2.2.2.2.2.2.2.2.2,iv t.2.2.2.2.2.2.1,Aa Ca Bg Cb] 73 :: t.2.2.2.2.2.2.2.1 :: t.2.2.2.2.2.2.2.2.2.2.1 :: t.2.2.2.2.2.2.2.2.2.2.2.2.2.1 :: t.2.2.2.2.2.2.2.2.2.2.2.2.2.2.2.2.1 :: X) (fun m t=>DA.l0 m Rc Bu Bv Bx Bg Aq Am t.1 t.2.1 t.2.2.1 t.2.2.2.1 t.2.2.2.2.1 t.2.2.2.2.2.1 t.2.2.2.2.2.2.1=some r∧AL FD 43 t.2.2.2.2.2.2.2.1 (Aa t.2.2.2.2.2.2.2.2.1 t.2.1 t.2.2.2.2.2.2.2.2.2.1) t.2.1∧Ah encS 9 1 t.2.2.2.2.2.2.2.2.2.2.1 (Aa t.2.2.2.2.2.2.2.2.2.2.2.1 t.2.2.1 t.2.2.2.2.2.2.2.2.2.2.2.2.1) t.2.2.1∧Ah Dt 78 3 t.2.2.2.2.2.2.2.2.2.2.2.2.2.1 (Aa t.2.2.2.2.2.2.2.2.2.2.2.2.2.2.1 t.2.2.2.2.1 t.2.2.2.2.2.2.2.2.2.2.2.2.2.2.2.1) t.2.2.2.2.1∧Ah encS 9 1 t.2.2.2.2.2.2.2.2.2.2.2.2.2.2.2.2.1 (Aa t.2.2.2.2.2.2.2.2.2.2.2.2.2.2.2.2.2.1 t.2.2.2.2.2.1 t.2.2.2.2.2.2.2.2.2.2.2.2.2.2.2.2.2.2) t.2.2.2.2.2.1) k (0,Ac,Ae,BO,By,B9,BP,B8,Av,Aw,C7,BM,BN,Dc,Cp,Cq,Dq,CA,CB) ⟨h,AK,Ds,DF,D_⟩ sb rfl ?_)))
     clear h
     rintro TG ⟨x84,T6,T7,x95,l96,Ty,UL,h86,A87,k88,h91,A92,ZV,h97,A98,k99,OB,Oj,Pd⟩ ⟨h,o89,Rp,W0,Q_⟩
     cases TG with
     | zero=>simp [DA.l0] at h
     | succ TG =>
      simp only [DA.l0] at h
      refine ksr (kx 1 (Ad (Bz ?_)))
      refine AF h (fun h=>?_) fun h=>?_
      ·refine Bt (AB (Bz (Co (ksr (kx 1 (bnd h fun x109 Bfa h=>(DL (T:=54) (kd:=.i64) (R:=(Bb 54)) rfl Bfa BJ fun Byt Bze Bpa A4e y112=>?_)))))))
       obtain ⟨Ay9,Bhb,rfl,Bk4⟩:=DI 54 Bpa
       refine E8 rfl A4e (t7 BD) (knp #[iv 0,sv noS,iv 0,iv 0,nS] 54 fun Bvj=>(kx 1 (AQ 0 5 #[iv x109.kind,sv x109.text,iv x109.n,iv x109.at_,Aa Ay9 x109.kids Bhb] (Fw (kx 1 (CE 0 0 5 rfl (K.drop (kx 2 (kld 0 2 rfl (kx 1 ?_))))))))))
       refine K.mv6 (K.mv6 (K.Bq (K.mv6 (K.mv6 (K.mv6 (B_ h (fun _ YZ=>(hR.DA YZ o89 Rp W0 Q_ Ek Bk4 hG)) rfl ⟨(.tail _ Fa),(.tail _ BD),(.tail _ BU),trivial⟩ (fun _ e=>BZ (Bk (Bk (BZ (BZ (kpn 1 e rfl)))))) fun Fe h=>?_))))))
       rintro _ _ ⟨A8a,Agw,Ao8,Yq,UP,VP,A8b,Agx,Ao9,S8,RX,Th,Abk,Abn,At1,Pu,rfl,rfl⟩
       refine Er (knl (Bo (AB (Bc (kx 2 (Ad (K.mv5 (K.mv5 (K.Bq (K.Bq ?_))))))))))
       exact K.mv5 (K.mv5 (K.mv6 (Ea TG (IntKind.i64.wrap (x84+1),Fe.1,Fe.2.1,Fe.2.2.1,Fe.2.2.2.1,Fe.2.2.2.2.1,Fe.2.2.2.2.2,A8a,Agw,Ao8,Yq,UP,VP,A8b,Agx,Ao9,S8,RX,Th) (Nat.lt_succ_self _) ⟨h,Abk,Abn,At1,Pu⟩ sb rfl)))
      ·refine E6 (CY (CY (E7 (Bo (Cw ?_)))))
       obtain rfl:=Ap h
       exact kdv (.tuple #[]) [bk b0 #[Aa A87 T6 k88,Aa A92 T7 ZV,pt Bm] 75,h86,h91,bk Bm #[sv Bu,iv Bv,iv Bx,iv x95,Aa A98 l96 k99,Aa Oj Ty Pd,iv UL,Aa Ca Bg Cb] 73,h97,OB] (K.drop (K.mv5 (K.mv5 (K.mv3 (K.mv5 (K.mv5 (K.mv5 (BH (PR.okI ⟨h86,A87,k88,h91,A92,ZV,h97,A98,k99,OB,Oj,Pd,o89,Rp,W0,Q_,rfl,rfl⟩)))))))))
    ·refine ksr (kx 2 (Ad ?_))
     refine AF h (fun h=>?_) fun h=>?_
     ·refine ksr (kx 2 (kld 0 4 rfl (bnd h fun RQ Bfj h=>(DL (T:=54) (kd:=.i64) (R:=(Bb 54)) rfl Bfj BJ fun By0 Bzo Bpi A4i Bz4=>?_))))
      obtain ⟨Bul,Bxm,rfl,Abt⟩:=DI 54 Bpi
      refine E8 rfl A4i (t7 BD) (K.mv6 (K.mv6 (K.mv6 (K.mv6 (K.mv6 (K.mv6 (B_ h (fun _ Bck=>(hR.DA Bck AK Ds DF D_ Ek Abt hG)) rfl ⟨(.tail _ Fa),(.tail _ BD),(.tail _ BU),trivial⟩ (fun _ e=>Bk (BZ (kpn 1 e rfl))) fun P8 h=>?_)))))))
      rintro _ _ ⟨A8f,Ag6,Apd,Bv4,Bup,Bxq,Bv5,Buu,Bxs,A8h,Azj,Bhn,TJ,Blm,Blp,Abx,rfl,rfl⟩
      refine Er (Ad (IN [(0,0),(1,3),(2,0),(3,3),(4,0),(5,3)] [bk b1 #[iv Af,sv As,iv Aq,iv AC,Aa Bi Am Bj] 54,Cs] (fun w h_=>⟨h_.sat.on _ (.tail _ (.tail _ (.tail _ (.tail _ (.tail _ (.tail _ (.head _))))))),h_.sat.on _ (t7 BD),trivial⟩) (Ax 1 (Gt 0 0 5 rfl (Ax 1 (AU 0 4 rfl (bnd h fun JZ Z2 h=>(Jd (T:=54) (kd:=.i64) (R:=(Bb 54)) rfl Z2 BJ fun Bob Bzt Bpm e167 y168=>?_))))))))
      obtain ⟨Buv,Bxt,rfl,Blr⟩:=DI 54 Bpm
      refine IM rfl e167 (fun w h_=>h_.mem _ (.tail _ (.head _))) (BY (Di (K.mv6 (K.mv6 (K.mv6 (K.mv6 (K.mv6 (K.mv6 (B_ h (fun _ Bcr=>(hR.G3 Bcr TJ Blm Blp Abx Ek BJ (RdR.nil (Bb 54) none_) Blr hG)) rfl ⟨(t2 Fa),(t2 BD),(.head _),(t2 BD),(t2 BU),trivial⟩ (fun _ e=>BZ (kpn 2 e rfl)) fun Ks h=>?_)))))))))
      rintro _ _ ⟨Qw,PQ,QA,Qx,PT,QB,Al9,PU,QC,Amb,Ahc,Apk,Abz,Ab1,Ab5,Bl0,rfl,rfl⟩
      refine Er (K.mv6 (K.drop (K.mv6 (K.drop (knl (Bo (Cw ?_)))))))
      obtain rfl:=Ap h
      exact kdv (.tuple #[]) [bk b0 #[Aa PQ Ks.1 QA,Aa PT Ks.2.1 QB,pt Bm] 75,Qw,Qx,bk Bm #[sv Bu,iv Bv,iv Bx,iv Ks.2.2.1,Aa PU Ks.2.2.2.1 QC,Aa Ahc Ks.2.2.2.2.1 Apk,iv Ks.2.2.2.2.2,Aa Ca Bg Cb] 73,Al9,Amb] (BH (PR.okI ⟨Qw,PQ,QA,Qx,PT,QB,Al9,PU,QC,Amb,Ahc,Apk,Abz,Ab1,Ab5,Bl0,rfl,rfl⟩))
     ·refine ksr (kx 2 (Ad ?_))
      refine AF h (fun h=>?_) fun h=>?_
      ·refine ksr (kx 2 (kld 0 4 rfl (kx 1 (bnd h fun Pm Ba1 h=>(Pj (T:=54) (R:=(Bb 54)) (xs:=Am) 1 (IntKind.i64.wrap (((Am.length:Nat):Int) - 1)) rfl (by kernel_rfl) (by kernel_rfl) (by kernel_rfl) (.inr ⟨_,.i64,rfl,(by kernel_rfl)⟩) (.inr ⟨_,.i64,rfl,(by kernel_rfl)⟩) (by kernel_rfl) (by kernel_rfl) Ba1 BJ fun Bu0 Bxw Bl6=>(K.mv6 (K.mv6 (K.mv6 (K.mv6 (K.mv6 ?_))))))))))
       refine K.mv6 (B_ h (fun _ Bcz=>(hR.E3 Bcz AK Ds DF D_ Ek Bl6 hG)) rfl ⟨(.tail _ Fa),(.tail _ BD),(.tail _ BU),trivial⟩ (fun _ e=>Bk (BZ (kpn 1 e rfl))) fun P9 h=>?_)
       rintro _ _ ⟨Bv9,Bu2,Bxx,Bwc,Bu3,Bxy,Bwd,Bu4,Bxz,Bwe,Bu5,Bx0,Bl8,Bl9,Bmc,Bmd,rfl,rfl⟩
       refine Er (Ad (IN [(0,0),(1,3),(2,0),(3,3),(4,0),(5,0),(6,3),(7,0),(8,0),(9,3)] [bk b1 #[iv Af,sv As,iv Aq,iv AC,Aa Bi Am Bj] 54,Cs] (fun w h_=>⟨h_.sat.on _ (.tail _ (.tail _ (.tail _ (.tail _ (.tail _ (.tail _ (.head _))))))),h_.sat.on _ (t7 BD),trivial⟩) (Ax 1 (Gt 0 0 5 rfl (Ax 1 (AU 0 4 rfl (bnd h fun Ar9 Ba3 h=>(KH (T:=54) (R:=(Bb 54)) (xs:=Am) 0 1 rfl (by kernel_rfl) (by kernel_rfl) (by kernel_rfl) (.inl ⟨rfl,rfl⟩) (.inr ⟨_,.i64,rfl,(by kernel_rfl)⟩) (by kernel_rfl) (by kernel_rfl) Ba3 BJ fun Bu6 Bx2 Bmj=>(Ax 1 (AU 0 4 rfl ?_))))))))))
       refine Ax 1 (bnd h fun RS Bfv h=>(Jd (T:=54) (kd:=.i64) (R:=(Bb 54)) rfl Bfv BJ fun By9 Bzw Bpq e221 B0d=>?_))
       obtain ⟨Bu8,Bx6,rfl,Bmo⟩:=DI 54 Bpq
       refine IM rfl e221 (fun w h_=>h_.mem _ (.tail _ (.head _))) (BY (K.mv5 (K.mv5 (K.mv5 (K.mv5 (K.mv5 (K.mv5 (B_ h (fun _ Bdc=>(hR.G3 Bdc Bl8 Bl9 Bmc Bmd Ek BJ Bmj Bmo hG)) rfl ⟨(.tail _ Fa),(.tail _ BD),(.tail _ BD),(.tail _ BD),(.tail _ BU),trivial⟩ (fun _ e=>BZ (kpn 1 e rfl)) fun Kt h=>?_))))))))
       rintro _ _ ⟨Amh,Ahj,Apr,S9,RZ,Tj,SA,Sa,Tl,SB,Sb,Tm,Bmu,Acg,Ach,Aci,rfl,rfl⟩
       refine Er (K.mv6 (K.drop (knl (Bo (Cw ?_)))))
       obtain rfl:=Ap h
       exact kdv (.tuple #[]) [bk b0 #[Aa Ahj Kt.1 Apr,Aa RZ Kt.2.1 Tj,pt Bm] 75,Amh,S9,bk Bm #[sv Bu,iv Bv,iv Bx,iv Kt.2.2.1,Aa Sa Kt.2.2.2.1 Tl,Aa Sb Kt.2.2.2.2.1 Tm,iv Kt.2.2.2.2.2,Aa Ca Bg Cb] 73,SA,SB] (BH (PR.okI ⟨Amh,Ahj,Apr,S9,RZ,Tj,SA,Sa,Tl,SB,Sb,Tm,Bmu,Acg,Ach,Aci,rfl,rfl⟩))
      ·refine ksr (kx 2 (Ad ?_))
       refine AF h (fun h=>?_) fun h=>?_
       ·refine ksr (CE 0 0 5 rfl (kx 1 (kld 0 2 rfl (B_ h (fun _ Bdf=>(EY.ok Bdf BJ)) rfl ⟨(t7 BD),trivial⟩ (fun _ e=>Bk (BZ (kpn 7 e rfl))) fun Bpy h=>?_))))
        rintro _ _ ⟨rfl,rfl⟩
        refine GI (AY (CE 0 0 5 rfl (kx 2 (kld 0 2 rfl (kx 1 (B_ h (fun _ Bdi=>(EY.ok Bdi BJ)) rfl ⟨(t7 BD),trivial⟩ (fun _ e=>Bk (BZ (kpn 7 e rfl))) fun Bpz h=>?_))))))
        rintro _ _ ⟨rfl,rfl⟩
        refine GI (AY (kx 2 (kld 0 4 rfl (kx 1 (kld 0 2 rfl (kx 1 (bnd h fun Asb Ba8 h=>(Pj (T:=54) (R:=(Bb 54)) (xs:=Am) Aq (IntKind.i64.wrap (((Am.length:Nat):Int) - 1)) rfl (by kernel_rfl) (by kernel_rfl) (by kernel_rfl) (.inr ⟨_,.i64,rfl,(by kernel_rfl)⟩) (.inr ⟨_,.i64,rfl,(by kernel_rfl)⟩) (by kernel_rfl) (by kernel_rfl) Ba8 BJ fun Bu9 Bx7 Bmw=>(K.mv6 (K.mv6 ?_))))))))))
        refine K.mv6 (K.mv6 (K.mv6 (K.mv6 (B_ h (fun _ Bdj=>(hR.E3 Bdj AK Ds DF D_ Ek Bmw hG)) rfl ⟨(.tail _ Fa),(.tail _ BD),(.tail _ BU),trivial⟩ (fun _ e=>Bk (BZ (kpn 1 e rfl))) fun PB h=>?_))))
        rintro _ _ ⟨Bwh,Bvc,Bx9,Yw,Xz,ZP,Yx,X0,ZQ,Yy,X1,ZR,Bm1,Ack,Acn,Acp,rfl,rfl⟩
        refine Er (Ad (IN [(0,0),(1,3),(2,0),(3,3),(4,0),(5,3),(6,0),(7,0),(8,3),(9,0),(10,0),(11,3)] [bk b1 #[iv Af,sv As,iv Aq,iv AC,Aa Bi Am Bj] 54,Cs] (fun w h_=>⟨h_.sat.on _ (.tail _ (.tail _ (.tail _ (.tail _ (.tail _ (.tail _ (.head _))))))),h_.sat.on _ (t7 BD),trivial⟩) (Ax 1 (Gt 0 0 5 rfl (Ax 1 (AU 0 4 rfl (Ax 1 (AU 0 2 rfl (bnd h fun Ase Bbb h=>(KH (T:=54) (R:=(Bb 54)) (xs:=Am) 0 Aq rfl (by kernel_rfl) (by kernel_rfl) (by kernel_rfl) (.inl ⟨rfl,rfl⟩) (.inr ⟨_,.i64,rfl,(by kernel_rfl)⟩) (by kernel_rfl) (by kernel_rfl) Bbb BJ fun X2 ZS Acs=>?_))))))))))
        refine Ax 1 (AU 0 4 rfl (Ax 1 (bnd h fun RU Bf2 h=>(Jd (T:=54) (kd:=.i64) (R:=(Bb 54)) rfl Bf2 BJ fun Bzb Bz0 Bpv e279 B0f=>?_))))
        obtain ⟨Bvd,Byb,rfl,Bm4⟩:=DI 54 Bpv
        refine IM rfl e279 (fun w h_=>h_.mem _ (.tail _ (.head _))) (BY (K.mv5 (K.mv5 (K.mv5 (K.mv5 (K.mv5 (K.mv5 (B_ h (fun _ Bdl=>(hR.G3 Bdl Bm1 Ack Acn Acp Ek BJ Acs Bm4 hG)) rfl ⟨(.tail _ Fa),(.tail _ BD),(.tail _ BD),(.tail _ BD),(.tail _ BU),trivial⟩ (fun _ e=>BZ (kpn 1 e rfl)) fun Ku h=>?_))))))))
        rintro _ _ ⟨Aml,Ahn,Apu,Qz,My,MU,Amo,Aht,Apv,Amq,Ahv,Apy,Bm7,Acu,Bm8,Bna,rfl,rfl⟩
        refine Er (K.mv6 (K.drop (knl (Bo (Cw ?_)))))
        obtain rfl:=Ap h
        exact kdv (.tuple #[]) [bk b0 #[Aa Ahn Ku.1 Apu,Aa My Ku.2.1 MU,pt Bm] 75,Aml,Qz,bk Bm #[sv Bu,iv Bv,iv Bx,iv Ku.2.2.1,Aa Aht Ku.2.2.2.1 Apv,Aa Ahv Ku.2.2.2.2.1 Apy,iv Ku.2.2.2.2.2,Aa Ca Bg Cb] 73,Amo,Amq] (BH (PR.okI ⟨Aml,Ahn,Apu,Qz,My,MU,Amo,Aht,Apv,Amq,Ahv,Apy,Bm7,Acu,Bm8,Bna,rfl,rfl⟩))
       ·refine ksr (kx 2 (Ad ?_))
        refine AF h (fun h=>?_) fun h=>?_
        ·refine ksr (kx 3 (kld 1 2 rfl (kx 2 (kld 4 6 rfl (kx 1 (Ad ?_))))))
         refine AF h (fun h=>?_) fun h=>?_
         ·refine Bc (kx 1 (kld 0 3 rfl (K.drop (B_ h (fun _ Bdn=>(GR.ok Bdn)) rfl trivial (fun _ e=>BZ (kpn 6 e rfl)) fun Bp1 h=>?_))))
          rintro _ _ ⟨rfl,rfl⟩
          refine GI (knl (Bo (Cw ?_)))
          obtain rfl:=Ap h
          exact kdv (.tuple #[]) [bk b0 #[Aa Av Ac Aw,Aa BM Ae BN,pt Bm] 75,B8,C7,bk Bm #[sv Bu,iv Bv,iv Bx,iv BO,Aa Cp By Cq,Aa CA B9 CB,iv BP,Aa Ca Bg Cb] 73,Dc,Dq] (BH (PR.okI ⟨B8,Av,Aw,C7,BM,BN,Dc,Cp,Cq,Dq,CA,CB,AK,Ds,DF,D_,rfl,rfl⟩))
         ·refine Bt (Bo (Cw ?_))
          obtain rfl:=Ap h
          exact kdv (.tuple #[]) [bk b0 #[Aa Av Ac Aw,Aa BM Ae BN,pt Bm] 75,B8,C7,bk Bm #[sv Bu,iv Bv,iv Bx,iv BO,Aa Cp By Cq,Aa CA B9 CB,iv BP,Aa Ca Bg Cb] 73,Dc,Dq] (K.drop (BH (PR.okI ⟨B8,Av,Aw,C7,BM,BN,Dc,Cp,Cq,Dq,CA,CB,AK,Ds,DF,D_,rfl,rfl⟩)))
        ·refine Bc (kx 1 (CE 0 0 5 rfl (K.drop (kx 1 (K.mv5 (K.mv5 (K.mv5 (K.mv5 (K.mv5 (K.mv5 ?_))))))))))
         refine B_ h (fun _ Bdo=>(hR.Is Bdo AK Ds DF D_ Ek BJ hG)) rfl ⟨Fa,BD,BU,trivial⟩ (fun _ e=>BZ (kpn 0 e rfl)) fun Kv h=>?_
         rintro _ _ ⟨Amt,Ahw,Apz,Amv,Ahx,Ap0,Amw,Ahy,Ap2,Amy,Ah0,Ap6,Bnd,Bnh,Bnl,Bnp,rfl,rfl⟩
         refine Er (knl (Bo (Cw ?_)))
         obtain rfl:=Ap h
         exact kdv (.tuple #[]) [bk b0 #[Aa Ahw Kv.1 Apz,Aa Ahx Kv.2.1 Ap0,pt Bm] 75,Amt,Amv,bk Bm #[sv Bu,iv Bv,iv Bx,iv Kv.2.2.1,Aa Ahy Kv.2.2.2.1 Ap2,Aa Ah0 Kv.2.2.2.2.1 Ap6,iv Kv.2.2.2.2.2,Aa Ca Bg Cb] 73,Amw,Amy] (BH (PR.okI ⟨Amt,Ahw,Apz,Amv,Ahx,Ap0,Amw,Ahy,Ap2,Amy,Ah0,Ap6,Bnd,Bnh,Bnl,Bnp,rfl,rfl⟩))
def E3.l0:Nat→(Rc:CK)→(Bu:ByteArray)→(Bv:Int)→(Bx:Int)→(Bg:Ag)→(a1:List Tree)→(x1:Int)→(l2:Db)→(l7:Ag)→(x12:Int)→(l13:Bl)→(l18:Ag)→(x23:Int)→Option (PR (Db×Ag×Int×Bl×Ag×Int) (Int×Int))
 | 0,_,_,_,_,_,_,_,_,_,_,_,_,_=>none
 | m24+1,Rc,Bu,Bv,Bx,Bg,a1,x1,l2,l7,x12,l13,l18,x23=>cond (decide (x1 < ((a1.length:Nat):Int))) ((AZ a1 x1).bind fun x26=>PR.bind (Rc.DA l2 l7 Bu Bv Bx x12 l13 l18 x23 Bg x26.kind x26.text x26.n x26.at_ x26.kids false) fun r36=>E3.l0 m24 Rc Bu Bv Bx Bg a1 (IntKind.i64.wrap (x1+1)) r36.1 r36.2.1 r36.2.2.1 r36.2.2.2.1 r36.2.2.2.2.1 r36.2.2.2.2.2) (some (PR.ok (l2,l7,x12,l13,l18,x23)))
def E3.g (Rc:CK) (k:Nat) (Ac:Db) (Ae:Ag) (Bu:ByteArray) (Bv:Int) (Bx:Int) (BO:Int) (By:Bl) (B9:Ag) (BP:Int) (Bg:Ag) (a1:List Tree):Option (PR (Db×Ag×Int×Bl×Ag×Int) (Int×Int)):=E3.l0 k Rc Bu Bv Bx Bg a1 0 Ac Ae BO By B9 BP
theorem E3.C0 {Rc:CK} (hR:Rc.Good) {k:Nat}:E3.C (E3.g Rc k):=by
 intro Ac Ae B9 Bg Bu Bv Bx BO BP By a1 b0 Aw BN Bm Cq CB Cb C5 B8 C7 Dc Dq EU DW G Av BM Cp CA Ca C3 r h AK Ds DF D_ Ek EW hG
 refine Cz (args:=[pt b0,Aa C3 a1 C5]) Tryz.func31 rfl (B0 rfl) ?_
 intro A X hh_
 obtain ⟨Fa,DS,BU,_⟩:=hh_
 unfold E3.g at h
 refine K.eq (env':=[(0,pt b0),(1,Aa C3 a1 C5)]) (l':=bk b0 #[Aa Av Ac Aw,Aa BM Ae BN,pt Bm] 75 :: B8 :: C7 :: bk Bm #[sv Bu,iv Bv,iv Bx,iv BO,Aa Cp By Cq,Aa CA B9 CB,iv BP,Aa Ca Bg Cb] 73 :: Dc :: Dq :: X) rfl rfl (ksr (kx 3 (Ad (Co (K.mv5 (K.mv5 (K.Bq (K.Bq (K.mv5 (K.mv5 ?_))))))))))
 refine EL (τ:=Int×Db×Ag×Int×Bl×Ag×Int×Ab×Ar×Nat×Ab×Ar×Nat×Ab×Ar×Nat×Ab×Ar×Nat) (fun t=>[(0,pt b0),(6,Aa C3 a1 C5),(7,iv ((a1.length:Nat):Int)),(8,iv t.1)]) (fun t=>bk b0 #[Aa t.2.2.2.2.2.2.2.2.1 t.2.1 t.2.2.2.2.2.2.2.2.2.1,Aa t.2.2.2.2.2.2.2.2.2.2.2.1 t.2.2.1 t.2.2.2.2.2.2.2.2.2.2.2.2.1,pt Bm] 75 :: bk Bm #[sv Bu,iv Bv,iv Bx,iv t.2.2.2.1,Aa t.2.2.2.2.2.2.2.2.2.2.2.2.2.2.1 t.2.2.2.2.1 t.2.2.2.2.2.2.2.2.2.2.2.2.2.2.2.1,Aa t.2.2.2.2.2.2.2.2.2.2.2.2.2.2.2.2.2.1 t.2.2.2.2.2.1 t.2.2.2.2.2.2.2.2.2.2.2.2.2.2.2.2.2.2,iv t.2.2.2.2.2.2.1,Aa Ca Bg Cb] 73 :: t.2.2.2.2.2.2.2.1 :: t.2.2.2.2.2.2.2.2.2.2.1 :: t.2.2.2.2.2.2.2.2.2.2.2.2.2.1 :: t.2.2.2.2.2.2.2.2.2.2.2.2.2.2.2.2.1 :: X) (fun m t=>E3.l0 m Rc Bu Bv Bx Bg a1 t.1 t.2.1 t.2.2.1 t.2.2.2.1 t.2.2.2.2.1 t.2.2.2.2.2.1 t.2.2.2.2.2.2.1=some r∧AL FD 43 t.2.2.2.2.2.2.2.1 (Aa t.2.2.2.2.2.2.2.2.1 t.2.1 t.2.2.2.2.2.2.2.2.2.1) t.2.1∧Ah encS 9 1 t.2.2.2.2.2.2.2.2.2.2.1 (Aa t.2.2.2.2.2.2.2.2.2.2.2.1 t.2.2.1 t.2.2.2.2.2.2.2.2.2.2.2.2.1) t.2.2.1∧Ah Dt 78 3 t.2.2.2.2.2.2.2.2.2.2.2.2.2.1 (Aa t.2.2.2.2.2.2.2.2.2.2.2.2.2.2.1 t.2.2.2.2.1 t.2.2.2.2.2.2.2.2.2.2.2.2.2.2.2.1) t.2.2.2.2.1∧Ah encS 9 1 t.2.2.2.2.2.2.2.2.2.2.2.2.2.2.2.2.1 (Aa t.2.2.2.2.2.2.2.2.2.2.2.2.2.2.2.2.2.1 t.2.2.2.2.2.1 t.2.2.2.2.2.2.2.2.2.2.2.2.2.2.2.2.2.2) t.2.2.2.2.2.1) k (0,Ac,Ae,BO,By,B9,BP,B8,Av,Aw,C7,BM,BN,Dc,Cp,Cq,Dq,CA,CB) ⟨h,AK,Ds,DF,D_⟩ sb rfl ?_
 clear h
 rintro m24 ⟨x1,l2,l7,x12,l13,l18,x23,h3,A4,k5,h8,A9,k10,h14,Mx,k16,h19,A20,k21⟩ ⟨h,o6,GJ,o17,Gv⟩
 cases m24 with
 | zero=>simp [E3.l0] at h
 | succ m24 =>
  simp only [E3.l0] at h
  refine ksr (kx 1 (Ad (Bz ?_)))
  refine AF h (fun h=>?_) fun h=>?_
  ·refine Bt (AB (Bz (Co (ksr (bnd h fun x26 Bfz h=>(DL (T:=54) (kd:=.i64) (R:=(Bb 54)) rfl Bfz EW fun p27 u30 q31 e28 y29=>?_))))))
   obtain ⟨Mz,k33,rfl,Ic⟩:=DI 54 q31
   refine E8 rfl e28 (t6 DS) (knp #[iv 0,sv noS,iv 0,iv 0,nS] 54 fun Ox=>(AQ 0 5 #[iv x26.kind,sv x26.text,iv x26.n,iv x26.at_,Aa Mz x26.kids k33] (Fw (kx 1 (CE 0 0 5 rfl (K.drop (K.mv5 (K.mv5 (K.mv3 (K.mv5 ?_))))))))))
   refine K.mv5 (K.mv5 (B_ h (fun _ Ls=>(hR.DA Ls o6 GJ o17 Gv Ek Ic hG)) rfl ⟨Fa,DS,BU,trivial⟩ (fun _ e=>BZ (Bk (Bk (BZ (kpn 0 e rfl))))) fun r36 h=>?_))
   rintro _ _ ⟨h38,A39,Jc,h42,Ol,Pe,h46,A47,k48,h50,Jn,k52,o41,L5,o49,L6,rfl,rfl⟩
   refine Er (knl (Bo (AB (Bc (kx 2 (Ad (K.mv5 (K.mv5 (K.Bq (K.Bq ?_))))))))))
   exact K.mv5 (K.mv5 (Ea m24 (IntKind.i64.wrap (x1+1),r36.1,r36.2.1,r36.2.2.1,r36.2.2.2.1,r36.2.2.2.2.1,r36.2.2.2.2.2,h38,A39,Jc,h42,Ol,Pe,h46,A47,k48,h50,Jn,k52) (Nat.lt_succ_self _) ⟨h,o41,L5,o49,L6⟩ sb rfl))
  ·refine E6 (CY (CY (E7 (Cw ?_))))
   obtain rfl:=Ap h
   exact kdv (.tuple #[]) [bk b0 #[Aa A4 l2 k5,Aa A9 l7 k10,pt Bm] 75,h3,h8,bk Bm #[sv Bu,iv Bv,iv Bx,iv x12,Aa Mx l13 k16,Aa A20 l18 k21,iv x23,Aa Ca Bg Cb] 73,h14,h19] (K.mv5 (K.mv5 (K.mv3 (K.mv5 (K.mv5 (K.mv5 (BH (PR.okI ⟨h3,A4,k5,h8,A9,k10,h14,Mx,k16,h19,A20,k21,o6,GJ,o17,Gv,rfl,rfl⟩))))))))
def Is.g (Rc:CK) (k:Nat) (Ac:Db) (Ae:Ag) (Bu:ByteArray) (Bv:Int) (Bx:Int) (BO:Int) (By:Bl) (B9:Ag) (BP:Int) (Bg:Ag) (Af:Int) (As:ByteArray) (Aq:Int) (AC:Int) (Am:List Tree) (a2:Bool):Option (PR (Db×Ag×Int×Bl×Ag×Int) (Int×Int)):=BA (fun (l2:Ag) (l7:Bl)=>PR.bind (Rc.E3 Ac l2 Bu Bv Bx BO l7 B9 BP Bg Am) fun r13=>some (PR.ok (r13.1,r13.2.1,r13.2.2.1,r13.2.2.2.1,r13.2.2.2.2.1,r13.2.2.2.2.2))) (fun J12=>cond (Af == 8) (PR.bind (EY.f k Af As Aq AC Am (IntKind.i64.wrap (((Am.length:Nat):Int) - 1)) 50) fun r32=>J12 Ae By) (cond (Af == 30) (PR.bind (EY.f k Af As Aq AC Am ((Am.length:Nat):Int) 50) fun Ig=>J12 Ae By) (cond (Af == 12) (PR.bind (EY.f k Af As Aq AC Am ((Am.length:Nat):Int) 200) fun r38=>J12 Ae By) (cond (Af == 4) (PR.bind (MF.f k Ac Ae Bu Bv Bx BO By B9 BP Bg Af As Aq AC Am 2 Aq (⟨#[]⟩:ByteArray)) fun Gk=>J12 Ae Gk) (cond (Af == 5) (PR.bind (MF.f k Ac Ae Bu Bv Bx BO By B9 BP Bg Af As Aq AC Am 3 0 As) fun r48=>J12 Ae r48) (cond (Af == 6) (PR.bind (O2.f k Ac Ae Bu Bv Bx BO By B9 BP Bg Af As Aq AC Am) fun r55=>J12 r55 By) (cond (Af == 7) ((AZ Am 0).bind fun x62=>(cond (x62.kind == 6) ((Kg.f k x62.text).bind fun r95=>some r95) (some false):Option Bool).bind fun q72=>cond q72 (BA (fun (_:Unit)=>some (PR.ok (Ac,Ae,BO,By,B9,BP))) (fun J74=>(AZ Am 1).bind fun x75=>(cond a2 (some true) (cond (x75.kind != 5) (some true) ((Nl x62.text (⟨#[46]⟩:ByteArray)).bind fun s91:ByteArray=>(Nl s91 x75.text).bind fun s92:ByteArray=>(ME.f k s92).bind fun r93=>some (r93 == 0))):Option Bool).bind fun T_=>cond T_ (PR.bind (GR.f k 5 AC) fun r87=>J74 ()) (J74 ()))) (J12 Ae By)) (J12 Ae By))))))))
theorem Is.C0 {Rc:CK} (hR:Rc.Good) {k:Nat}:Is.C (Is.g Rc k):=by
 intro Ac Ae B9 Bg Bu As Bv Bx BO BP Af Aq AC By Am a2 b0 Aw BN Bm Cq CB Cb Bj B8 C7 Dc Dq EU Cs G Av BM Cp CA Ca Bi r h AK Ds DF D_ Ek BJ hG
 refine Cz (args:=[pt b0,.agg #[iv Af,sv As,iv Aq,iv AC,Aa Bi Am Bj],bv a2]) Tryz.func36 rfl (B0 rfl) ?_
 intro A X hh_
 obtain ⟨Fa,BD,BU,_⟩:=hh_
 unfold Is.g at h
 refine K.eq (env':=[(0,pt b0),(1,.agg #[iv Af,sv As,iv Aq,iv AC,Aa Bi Am Bj]),(2,bv a2)]) (l':=bk b0 #[Aa Av Ac Aw,Aa BM Ae BN,pt Bm] 75 :: B8 :: C7 :: bk Bm #[sv Bu,iv Bv,iv Bx,iv BO,Aa Cp By Cq,Aa CA B9 CB,iv BP,Aa Ca Bg Cb] 73 :: Dc :: Dq :: X) rfl rfl (ksr (knp #[iv Af,sv As,iv Aq,iv AC,Aa Bi Am Bj] 54 fun b1=>(Ad ?_)))
 obtain ⟨J12,Y1,h⟩:=CG h
 refine CH (τ:=Ag×Bl×Ab×Ar×Nat×Ab×Ar×Nat) (fun t=>[(0,pt b0),(4,pt b1)]) (fun t=>bk b1 #[iv Af,sv As,iv Aq,iv AC,Aa Bi Am Bj] 54 :: bk b0 #[Aa Av Ac Aw,Aa t.2.2.2.1 t.1 t.2.2.2.2.1,pt Bm] 75 :: B8 :: bk Bm #[sv Bu,iv Bv,iv Bx,iv BO,Aa t.2.2.2.2.2.2.1 t.2.1 t.2.2.2.2.2.2.2,Aa CA B9 CB,iv BP,Aa Ca Bg Cb] 73 :: Dq :: t.2.2.1 :: t.2.2.2.2.2.1 :: X) (fun t=>J12 t.1 t.2.1=some r∧Ah encS 9 1 t.2.2.1 (Aa t.2.2.2.1 t.1 t.2.2.2.2.1) t.1∧Ah Dt 78 3 t.2.2.2.2.2.1 (Aa t.2.2.2.2.2.2.1 t.2.1 t.2.2.2.2.2.2.2) t.2.1) ?_ ?_
 ·rintro ⟨l2,l7,h3,A4,k5,h8,A9,k10⟩ ⟨h,o6,GJ⟩
  subst Y1
  refine Bc (kx 2 (kld 0 4 rfl (K.drop (K.mv3 (K.mv5 (K.Bq (K.mv5 (K.mv5 (K.mv5 (B_ h (fun _ OG=>(hR.E3 OG AK o6 GJ D_ Ek BJ hG)) rfl ⟨Fa,BD,BU,trivial⟩ (fun _ e=>kpn 0 e rfl) fun r13 h=>?_))))))))))
  rintro _ _ ⟨h15,F0,k17,h19,A20,k21,h23,Fs,k25,h27,A28,k29,L3,Gv,JE,L4,rfl,rfl⟩
  refine Er (knl (Cw ?_))
  obtain rfl:=Ap h
  exact kdv (.tuple #[]) [bk b0 #[Aa F0 r13.1 k17,Aa A20 r13.2.1 k21,pt Bm] 75,h15,h19,bk Bm #[sv Bu,iv Bv,iv Bx,iv r13.2.2.1,Aa Fs r13.2.2.2.1 k25,Aa A28 r13.2.2.2.2.1 k29,iv r13.2.2.2.2.2,Aa Ca Bg Cb] 73,h23,h27] (BH (PR.okI ⟨h15,F0,k17,h19,A20,k21,h23,Fs,k25,h27,A28,k29,L3,Gv,JE,L4,rfl,rfl⟩))
 ·skip
  refine ksr (kx 1 (kld 0 0 rfl (Ad (Co (ksr (kx 2 (Ad ?_)))))))
  refine AF h (fun h=>?_) fun h=>?_
  ·refine Bc (CE 0 0 5 rfl (kx 1 (kld 0 4 rfl (kx 2 (B_ h (fun _ OJ=>(EY.ok OJ BJ)) rfl ⟨(t7 BD),trivial⟩ (fun _ e=>BZ (Bk (kpn 7 e rfl))) fun r32 h=>?_)))))
   rintro _ _ ⟨rfl,rfl⟩
   refine GI (knl (Bo (AB (K.mv5 (K.Bq (K.mv6 (K.mv6 (K.mv6 (K.mv6 (K.mv6 ?_))))))))))
   exact AV (Ae,By,C7,BM,BN,Dc,Cp,Cq) ⟨h,Ds,DF⟩ sb rfl
  ·refine ksr (kx 2 (Ad ?_))
   refine AF h (fun h=>?_) fun h=>?_
   ·refine Bc (CE 0 0 5 rfl (kx 1 (kld 0 4 rfl (kx 1 (B_ h (fun _ OK=>(EY.ok OK BJ)) rfl ⟨(t7 BD),trivial⟩ (fun _ e=>BZ (Bk (kpn 7 e rfl))) fun Ig h=>?_)))))
    rintro _ _ ⟨rfl,rfl⟩
    refine GI (knl (Bo (AB (K.mv5 (K.Bq (K.mv6 (K.mv6 (K.mv6 (K.mv6 (K.mv6 ?_))))))))))
    exact AV (Ae,By,C7,BM,BN,Dc,Cp,Cq) ⟨h,Ds,DF⟩ sb rfl
   ·refine ksr (kx 2 (Ad ?_))
    refine AF h (fun h=>?_) fun h=>?_
    ·refine Bc (CE 0 0 5 rfl (kx 1 (kld 0 4 rfl (kx 1 (B_ h (fun _ OM=>(EY.ok OM BJ)) rfl ⟨(t7 BD),trivial⟩ (fun _ e=>BZ (Bk (kpn 7 e rfl))) fun r38 h=>?_)))))
     rintro _ _ ⟨rfl,rfl⟩
     refine GI (knl (Bo (AB (K.mv5 (K.Bq (K.mv6 (K.mv6 (K.mv6 (K.mv6 (K.mv6 ?_))))))))))
     exact AV (Ae,By,C7,BM,BN,Dc,Cp,Cq) ⟨h,Ds,DF⟩ sb rfl
    ·refine ksr (kx 2 (Ad ?_))
     refine AF h (fun h=>?_) fun h=>?_
     ·refine Bc (kx 1 (CE 0 0 5 rfl (kx 1 (kld 0 2 rfl (kx 1 (K.mv5 (K.mv5 (K.mv3 (B_ h (fun _ ON=>(MF.ok ON (AL.rd AK) (Ah.rd Ds) DF (Ah.rd D_) Ek BJ)) rfl ⟨(.tail _ (.head _)),(.tail _ (.tail _ (.head _))),(.tail _ (.tail _ (.tail _ (.head _)))),(t4 Fa),(t4 BD),trivial⟩ (fun _ e=>BZ (Bk (kpn 4 e rfl))) fun Gk h=>?_)))))))))
      rintro _ _ ⟨h43,A44,k45,Pw,rfl,rfl⟩
      refine NS (knl (Bo (AB (K.Ak (K.mv5 (K.mv6 (K.Bq (K.mv6 (K.mv5 (K.mv6 ?_))))))))))
      exact AV (Ae,Gk,C7,BM,BN,h43,A44,k45) ⟨h,Ds,Pw⟩ sb rfl
     ·refine ksr (kx 2 (Ad ?_))
      refine AF h (fun h=>?_) fun h=>?_
      ·refine Bc (kx 1 (CE 0 0 5 rfl (kx 1 (kld 0 1 rfl (kx 1 (K.mv5 (K.mv5 (K.mv3 (B_ h (fun _ Zk=>(MF.ok Zk (AL.rd AK) (Ah.rd Ds) DF (Ah.rd D_) Ek BJ)) rfl ⟨(.tail _ (.head _)),(.tail _ (.tail _ (.head _))),(.tail _ (.tail _ (.tail _ (.head _)))),(t4 Fa),(t4 BD),trivial⟩ (fun _ e=>BZ (Bk (kpn 4 e rfl))) fun r48 h=>?_)))))))))
       rintro _ _ ⟨h50,Jn,k52,L6,rfl,rfl⟩
       refine NS (knl (Bo (AB (K.Ak (K.mv5 (K.mv6 (K.Bq (K.mv6 (K.mv5 (K.mv6 ?_))))))))))
       exact AV (Ae,r48,C7,BM,BN,h50,Jn,k52) ⟨h,Ds,L6⟩ sb rfl
      ·refine ksr (kx 2 (Ad ?_))
       refine AF h (fun h=>?_) fun h=>?_
       ·refine Bc (kx 1 (CE 0 0 5 rfl (K.Bq (K.Bq (K.mv3 (B_ h (fun _ SV=>(O2.ok SV (AL.rd AK) Ds (Ah.rd DF) (Ah.rd D_) Ek BJ)) rfl ⟨(.tail _ (.head _)),(.tail _ (.tail _ (.head _))),(.tail _ (.tail _ (.tail _ (.head _)))),(t4 Fa),(t4 BD),trivial⟩ (fun _ e=>BZ (Bk (kpn 4 e rfl))) fun r55 h=>?_))))))
        rintro _ _ ⟨h57,GO,k59,o60,rfl,rfl⟩
        refine NS (knl (Bo (AB (K.mv5 (K.Ak (K.mv6 (K.Bq (K.mv6 (K.mv5 (K.mv6 ?_))))))))))
        exact AV (r55,By,h57,GO,k59,Dc,Cp,Cq) ⟨h,o60,DF⟩ sb rfl
       ·refine ksr (kx 2 (Ad ?_))
        refine AF h (fun h=>?_) fun h=>?_
        ·refine ksr (kx 1 (kld 0 4 rfl (bnd h fun x62 Z6 h=>(DL (T:=54) (kd:=.i64) (R:=(Bb 54)) rfl Z6 BJ fun p63 u66 q67 e64 y65=>?_))))
         obtain ⟨GP,k69,rfl,Kr⟩:=DI 54 q67
         refine E8 rfl e64 (t7 BD) (knp #[iv 0,sv noS,iv 0,iv 0,nS] 54 fun b71=>(AQ 0 5 #[iv x62.kind,sv x62.text,iv x62.n,iv x62.at_,Aa GP x62.kids k69] (Ad (bnd h fun q72 YV h=>?_))))
         refine Gr [(0,pt b0),(2,bv a2),(4,pt b1),(6,pt b71),(66,bv q72)] (bk b71 #[iv x62.kind,sv x62.text,iv x62.n,iv x62.at_,Aa GP x62.kids k69] 54 :: bk b1 #[iv Af,sv As,iv Aq,iv AC,Aa Bi Am Bj] 54 :: bk b0 #[Aa Av Ac Aw,Aa BM Ae BN,pt Bm] 75 :: B8 :: C7 :: bk Bm #[sv Bu,iv Bv,iv Bx,iv BO,Aa Cp By Cq,Aa CA B9 CB,iv BP,Aa Ca Bg Cb] 73 :: Dc :: Dq :: X) ?_ ?_
         ·clear YV
          refine AF h (fun h=>?_) fun h=>?_
          ·obtain ⟨J74,A9z,h⟩:=CG h
           refine CH (τ:=Unit) (fun t=>[]) (fun t=>bk b0 #[Aa Av Ac Aw,Aa BM Ae BN,pt Bm] 75 :: B8 :: C7 :: bk Bm #[sv Bu,iv Bv,iv Bx,iv BO,Aa Cp By Cq,Aa CA B9 CB,iv BP,Aa Ca Bg Cb] 73 :: Dc :: Dq :: X) (fun t=>J74 ()=some r) ?_ ?_
           ·rintro ⟨⟩ h
            subst A9z
            refine Cr (DK (CZ ?_))
            obtain rfl:=Ap h
            exact kdv (.tuple #[]) [bk b0 #[Aa Av Ac Aw,Aa BM Ae BN,pt Bm] 75,B8,C7,bk Bm #[sv Bu,iv Bv,iv Bx,iv BO,Aa Cp By Cq,Aa CA B9 CB,iv BP,Aa Ca Bg Cb] 73,Dc,Dq] (BH (PR.okI ⟨B8,Av,Aw,C7,BM,BN,Dc,Cp,Cq,Dq,CA,CB,AK,Ds,DF,D_,rfl,rfl⟩))
           ·skip
            refine ksr (kx 1 (kld 1 4 rfl (bnd h fun x75 Bgk h=>(DL (T:=54) (kd:=.i64) (R:=(Bb 54)) rfl Bgk BJ fun p76 u79 q80 e77 y78=>?_))))
            obtain ⟨X4,k82,rfl,o83⟩:=DI 54 q80
            refine E8 rfl e77 (t8 BD) (knp #[iv 0,sv noS,iv 0,iv 0,nS] 54 fun b84=>(AQ 0 5 #[iv x75.kind,sv x75.text,iv x75.n,iv x75.at_,Aa X4 x75.kids k82] (Ad (bnd h fun T_ YW h=>?_))))
            refine Gr [(4,pt b1),(86,bv T_)] (bk b1 #[iv Af,sv As,iv Aq,iv AC,Aa Bi Am Bj] 54 :: bk b0 #[Aa Av Ac Aw,Aa BM Ae BN,pt Bm] 75 :: B8 :: C7 :: bk Bm #[sv Bu,iv Bv,iv Bx,iv BO,Aa Cp By Cq,Aa CA B9 CB,iv BP,Aa Ca Bg Cb] 73 :: Dc :: Dq :: X) ?_ ?_
            ·clear YW
             refine AF h (fun h=>?_) fun h=>?_
             ·refine Bc (kx 1 (kld 0 3 rfl (K.drop (B_ h (fun _ Zx=>(GR.ok Zx)) rfl trivial (fun _ e=>Bk (BZ (Bk (kpn 6 e rfl)))) fun r87 h=>?_))))
              rintro _ _ ⟨rfl,rfl⟩
              exact GI (Ad (AV () h trivial rfl))
             ·exact Bt (AB (K.drop (AV () h trivial rfl)))
            ·have h:=YW
             clear YW
             refine Bc (kx 2 ?_)
             refine Dw 72 h (fun h=>?_) fun h=>?_
             ·exact kx 14 (Ad (K.drop (K.drop (C2 ⟨gr,gb (Ap h),trivial⟩))))
             ·refine kx 1 (kld 0 0 rfl (kx 3 ?_))
              refine Dw 77 h (fun h=>?_) fun h=>?_
              ·exact kx 9 (Ad (K.drop (K.drop (C2 ⟨gr,gb (Ap h),trivial⟩))))
              ·refine kx 1 (kld 1 1 rfl (K.Ao (K.drop (bnd h fun s91 Bez h=>(Z_ rfl (by kernel_rfl) (by kernel_rfl) (by kernel_rfl) (by kernel_rfl) Bez (kx 1 (kld 0 1 rfl (K.drop (bnd h fun s92 Be0 h=>(Z_ rfl (by kernel_rfl) (by kernel_rfl) (by kernel_rfl) (by kernel_rfl) Be0 ?_))))))))))
               exact bnd h fun r93 SY h=>(FN (ME.ok SY hG) ⟨(t7 BU),trivial⟩ (kx 2 (Ad (C2 ⟨gr,gb (Ap h),trivial⟩))))
          ·refine Bt (Bo (AB (K.drop (K.mv5 (K.Bq (K.mv6 (K.mv6 (K.mv6 (K.mv6 (K.mv6 ?_))))))))))
           exact AV (Ae,By,C7,BM,BN,Dc,Cp,Cq) ⟨h,Ds,DF⟩ sb rfl
         ·have h:=YV
          clear YV
          refine Bc (kx 1 (kld 0 0 rfl (kx 2 ?_)))
          refine Dw 62 h (fun h=>?_) fun h=>?_
          ·exact kx 1 (kld 0 1 rfl (bnd h fun r95 MQ h=>(FN (Kg.ok MQ) trivial (kx 1 (Ad (C2 ⟨gr,gr,gr,gr,gb (Ap h),trivial⟩))))))
          ·exact kx 4 (Ad (C2 ⟨gr,gr,gr,gr,gb (Ap h),trivial⟩))
        ·exact Bt (Bo (AB (K.mv5 (K.Bq (K.mv6 (K.mv6 (K.mv6 (K.mv6 (K.mv6 (AV (Ae,By,C7,BM,BN,Dc,Cp,Cq) ⟨h,Ds,DF⟩ sb rfl))))))))))
def G3.g (Rc:CK) (k:Nat) (Ac:Db) (Ae:Ag) (Bu:ByteArray) (Bv:Int) (Bx:Int) (BO:Int) (By:Bl) (B9:Ag) (BP:Int) (Bg:Ag) (Af:Int) (As:ByteArray) (Aq:Int) (AC:Int) (Am:List Tree) (a2:List Tree) (M5:Int) (M6:ByteArray) (M7:Int) (M8:Int) (Ld:List Tree) (a4:Int):Option (PR (Db×Ag×Int×Bl×Ag×Int) (Int×Int)):=(Ow 16 B9 (⟨#[]⟩:ByteArray) a4).bind fun l3=>BA (fun (x8:Int) (l9:Ag)=>PR.bind (Rc.DA Ac Ae Bu Bv Bx x8 By l9 (IntKind.i64.wrap (BP+1)) Bg M5 M6 M7 M8 Ld false) fun BQ=>(D8 BQ.2.2.2.2.1 0 ((B9.length:Nat):Int)).bind fun JB=>some (PR.ok (BQ.1,BQ.2.1,BQ.2.2.1,BQ.2.2.2.1,JB,IntKind.i64.wrap (BQ.2.2.2.2.2 - 1)))) (fun J14=>cond (decide (a4 > 0)) (PR.bind (GQ.f k Ac Ae Bu Bv Bx BO By l3 BP Bg Af As Aq AC Am a2) fun r36=>J14 r36.1 r36.2) (J14 BO l3))
theorem G3.C0 {Rc:CK} (hR:Rc.Good) {k:Nat}:G3.C (G3.g Rc k):=by
 intro Ac Ae B9 Bg Bu As M6 Bv Bx BO BP Af Aq AC M5 M7 M8 a4 By Am a2 Ld b0 Aw BN Bm Cq CB Cb Bj FY O0 B8 C7 Dc Dq EU Cs Kb XA G Av BM Cp CA Ca Bi FX Oq r h AK Ds DF D_ Ek BJ N3 Aig hG
 refine Cz (args:=[pt b0,.agg #[iv Af,sv As,iv Aq,iv AC,Aa Bi Am Bj],Aa FX a2 FY,.agg #[iv M5,sv M6,iv M7,iv M8,Aa Oq Ld O0],iv a4]) Tryz.func35 rfl (B0 rfl) ?_
 intro A X hh_
 obtain ⟨Fa,BD,ML,Bbv,BU,_⟩:=hh_
 unfold G3.g at h
 refine K.eq (env':=[(0,pt b0),(1,.agg #[iv Af,sv As,iv Aq,iv AC,Aa Bi Am Bj]),(2,Aa FX a2 FY),(3,.agg #[iv M5,sv M6,iv M7,iv M8,Aa Oq Ld O0]),(4,iv a4)]) (l':=bk b0 #[Aa Av Ac Aw,Aa BM Ae BN,pt Bm] 75 :: B8 :: C7 :: bk Bm #[sv Bu,iv Bv,iv Bx,iv BO,Aa Cp By Cq,Aa CA B9 CB,iv BP,Aa Ca Bg Cb] 73 :: Dc :: Dq :: X) rfl rfl (ksr (knp #[iv Af,sv As,iv Aq,iv AC,Aa Bi Am Bj] 54 fun b1=>(knp #[iv M5,sv M6,iv M7,iv M8,Aa Oq Ld O0] 54 fun b2=>(AY (kx 3 (kld 2 2 rfl (kx 2 (kld 5 5 rfl (kx 2 (Ad ?_))))))))))
 refine Bz (kpr [(0,0),(1,0),(2,0),(3,3),(4,0),(5,0),(6,0),(7,3),(8,0),(9,0),(10,3),(11,0),(12,1)] [2,5] (Ax 3 (AU 0 2 rfl (Ax 3 (AU 0 2 rfl (Ax 2 (AU 1 5 rfl (Ax 1 (kpt (K.mv7 ?_))))))))))
 refine bnd h fun l3 hl3 h=>(At7 (kz:=.i64) (z0:=(⟨#[]⟩:ByteArray)) .i64 IZ (by kernel_rfl) rfl S0 (by kernel_rfl) (by kernel_rfl) (by kernel_rfl) (by kernel_rfl) hl3 D_ fun h4 A5 k6 o7=>(Dp [3,6] rfl (BY (kx 2 (K.mv6 (AQ 5 1 #[sv Bu,iv Bv,iv Bx,iv BO,Aa Cp By Cq,Aa A5 l3 k6,iv BP,Aa Ca Bg Cb] (Ad ?_)))))))
 obtain ⟨J14,I_,h⟩:=CG h
 refine CH (τ:=Int×Ag×Ab×Ar×Nat) (fun t=>[(0,pt b0),(8,pt b2),(10,iv ((B9.length:Nat):Int))]) (fun t=>bk Bm #[sv Bu,iv Bv,iv Bx,iv t.1,Aa Cp By Cq,Aa t.2.2.2.1 t.2.1 t.2.2.2.2,iv BP,Aa Ca Bg Cb] 73 :: bk b2 #[iv M5,sv M6,iv M7,iv M8,Aa Oq Ld O0] 54 :: bk b0 #[Aa Av Ac Aw,Aa BM Ae BN,pt Bm] 75 :: B8 :: C7 :: Dc :: t.2.2.1 :: X) (fun t=>J14 t.1 t.2.1=some r∧Ah encS 9 1 t.2.2.1 (Aa t.2.2.2.1 t.2.1 t.2.2.2.2) t.2.1) ?_ ?_
 ·rintro ⟨x8,l9,h10,Ok,k12⟩ ⟨h,Rb⟩
  subst I_
  refine ksr (kx 3 (kld 2 2 rfl (kx 2 (kld 0 6 rfl (kx 3 (AQ 6 1 #[sv Bu,iv Bv,iv Bx,iv x8,Aa Cp By Cq,Aa Ok l9 k12,iv (IntKind.i64.wrap (BP+1)),Aa Ca Bg Cb] (AY (kx 1 (CE 1 0 5 rfl (K.Ao ?_))))))))))
  refine K.drop (K.mv5 (K.mv5 (K.Ak (K.mv5 (K.mv5 (K.mv5 (B_ h (fun _ Lr=>(hR.DA Lr AK Ds DF Rb Ek Aig hG)) rfl ⟨Fa,Bbv,BU,trivial⟩ (fun _ e=>Bk (kpn 0 e rfl)) fun BQ h=>?_)))))))
  rintro _ _ ⟨h17,Fh,k19,h21,Im,k23,h25,A26,k27,h29,Jl,k31,o20,IU,TK,o32,rfl,rfl⟩
  refine Er (AY (kx 3 (kld 0 2 rfl (kx 2 (kld 3 6 rfl (kx 3 (K.mv3 (AQ 6 1 #[sv Bu,iv Bv,iv Bx,iv BQ.2.2.1,Aa A26 BQ.2.2.2.1 k27,Aa Jl BQ.2.2.2.2.1 k31,iv (IntKind.i64.wrap (BQ.2.2.2.2.2 - 1)),Aa Ca Bg Cb] (Ad (kpr [(0,0),(1,0),(2,0),(3,3),(4,0),(5,0),(6,0),(7,3),(8,0),(9,0),(10,3),(11,0),(12,0)] [0,1] ?_))))))))))
  refine Ax 3 (AU 1 2 rfl (Ax 3 (AU 1 2 rfl (Ax 2 (AU 0 5 rfl (Ax 1 (bnd h fun JB Bbe h=>(Ary (T:=9) (sz:=1) (k:=.i64) (xs:=BQ.2.2.2.2.1) ((B9.length:Nat):Int) IZ rfl (by kernel_rfl) (by kernel_rfl) (by kernel_rfl) (by kernel_rfl) (by kernel_rfl) (by kernel_rfl) Bbe o32 fun Ic=>(BY (kx 2 ?_))))))))))
  refine AQ 5 1 #[sv Bu,iv Bv,iv Bx,iv BQ.2.2.1,Aa A26 BQ.2.2.2.1 k27,Aa Jl JB k31,iv (IntKind.i64.wrap (BQ.2.2.2.2.2 - 1)),Aa Ca Bg Cb] (knl (Cw ?_))
  obtain rfl:=Ap h
  exact kdv (.tuple #[]) [bk b0 #[Aa Fh BQ.1 k19,Aa Im BQ.2.1 k23,pt Bm] 75,h17,h21,bk Bm #[sv Bu,iv Bv,iv Bx,iv BQ.2.2.1,Aa A26 BQ.2.2.2.1 k27,Aa Jl JB k31,iv (IntKind.i64.wrap (BQ.2.2.2.2.2 - 1)),Aa Ca Bg Cb] 73,h25,h29] (K.mv5 (K.mv5 (K.Ak (K.mv5 (K.mv5 (K.mv5 (BH (PR.okI ⟨h17,Fh,k19,h21,Im,k23,h25,A26,k27,h29,Jl,k31,o20,IU,TK,Ic,rfl,rfl⟩))))))))
 ·skip
  refine ksr (kx 2 (Ad ?_))
  refine AF h (fun h=>?_) fun h=>?_
  ·refine Bc (kx 1 (CE 3 0 5 rfl (K.mv3 (K.drop (kx 1 (K.Ao (K.Ao (K.mv3 (B_ h (fun _ Ls=>(GQ.ok Ls (AL.rd AK) (Ah.rd Ds) (Ah.rd DF) o7 Ek BJ N3)) rfl ⟨(.tail _ (.head _)),(.tail _ (.tail _ (.head _))),(.tail _ (.tail _ (.tail _ (.head _)))),(t4 Fa),(t4 BD),(t4 ML),trivial⟩ (fun _ e=>Bk (kpn 4 e rfl)) fun r36 h=>?_)))))))))
   rintro _ _ ⟨h38,A39,Jc,o41,rfl,rfl⟩
   exact NS (Ad (K.Ak (K.mv6 (K.mv6 (K.mv6 (K.Bq (K.mv6 (K.mv6 (AV (r36.1,r36.2,h38,A39,Jc) ⟨h,o41⟩ sb rfl)))))))))
  ·refine Bt (AB (K.mv3 (K.drop (K.Ao (K.mv6 (K.mv6 (K.mv6 (K.mv6 (K.mv6 (K.mv6 ?_))))))))))
   exact AV (BO,l3,h4,A5,k6) ⟨h,o7⟩ sb rfl
def It.g (Rc:CK) (k:Nat) (Ac:Db) (Ae:Ag) (Bu:ByteArray) (Bv:Int) (Bx:Int) (BO:Int) (By:Bl) (B9:Ag) (BP:Int) (Bg:Ag) (Af:Int) (As:ByteArray) (Aq:Int) (AC:Int) (Am:List Tree):Option (PR (Db×Ag×Int×Bl×Ag×Int) (Int×Int)):=PR.bind (EY.f k Af As Aq AC Am ((Ac.length:Nat):Int) 100) fun r2=>BA (fun (_:Unit)=>PR.bind (EY.f k Af As Aq AC Am Aq 50) fun r5=>(MG.f k Ac Ae Bu Bv Bx BO By B9 BP Bg As).bind fun r7=>(D8 Am 0 Aq).bind fun l13=>PR.bind (GQ.f k Ac r7 As AC Aq 0 ([]) ([]) 0 B9 Af As Aq AC Am l13) fun E0=>(AZ Am Aq).bind fun x23=>PR.bind (Rc.DA Ac r7 As AC Aq E0.1 ([]) E0.2 0 B9 x23.kind x23.text x23.n x23.at_ x23.kids false) fun r32=>(apd 64 r32.1 [(As,AC,Aq,r32.2.2.1,r32.2.2.2.1)]).bind fun l53=>some (PR.ok (l53,r32.2.1,BO,By,B9,BP))) (fun J4=>(Kg.f k As).bind fun JK=>cond JK (PR.bind (GR.f k 5 AC) fun r60=>J4 ()) (J4 ()))
theorem It.C0 {Rc:CK} (hR:Rc.Good) {k:Nat}:It.C (It.g Rc k):=by
 intro Ac Ae B9 Bg Bu As Bv Bx BO BP Af Aq AC By Am b0 Aw BN Bm Cq CB Cb Bj B8 C7 Dc Dq EU Cs G Av BM Cp CA Ca Bi r h AK Ds DF D_ Ek BJ hG
 refine Cz (args:=[pt b0,.agg #[iv Af,sv As,iv Aq,iv AC,Aa Bi Am Bj]]) Tryz.func32 rfl (B0 rfl) ?_
 intro A X hh_
 obtain ⟨Fa,BD,BU,_⟩:=hh_
 unfold It.g at h
 refine K.eq (env':=[(0,pt b0),(1,.agg #[iv Af,sv As,iv Aq,iv AC,Aa Bi Am Bj])]) (l':=bk b0 #[Aa Av Ac Aw,Aa BM Ae BN,pt Bm] 75 :: B8 :: C7 :: bk Bm #[sv Bu,iv Bv,iv Bx,iv BO,Aa Cp By Cq,Aa CA B9 CB,iv BP,Aa Ca Bg Cb] 73 :: Dc :: Dq :: X) rfl rfl (ksr (knp #[iv Af,sv As,iv Aq,iv AC,Aa Bi Am Bj] 54 fun b1=>(Ad (Bz (kpr [(0,3),(1,0),(2,0),(3,0),(4,0),(5,3),(6,0)] [0,1] (Gt 0 0 5 rfl (Ax 4 (AU 1 0 rfl (Ax 1 (BY ?_))))))))))
 refine B_ h (fun _ hr2=>(EY.ok hr2 BJ)) rfl ⟨(t7 BD),trivial⟩ (fun _ e=>Bk (kpn 7 e rfl)) fun r2 h=>?_
 rintro _ _ ⟨rfl,rfl⟩
 refine GI (Ad ?_)
 obtain ⟨J4,hJ4,h⟩:=CG h
 refine CH (τ:=Unit) (fun t=>[(0,pt b0),(3,pt b1)]) (fun t=>bk b1 #[iv Af,sv As,iv Aq,iv AC,Aa Bi Am Bj] 54 :: bk b0 #[Aa Av Ac Aw,Aa BM Ae BN,pt Bm] 75 :: B8 :: C7 :: bk Bm #[sv Bu,iv Bv,iv Bx,iv BO,Aa Cp By Cq,Aa CA B9 CB,iv BP,Aa Ca Bg Cb] 73 :: Dc :: Dq :: X) (fun t=>J4 ()=some r) ?_ ?_
 ·rintro ⟨⟩ h
  subst hJ4
  refine ksr (CE 0 0 5 rfl (kx 1 (kld 0 2 rfl (B_ h (fun _ hr5=>(EY.ok hr5 BJ)) rfl ⟨(t7 BD),trivial⟩ (fun _ e=>Bk (kpn 7 e rfl)) fun r5 h=>?_))))
  rintro _ _ ⟨rfl,rfl⟩
  refine GI (AY (kx 2 (kld 0 1 rfl (K.Bq (K.Bq (K.mv3 (bnd h fun r7 hr7 h=>(B6 (MG.ok hr7 (AL.rd AK) Ds (Ah.rd DF) (Ah.rd D_) Ek) rfl ⟨(.tail _ (.head _)),(.tail _ (.tail _ (.head _))),(.tail _ (.tail _ (.tail _ (.head _)))),(t4 Fa),trivial⟩ ?_))))))))
  rintro _ _ ⟨h8,A9,k10,GJ,rfl,rfl⟩
  refine NS (AY (kx 3 (kld 0 2 rfl (kx 1 (Ad (Bz (kpr [(0,0),(1,0),(2,3),(3,0),(4,3),(5,0),(6,3),(7,0),(8,0),(9,0),(10,0),(11,3)] [2,3] (Ax 2 (AU 1 1 rfl (Ax 1 ?_))))))))))
  refine AU 1 3 rfl (Ax 1 (AU 1 2 rfl (Ax 4 (AU 0 5 rfl (BY (kx 1 (knp #[sv As,iv AC,iv Aq,iv 0,nS,nS,iv 0,Aa CA B9 CB] 73 fun b12=>(kx 2 (K.Ao (AQ 2 1 #[Aa Av Ac Aw,Aa A9 r7 k10,pt b12] ?_))))))))))
  refine Ad (Bz (kpr [(0,0),(1,3),(2,0),(3,3),(4,0),(5,3),(6,0)] [4] (Ax 1 (Gt 0 0 5 rfl (Ax 1 (AU 0 4 rfl (Ax 1 (AU 0 2 rfl (bnd h fun l13 YD h=>(KH (T:=54) (R:=(Bb 54)) (xs:=Am) 0 Aq rfl (by kernel_rfl) (by kernel_rfl) (by kernel_rfl) (.inl ⟨rfl,rfl⟩) (.inr ⟨_,.i64,rfl,(by kernel_rfl)⟩) (by kernel_rfl) (by kernel_rfl) YD BJ fun GN k15 o16=>?_))))))))))
  refine BY (Di (Di (K.mv3 (K.mv3 (B_ h (fun _ Kk=>(GQ.ok Kk (AL.rd AK) (Ah.rd GJ) (Bf.nil Dt 3 none_) (Ah.nil encS 9 1 none_) (Ah.rd D_) BJ o16)) rfl ⟨(.tail _ (.tail _ (.tail _ (.tail _ (.head _))))),(.tail _ (.head _)),(.head _),(.tail _ (.tail _ (.tail _ (.tail _ (.tail _ (.tail _ (.head _))))))),(t7 BD),(t7 BD),trivial⟩ (fun _ e=>Bk (kpn 7 e rfl)) fun E0 h=>?_)))))
  rintro _ _ ⟨h19,A20,k21,Gv,rfl,rfl⟩
  refine NS (K.mv3 (K.drop (AY (kx 2 (kld 5 4 rfl (kx 1 (kld 5 2 rfl (K.mv5 (K.drop (bnd h fun x23 Bfw h=>?_))))))))))
  refine DL (T:=54) (kd:=.i64) (R:=(Bb 54)) rfl Bfw BJ fun p24 u27 q28 e25 y26=>?_
  obtain ⟨A29,k30,rfl,GK⟩:=DI 54 q28
  refine E8 rfl e25 (t8 BD) (Di (K.mv3 (K.Ao (K.mv3 (K.Bq (K.mv6 (K.mv5 (B_ h (fun _ OJ=>(hR.DA OJ AK GJ (Ah.nil Dt 78 3 none_) Gv (Ah.rd D_) GK hG)) rfl ⟨(.tail _ (.tail _ (.head _))),(t3 BD),(t3 BU),trivial⟩ (fun _ e=>Bk (kpn 3 e rfl)) fun r32 h=>?_))))))))
  rintro _ _ ⟨h34,A35,QD,h38,A39,Jc,h42,Ol,Pe,h46,A47,k48,Pv,o41,L5,o49,rfl,rfl⟩
  refine Er (Ad (Bz (kpr [(0,0),(1,0),(2,0),(3,0),(4,0),(5,3),(6,0),(7,0),(8,0),(9,3),(10,0),(11,0),(12,3),(13,1)] [0,3] (Ax 5 (AU 0 0 rfl (Ax 3 (AU 0 2 rfl (Ax 2 (Gt 1 0 5 rfl (kpt ?_))))))))))
  refine Hq #[sv As,iv AC,iv Aq,iv r32.2.2.1,Aa Ol r32.2.2.2.1 Pe] 43 1 fun b50=>(Dp [1,4] rfl (BY (K.mv5 (K.Ao (DO (T:=43) (n:=1) (xs:=[(As,AC,Aq,r32.2.2.1,r32.2.2.2.1)]) (Ci.one (Xa (x:=(As,AC,Aq,r32.2.2.1,r32.2.2.2.1)) L5)) rfl rfl (B0 rfl) fun h51 Rj=>(K.Ak (bnd h fun l53 Bbm h=>(F7 rfl A5h rfl Bbm Pv Rj fun h54 LL L_ W2=>(kx 3 (K.Ao ?_))))))))))
  refine AQ 0 1 #[Aa LL l53 L_,Aa A39 r32.2.1 Jc,pt b12] (Fw (kx 4 (AQ 2 1 #[Aa LL l53 L_,Aa A39 r32.2.1 Jc,pt Bm] (K.mv3 (K.drop (K.mv3 (K.drop (knl (Cw ?_)))))))))
  obtain rfl:=Ap h
  exact kdv (.tuple #[]) [bk b0 #[Aa LL l53 L_,Aa A39 r32.2.1 Jc,pt Bm] 75,h54,h38,bk Bm #[sv Bu,iv Bv,iv Bx,iv BO,Aa Cp By Cq,Aa CA B9 CB,iv BP,Aa Ca Bg Cb] 73,Dc,Dq] (BH (PR.okI ⟨h54,LL,L_,h38,A39,Jc,Dc,Cp,Cq,Dq,CA,CB,W2,o41,DF,D_,rfl,rfl⟩))
 ·skip
  refine ksr (kx 1 (kld 0 1 rfl (bnd h fun JK SW h=>(FN (Kg.ok SW) trivial (Ad ?_)))))
  refine AF h (fun h=>?_) fun h=>?_
  ·refine Bc (kx 1 (kld 0 3 rfl (B_ h (fun _ OQ=>(GR.ok OQ)) rfl trivial (fun _ e=>Bk (kpn 7 e rfl)) fun r60 h=>?_)))
   rintro _ _ ⟨rfl,rfl⟩
   exact GI (Ad (AV () h sb rfl))
  ·exact Bt (AB (AV () h sb rfl))
def CK.at:Nat→CK
 | 0=>⟨fun _ _ _ _ _ _ _ _ _ _ _ _ _ _ _ _=>none,fun _ _ _ _ _ _ _ _ _ _ _=>none,fun _ _ _ _ _ _ _ _ _ _ _ _ _ _ _ _=>none,fun _ _ _ _ _ _ _ _ _ _ _ _ _ _ _ _ _ _ _ _ _ _=>none,fun _ _ _ _ _ _ _ _ _ _ _ _ _ _ _=>none⟩
 | k+1=>⟨DA.g (CK.at k) k,E3.g (CK.at k) k,Is.g (CK.at k) k,G3.g (CK.at k) k,It.g (CK.at k) k⟩
theorem CK.good:∀ k,(CK.at k).Good
 | 0=>⟨(by unfold DA.C;intros;rename_i h _ _ _ _ _ _ _;cases (show (none:Option _)=some _ from h)),(by unfold E3.C;intros;rename_i h _ _ _ _ _ _ _;cases (show (none:Option _)=some _ from h)),(by unfold Is.C;intros;rename_i h _ _ _ _ _ _ _;cases (show (none:Option _)=some _ from h)),(by unfold G3.C;intros;rename_i h _ _ _ _ _ _ _ _ _;cases (show (none:Option _)=some _ from h)),(by unfold It.C;intros;rename_i h _ _ _ _ _ _ _;cases (show (none:Option _)=some _ from h))⟩
 | k+1=>⟨DA.C0 (k:=k) (CK.good k),E3.C0 (k:=k) (CK.good k),Is.C0 (k:=k) (CK.good k),G3.C0 (k:=k) (CK.good k),It.C0 (k:=k) (CK.good k)⟩
def DA.f (k:Nat):=DA.g (CK.at k) k
theorem DA.ok {k:Nat}:DA.C (DA.f k):=DA.C0 (k:=k) (CK.good k)
section
variable {A:World} {ds:List Deferred} {n0:Nat} {env env':Env} {l l' X:List Ab} {q:Act→World→Prop} {P:Program} {Q:Exit→Act→World→Prop} {ops:Array Oper} {os rest:List Oper} {o:Oper} {α:Type} {R:FH α}
theorem Biu {x0 x':α} {t:List α} {h Hn:Ab} {A':Option Addr} {c:Nat} {T T1:TypeId} {p v:Value} {s y:Operand} (ho:o.op=.store T1 s y) (hg:Cn ops env o=some true) (hd:inB n0 o.dst=true)
  (hs:BV env s=some p) (hy:BV env y=some v) (hsz:(P.info? T1).map (·.size)=some v.cells.size) (hp:Place A' 0 p) (hO:AL R T h (.slice A' (x0 :: t).length c) (x0 :: t)) (hx:R.own x' Hn v.cells.toList)
  (hk:∀ h',AL R T h' (.slice A' (x' :: t).length c) (x' :: t)→K ds A n0 (Bp env o.dst undef) (h' :: l) (wpList P ops Q rest)):K ds A n0 env (h :: Hn :: l) (wpList P ops Q (o :: rest)):=by
 obtain ⟨Ho,Hi,cs,rfl,hab,Y9,H1,H2,c1,c2,rfl,hbc,rfl,h1,h2⟩:=hO
 refine NM hab (K.Ao (NM hbc (K.drop (K.Ao ?_))))
 obtain ⟨hl1,ho1⟩:=R.len h1
 obtain ⟨hlx,hox⟩:=R.len hx
 refine Fv hg fun a w ha hw=>?_
 cases hif:P.info? T1 with
 | none=>rw [hif] at hsz;cases hsz
 | some i =>
  rw [hif] at hsz
  have hsize:i.size=v.cells.size:=Ap hsz
  obtain ⟨hlen,Jb,hc⟩:=Y9
  rcases hc with ⟨he,h0⟩ | ⟨g,cap,cur,he,rfl,h4,h5,h6,h7⟩
  ·simp at h0
  ·cases he
   obtain ⟨b,of_,he,rfl⟩:=hp
   cases he
   have hgc:w.heap[g]? = some (.cells cur T (0,0)):=hw.sat.1 g _ (by simp [blk])
   have hge:R.sz≤cur.toList.length:=by
    have e:c1.length+c2.length≤cur.toList.length:=by
     rw [← AM,← h7,List.length_take];omega
    omega
   have hst:=run_storeCells_at P g 0 T v.cells.toList 0 cur w hgc (by rw [hlx];simpa using hge) hox
   simp only [Nat.add_zero,Nat.zero_add,List.take_zero,List.nil_append] at hst
   have hr:(Instr.storeAt T1 (.pointer (some ⟨g,0+0,none⟩)) v).run P w=.ok () (w.setRow g (v.cells.toList++cur.toList.drop v.cells.toList.length).toArray):=by
    simp [Instr.storeAt,Instr.sureAddr,storeVar,sizeOf,typeInfo,hif,hsize]
    simpa using hst
   have YA:Own T R.sz (blk g (.cells (v.cells.toList++cur.toList.drop v.cells.toList.length).toArray T (0,0))) (.slice (some ⟨g,0,none⟩) (x' :: t).length c) (x' :: t).length (v.cells.toList++c2):=by
    refine ⟨by rw [AM,hl1] at hlen;rw [AM,hlx];exact hlen,fun u hu=>?_,.inr ⟨g,c,_,rfl,rfl,h4,h5,?_,?_⟩⟩
    ·rcases EG.1 hu with hu | hu
     ·exact hox u hu
     ·exact Jb u (List.mem_append_right _ hu)
    ·have h6':cur.toList.length=c * R.sz:=by rw [Array.length_toList];exact h6
     rw [List.size_toArray,AM,Cv,hlx,← h6']
     omega
    ·have e1:((x' :: t).length * R.sz)=R.sz+t.length * R.sz:=by rw [AD,Nat.add_mul,Nat.one_mul,Nat.add_comm]
     have e2:(x0 :: t).length * R.sz=R.sz+t.length * R.sz:=by rw [AD,Nat.add_mul,Nat.one_mul,Nat.add_comm]
     rw [e2] at h7
     show (v.cells.toList++cur.toList.drop v.cells.toList.length).take _=_
     rw [e1,← hlx,List.take_length_add_append]
     congr 1
     have h8:=congrArg (List.drop R.sz) h7
     rw [List.drop_take,Nat.add_sub_cancel_left,← hl1,List.drop_left,hl1] at h8
     rw [hlx]
     exact h8
   unfold Oper.wp execOp
   simp only [ho,ha.eval hs,ha.eval hy,Sem.run_bind,hr,Result.andThen_ok,Sem.run_pure]
   have hk':K ds A n0 (Bp env o.dst undef) (blk g (.cells (v.cells.toList++cur.toList.drop v.cells.toList.length).toArray T (0,0)) :: H2 :: Hn :: l) (wpList P ops Q rest) :=
    K.Ak (K.Ak (K.Ao (J9 fun hap=>K.Ao (J9 fun Bam=>hk _ ⟨_,_,_,rfl,Bam,YA,Hn,H2,_,c2,rfl,hap,rfl,hx,h2⟩))))
   exact hk' _ _ (ha.Bp _ hd) (hw.setRow _)
def Aam {α:Type} (l:List α) (x:α):Option (List α):=match l with | []=>none | _ :: t=>some (x :: t)
theorem Bjl {α:Type} {l l':List α} {x:α} (h:Aam l x=some l'):l'.length=l.length:=by
 cases l with
 | nil=>cases h
 | cons y t=>cases h;rfl
theorem Biq {x':α} {xs xs':List α} {h Hn:Ab} {A':Option Addr} {c:Nat} {T T1:TypeId} {p v:Value} {s y:Operand} (ho:o.op=.store T1 s y) (hg:Cn ops env o=some true) (hd:inB n0 o.dst=true)
  (hs:BV env s=some p) (hy:BV env y=some v) (hsz:(P.info? T1).map (·.size)=some v.cells.size) (hp:Place A' 0 p) (hO:AL R T h (.slice A' xs.length c) xs) (hx:R.own x' Hn v.cells.toList) (hset:Aam xs x'=some xs')
  (hk:∀ h',AL R T h' (.slice A' xs'.length c) xs'→K ds A n0 (Bp env o.dst undef) (h' :: l) (wpList P ops Q rest)):K ds A n0 env (h :: Hn :: l) (wpList P ops Q (o :: rest)):=by
 cases xs with
 | nil=>cases hset
 | cons x0 t=>cases hset;exact Biu ho hg hd hs hy hsz hp hO hx hk
end
def O1.f (k:Nat) (a0:ByteArray):Option (Db×Ag×Int×Int):=(Nh.f k a0).bind fun r3=>cond (r3.2.2.2.2.2.1 != 0) (some ([],[],r3.2.2.2.2.2.1,r3.2.2.2.2.2.2)) (BA (fun (_:Unit)=>PR.elim (DA.f k ([((⟨#[]⟩:ByteArray),0,0,0,[])]) ([]) (⟨#[]⟩:ByteArray) r3.2.2.2.1 0 0 ([]) ([]) 0 ([]) r3.1 r3.2.1 r3.2.2.1 r3.2.2.2.1 r3.2.2.2.2.1 false) (fun i17=>some ([],[],i17.1,i17.2)) fun r16=>(AZ r16.1 0).bind fun x34=>(Aam r16.1 ((⟨#[]⟩:ByteArray),r3.2.2.2.1,0,r16.2.2.1,r16.2.2.2.1)).bind fun E9=>some (E9,r16.2.1,0,0)) (fun UZ=>(Es.f k r3.1 r3.2.1 r3.2.2.1 r3.2.2.2.1 r3.2.2.2.2.1).bind fun r47=>cond (decide (r47 > 100)) (PR.elim (GR.f k 6 r3.2.2.2.1) (fun i50=>some ([],[],i50.1,i50.2)) fun r49=>UZ ()) (UZ ())))
theorem O1.ok {k:Nat} {a0:ByteArray} {G:Ab} {r:Db×Ag×Int×Int} (h:O1.f k a0=some r) (hG:E2 G): Ct Tryz.prog 8 #[sv a0] [] [G] (fun e l1=>∃ (H0_:Ab) (A0_:Ar) (c0_:Nat) (H1_:Ab) (Dz:Ar) (D0:Nat),AL FD 43 H0_ (Aa A0_ r.1 c0_) r.1∧Ah encS 9 1 H1_ (Aa Dz r.2.1 D0) r.2.1∧e=.returned (.tuple #[.agg #[Aa A0_ r.1 c0_,Aa Dz r.2.1 D0],.agg #[iv r.2.2.1,iv r.2.2.2]])∧l1=[H0_,H1_]):=by
 refine Aj0 (args:=[sv a0]) Tryz.func8 rfl (B0 rfl) ?_
 intro A X hh_
 obtain ⟨BU,_⟩:=hh_
 unfold O1.f at h
 refine ksr (knp #[nS,nS] 33 fun b1=>(knp #[iv 0,iv 0] 28 fun b2=>(AY (kx 1 (bnd h fun r3 hr3 h=>(B6 (Nh.ok hr3 hG) rfl ⟨(t2 BU),trivial⟩ ?_))))))
 rintro _ _ ⟨h4,A5,k6,o7,rfl,rfl⟩
 refine Fb (kx 3 (knp #[iv 0,sv noS,iv 0,iv 0,nS] 54 fun b8=>(AQ 0 5 #[iv r3.1,sv r3.2.1,iv r3.2.2.1,iv r3.2.2.2.1,Aa A5 r3.2.2.2.2.1 k6] (K.Ak (AQ 0 2 #[iv r3.2.2.2.2.2.1,iv r3.2.2.2.2.2.2] (Ad (Bz (ksr (kx 1 (kld 0 0 rfl ?_))))))))))
 refine kx 1 (Ad ?_)
 refine AF h (fun h=>?_) fun h=>?_
 ·refine Bz (ZX (kpr [(0,0),(1,3),(2,1)] [0] (Ax 1 (Gt 0 0 2 rfl (kpt (K.mv3 (ost 0 2 #[nS,nS] (Dp [1] rfl (BY (K.Ao ?_))))))))))
  refine AQ 0 2 #[iv r3.2.2.2.2.2.1,iv r3.2.2.2.2.2.2] (K.Ak (K.drop (K.Ak (K.drop (knl (ZY (AB (Cr (CZ ?_)))))))))
  obtain rfl:=Ap h
  exact Ara (v:=.tuple #[.agg #[nS,nS],.agg #[iv r3.2.2.2.2.2.1,iv r3.2.2.2.2.2.2]]) [.val (nS),.val (nS),.val (iv r3.2.2.2.2.2.1),.val (iv r3.2.2.2.2.2.2)] [.ld ⟨b1,0,none⟩ (nS),.ld ⟨b1,1,none⟩ (nS),.ld ⟨b2,0,none⟩ (iv r3.2.2.2.2.2.1),.ld ⟨b2,1,none⟩ (iv r3.2.2.2.2.2.2)] [none_,none_] (by kernel_rfl) (by kernel_rfl) ⟨⟨1,_,_,_,rfl,rfl,rfl⟩,⟨1,_,_,_,rfl,rfl,rfl⟩,⟨0,_,_,_,rfl,rfl,rfl⟩,⟨0,_,_,_,rfl,rfl,rfl⟩,trivial⟩ (Di (Di (K.Ak (K.drop (K.Ak (K.drop (BH ⟨none_,none,0,none_,none,0,(AL.nil FD 43 none_),(Ah.nil encS 9 1 none_),rfl,rfl⟩)))))))
 ·refine Bt (AB (ksr (kx 1 (Arq { target:=.fn (.func 19) #[pt b1,pt b2],args:=#[] } (by kernel_rfl) (by kernel_rfl) (by kernel_rfl) (Ad ?_)))))
  obtain ⟨UZ,A8s,h⟩:=CG h
  refine CH (τ:=Unit) (fun t=>[(2,pt b1),(3,pt b2),(4,pt b8)]) (fun t=>bk b2 #[iv r3.2.2.2.2.2.1,iv r3.2.2.2.2.2.2] 28 :: bk b8 #[iv r3.1,sv r3.2.1,iv r3.2.2.1,iv r3.2.2.2.1,Aa A5 r3.2.2.2.2.1 k6] 54 :: h4 :: bk b1 #[nS,nS] 33 :: X) (fun t=>UZ ()=some r) ?_ ?_
  ·rintro ⟨⟩ h
   subst A8s
   refine ksr (kx 1 (kld 1 3 rfl (kx 2 (knp #[sv noS,iv r3.2.2.2.1,iv 0,iv 0,nS,nS,iv 0,nS] 73 fun b11=>(kx 1 (knp #[nS,nS,pt b11] 75 fun b12=>(kx 1 (AY (kx 2 (De #[sv noS,iv 0,iv 0,iv 0,nS] 43 1 fun b13=>?_))))))))))
   refine kx 3 (K.Ao (AQ 0 1 #[.slice (some ⟨b13,0,none⟩) 1 1,nS,pt b11] (AY (kx 1 (CE 4 0 5 rfl (K.Bq (K.drop (Di (K.Ak (DO (T:=43) (n:=1) (xs:=[((⟨#[]⟩:ByteArray),0,0,0,[])]) (Ci.one (Xa (x:=((⟨#[]⟩:ByteArray),0,0,0,[])) (Ah.nil Dt 78 3 none_))) rfl rfl (B0 rfl) fun h14 o15=>?_))))))))))
   refine Di (Di (Di (Di (K.Ao (K.mv6 (K.mv3 (K.mv5 (K.mv6 ?_))))))))
   rcases WM h with ⟨i17,Kj,h⟩ | ⟨r16,Kj,h⟩
   ·refine B6 (DA.ok Kj o15 (Ah.nil encS 9 1 none_) (Ah.nil Dt 78 3 none_) (Ah.nil encS 9 1 none_) (Bf.nil encS 1 none_) (AL.rd o7) hG) rfl ⟨(.head _),(.tail _ (.tail _ (.head _))),(t4 BU),trivial⟩ ?_
    rintro _ _ ⟨rfl,rfl⟩
    refine Wz (Bk (K.drop (K.Ao (K.drop (K.Ao ?_)))))
    obtain rfl:=Ap h
    exact VY (v:=.tuple #[.agg #[nS,nS],.agg #[iv i17.1,iv i17.2]]) (bk b1 #[nS,nS] 33 :: bk b2 #[iv i17.1,iv i17.2] 28 :: X) (fun _=>by kernel_rfl) (fun w_ hw_=>Ajy hw_) [.val (nS),.val (nS),.val (iv i17.1),.val (iv i17.2)] [.ld ⟨b1,0,none⟩ (nS),.ld ⟨b1,1,none⟩ (nS),.ld ⟨b2,0,none⟩ (iv i17.1),.ld ⟨b2,1,none⟩ (iv i17.2)] [none_,none_] (by kernel_rfl) (by kernel_rfl) ⟨⟨0,_,_,_,rfl,rfl,rfl⟩,⟨0,_,_,_,rfl,rfl,rfl⟩,⟨1,_,_,_,rfl,rfl,rfl⟩,⟨1,_,_,_,rfl,rfl,rfl⟩,trivial⟩ fun w_ hw_=>(⟨⟨none_,none,0,none_,none,0,(AL.nil FD 43 none_),(Ah.nil encS 9 1 none_),rfl,rfl⟩,St.TI 2 hw_.tail.tail⟩)
   refine B6 (DA.ok Kj o15 (Ah.nil encS 9 1 none_) (Ah.nil Dt 78 3 none_) (Ah.nil encS 9 1 none_) (Bf.nil encS 1 none_) (AL.rd o7) hG) rfl ⟨(.head _),(.tail _ (.tail _ (.head _))),(t4 BU),trivial⟩ ?_
   rintro _ _ ⟨h18,A19,k20,h22,A23,k24,h26,A27,k28,h30,Io,k32,o21,F9,o29,Kq,rfl,rfl⟩
   refine Er (K.mv6 (K.drop (K.mv7 (K.drop (Ad (Bz (ZX (kpr [(0,0),(1,0),(2,0),(3,0),(4,3),(5,0),(6,0),(7,0),(8,3),(9,0),(10,0),(11,3)] [0,3] (Ax 4 (AU 0 0 rfl ?_))))))))))
   refine Ax 3 (AU 0 2 rfl (Ax 2 (Gt 1 0 5 rfl (BY (bnd h fun x34 hx34 h=>(DL (T:=43) (kd:=.i64) (R:=FD) rfl hx34 (AL.rd o21) fun p35 u38 q39 e36 y37=>?_))))))
   obtain ⟨LK,k41,rfl,Rf⟩:=Bqb q39
   refine K.Bq (K.Ak (bnd h fun E9 SJ h=>(Biq (v:=.agg #[sv noS,iv r3.2.2.2.1,iv 0,iv r16.2.2.1,Aa A27 r16.2.2.2.1 k28]) (x':=((⟨#[]⟩:ByteArray),r3.2.2.2.1,0,r16.2.2.1,r16.2.2.2.1)) rfl (by kernel_rfl) (by kernel_rfl) (by kernel_rfl) (by kernel_rfl) (by kernel_rfl) y37 o21 (Xa (x:=((⟨#[]⟩:ByteArray),r3.2.2.2.1,0,r16.2.2.1,r16.2.2.2.1)) o29) SJ fun h44 L5=>?_)))
   have g46:=Bjl SJ
   refine K.weak (env':=[(2,pt b1),(3,pt b2),(5,pt b12),(50,.agg #[sv noS,iv r3.2.2.2.1,iv 0,iv r16.2.2.1,Aa A27 r16.2.2.2.1 k28])]) ?_ ⟨gr,gr,gr,(by first | rfl | (unfold Aa;rw [g46];rfl)),trivial⟩
   refine K.eq (l':=h44 :: bk b12 #[Aa A19 E9 k20,Aa A23 r16.2.1 k24,pt b11] 75 :: h22 :: bk b11 #[sv noS,iv r3.2.2.2.1,iv 0,iv r16.2.2.1,Aa A27 r16.2.2.2.1 k28,Aa Io r16.2.2.2.2.1 k32,iv r16.2.2.2.2.2,nS] 73 :: h30 :: bk b2 #[iv r3.2.2.2.2.2.1,iv r3.2.2.2.2.2.2] 28 :: bk b1 #[nS,nS] 33 :: X) rfl (by first | rfl | (unfold Aa;rw [g46];first | done | rfl)) (knl (ZY (AB (ksr (kx 3 (CE 1 0 2 rfl (K.Ao (K.drop (K.Ak (K.drop ?_))))))))))
   refine K.Ak (K.drop (kx 1 (K.mv3 (AQ 0 2 #[Aa A19 E9 k20,Aa A23 r16.2.1 k24] (K.mv3 (AQ 0 2 #[iv 0,iv 0] (Ad (Cr ?_))))))))
   obtain rfl:=Ap h
   exact Aq8 (fun _=>by kernel_rfl) (A2y (pt b1) (pt b2)) (v:=.tuple #[.agg #[Aa A19 E9 k20,Aa A23 r16.2.1 k24],.agg #[iv 0,iv 0]]) [.val (Aa A19 E9 k20),.val (Aa A23 r16.2.1 k24),.val (iv 0),.val (iv 0)] [.ld ⟨b1,0,none⟩ (Aa A19 E9 k20),.ld ⟨b1,1,none⟩ (Aa A23 r16.2.1 k24),.ld ⟨b2,0,none⟩ (iv 0),.ld ⟨b2,1,none⟩ (iv 0)] [h44,h22] (by kernel_rfl) (by kernel_rfl) ⟨⟨1,_,_,_,rfl,rfl,rfl⟩,⟨1,_,_,_,rfl,rfl,rfl⟩,⟨0,_,_,_,rfl,rfl,rfl⟩,⟨0,_,_,_,rfl,rfl,rfl⟩,trivial⟩ (K.drop (K.drop (Arc ⟨h44,A19,k20,h22,A23,k24,L5,F9,rfl,rfl⟩)))
  ·skip
   refine ksr (CE 1 0 5 rfl (bnd h fun r47 hr47 h=>(FN (Es.ok hr47 (AL.rd o7)) ⟨(.tail _ (.tail _ (.head _))),trivial⟩ (kx 1 (Ad ?_)))))
   refine AF h (fun h=>?_) fun h=>?_
   ·refine Bc (kx 1 (kld 1 3 rfl ?_))
    rcases WM h with ⟨i50,Zl,h⟩ | ⟨r49,Zl,h⟩
    ·refine B6 (GR.ok Zl) rfl trivial ?_
     rintro _ _ ⟨rfl,rfl⟩
     refine Wz (Bk (K.Ao (K.drop (K.Ao (K.drop (K.Ao ?_))))))
     obtain rfl:=Ap h
     exact VY (v:=.tuple #[.agg #[nS,nS],.agg #[iv i50.1,iv i50.2]]) (bk b1 #[nS,nS] 33 :: bk b2 #[iv i50.1,iv i50.2] 28 :: X) (fun _=>by kernel_rfl) (fun w_ hw_=>Ajy hw_) [.val (nS),.val (nS),.val (iv i50.1),.val (iv i50.2)] [.ld ⟨b1,0,none⟩ (nS),.ld ⟨b1,1,none⟩ (nS),.ld ⟨b2,0,none⟩ (iv i50.1),.ld ⟨b2,1,none⟩ (iv i50.2)] [none_,none_] (by kernel_rfl) (by kernel_rfl) ⟨⟨0,_,_,_,rfl,rfl,rfl⟩,⟨0,_,_,_,rfl,rfl,rfl⟩,⟨1,_,_,_,rfl,rfl,rfl⟩,⟨1,_,_,_,rfl,rfl,rfl⟩,trivial⟩ fun w_ hw_=>(⟨⟨none_,none,0,none_,none,0,(AL.nil FD 43 none_),(Ah.nil encS 9 1 none_),rfl,rfl⟩,St.TI 2 hw_.tail.tail⟩)
    refine B6 (GR.ok Zl) rfl trivial ?_
    rintro _ _ ⟨rfl,rfl⟩
    exact GI (Ad (AV () h sb rfl))
   ·exact Bt (AB (AV () h sb rfl))
end
section
open Go Go.RowKit Lx
theorem wiC (x:Int) (h0:-9223372036854775808≤x) (h1:x≤9223372036854775807):IntKind.i64.wrap x=x:=by unfold IntKind.wrap;simp [IntKind.bits,IntKind.signed];omega
theorem Aal {α:Type} {l:List α} {i:Nat} (h:i < l.length):AZ l (i:Int)=some l[i]:=by
 unfold AZ
 rw [if_pos (by omega),Int.toNat_natCast,List.getElem?_eq_getElem h]
def Ky (X:Bs):List Bs→Int→Int
 | [],_=>-1
 | y :: l,i=>if X == y then i else Ky X l (i+1)
theorem Aos (L:List ByteArray) (hL:L.length≤1000) (s:ByteArray):∀ (d i k:Nat),L.length - i≤d→i≤L.length→d < k →
  ER.l0 k L s (fun _=>some (-1)) (i:Int)=some (Ky s.toList ((L.drop i).map (·.toList)) i)
 | d,i,k,hd,hi,hk=>by
  obtain ⟨k,rfl⟩:∃ m,k=m+1:=⟨k - 1,by omega⟩
  simp only [ER.l0]
  rcases Nat.lt_or_ge i L.length with h | h
  ·obtain ⟨d,rfl⟩:∃ m,d=m+1:=⟨d - 1,by omega⟩
   rw [decide_eq_true (p:=(i:Int) < L.length) (by omega),Aal h,wiC ((i:Int)+1) (by omega) (by omega),show (i:Int)+1=((i+1:Nat):Int) by omega,List.drop_eq_getElem_cons h,List.map_cons]
   simp only [cond_true,Aj]
   unfold Ky
   cases hq:s.toList == L[i].toList with
   | true=>rfl
   | false =>
    rw [cond_false,Aos L hL s d (i+1) k (by omega) (by omega) (by omega)]
    rfl
  ·rw [decide_eq_false (p:=(i:Int) < L.length) (by omega),List.drop_of_length_le h]
   rfl
def WZ:Ag:=[(⟨#[112,114,105,110,116]⟩:ByteArray),(⟨#[116,121,112,101]⟩:ByteArray),(⟨#[116,111,115,116,114,105,110,103]⟩:ByteArray),(⟨#[116,111,110,117,109,98,101,114]⟩:ByteArray),(⟨#[110,101,120,116]⟩:ByteArray),(⟨#[112,97,105,114,115]⟩:ByteArray),(⟨#[105,112,97,105,114,115]⟩:ByteArray),(⟨#[114,97,119,108,101,110]⟩:ByteArray),(⟨#[115,116,97,116,115]⟩:ByteArray),(⟨#[112,114,111,98,101,115]⟩:ByteArray),(⟨#[]⟩:ByteArray),(⟨#[116,97,98,108,101,46,105,110,115,101,114,116]⟩:ByteArray),(⟨#[116,97,98,108,101,46,114,101,109,111,118,101]⟩:ByteArray),(⟨#[116,97,98,108,101,46,99,111,110,99,97,116]⟩:ByteArray),(⟨#[116,97,98,108,101,46,117,110,112,97,99,107]⟩:ByteArray),(⟨#[116,97,98,108,101,46,109,111,118,101]⟩:ByteArray),(⟨#[116,97,98,108,101,46,115,111,114,116]⟩:ByteArray),(⟨#[117,116,102,56,46,108,101,110]⟩:ByteArray),(⟨#[117,116,102,56,46,99,104,97,114]⟩:ByteArray),(⟨#[117,116,102,56,46,99,111,100,101,112,111,105,110,116]⟩:ByteArray),(⟨#[117,116,102,56,46,111,102,102,115,101,116]⟩:ByteArray),(⟨#[117,116,102,56,46,99,111,100,101,115]⟩:ByteArray)]
def WO:List Bs:=Lib.fields (⟨#[112,114,105,110,116,32,116,121,112,101,32,116,111,115,116,114,105,110,103,32,116,111,110,117,109,98,101,114,32,110,101,120,116,32,112,97,105,114,115,32,105,112,97,105,114,115,32,114,97,119,108,101,110,32,115,116,97,116,115,32,112,114,111,98,101,115,32,45,32,116,97,98,108,101,46,105,110,115,101,114,116,32,116,97,98,108,101,46,114,101,109,111,118,101,32,116,97,98,108,101,46,99,111,110,99,97,116,32,116,97,98,108,101,46,117,110,112,97,99,107,32,116,97,98,108,101,46,109,111,118,101,32,116,97,98,108,101,46,115,111,114,116,32,117,116,102,56,46,108,101,110,32,117,116,102,56,46,99,104,97,114,32,117,116,102,56,46,99,111,100,101,112,111,105,110,116,32,117,116,102,56,46,111,102,102,115,101,116,32,117,116,102,56,46,99,111,100,101,115,32,45]⟩:ByteArray).data.toList
def UI (X:Bs):List Bs→Int→Int
 | [],_=>0
 | y :: l,i=>if (!(X == [])) && y == X then i+1 else UI X l (i+1)
theorem Aym (X:Bs):∀ (l:List Bs) (i:Int),X ∉ l→Ky X l i=-1
 | [],_,_=>rfl
 | y :: l,i,h=>by
  unfold Ky
  rw [if_neg (by simp only [beq_iff_eq];rintro rfl;exact h (Cy ..))]
  exact Aym X l _ fun h'=>h (CV _ h')
theorem Ayp (X:Bs):∀ (l:List Bs) (i:Int),X ∉ l→UI X l i=0
 | [],_,_=>rfl
 | y :: l,i,h=>by
  unfold UI
  rw [if_neg (by simp only [Bool.and_eq_true,beq_iff_eq];rintro ⟨_,rfl⟩;exact h (Cy ..))]
  exact Ayp X l _ fun h'=>h (CV _ h')
def Jf (X:Bs):Int:=if X == [45] then 0 else Ky X WO 0+1
theorem Bj0 (X:Bs):Jf X=UI X (WZ.map (·.toList)) 0∧0≤Jf X∧Jf X≤22:=by
 by_cases h:X ∈ [45] :: (WO++WZ.map (·.toList))
 ·revert h
  have key:∀ x ∈ [45] :: (WO++WZ.map (·.toList)),Jf x=UI x (WZ.map (·.toList)) 0∧0≤Jf x∧Jf x≤22:=by decide +kernel
  exact key X
 ·simp only [List.mem_cons,EG,not_or] at h
  obtain ⟨h1,h2,h3⟩:=h
  have e:Jf X=0:=by
   unfold Jf
   rw [if_neg (by simpa using h1),Aym X _ _ h2]
   rfl
  rw [e,Ayp X _ _ h3]
  decide
def WN:Ag:=(Lib.fields (⟨#[112,114,105,110,116,32,116,121,112,101,32,116,111,115,116,114,105,110,103,32,116,111,110,117,109,98,101,114,32,110,101,120,116,32,112,97,105,114,115,32,105,112,97,105,114,115,32,114,97,119,108,101,110,32,115,116,97,116,115,32,112,114,111,98,101,115,32,45,32,116,97,98,108,101,46,105,110,115,101,114,116,32,116,97,98,108,101,46,114,101,109,111,118,101,32,116,97,98,108,101,46,99,111,110,99,97,116,32,116,97,98,108,101,46,117,110,112,97,99,107,32,116,97,98,108,101,46,109,111,118,101,32,116,97,98,108,101,46,115,111,114,116,32,117,116,102,56,46,108,101,110,32,117,116,102,56,46,99,104,97,114,32,117,116,102,56,46,99,111,100,101,112,111,105,110,116,32,117,116,102,56,46,111,102,102,115,101,116,32,117,116,102,56,46,99,111,100,101,115,32,45]⟩:ByteArray).data.toList).map fun l=>⟨l.toArray⟩
theorem A6o (k:Nat):strings_Fields.f k (⟨#[112,114,105,110,116,32,116,121,112,101,32,116,111,115,116,114,105,110,103,32,116,111,110,117,109,98,101,114,32,110,101,120,116,32,112,97,105,114,115,32,105,112,97,105,114,115,32,114,97,119,108,101,110,32,115,116,97,116,115,32,112,114,111,98,101,115,32,45,32,116,97,98,108,101,46,105,110,115,101,114,116,32,116,97,98,108,101,46,114,101,109,111,118,101,32,116,97,98,108,101,46,99,111,110,99,97,116,32,116,97,98,108,101,46,117,110,112,97,99,107,32,116,97,98,108,101,46,109,111,118,101,32,116,97,98,108,101,46,115,111,114,116,32,117,116,102,56,46,108,101,110,32,117,116,102,56,46,99,104,97,114,32,117,116,102,56,46,99,111,100,101,112,111,105,110,116,32,117,116,102,56,46,111,102,102,115,101,116,32,117,116,102,56,46,99,111,100,101,115,32,45]⟩:ByteArray)=some WN:=by
 have h:(decide ((⟨#[112,114,105,110,116,32,116,121,112,101,32,116,111,115,116,114,105,110,103,32,116,111,110,117,109,98,101,114,32,110,101,120,116,32,112,97,105,114,115,32,105,112,97,105,114,115,32,114,97,119,108,101,110,32,115,116,97,116,115,32,112,114,111,98,101,115,32,45,32,116,97,98,108,101,46,105,110,115,101,114,116,32,116,97,98,108,101,46,114,101,109,111,118,101,32,116,97,98,108,101,46,99,111,110,99,97,116,32,116,97,98,108,101,46,117,110,112,97,99,107,32,116,97,98,108,101,46,109,111,118,101,32,116,97,98,108,101,46,115,111,114,116,32,117,116,102,56,46,108,101,110,32,117,116,102,56,46,99,104,97,114,32,117,116,102,56,46,99,111,100,101,112,111,105,110,116,32,117,116,102,56,46,111,102,102,115,101,116,32,117,116,102,56,46,99,111,100,101,115,32,45]⟩:ByteArray).size < 4294967281∧(Lib.fields (⟨#[112,114,105,110,116,32,116,121,112,101,32,116,111,115,116,114,105,110,103,32,116,111,110,117,109,98,101,114,32,110,101,120,116,32,112,97,105,114,115,32,105,112,97,105,114,115,32,114,97,119,108,101,110,32,115,116,97,116,115,32,112,114,111,98,101,115,32,45,32,116,97,98,108,101,46,105,110,115,101,114,116,32,116,97,98,108,101,46,114,101,109,111,118,101,32,116,97,98,108,101,46,99,111,110,99,97,116,32,116,97,98,108,101,46,117,110,112,97,99,107,32,116,97,98,108,101,46,109,111,118,101,32,116,97,98,108,101,46,115,111,114,116,32,117,116,102,56,46,108,101,110,32,117,116,102,56,46,99,104,97,114,32,117,116,102,56,46,99,111,100,101,112,111,105,110,116,32,117,116,102,56,46,111,102,102,115,101,116,32,117,116,102,56,46,99,111,100,101,115,32,45]⟩:ByteArray).data.toList).length≤1000000) && (⟨#[112,114,105,110,116,32,116,121,112,101,32,116,111,115,116,114,105,110,103,32,116,111,110,117,109,98,101,114,32,110,101,120,116,32,112,97,105,114,115,32,105,112,97,105,114,115,32,114,97,119,108,101,110,32,115,116,97,116,115,32,112,114,111,98,101,115,32,45,32,116,97,98,108,101,46,105,110,115,101,114,116,32,116,97,98,108,101,46,114,101,109,111,118,101,32,116,97,98,108,101,46,99,111,110,99,97,116,32,116,97,98,108,101,46,117,110,112,97,99,107,32,116,97,98,108,101,46,109,111,118,101,32,116,97,98,108,101,46,115,111,114,116,32,117,116,102,56,46,108,101,110,32,117,116,102,56,46,99,104,97,114,32,117,116,102,56,46,99,111,100,101,112,111,105,110,116,32,117,116,102,56,46,111,102,102,115,101,116,32,117,116,102,56,46,99,111,100,101,115,32,45]⟩:ByteArray).data.toList.all fun b=>decide (b.toNat < 128))=true:=by decide +kernel
 unfold strings_Fields.f
 rw [h]
 rfl
theorem Bo0:WN.length=23:=by decide +kernel
theorem Bo2:WN.map (·.toList)=WO:=by decide +kernel
theorem As3 (k:Nat) (hk:30≤k) (a0:ByteArray):ME.f k a0=some (Jf a0.toList):=by
 have h1:=A6o k
 obtain ⟨L,hL⟩:∃ L,L=WN:=⟨_,rfl⟩
 have h2:=Bo0
 have h3:=Bo2
 rw [← hL] at h1 h2 h3
 have hd:(⟨#[45]⟩:ByteArray).toList=[45]:=by kernel_rfl
 unfold ME.f
 rw [hd,h1]
 unfold Jf
 cases hq:a0.toList == [45] with
 | true=>rfl
 | false =>
  simp only [cond_false,Aj,Bool.false_eq_true,if_false]
  unfold ER.f BA
  have hl:=Aos L (by omega) a0 L.length 0 k (by omega) (by omega) (by omega)
  rw [List.drop_zero,h3,Int.ofNat_zero] at hl
  change ((ER.l0 k L a0 (fun _=>some (-1)) 0).bind _)=_
  rw [hl]
  have hb:=(Bj0 a0.toList).2
  unfold Jf at hb
  rw [hq] at hb
  simp only [Bool.false_eq_true,if_false] at hb
  simp only [Aj]
  rw [wiC _ (by omega) (by omega)]
theorem DT {α:Type} (pre:List α) (x:α) (t:List α):AZ (pre++x :: t) (pre.length:Int)=some x:=by
 unfold AZ
 rw [if_pos (by omega)]
 simp
theorem GY {a b:Int} (h:a < b):decide (a < b)=true:=decide_eq_true h
theorem ltF {a b:Int} (h:¬ a < b):decide (a < b)=false:=decide_eq_false h
abbrev V3:=Int×Int×ByteArray
abbrev LM:=ByteArray×Int×Int×Int×List V3
abbrev CT:=List LM×List ByteArray×Int×List V3×List ByteArray×Int
structure BX where
 fs:List LM
 gl:List ByteArray
 sl:Int
 cs:List V3
 lo:List ByteArray
 lp:Int
def BX.IC (s:BX):CT:=(s.fs,s.gl,s.sl,s.cs,s.lo,s.lp)
abbrev PC (α:Type):=PR α (Int×Int)
def PR.th {α β ε:Type} (x:PR α ε) (f:α→PR β ε):PR β ε:=match x with | .ok a=>f a | .bad e=>.bad e
def PR.mp {α β ε:Type} (f:α→β) (x:PR α ε):PR β ε:=match x with | .ok a=>.ok (f a) | .bad e=>.bad e
def MJ (l:List ByteArray) (a:ByteArray):Bool:=l.any fun x=>a.toList == x.toList
def NI (l:List V3) (v:V3):Bool:=l.any fun x=>(v.1 == x.1) && ((v.2.1 == x.2.1) && ((v.2.2.toList == x.2.2.toList) && true))
abbrev XJ:ByteArray:=⟨#[116,97,98,108,101]⟩
abbrev A06:ByteArray:=⟨#[117,116,102,56]⟩
abbrev So:ByteArray:=⟨#[46]⟩
def IL (t:ByteArray):Bool:=t.toList == XJ.toList || t.toList == A06.toList
def Hh (a:Int) (count most:Int):PC Unit:=if count > most then .bad (6,a) else .ok ()
def N4 (gl:List ByteArray) (t:ByteArray):List ByteArray:=if MJ gl t then gl else gl++[t]
def MH (a:Int) (cs:List V3) (v:V3):PC (List V3):=if NI cs v then .ok cs else (Hh a (cs.length+1:Nat) 250).th fun _=>.ok (cs++[v])
def Ps (a:Int) (t:ByteArray) (gl lo ab:List ByteArray):PC (List ByteArray) :=
 if IL t then .bad (5,a) else if MJ lo t then .ok gl else if MJ ab t then .bad (5,a) else .ok (N4 gl t)
def Mf:List ByteArray→List Tree→PC (List ByteArray)
 | lo,[]=>.ok lo
 | lo,x :: l=>if IL x.text then .bad (5,x.at_) else Mf (lo++[x.text]) l
def MD (a:Int) (sl:Int) (lo:List ByteArray) (l:List Tree):PC (Int×List ByteArray) :=
 (Mf lo l).th fun lo=>(Hh a (lo.length:Nat) 60).th fun _=>.ok (if ((lo.length:Nat):Int) > sl then ((lo.length:Nat):Int) else sl,lo)
def EM (f:BX→Tree→PC BX):BX→List Tree→PC BX
 | s,[]=>.ok s
 | s,x :: l=>(f s x).th fun s=>EM f s l
def K7 (f:BX→Tree→Bool→PC BX) (n:Int):Nat→BX→List Tree→PC BX
 | _,s,[]=>.ok s
 | i,s,x :: l=>(f s x (decide ((i:Int) < n))).th fun s=>K7 f n (i+1) s l
def tNo:Tree:=.mk 0 ⟨#[]⟩ 0 0 []
def BW (l:List Tree) (i:Nat):Tree:=(l[i]?).getD tNo
def JD (f:BX→Tree→PC BX) (a:Int) (s:BX) (names:List Tree) (b:Tree) (more:Nat):PC BX :=
 (if more > 0 then MD a s.sl (s.lo++List.replicate more ⟨#[]⟩) names else .ok (s.sl,s.lo)).th fun r =>
  (f { s with sl:=r.1,lo:=r.2,lp:=s.lp+1 } b).th fun s'=>.ok { s' with lo:=s'.lo.take s.lo.length,lp:=s'.lp - 1 }
def Ai6 (tg:Bool) (x y:Tree):Bool:=tg || (y.kind != 5 || Jf (x.text++So++y.text).toList == 0)
def Ln (f:BX→List Tree→PC BX) (ab:List ByteArray) (s:BX) (k:Int) (t:ByteArray) (n a:Int) (l:List Tree) (tg:Bool):PC BX :=
 if k=8 then (Hh a ((l.length:Nat) - 1:Int) 50).th fun _=>f s l
 else if k=30 then (Hh a (l.length:Nat) 50).th fun _=>f s l
 else if k=12 then (Hh a (l.length:Nat) 200).th fun _=>f s l
 else if k=4 then (MH a s.cs (2,n,⟨#[]⟩)).th fun cs=>f { s with cs:=cs } l
 else if k=5 then (MH a s.cs (3,0,t)).th fun cs=>f { s with cs:=cs } l
 else if k=6 then (Ps a t s.gl s.lo ab).th fun gl=>f { s with gl:=gl } l
 else if k=7∧(BW l 0).kind=6∧IL (BW l 0).text=true then
  if Ai6 tg (BW l 0) (BW l 1) then .bad (5,a) else .ok s
 else f s l
def C9:Nat→List ByteArray→BX→Tree→Bool→PC BX
 | 0,_,_,_,_=>.bad (0,0)
 | d+1,ab,s,.mk k t n a l,tg =>
  if k=20 then (EM (fun s x=>C9 d ab s x false) s l).th fun s'=>.ok { s' with lo:=s'.lo.take s.lo.length }
  else if k=31 then
   (Hh a (s.fs.length:Nat) 100).th fun _=>if IL t then .bad (5,a) else
    (Hh a n 50).th fun _=>(MD a 0 [] (l.take n.toNat)).th fun r =>
     (C9 d s.lo ⟨s.fs,N4 s.gl t,r.1,[],r.2,0⟩ (BW l n.toNat) false).th fun s' =>
      .ok { s with fs:=s'.fs++[(t,a,n,s'.sl,s'.cs)],gl:=s'.gl }
  else if k=21 then
   (Hh a n 50).th fun _=>(Hh a (l.length - n) 50).th fun _=>(EM (fun s x=>C9 d ab s x false) s (l.drop n.toNat)).th fun s =>
    (MD a s.sl s.lo (l.take n.toNat)).th fun r=>.ok { s with sl:=r.1,lo:=r.2 }
  else if k=22 then
   (Hh a n 50).th fun _=>(Hh a (l.length - n) 50).th fun _=>K7 (fun s x b=>C9 d ab s x b) n 0 s l
  else if k=25 then (C9 d ab s (BW l 0) false).th fun s=>JD (fun s x=>C9 d ab s x false) a s [] (BW l 1) 0
  else if k=26 then (EM (fun s x=>C9 d ab s x false) s ((l.drop 1).take (l.length - 2))).th fun s=>JD (fun s x=>C9 d ab s x false) a s (l.take 1) (BW l (l.length - 1)) 3
  else if k=27 then
   (Hh a n 50).th fun _=>(Hh a (l.length - 1 - n) 50).th fun _=>(EM (fun s x=>C9 d ab s x false) s ((l.drop n.toNat).take (l.length - 1 - n.toNat))).th fun s =>
    JD (fun s x=>C9 d ab s x false) a s (l.take n.toNat) (BW l (l.length - 1)) 3
  else if k=29 then if s.lp=0 then .bad (5,a) else .ok s
  else Ln (fun s l=>EM (fun s x=>C9 d ab s x false) s l) ab s k t n a l tg
theorem Ajc {α β ε:Type} (x:PR α ε) (f:α→PR β ε) (F:α→Option (PR β ε)) (h:∀ a,x=.ok a→F a=some (f a)):PR.bind (some x) F=some (x.th f):=by
 cases x with
 | ok a=>exact h a rfl
 | bad e=>rfl
theorem Qq (k:Nat) (a0:Int) (a1:ByteArray) (a2 a3:Int) (a4:List Tree) (c m:Int):EY.f k a0 a1 a2 a3 a4 c m=some (Hh a3 c m):=by
 unfold EY.f Hh
 by_cases h:c > m
 ·rw [decide_eq_true h,if_pos h];rfl
 ·rw [decide_eq_false h,if_neg h];rfl
theorem Wa (k:Nat) (t:ByteArray):Kg.f k t=some (IL t):=by
 unfold Kg.f IL
 cases t.toList == XJ.toList <;> rfl
theorem Aop:∀ (t pre:List ByteArray) (a:ByteArray) (m:Nat),pre.length+t.length≤1000000→t.length+1≤m →
  ∃ v,ER.l0 m (pre++t) a (fun _=>some (-1)) (pre.length:Int)=some v∧decide (v ≥ 0)=MJ t a
 | [],pre,a,m,hl,hm=>by
  obtain ⟨m,rfl⟩:∃ m',m=m'+1:=⟨m - 1,by omega⟩
  simp only [ER.l0]
  rw [ltF (by simp)]
  exact ⟨-1,rfl,rfl⟩
 | x :: t,pre,a,m,hl,hm=>by
  obtain ⟨m,rfl⟩:∃ m',m=m'+1:=⟨m - 1,by omega⟩
  simp only [AD] at hl hm
  simp only [ER.l0]
  rw [GY (by simp;omega),DT]
  simp only [cond_true,Aj]
  unfold MJ
  rw [List.any_cons]
  cases hq:a.toList == x.toList with
  | true=>exact ⟨_,rfl,decide_eq_true (by omega)⟩
  | false =>
   rw [cond_false,Bool.false_or,wiC _ (by omega) (by omega)]
   have ih:=Aop t (pre++[x]) a m (by simp;omega) (by omega)
   rw [Cj,AM] at ih
   exact ih
theorem containsS (k:Nat) (l:List ByteArray) (a:ByteArray) (hl:l.length≤1000000) (hk:l.length+1≤k):LG.f k l a=some (MJ l a):=by
 unfold LG.f ER.f BA
 obtain ⟨v,hv,hd⟩:=Aop l [] a k (by simpa using hl) hk
 have hv:ER.l0 k l a (fun _=>some (-1)) (0:Int)=some v:=hv
 simp only [hv,Aj,hd]
theorem Aoq:∀ (t pre:List V3) (a0 a1:Int) (a2:ByteArray) (m:Nat),pre.length+t.length≤1000000→t.length+1≤m →
  ∃ v,G8.l0 m (pre++t) a0 a1 a2 (fun _=>some (-1)) (pre.length:Int)=some v∧decide (v ≥ 0)=NI t (a0,a1,a2)
 | [],pre,a0,a1,a2,m,hl,hm=>by
  obtain ⟨m,rfl⟩:∃ m',m=m'+1:=⟨m - 1,by omega⟩
  simp only [G8.l0]
  rw [ltF (by simp)]
  exact ⟨-1,rfl,rfl⟩
 | x :: t,pre,a0,a1,a2,m,hl,hm=>by
  obtain ⟨m,rfl⟩:∃ m',m=m'+1:=⟨m - 1,by omega⟩
  simp only [AD] at hl hm
  simp only [G8.l0]
  rw [GY (by simp;omega),DT]
  simp only [cond_true,Aj]
  unfold NI
  rw [List.any_cons]
  simp only
  cases hq:(a0 == x.1) && ((a1 == x.2.1) && ((a2.toList == x.2.2.toList) && true)) with
  | true=>exact ⟨_,rfl,decide_eq_true (by omega)⟩
  | false =>
   rw [cond_false,Bool.false_or,wiC _ (by omega) (by omega)]
   have ih:=Aoq t (pre++[x]) a0 a1 a2 m (by simp;omega) (by omega)
   rw [Cj,AM] at ih
   exact ih
theorem A3k (k:Nat) (l:List V3) (a0 a1:Int) (a2:ByteArray) (hl:l.length≤1000000) (hk:l.length+1≤k):PJ.f k l a0 a1 a2=some (NI l (a0,a1,a2)):=by
 unfold PJ.f G8.f BA
 obtain ⟨v,hv,hd⟩:=Aoq l [] a0 a1 a2 k (by simpa using hl) hk
 have hv:G8.l0 k l a0 a1 a2 (fun _=>some (-1)) (0:Int)=some v:=hv
 simp only [hv,Aj,hd]
theorem Js {α:Type} {b:Nat} {l ys:List α} (h:(l.length+ys.length) * b≤140737488355328):apd b l ys=some (l++ys):=by
 unfold apd
 rw [decide_eq_true h]
 rfl
section
variable {k:Nat} {f0:List LM} {gl:List ByteArray} {nm:ByteArray} {at_ pc sl:Int} {cs:List V3} {lo:List ByteArray} {lp:Int} {ab:List ByteArray}
theorem Als (t:ByteArray) (hg:gl.length≤400000) (hk:500000≤k):MG.f k f0 gl nm at_ pc sl cs lo lp ab t=some (N4 gl t):=by
 unfold MG.f N4
 rw [containsS k gl t (by omega) (by omega)]
 simp only [Aj]
 cases MJ gl t with
 | true=>rfl
 | false =>
  rw [Js (by simp;omega)]
  rfl
theorem Bkg (x0:Int) (t:ByteArray) (x2 a:Int) (x4:List Tree) (hg:gl.length≤400000) (ho:lo.length≤400000) (ha:ab.length≤400000) (hk:500000≤k) :
  O2.f k f0 gl nm at_ pc sl cs lo lp ab x0 t x2 a x4=some (Ps a t gl lo ab):=by
 unfold O2.f Ps
 rw [Wa,containsS k lo t (by omega) (by omega),containsS k ab t (by omega) (by omega),Als t hg hk]
 simp only [Aj]
 cases IL t with
 | true=>rfl
 | false =>
  cases MJ lo t with
  | true=>rfl
  | false=>cases MJ ab t <;> rfl
theorem const_eq (x0:Int) (x1:ByteArray) (x2 a:Int) (x4:List Tree) (v0 v1:Int) (v2:ByteArray) (hc:cs.length≤400000) (hk:500000≤k) :
  MF.f k f0 gl nm at_ pc sl cs lo lp ab x0 x1 x2 a x4 v0 v1 v2=some (MH a cs (v0,v1,v2)):=by
 unfold MF.f MH
 rw [A3k k cs v0 v1 v2 (by omega) (by omega)]
 simp only [Aj]
 cases NI cs (v0,v1,v2) with
 | true=>rfl
 | false =>
  simp only [Bool.not_false,cond_true,Bool.false_eq_true,if_false]
  rw [Qq,wiC _ (by omega) (by omega)]
  refine Ajc _ _ _ fun u _=>?_
  rw [Js (by simp;omega)]
  rfl
theorem Ajr:∀ (t pre:List Tree) (lo:Ag) (m:Nat) (J:Ag→Option (PC (Int×Ag))) (j:Ag→PC (Int×Ag)),pre.length+t.length≤400000→lo.length+t.length≤900000→t.length+1≤m →
  (∀ lo',Mf lo t=.ok lo'→J lo'=some (j lo'))→GQ.l0 m (pre++t) J (pre.length:Int) lo=some ((Mf lo t).th j)
 | [],pre,lo,m,J,j,hl,ho,hm,hJ=>by
  obtain ⟨m,rfl⟩:∃ m',m=m'+1:=⟨m - 1,by omega⟩
  simp only [GQ.l0]
  rw [ltF (by simp)]
  exact hJ lo rfl
 | x :: t,pre,lo,m,J,j,hl,ho,hm,hJ=>by
  obtain ⟨m,rfl⟩:∃ m',m=m'+1:=⟨m - 1,by omega⟩
  simp only [AD] at hl ho hm
  simp only [GQ.l0]
  rw [GY (by simp;omega),DT]
  simp only [cond_true,Aj,BA,Wa]
  unfold Mf
  cases hq:IL x.text with
  | true=>rfl
  | false =>
   simp only [cond_false,Bool.false_eq_true,if_false]
   rw [Js (by simp;omega),wiC _ (by omega) (by omega)]
   have ih:=Ajr t (pre++[x]) (lo++[x.text]) m J j (by simp;omega) (by simp;omega) (by omega) fun lo' h=>hJ lo' (by unfold Mf;rw [hq];exact h)
   rw [Cj,AM] at ih
   exact ih
theorem XV (x0:Int) (x1:ByteArray) (x2 a:Int) (x4:List Tree) (l:List Tree) (hl:l.length≤400000) (ho:lo.length≤400000) (hk:500000≤k) :
  GQ.f k f0 gl nm at_ pc sl cs lo lp ab x0 x1 x2 a x4 l=some (MD a sl lo l):=by
 unfold GQ.f BA MD
 refine Ajr l [] lo k _ _ (by simpa using hl) (by omega) (by omega) fun lo' _=>?_
 rw [Qq]
 exact Ajc _ _ _ fun _ _=>rfl
end
def A7t (k n:Int) (t:ByteArray) (l:List Tree):Prop :=
 t.size≤30000∧(k=7→l.length=2)∧(k=25→l.length=2)∧(k=26→4≤l.length)∧(k=21∨k=22→∃ m:Nat,n=m∧m≤l.length)∧(k=27→∃ m:Nat,n=m∧m+1≤l.length)∧(k=31→∃ m:Nat,n=m∧l.length=m+1)
mutual
def gw:Tree→Prop
 | .mk k t n _ l=>A7t k n t l∧E5 l
def E5:List Tree→Prop
 | []=>True
 | x :: l=>gw x∧E5 l
end
theorem Qu:∀ {l:List Tree},E5 l ↔ ∀ x ∈ l,gw x
 | []=>by simp [E5]
 | x :: l=>by simp [E5,Qu (l:=l)]
mutual
theorem Af6:∀ {t:Tree},wfT t→gw t
 | .mk k t n a l,⟨⟨h1,h2,h3,h4,h5,h6,h7⟩,hl⟩=>⟨⟨h1,h3,h4,h5,h6,h7,fun h=>absurd h h2⟩,Af7 hl⟩
theorem Af7:∀ {l:List Tree},H6 l→E5 l
 | [],_=>trivial
 | _ :: _,h=>⟨Af6 h.1,Af7 h.2⟩
end
theorem A6v {t:Tree} (h:fnT t):gw t:=by
 cases t with
 | mk k t n a l =>
  obtain ⟨h1,h2,h3,h4⟩:=h
  subst h2
  exact ⟨⟨h1,nx rfl,nx rfl,nx rfl,nx rfl,nx rfl,fun _=>h3⟩,Af7 h4⟩
theorem ED (t:Tree):1≤sz t:=by cases t;simp only [sz];omega
theorem JN {x:Tree}:∀ {l:List Tree},x ∈ l→sz x≤At l
 | y :: l,h=>by
  simp only [At]
  rcases List.mem_cons.1 h with rfl | h
  ·omega
  ·have:=JN h;omega
theorem Nn (l:List Tree) (i:Nat):At (l.take i)+At (l.drop i)=At l:=by rw [← D9,List.take_append_drop]
theorem Gs {l:List Tree} {i:Nat} (h:i < l.length):BW l i=l[i]∧BW l i ∈ l:=by
 unfold BW
 rw [List.getElem?_eq_getElem h]
 exact ⟨rfl,List.getElem_mem h⟩
theorem A4b {l:List Tree} {i:Nat} (h:i < l.length):l.drop i=BW l i :: l.drop (i+1):=by
 rw [(Gs h).1]
 exact List.drop_eq_getElem_cons h
theorem Mr {l:List Tree} {i:Nat} (h:i < l.length):At (l.take i)+sz (BW l i)+At (l.drop (i+1))=At l:=by
 have:=Nn l i
 rw [A4b h] at this
 simp only [At] at this
 omega
def pot (s:BX):Nat:=s.fs.length+s.gl.length+s.cs.length+s.lo.length
structure Post (s s':BX) (n:Nat):Prop where
 pre:s.lo <+: s'.lo
 lp:s'.lp=s.lp
 pot:pot s'≤pot s+n
theorem Post.refl (s:BX):Post s s 0:=⟨List.prefix_refl _,rfl,Nat.le_refl _⟩
theorem Post.trans {s s1 s2:BX} {n m:Nat} (h:Post s s1 n) (h':Post s1 s2 m):Post s s2 (n+m):=⟨h.pre.trans h'.pre,h'.lp.trans h.lp,by have:=h.pot;have:=h'.pot;omega⟩
theorem Post.weak {s s':BX} {n m:Nat} (h:Post s s' n) (hm:n≤m):Post s s' m:=⟨h.pre,h.lp,by have:=h.pot;omega⟩
theorem U3 {α:Type} {a b:List α} (h:a <+: b):b.take a.length=a:=by obtain ⟨t,rfl⟩:=h;simp
theorem Au9 {α:Type} {a b:List α} (h:a <+: b):a.length≤b.length:=by obtain ⟨t,rfl⟩:=h;simp
theorem Cl {α β ε:Type} {x:PR α ε} {f:α→PR β ε} {b:β} (h:x.th f=.ok b):∃ a,x=.ok a∧f a=.ok b:=by
 cases x with
 | ok a=>exact ⟨a,rfl,h⟩
 | bad e=>cases h
theorem Fq {α β ε:Type} {x:PR α ε} {f:α→PR β ε} {e:ε} (h:x.th f=.bad e):x=.bad e∨∃ a,x=.ok a∧f a=.bad e:=by
 cases x with
 | ok a=>exact .inr ⟨a,rfl,h⟩
 | bad e=>cases h;exact .inl rfl
theorem Atk:∀ {l:List Tree} {lo lo':List ByteArray},Mf lo l=.ok lo'→lo'=lo++l.map Tree.text
 | [],lo,lo',h=>by cases h;simp
 | x :: l,lo,lo',h=>by
  unfold Mf at h
  split at h
  ·cases h
  ·rw [Atk h];simp
theorem Qk {a sl:Int} {lo:List ByteArray} {l:List Tree} {r:Int×List ByteArray} (h:MD a sl lo l=.ok r):r.2=lo++l.map Tree.text∧r.2.length≤60∧r.1=max sl (r.2.length:Int):=by
 unfold MD at h
 obtain ⟨lo',h1,h⟩:=Cl h
 obtain ⟨_,h2,h⟩:=Cl h
 unfold Hh at h2
 split at h2
 ·cases h2
 ·cases h
  refine ⟨Atk h1,by show lo'.length≤60;omega,?_⟩
  show (if ((lo'.length:Nat):Int) > sl then ((lo'.length:Nat):Int) else sl)=max sl (lo'.length:Int)
  split <;> omega
theorem Vi (gl:List ByteArray) (t:ByteArray):(N4 gl t).length≤gl.length+1:=by unfold N4;split <;> simp
theorem XY {a:Int} {cs cs':List V3} {v:V3} (h:MH a cs v=.ok cs'):cs'.length≤cs.length+1:=by
 unfold MH at h
 split at h
 ·cases h;omega
 ·obtain ⟨_,_,h⟩:=Cl h
  cases h;simp
theorem Atd {a:Int} {t:ByteArray} {gl lo ab gl':List ByteArray} (h:Ps a t gl lo ab=.ok gl'):gl'.length≤gl.length+1:=by
 unfold Ps at h
 split at h
 ·cases h
 split at h
 ·cases h;omega
 split at h
 ·cases h
 ·cases h;exact Vi _ _
theorem Aa7 {f:BX→Tree→PC BX}:∀ {l:List Tree} {s s':BX},(∀ s x s',x ∈ l→f s x=.ok s'→Post s s' (4 * sz x))→EM f s l=.ok s'→Post s s' (4 * At l)
 | [],s,s',_,h=>by cases h;exact Post.refl _
 | x :: l,s,s',hf,h=>by
  unfold EM at h
  obtain ⟨s1,h1,h⟩:=Cl h
  have:=(hf _ _ _ (Cy ..) h1).trans (Aa7 (fun s y s' hy=>hf s y s' (CV _ hy)) h)
  exact this.weak (by simp only [At];omega)
theorem Aiw {f:BX→Tree→Bool→PC BX} {n:Int}:∀ {l:List Tree} {i:Nat} {s s':BX},(∀ s x b s',x ∈ l→f s x b=.ok s'→Post s s' (4 * sz x))→K7 f n i s l=.ok s'→Post s s' (4 * At l)
 | [],_,s,s',_,h=>by cases h;exact Post.refl _
 | x :: l,i,s,s',hf,h=>by
  unfold K7 at h
  obtain ⟨s1,h1,h⟩:=Cl h
  have:=(hf _ _ _ _ (Cy ..) h1).trans (Aiw (fun s y b s' hy=>hf s y b s' (CV _ hy)) h)
  exact this.weak (by simp only [At];omega)
theorem Aaz {f:BX→Tree→PC BX} {a:Int} {s s':BX} {names:List Tree} {b:Tree} {more:Nat} (hm:more=0∨more=3) (hf:∀ s s',f s b=.ok s'→Post s s' (4 * sz b)) (h:JD f a s names b more=.ok s'):Post s s' (4 * sz b+names.length+3)∧s'.lo=s.lo:=by
 unfold JD at h
 obtain ⟨r,h1,h⟩:=Cl h
 obtain ⟨s1,h2,h⟩:=Cl h
 cases h
 have hp:=hf _ _ h2
 have hr:s.lo <+: r.2∧r.2.length≤s.lo.length+names.length+3:=by
  split at h1
  ·have:=(Qk h1).1
   rw [this]
   refine ⟨⟨_,by rw [Cj]⟩,?_⟩
   simp
   omega
  ·cases h1
   exact ⟨List.prefix_refl _,by show s.lo.length≤_;omega⟩
 have h3:=U3 (hr.1.trans hp.pre)
 refine ⟨⟨by show s.lo <+: s1.lo.take s.lo.length;rw [h3];exact List.prefix_refl _,by show s1.lp - 1=s.lp;have:=hp.lp;simp only at this;omega,?_⟩,h3⟩
 have hq:=hp.pot
 have:=Au9 hp.pre
 simp only [pot] at hq this ⊢
 rw [List.length_take]
 omega
theorem A5v {f:BX→List Tree→PC BX} {ab:Ag} {s s':BX} {k n a:Int} {t:ByteArray} {l:List Tree} {tg:Bool} (hf:∀ s s',f s l=.ok s'→Post s s' (4 * At l)) (h:Ln f ab s k t n a l tg=.ok s'):Post s s' (4 * At l+1):=by
 unfold Ln at h
 split at h
 ·obtain ⟨_,_,h⟩:=Cl h;exact (hf _ _ h).weak (by omega)
 split at h
 ·obtain ⟨_,_,h⟩:=Cl h;exact (hf _ _ h).weak (by omega)
 split at h
 ·obtain ⟨_,_,h⟩:=Cl h;exact (hf _ _ h).weak (by omega)
 split at h
 ·obtain ⟨cs,h1,h⟩:=Cl h
  have hp:=hf _ _ h
  have:=XY h1
  exact ⟨hp.pre,hp.lp,by have:=hp.pot;simp only [pot] at this ⊢;omega⟩
 split at h
 ·obtain ⟨cs,h1,h⟩:=Cl h
  have hp:=hf _ _ h
  have:=XY h1
  exact ⟨hp.pre,hp.lp,by have:=hp.pot;simp only [pot] at this ⊢;omega⟩
 split at h
 ·obtain ⟨gl,h1,h⟩:=Cl h
  have hp:=hf _ _ h
  have:=Atd h1
  exact ⟨hp.pre,hp.lp,by have:=hp.pot;simp only [pot] at this ⊢;omega⟩
 split at h
 ·split at h
  ·cases h
  ·cases h;exact (Post.refl _).weak (by omega)
 ·exact (hf _ _ h).weak (by omega)
theorem Ha:∀ {d:Nat} {ab:List ByteArray} {s s':BX} {t:Tree} {tg:Bool},gw t→C9 d ab s t tg=.ok s'→Post s s' (4 * sz t)
 | 0,_,_,_,_,_,_,h=>by unfold C9 at h;cases h
 | d+1,ab,s,s',.mk k t n a l,tg,hw,h=>by
  obtain ⟨⟨hs1,hs7,OU,OV,Q5,OW,SZ⟩,hw⟩:=hw
  rw [Qu] at hw
  have hN:∀ (m:List Tree),(∀ x ∈ m,x ∈ l)→∀ ab s s',EM (fun s x=>C9 d ab s x false) s m=.ok s'→Post s s' (4 * At m):=fun m hm ab s s' h=>Aa7 (fun s x s' hx h=>Ha (hw x (hm x hx)) h) h
  have hlen:=DR l
  simp only [sz]
  unfold C9 at h
  split at h
  ·obtain ⟨s1,h1,h⟩:=Cl h
   cases h
   have hp:=hN l (fun _ h=>h) _ _ _ h1
   refine ⟨by rw [U3 hp.pre];exact List.prefix_refl _,hp.lp,?_⟩
   have:=hp.pot
   simp only [pot] at this ⊢
   rw [List.length_take];omega
  split at h
  ·rename_i hk
   obtain ⟨m,rfl,hm⟩:=SZ hk
   obtain ⟨_,_,h⟩:=Cl h
   split at h
   ·cases h
   obtain ⟨_,_,h⟩:=Cl h
   obtain ⟨r,h1,h⟩:=Cl h
   obtain ⟨s1,h2,h⟩:=Cl h
   cases h
   simp only [Int.toNat_natCast] at h1 h2
   have hk:=Gs (l:=l) (i:=m) (by omega)
   have hp:=Ha (hw _ hk.2) h2
   have hb:=Qk h1
   have:=Mr (l:=l) (i:=m) (by omega)
   have h3:=hp.pot
   have h4:=Vi s.gl t
   have h5:r.2.length≤m:=by rw [hb.1];simp;omega
   refine ⟨List.prefix_refl _,rfl,?_⟩
   have:=DR (l.take m)
   rw [List.length_take] at this
   simp only [pot,AM,AD,Be] at h3 ⊢
   omega
  split at h
  ·rename_i hk
   obtain ⟨m,rfl,hm⟩:=Q5 (.inl hk)
   obtain ⟨_,_,h⟩:=Cl h
   obtain ⟨_,_,h⟩:=Cl h
   obtain ⟨s1,h1,h⟩:=Cl h
   obtain ⟨r,h2,h⟩:=Cl h
   cases h
   simp only [Int.toNat_natCast] at h1 h2
   have hp:=hN _ (fun x hx=>List.mem_of_mem_drop hx) _ _ _ h1
   have hb:=Qk h2
   have:=Nn l m
   have:=DR (l.take m)
   refine ⟨hp.pre.trans ⟨_,hb.1.symm⟩,hp.lp,?_⟩
   have h3:=hp.pot
   simp only [pot] at h3 ⊢
   rw [hb.1]
   simp only [AM,List.length_map]
   omega
  split at h
  ·obtain ⟨_,_,h⟩:=Cl h
   obtain ⟨_,_,h⟩:=Cl h
   exact (Aiw (fun s x b s' hx h=>Ha (hw x hx) h) h).weak (by omega)
  split at h
  ·rename_i hk
   have h2:=OU hk
   obtain ⟨s1,h1,h⟩:=Cl h
   have k0:=Gs (l:=l) (i:=0) (by omega)
   have k1:=Gs (l:=l) (i:=1) (by omega)
   have hp:=Ha (hw _ k0.2) h1
   have hq:=(Aaz (.inl rfl) (fun s s' h=>Ha (hw _ k1.2) h) h).1
   have e1:=Mr (l:=l) (i:=1) (by omega)
   have e2:At (l.take 1)=sz (BW l 0):=by
    have:=Mr (l:=l) (i:=0) (by omega)
    have:=Nn l 1
    simp only [List.take_zero,At,Nat.zero_add] at *
    omega
   exact (hp.trans hq).weak (by simp only [Be];omega)
  split at h
  ·rename_i hk
   have h2:=OV hk
   obtain ⟨s1,h1,h⟩:=Cl h
   have kl:=Gs (l:=l) (i:=l.length - 1) (by omega)
   have hp:=hN _ (fun x hx=>List.mem_of_mem_drop (List.mem_of_mem_take hx)) _ _ _ h1
   have hq:=(Aaz (.inr rfl) (fun s s' h=>Ha (hw _ kl.2) h) h).1
   have e1:=Mr (l:=l) (i:=l.length - 1) (by omega)
   have e2:At ((l.drop 1).take (l.length - 2))+At (l.take 1)≤At (l.take (l.length - 1)):=by
    have:=Nn (l.take (l.length - 1)) 1
    rw [List.drop_take,List.take_take,Nat.min_eq_left (by omega),show l.length - 1 - 1=l.length - 2 by omega] at this
    omega
   have e3:=DR (l.take 1)
   exact (hp.trans hq).weak (by omega)
  split at h
  ·rename_i hk
   obtain ⟨m,rfl,hm⟩:=OW hk
   obtain ⟨_,_,h⟩:=Cl h
   obtain ⟨_,_,h⟩:=Cl h
   obtain ⟨s1,h1,h⟩:=Cl h
   simp only [Int.toNat_natCast] at h1 h
   have kl:=Gs (l:=l) (i:=l.length - 1) (by omega)
   have hp:=hN _ (fun x hx=>List.mem_of_mem_drop (List.mem_of_mem_take hx)) _ _ _ h1
   have hq:=(Aaz (.inr rfl) (fun s s' h=>Ha (hw _ kl.2) h) h).1
   have e1:=Mr (l:=l) (i:=l.length - 1) (by omega)
   have e2:At ((l.drop m).take (l.length - 1 - m))+At (l.take m)≤At (l.take (l.length - 1)):=by
    have:=Nn (l.take (l.length - 1)) m
    rw [List.drop_take,List.take_take,Nat.min_eq_left (by omega)] at this
    omega
   have e3:=DR (l.take m)
   exact (hp.trans hq).weak (by omega)
  split at h
  ·split at h
   ·cases h
   ·cases h;exact (Post.refl _).weak (by omega)
  ·exact (A5v (fun s s' h=>hN l (fun _ h=>h) _ _ _ h) h).weak (by omega)
structure BdC (s:BX) (ab:List ByteArray) (n:Nat):Prop where
 pot:pot s+4 * n≤400000
 ab:ab.length≤400000
 lp0:0≤s.lp
 lp:s.lp+n≤400000
theorem BdC.weak {s:BX} {ab:List ByteArray} {n m:Nat} (h:BdC s ab n) (hm:m≤n):BdC s ab m:=⟨by have:=h.pot;omega,h.ab,h.lp0,by have:=h.lp;omega⟩
theorem BdC.step {s s':BX} {ab:List ByteArray} {n m:Nat} (h:BdC s ab (n+m)) (hp:Post s s' (4 * n)):BdC s' ab m:=⟨by have:=h.pot;have:=hp.pot;omega,h.ab,by rw [hp.lp];exact h.lp0,by rw [hp.lp];have:=h.lp;omega⟩
section
variable {α β γ δ ε:Type}
theorem bindM {x:PR α ε} {g:α→β} {F:β→Option (PR γ ε)} {f:α→PR δ ε} {h:δ→γ} (H:∀ a,x=.ok a→F (g a)=some (PR.mp h (f a))):PR.bind (some (PR.mp g x)) F=some (PR.mp h (x.th f)):=by
 cases x with
 | ok a=>exact H a rfl
 | bad e=>rfl
theorem Iq {x:PR α ε} {F:α→Option (PR γ ε)} {f:α→PR δ ε} {h:δ→γ} (H:∀ a,x=.ok a→F a=some (PR.mp h (f a))):PR.bind (some x) F=some (PR.mp h (x.th f)):=by
 cases x with
 | ok a=>exact H a rfl
 | bad e=>rfl
end
theorem eqC {a b:Int} (h:a=b):(a == b)=true:=beq_iff_eq.2 h
theorem Dm {a b:Int} (h:a≠b):(a == b)=false:=beq_eq_false_iff_ne.2 h
theorem Gx {α:Type} {l:List α} {lo hi:Int} (a b:Nat) (ha:lo=a) (hb:hi=b) (h1:a≤b) (h2:b≤l.length):D8 l lo hi=some ((l.drop a).take (b - a)):=by
 subst ha hb
 unfold D8
 rw [decide_eq_true (by omega)]
 rfl
theorem U1 {α:Type} {l m:List α} (h:m <+: l):D8 l (0:Int) ((m.length:Nat):Int)=some (l.take m.length):=by
 rw [Gx 0 m.length (by omega) (by omega) (Nat.zero_le _) (Au9 h)]
 rfl
theorem OY {l:List Tree} {i:Int} (m:Nat) (h:i=m) (hm:m < l.length):AZ l i=some (BW l m):=by
 rw [h,Aal hm,(Gs hm).1]
theorem Vv {a b:ByteArray} (h:a.size+b.size≤9223372036854775807):Nl a b=some (a++b):=by
 unfold Nl
 rw [decide_eq_true h]
 rfl
def RcN (R:CK) (d:Nat):Prop:=∀ (nm:ByteArray) (at_ pc:Int) (ab:List ByteArray) (s:BX) (t:Tree) (tg:Bool),sz t≤d→gw t→BdC s ab (sz t) →
 R.DA s.fs s.gl nm at_ pc s.sl s.cs s.lo s.lp ab t.kind t.text t.n t.at_ t.kids tg=some (PR.mp BX.IC (C9 d ab s t tg))
abbrev nsC (d:Nat) (ab:List ByteArray) (s:BX) (l:List Tree):PC BX:=EM (fun s x=>C9 d ab s x false) s l
def RcL (R:CK) (d:Nat):Prop:=∀ (nm:ByteArray) (at_ pc:Int) (ab:List ByteArray) (s:BX) (l:List Tree),(∀ x ∈ l,sz x≤d∧gw x)→BdC s ab (At l) →
 R.E3 s.fs s.gl nm at_ pc s.sl s.cs s.lo s.lp ab l=some (PR.mp BX.IC (nsC d ab s l))
def RcX (R:CK) (d:Nat):Prop:=∀ (nm:ByteArray) (at_ pc:Int) (ab:List ByteArray) (s:BX) (k:Int) (t:ByteArray) (n a:Int) (l:List Tree) (tg:Bool),(∀ x ∈ l,sz x≤d∧gw x)→(k=7→l.length=2)→BdC s ab (At l+1) →
 R.Is s.fs s.gl nm at_ pc s.sl s.cs s.lo s.lp ab k t n a l tg=some (PR.mp BX.IC (Ln (fun s l=>nsC d ab s l) ab s k t n a l tg))
def RcP (R:CK) (d:Nat):Prop:=∀ (nm:ByteArray) (at_ pc:Int) (ab:Ag) (s:BX) (k:Int) (t:ByteArray) (n a:Int) (l names:List Tree) (b:Tree) (more:Nat),more=0∨more=3→sz b≤d→gw b→BdC s ab (sz b+names.length+1) →
 R.G3 s.fs s.gl nm at_ pc s.sl s.cs s.lo s.lp ab k t n a l names b.kind b.text b.n b.at_ b.kids (more:Int)=some (PR.mp BX.IC (JD (fun s x=>C9 d ab s x false) a s names b more))
def RcF (R:CK) (d:Nat):Prop:=∀ (nm:ByteArray) (at_ pc:Int) (ab:List ByteArray) (s:BX) (t:ByteArray) (m:Nat) (a:Int) (l:List Tree),(∀ x ∈ l,sz x≤d∧gw x)→l.length=m+1→BdC s ab (At l+1) →
 R.It s.fs s.gl nm at_ pc s.sl s.cs s.lo s.lp ab 31 t (m:Int) a l=some (PR.mp BX.IC (C9 (d+1) ab s (.mk 31 t (m:Int) a l) false))
theorem Atp {R:CK} {d:Nat} (hR:RcN R d) (nm:ByteArray) (at_ pc:Int) (ab:Ag):∀ (t pre:List Tree) (s:BX) (m:Nat),pre.length+t.length≤400000→t.length+1≤m→(∀ x ∈ t,sz x≤d∧gw x)→BdC s ab (At t) →
  E3.l0 m R nm at_ pc ab (pre++t) (pre.length:Int) s.fs s.gl s.sl s.cs s.lo s.lp=some (PR.mp BX.IC (nsC d ab s t))
 | [],pre,s,m,hl,hm,hw,hb=>by
  obtain ⟨m,rfl⟩:∃ m',m=m'+1:=⟨m - 1,by omega⟩
  simp only [E3.l0]
  rw [ltF (by simp)]
  rfl
 | x :: t,pre,s,m,hl,hm,hw,hb=>by
  obtain ⟨m,rfl⟩:∃ m',m=m'+1:=⟨m - 1,by omega⟩
  simp only [AD] at hl hm
  simp only [At] at hb
  simp only [E3.l0]
  rw [GY (by simp;omega),DT]
  simp only [cond_true,Aj]
  have hx:=hw x (Cy ..)
  rw [hR nm at_ pc ab s x false hx.1 hx.2 (hb.weak (by omega))]
  unfold nsC EM
  refine bindM fun s' hs'=>?_
  have ih:=Atp hR nm at_ pc ab t (pre++[x]) s' m (by simp;omega) (by omega) (fun y hy=>hw y (CV _ hy)) (hb.step (Ha hx.2 hs'))
  rw [wiC _ (by omega) (by omega)]
  rw [Cj,AM] at ih
  exact ih
theorem Aiv {R:CK} {d:Nat} (hR:RcN R d) (nm:ByteArray) (at_ pc:Int) (ab:Ag) (n:Int):∀ (t pre:List Tree) (s:BX) (m:Nat),pre.length+t.length≤400000→t.length+1≤m→(∀ x ∈ t,sz x≤d∧gw x)→BdC s ab (At t) →
  DA.l0 m R nm at_ pc ab n (pre++t) (pre.length:Int) s.fs s.gl s.sl s.cs s.lo s.lp=some (PR.mp BX.IC (K7 (fun s x b=>C9 d ab s x b) n pre.length s t))
 | [],pre,s,m,hl,hm,hw,hb=>by
  obtain ⟨m,rfl⟩:∃ m',m=m'+1:=⟨m - 1,by omega⟩
  simp only [DA.l0]
  rw [ltF (by simp)]
  rfl
 | x :: t,pre,s,m,hl,hm,hw,hb=>by
  obtain ⟨m,rfl⟩:∃ m',m=m'+1:=⟨m - 1,by omega⟩
  simp only [AD] at hl hm
  simp only [At] at hb
  simp only [DA.l0]
  rw [GY (by simp;omega),DT]
  simp only [cond_true,Aj]
  have hx:=hw x (Cy ..)
  rw [hR nm at_ pc ab s x _ hx.1 hx.2 (hb.weak (by omega))]
  unfold K7
  refine bindM fun s' hs'=>?_
  have ih:=Aiv hR nm at_ pc ab n t (pre++[x]) s' m (by simp;omega) (by omega) (fun y hy=>hw y (CV _ hy)) (hb.step (Ha hx.2 hs'))
  rw [wiC _ (by omega) (by omega)]
  rw [Cj,AM] at ih
  exact ih
theorem Atq {k d:Nat} (hk:500000≤k) (hR:RcN (CK.at k) d):RcL (CK.at (k+1)) d:=fun nm at_ pc ab s l hw hb=>by
 have:=DR l
 have:=hb.pot
 exact Atp hR nm at_ pc ab l [] s k (by simp only [Be];omega) (by omega) hw hb
theorem A5r {k d:Nat} (hk:500000≤k) (hR:RcL (CK.at k) d):RcX (CK.at (k+1)) d:=fun nm at_ pc ab s k0 t n a l tg hw h7 hb=>by
 have hp:=hb.pot
 have hlen:=DR l
 have hL:∀ s',BdC s' ab (At l)→PR.bind ((CK.at k).E3 s'.fs s'.gl nm at_ pc s'.sl s'.cs s'.lo s'.lp ab l) (fun r13=>some (PR.ok (r13.1,r13.2.1,r13.2.2.1,r13.2.2.2.1,r13.2.2.2.2.1,r13.2.2.2.2.2)))=some (PR.mp BX.IC (nsC d ab s' l)):=fun s' hb=>by
  rw [hR nm at_ pc ab s' l hw hb]
  cases nsC d ab s' l <;> rfl
 have hcs:∀ v cs,MH a s.cs v=.ok cs→BdC { s with cs:=cs } ab (At l):=fun v cs h=>⟨by have:=XY h;simp only [pot] at hp ⊢;omega,hb.ab,hb.lp0,by have:=hb.lp;show s.lp+_≤_;omega⟩
 show Is.g (CK.at k) k s.fs s.gl nm at_ pc s.sl s.cs s.lo s.lp ab k0 t n a l tg=_
 unfold Is.g Ln BA
 simp only [Qq]
 have WK:s.gl.length≤400000∧s.lo.length≤400000∧s.cs.length≤400000:=by simp only [pot] at hp;omega
 by_cases h:k0=8
 ·rw [eqC h,if_pos h,cond_true,wiC _ (by omega) (by omega)]
  exact Iq fun _ _=>hL s (hb.weak (by omega))
 rw [Dm h,if_neg h,cond_false]
 by_cases h:k0=30
 ·rw [eqC h,if_pos h,cond_true]
  exact Iq fun _ _=>hL s (hb.weak (by omega))
 rw [Dm h,if_neg h,cond_false]
 by_cases h:k0=12
 ·rw [eqC h,if_pos h,cond_true]
  exact Iq fun _ _=>hL s (hb.weak (by omega))
 rw [Dm h,if_neg h,cond_false]
 by_cases h:k0=4
 ·rw [eqC h,if_pos h,cond_true,const_eq _ _ _ _ _ _ _ _ WK.2.2 hk]
  exact Iq fun cs hcs'=>hL { s with cs:=cs } (hcs _ _ hcs')
 rw [Dm h,if_neg h,cond_false]
 by_cases h:k0=5
 ·rw [eqC h,if_pos h,cond_true,const_eq _ _ _ _ _ _ _ _ WK.2.2 hk]
  exact Iq fun cs hcs'=>hL { s with cs:=cs } (hcs _ _ hcs')
 rw [Dm h,if_neg h,cond_false]
 by_cases h:k0=6
 ·rw [eqC h,if_pos h,cond_true,Bkg _ _ _ _ _ WK.1 WK.2.1 hb.ab hk]
  exact Iq fun gl hgl=>hL { s with gl:=gl } ⟨by have:=Atd hgl;simp only [pot] at hp ⊢;omega,hb.ab,hb.lp0,by have:=hb.lp;show s.lp+_≤_;omega⟩
 rw [Dm h,if_neg h,cond_false]
 by_cases h:k0=7
 ·rw [eqC h,cond_true]
  have h2:=h7 h
  rw [OY 0 (by omega) (by omega)]
  simp only [Aj]
  by_cases h6:(BW l 0).kind=6
  ·rw [eqC h6,cond_true,Wa]
   simp only [Aj]
   cases hq:IL (BW l 0).text with
   | false =>
    rw [cond_false,if_neg (fun e=>by cases e.2.2)]
    exact hL s (hb.weak (by omega))
   | true =>
    rw [cond_true,if_pos ⟨h,h6,rfl⟩,OY 1 (by omega) (by omega)]
    simp only [Aj]
    unfold Ai6
    cases tg with
    | true=>rfl
    | false =>
     simp only [cond_false,Bool.false_or]
     by_cases h5:(BW l 1).kind=5
     ·have e5:((BW l 1).kind != 5)=false:=by simp [h5]
      have w0:=(hw _ (Gs (l:=l) (i:=0) (by omega)).2).2
      have w1:=(hw _ (Gs (l:=l) (i:=1) (by omega)).2).2
      have z0:(BW l 0).text.size≤30000:=by
       cases hx:BW l 0 with
       | mk k1 t1 n1 a1 l1=>rw [hx] at w0;exact w0.1.1
      have z1:(BW l 1).text.size≤30000:=by
       cases hx:BW l 1 with
       | mk k1 t1 n1 a1 l1=>rw [hx] at w1;exact w1.1.1
      have zd:(⟨#[46]⟩:ByteArray).size=1:=rfl
      rw [e5,Vv (by omega)]
      simp only [cond_false,Bool.false_or,Aj]
      rw [Vv (by rw [ByteArray.size_append];omega)]
      simp only [Aj]
      rw [As3 k (by omega)]
      simp only [Aj]
      cases Jf (((BW l 0).text++So++(BW l 1).text).toList) == 0 <;> rfl
     ·have e5:((BW l 1).kind != 5)=true:=by simp [h5]
      rw [e5]
      rfl
  ·rw [Dm h6,if_neg (fun e=>h6 e.2.1)]
   exact hL s (hb.weak (by omega))
 rw [Dm h,if_neg (fun e=>h e.1),cond_false]
 exact hL s (hb.weak (by omega))
theorem Bkd {k d:Nat} (hk:500000≤k) (hR:RcN (CK.at k) d):RcP (CK.at (k+1)) d:=fun nm at_ pc ab s k0 t n a l names b more hm hd hw hb=>by
 have hp:=hb.pot
 have hlp:=hb.lp
 have Bww:=hb.lp0
 show G3.g (CK.at k) k s.fs s.gl nm at_ pc s.sl s.cs s.lo s.lp ab k0 t n a l names b.kind b.text b.n b.at_ b.kids (more:Int)=_
 unfold G3.g JD BA Ow
 have hlo:s.lo.length+4≤400000:=by simp only [pot] at hp;omega
 rw [decide_eq_true (by rw [Int.toNat_natCast];omega)]
 simp only [cond_true,Aj,Int.toNat_natCast]
 have tail:∀ r:Int×List ByteArray,s.lo <+: r.2→r.2.length≤s.lo.length+names.length+3 →
   PR.bind ((CK.at k).DA s.fs s.gl nm at_ pc r.1 s.cs r.2 (IntKind.i64.wrap (s.lp+1)) ab b.kind b.text b.n b.at_ b.kids false) (fun BQ=>(D8 BQ.2.2.2.2.1 (0:Int) ((s.lo.length:Nat):Int)).bind fun JB=>some (PR.ok (BQ.1,BQ.2.1,BQ.2.2.1,BQ.2.2.2.1,JB,IntKind.i64.wrap (BQ.2.2.2.2.2 - 1))))
   =some (PR.mp BX.IC ((C9 d ab { s with sl:=r.1,lo:=r.2,lp:=s.lp+1 } b false).th fun s'=>.ok { s' with lo:=s'.lo.take s.lo.length,lp:=s'.lp - 1 })):=fun r h1 h2=>by
  rw [wiC _ (by omega) (by omega)]
  have hb':BdC { s with sl:=r.1,lo:=r.2,lp:=s.lp+1 } ab (sz b):=⟨by simp only [pot] at hp ⊢;omega,hb.ab,by show 0≤s.lp+1;omega,by show s.lp+1+_≤_;omega⟩
  have:=hR nm at_ pc ab { s with sl:=r.1,lo:=r.2,lp:=s.lp+1 } b false hd hw hb'
  simp only at this
  rw [this]
  refine bindM fun s' hs'=>?_
  have hq:=Ha hw hs'
  have hl':s'.lp=s.lp+1:=hq.lp
  show (D8 s'.lo (0:Int) ((s.lo.length:Nat):Int)).bind _=_
  rw [U1 (h1.trans hq.pre),Aj,show s'.IC.2.2.2.2.2=s'.lp from rfl,wiC _ (by omega) (by omega)]
  rfl
 rcases hm with rfl | rfl
 ·simp only [List.replicate_zero,List.append_nil]
  rw [decide_eq_false (p:=((0:Nat):Int) > 0) (by omega),cond_false,if_neg (by omega)]
  have:=tail (s.sl,s.lo) (List.prefix_refl _) (by show s.lo.length≤_;omega)
  exact this
 ·rw [decide_eq_true (p:=((3:Nat):Int) > 0) (by omega),cond_true]
  rw [XV _ _ _ _ _ _ (by omega) (by simp;omega) hk,if_pos (by omega)]
  refine Iq fun r hr=>?_
  have hr':=Qk hr
  refine tail r ?_ ?_
  ·rw [hr'.1];exact ⟨_,by rw [Cj]⟩
  ·rw [hr'.1];simp;omega
theorem A6x {k d:Nat} (hk:500000≤k) (hR:RcN (CK.at k) d):RcF (CK.at (k+1)) d:=fun nm at_ pc ab s t m a l hw hm hb=>by
 have hp:=hb.pot
 have hlen:=DR l
 have Bas:=Gs (l:=l) (i:=m) (by omega)
 have hks:=Mr (l:=l) (i:=m) (by omega)
 have hts:=DR (l.take m)
 rw [List.length_take] at hts
 have Bws:=Vi s.gl t
 have hpp:s.fs.length≤400000∧s.gl.length≤399999∧s.lo.length≤400000:=by simp only [pot] at hp;omega
 show It.g (CK.at k) k s.fs s.gl nm at_ pc s.sl s.cs s.lo s.lp ab 31 t (m:Int) a l=_
 unfold It.g BA C9
 rw [if_neg (by decide),if_pos rfl,Qq]
 refine Iq fun _ _=>?_
 rw [Wa]
 simp only [Aj]
 cases hq:IL t with
 | true=>rfl
 | false =>
  simp only [cond_false,Bool.false_eq_true,if_false]
  rw [Qq]
  refine Iq fun _ _=>?_
  rw [Als t (by omega) hk,Aj,Gx 0 m (by omega) (by omega) (Nat.zero_le _) (by omega),Aj]
  simp only [List.drop_zero,Nat.sub_zero,Int.toNat_natCast]
  rw [XV _ _ _ _ _ _ (by rw [List.length_take];omega) (by simp) hk]
  refine Iq fun r hr=>?_
  have hr':=Qk hr
  have hrl:r.2.length≤m:=by rw [hr'.1];simp;omega
  rw [OY m (by omega) (by omega),Aj]
  have hw':=hw _ Bas.2
  have hb':BdC ⟨s.fs,N4 s.gl t,r.1,[],r.2,0⟩ s.lo (sz (BW l m)):=⟨by simp only [pot,Be] at hp ⊢;omega,hpp.2.2,Int.le_refl _,by show (0:Int)+_≤_;omega⟩
  have:=hR t a m s.lo ⟨s.fs,N4 s.gl t,r.1,[],r.2,0⟩ (BW l m) false hw'.1 hw'.2 hb'
  simp only at this
  rw [this]
  refine bindM fun s' hs'=>?_
  have hq':=(Ha hw'.2 hs').pot
  show (apd 64 s'.fs [(t,a,(m:Int),s'.sl,s'.cs)]).bind _=_
  rw [Js (by simp only [pot,Be] at hp hq';simp;omega)]
  rfl
theorem Bkp {k d:Nat} (hk:500000≤k) (hR:RcN (CK.at k) d) (hL:RcL (CK.at k) d) (hX:RcX (CK.at k) d) (hP:RcP (CK.at k) d) (hF:RcF (CK.at k) d):RcN (CK.at (k+1)) (d+1):=fun nm at_ pc ab s x tg hd hw hb=>by
 cases x with
 | mk k0 t n a l =>
  obtain ⟨⟨hs1,hs7,OU,OV,Q5,OW,SZ⟩,hw⟩:=hw
  rw [Qu] at hw
  simp only [sz] at hd hb
  have hlen:=DR l
  have hp:=hb.pot
  have hwd:∀ x ∈ l,sz x≤d∧gw x:=fun x hx=>⟨by have:=JN hx;omega,hw x hx⟩
  have id':∀ (x:PC BX) ,PR.bind (some (PR.mp BX.IC x)) (fun r=>some (PR.ok (r.1,r.2.1,r.2.2.1,r.2.2.2.1,r.2.2.2.2.1,r.2.2.2.2.2)))=some (PR.mp BX.IC x):=fun x=>by cases x <;> rfl
  have nP:∀ {m:List Tree},(∀ x ∈ m,x ∈ l)→∀ {s s'},nsC d ab s m=.ok s'→Post s s' (4 * At m):=fun hm _ _ h=>Aa7 (fun s x s' hx h=>Ha (hw x (hm x hx)) h) h
  show DA.g (CK.at k) k s.fs s.gl nm at_ pc s.sl s.cs s.lo s.lp ab k0 t n a l tg=some (PR.mp BX.IC (C9 (d+1) ab s (.mk k0 t n a l) tg))
  unfold DA.g
  by_cases h31:k0=31
  ·obtain ⟨m,rfl,hm⟩:=SZ h31
   subst h31
   rw [Dm (by decide),cond_false,eqC rfl,cond_true,hF nm at_ pc ab s t m a l hwd hm (hb.weak (by omega)),id']
   rfl
  unfold C9
  by_cases h:k0=20
  ·rw [eqC h,if_pos h,cond_true,hL nm at_ pc ab s l hwd (hb.weak (by omega))]
   refine bindM fun s' hs'=>?_
   show (D8 s'.lo (0:Int) ((s.lo.length:Nat):Int)).bind _=_
   rw [U1 (nP (fun _ h=>h) hs').pre]
   rfl
  rw [Dm h,if_neg h,cond_false,Dm h31,if_neg h31,cond_false]
  simp only [Qq]
  by_cases h:k0=21
  ·obtain ⟨m,rfl,hm⟩:=Q5 (.inl h)
   rw [eqC h,if_pos h,cond_true,wiC _ (by omega) (by omega)]
   refine Iq fun _ _=>Iq fun _ _=>?_
   have hsp:=Nn l m
   have hlt:=DR (l.take m)
   rw [Gx m l.length (by omega) (by omega) hm (Nat.le_refl _),Aj,List.take_of_length_le (by rw [Cv];omega)]
   rw [hL nm at_ pc ab s _ (fun x hx=>hwd x (List.mem_of_mem_drop hx)) (hb.weak (by omega))]
   simp only [Int.toNat_natCast]
   refine bindM fun s' hs'=>?_
   have hq:=(nP (fun _ h=>List.mem_of_mem_drop h) hs').pot
   rw [Gx 0 m (by omega) (by omega) (Nat.zero_le _) hm,Aj]
   simp only [List.drop_zero,Nat.sub_zero,BX.IC]
   rw [XV _ _ _ _ _ _ (by rw [List.length_take];omega) (by simp only [pot] at hp hq;omega) hk]
   exact Iq fun r hr=>rfl
  rw [Dm h,if_neg h,cond_false]
  by_cases h:k0=22
  ·obtain ⟨m,rfl,hm⟩:=Q5 (.inr h)
   rw [eqC h,if_pos h,cond_true,wiC _ (by omega) (by omega)]
   refine Iq fun _ _=>Iq fun _ _=>?_
   exact Aiv hR nm at_ pc ab _ l [] s k (by simp only [Be];omega) (by omega) hwd (hb.weak (by omega))
  rw [Dm h,if_neg h,cond_false]
  by_cases h:k0=25
  ·have h2:=OU h
   have k0:=Gs (l:=l) (i:=0) (by omega)
   have k1:=Gs (l:=l) (i:=1) (by omega)
   have e1:=Mr (l:=l) (i:=1) (by omega)
   have e2:At (l.take 1)=sz (BW l 0):=by
    have:=Mr (l:=l) (i:=0) (by omega)
    have:=Nn l 1
    simp only [List.take_zero,At,Nat.zero_add] at *
    omega
   rw [eqC h,if_pos h,cond_true,OY 0 (by omega) (by omega),Aj,hR nm at_ pc ab s (BW l 0) false (hwd _ k0.2).1 (hwd _ k0.2).2 (hb.weak (by omega))]
   refine bindM fun s' hs'=>?_
   have hb':BdC s' ab (sz (BW l 1)+0+1):=(hb.weak (m:=sz (BW l 0)+(sz (BW l 1)+0+1)) (by omega)).step (Ha (hwd _ k0.2).2 hs')
   rw [OY 1 (by omega) (by omega),Aj]
   have:=hP nm at_ pc ab s' 25 t n a l [] (BW l 1) 0 (.inl rfl) (hwd _ k1.2).1 (hwd _ k1.2).2 hb'
   simp only [BX.IC]
   rw [h]
   have this:=this
   simp only [Int.ofNat_zero,Int.natCast_zero] at this
   rw [this]
   exact id' _
  rw [Dm h,if_neg h,cond_false]
  by_cases h:k0=26
  ·have h2:=OV h
   have kl:=Gs (l:=l) (i:=l.length - 1) (by omega)
   have e1:=Mr (l:=l) (i:=l.length - 1) (by omega)
   have e2:At ((l.drop 1).take (l.length - 2))+At (l.take 1)≤At (l.take (l.length - 1)):=by
    have:=Nn (l.take (l.length - 1)) 1
    rw [List.drop_take,List.take_take,Nat.min_eq_left (by omega),show l.length - 1 - 1=l.length - 2 by omega] at this
    omega
   have e3:=DR (l.take 1)
   rw [eqC h,if_pos h,cond_true,wiC _ (by omega) (by omega),Gx 1 (l.length - 1) (by omega) (by omega) (by omega) (by omega),Aj,show l.length - 1 - 1=l.length - 2 by omega]
   rw [hL nm at_ pc ab s _ (fun x hx=>hwd x (List.mem_of_mem_drop (List.mem_of_mem_take hx))) (hb.weak (by omega))]
   refine bindM fun s' hs'=>?_
   have hb':=(hb.weak (m:=At ((l.drop 1).take (l.length - 2))+(sz (BW l (l.length - 1))+(l.take 1).length+1)) (by omega)).step (nP (fun x hx=>List.mem_of_mem_drop (List.mem_of_mem_take hx)) hs')
   rw [Gx 0 1 (by omega) (by omega) (Nat.zero_le _) (by omega),Aj,OY (l.length - 1) (by omega) (by omega),Aj]
   simp only [List.drop_zero,Nat.sub_zero,BX.IC]
   have:=hP nm at_ pc ab s' k0 t n a l (l.take 1) (BW l (l.length - 1)) 3 (.inr rfl) (hwd _ kl.2).1 (hwd _ kl.2).2 hb'
   have this:(CK.at k).G3 s'.fs s'.gl nm at_ pc s'.sl s'.cs s'.lo s'.lp ab k0 t n a l (l.take 1) (BW l (l.length - 1)).kind (BW l (l.length - 1)).text (BW l (l.length - 1)).n (BW l (l.length - 1)).at_ (BW l (l.length - 1)).kids (3:Int)=_:=this
   rw [this]
   exact id' _
  rw [Dm h,if_neg h,cond_false]
  by_cases h:k0=27
  ·obtain ⟨m,rfl,hm⟩:=OW h
   have kl:=Gs (l:=l) (i:=l.length - 1) (by omega)
   have e1:=Mr (l:=l) (i:=l.length - 1) (by omega)
   have e2:At ((l.drop m).take (l.length - 1 - m))+At (l.take m)≤At (l.take (l.length - 1)):=by
    have:=Nn (l.take (l.length - 1)) m
    rw [List.drop_take,List.take_take,Nat.min_eq_left (by omega)] at this
    omega
   have e3:=DR (l.take m)
   rw [eqC h,if_pos h,cond_true,wiC ((l.length:Int) - 1) (by omega) (by omega),wiC _ (by omega) (by omega)]
   refine Iq fun _ _=>Iq fun _ _=>?_
   rw [Gx m (l.length - 1) (by omega) (by omega) (by omega) (by omega),Aj]
   rw [hL nm at_ pc ab s _ (fun x hx=>hwd x (List.mem_of_mem_drop (List.mem_of_mem_take hx))) (hb.weak (by omega))]
   simp only [Int.toNat_natCast]
   refine bindM fun s' hs'=>?_
   have hb':=(hb.weak (m:=At ((l.drop m).take (l.length - 1 - m))+(sz (BW l (l.length - 1))+(l.take m).length+1)) (by omega)).step (nP (fun x hx=>List.mem_of_mem_drop (List.mem_of_mem_take hx)) hs')
   rw [Gx 0 m (by omega) (by omega) (Nat.zero_le _) (by omega),Aj,OY (l.length - 1) (by omega) (by omega),Aj]
   simp only [List.drop_zero,Nat.sub_zero,BX.IC]
   have:=hP nm at_ pc ab s' k0 t m a l (l.take m) (BW l (l.length - 1)) 3 (.inr rfl) (hwd _ kl.2).1 (hwd _ kl.2).2 hb'
   have this:(CK.at k).G3 s'.fs s'.gl nm at_ pc s'.sl s'.cs s'.lo s'.lp ab k0 t m a l (l.take m) (BW l (l.length - 1)).kind (BW l (l.length - 1)).text (BW l (l.length - 1)).n (BW l (l.length - 1)).at_ (BW l (l.length - 1)).kids (3:Int)=_:=this
   rw [this]
   exact id' _
  rw [Dm h,if_neg h,cond_false]
  by_cases h:k0=29
  ·rw [eqC h,if_pos h,cond_true]
   by_cases h0:s.lp=0
   ·rw [eqC h0,if_pos h0];rfl
   ·rw [Dm h0,if_neg h0];rfl
  rw [Dm h,if_neg h,cond_false,hX nm at_ pc ab s k0 t n a l tg hwd hs7 (hb.weak (by omega)),id']
theorem Wv:∀ (d k:Nat),500003+3 * d≤k→RcN (CK.at k) d
 | 0,k,_=>fun nm at_ pc ab s t tg h=>by have:=ED t;omega
 | d+1,k,hk=>by
  obtain ⟨k,rfl⟩:∃ m,k=m+3:=⟨k - 3,by omega⟩
  have h0:=Wv d k (by omega)
  have h1:=Wv d (k+1) (by omega)
  have h2:=Wv d (k+2) (by omega)
  exact Bkp (by omega) h2 (Atq (by omega) h1) (A5r (by omega) (Atq (by omega) h0)) (Bkd (by omega) h1) (A6x (by omega) h1)
mutual
def htT:Tree→Nat
 | .mk _ _ _ _ l=>NK l+1
def NK:List Tree→Nat
 | []=>0
 | x :: l=>max (htT x) (NK l)
end
mutual
theorem Be6:∀ t:Tree,htT t≤sz t
 | .mk _ _ _ _ l=>by simp only [htT,sz];have:=Z0 l;omega
theorem Z0:∀ l:List Tree,NK l≤At l
 | []=>by simp [NK,At]
 | x :: l=>by simp only [NK,At];have:=Be6 x;have:=Z0 l;omega
end
theorem An6 (J:Int→Option Int) (R:H1):∀ (t pre:List Tree) (m a:Nat),pre.length+t.length≤10000000→t.length+1≤m →
  (∀ x ∈ t,R.Es x.kind x.text x.n x.at_ x.kids=some (htT x:Int))→Es.l0 m R (pre++t) J (a:Int) (pre.length:Int)=J ((max a (NK t):Nat):Int)
 | [],pre,m,a,hl,hm,_=>by
  obtain ⟨m,rfl⟩:∃ m',m=m'+1:=⟨m - 1,by omega⟩
  simp only [Es.l0]
  rw [ltF (by simp)]
  simp [NK]
 | x :: t,pre,m,a,hl,hm,hR=>by
  obtain ⟨m,rfl⟩:∃ m',m=m'+1:=⟨m - 1,by omega⟩
  simp only [AD] at hl hm
  have ih:=An6 J R t (pre++[x]) m (max a (htT x)) (by simp;omega) (by omega) (fun y hy=>hR y (CV _ hy))
  simp only [Es.l0]
  rw [GY (by simp;omega),DT]
  simp only [cond_true,Aj]
  rw [hR x (Cy ..)]
  simp only [Aj]
  rw [wiC _ (by omega) (by omega)]
  rw [Cj,AM] at ih
  have e1:(if (htT x:Int) > (a:Int) then (htT x:Int) else (a:Int))=((max a (htT x):Nat):Int):=by split <;> omega
  rw [e1]
  refine ih.trans (congrArg J ?_)
  simp only [NK]
  omega
theorem An4:∀ (k:Nat) (t:Tree),sz t≤k→sz t≤1000000→Es.g (H1.at k) k t.kind t.text t.n t.at_ t.kids=some (htT t:Int)
 | 0,t,h,_=>by have:=ED t;omega
 | k+1,.mk kd tx n a l,h,h9=>by
  simp only [sz] at h h9
  have hl:=DR l
  have hh:=Z0 l
  unfold Es.g BA
  have:=An6 (fun x2=>some (IntKind.i64.wrap (x2+(1:Int)))) (H1.at (k+1)) l [] (k+1) 0 (by simp only [Be];omega) (by omega) fun x hx=>by
   have:=JN hx
   exact An4 k x (by omega) (by omega)
  refine this.trans ?_
  rw [wiC _ (by omega) (by omega)]
  simp [htT]
def st0:BX:=⟨[(⟨#[]⟩,0,0,0,[])],[],0,[],[],0⟩
def Ob (d:Nat) (n:Tree):PC BX:=if htT n > 100 then .bad (6,n.at_) else C9 d [] st0 n false
abbrev Rep:=List LM×List ByteArray×Int×Int
def Ad8 (a:Int):PC BX→Rep
 | .bad e=>([],[],e.1,e.2)
 | .ok s=>((⟨#[]⟩,a,0,s.sl,s.cs) :: s.fs.tail,s.gl,0,0)
theorem Bkl:∀ {d:Nat} {ab:List ByteArray} {s s':BX} {t:Tree} {tg:Bool},C9 d ab s t tg=.ok s'→s.fs <+: s'.fs:=by
 intro d
 induction d with
 | zero=>intro ab s s' t tg h;unfold C9 at h;cases h
 | succ d ih =>
  have hN:∀ {m:List Tree} {ab s s'},EM (fun s x=>C9 d ab s x false) s m=.ok s'→s.fs <+: s'.fs:=by
   intro m
   induction m with
   | nil=>intro ab s s' h;cases h;exact List.prefix_refl _
   | cons x m ihm =>
    intro ab s s' h
    unfold EM at h
    obtain ⟨s1,h1,h⟩:=Cl h
    exact (ih h1).trans (ihm h)
  have hA:∀ {m:List Tree} {n i ab s s'},K7 (fun s x b=>C9 d ab s x b) n i s m=.ok s'→s.fs <+: s'.fs:=by
   intro m
   induction m with
   | nil=>intro n i ab s s' h;cases h;exact List.prefix_refl _
   | cons x m ihm =>
    intro n i ab s s' h
    unfold K7 at h
    obtain ⟨s1,h1,h⟩:=Cl h
    exact (ih h1).trans (ihm h)
  have hP:∀ {a:Int} {names:List Tree} {b:Tree} {more:Nat} {ab s s'},JD (fun s x=>C9 d ab s x false) a s names b more=.ok s'→s.fs <+: s'.fs:=by
   intro a names b more ab s s' h
   unfold JD at h
   obtain ⟨r,_,h⟩:=Cl h
   obtain ⟨s1,h1,h⟩:=Cl h
   cases h
   have h2:=ih (show C9 d ab _ b false=_ from h1)
   exact h2
  intro ab s s' t tg h
  cases t with
  | mk k t n a l =>
   unfold C9 at h
   split at h
   ·obtain ⟨s1,h1,h⟩:=Cl h;cases h;have h2:=hN h1;exact h2
   split at h
   ·obtain ⟨_,_,h⟩:=Cl h
    split at h
    ·cases h
    obtain ⟨_,_,h⟩:=Cl h
    obtain ⟨r,_,h⟩:=Cl h
    obtain ⟨s1,h1,h⟩:=Cl h
    cases h
    exact (ih h1).trans (List.prefix_append _ _)
   split at h
   ·obtain ⟨_,_,h⟩:=Cl h
    obtain ⟨_,_,h⟩:=Cl h
    obtain ⟨s1,h1,h⟩:=Cl h
    obtain ⟨r,_,h⟩:=Cl h
    cases h;have h2:=hN h1;exact h2
   split at h
   ·obtain ⟨_,_,h⟩:=Cl h
    obtain ⟨_,_,h⟩:=Cl h
    exact hA h
   split at h
   ·obtain ⟨s1,h1,h⟩:=Cl h;exact (ih h1).trans (hP h)
   split at h
   ·obtain ⟨s1,h1,h⟩:=Cl h;exact (hN h1).trans (hP h)
   split at h
   ·obtain ⟨_,_,h⟩:=Cl h
    obtain ⟨_,_,h⟩:=Cl h
    obtain ⟨s1,h1,h⟩:=Cl h;exact (hN h1).trans (hP h)
   split at h
   ·split at h
    ·cases h
    ·cases h;exact List.prefix_refl _
   ·unfold Ln at h
    (repeat' split at h) <;> first
     | (cases h;done)
     | (cases h;exact List.prefix_refl _)
     | exact hN h
     | (obtain ⟨_,_,h⟩:=Cl h;have h2:=hN (show EM (fun s x=>C9 d ab s x false) _ l=_ from h);exact h2)
theorem Af5 {n:Tree} (h:wfC n):gw n∧n.kind=20:=by
 cases n with
 | mk k t n a l =>
  obtain ⟨h1,h0,h2⟩:=h
  subst h1
  exact ⟨⟨⟨h0,nx rfl,nx rfl,nx rfl,nx rfl,nx rfl,nx rfl⟩,Qu.2 fun x hx=>(h2 x hx).elim Af6 A6v⟩,rfl⟩
theorem check_eq (k:Nat) (hk:900000≤k) (s:ByteArray):O1.f k s=some (match JH s with | (kd,tx,n,a,l,c,p)=>if c≠0 then ([],[],c,p) else Ad8 a (Ob 100000 (.mk kd tx n a l))):=by
 unfold O1.f
 rw [Au4 k (by omega),Aj]
 rcases Bol s with ⟨c,p,hc,he⟩ | ⟨n,he,hw,hz⟩
 ·rw [he]
  unfold Nf
  simp only
  rw [show (c != 0)=true by rw [bne_iff_ne];exact hc,cond_true,if_pos hc]
 ·rw [he]
  unfold PM
  obtain ⟨hg,_⟩:=Af5 hw
  simp only [bne_self_eq_false,cond_false,BA,ne_eq,not_true_eq_false,if_false]
  have e:Tree.mk n.kind n.text n.n n.at_ n.kids=n:=by cases n;rfl
  rw [e,show Es.f k n.kind n.text n.n n.at_ n.kids=some (htT n:Int) from An4 k n (by omega) (by omega)]
  simp only [Aj]
  unfold Ob
  by_cases hh:htT n > 100
  ·rw [decide_eq_true (by omega),if_pos hh]
   rfl
  ·rw [decide_eq_false (by omega),if_neg hh,cond_false]
   have hb:BdC st0 [] (sz n):=⟨by simp only [pot,st0,AD,Be];omega,by simp,Int.le_refl _,by show (0:Int)+_≤_;omega⟩
   have hk':=Wv 100000 (k+1) (by omega) ⟨#[]⟩ n.at_ 0 [] st0 n false (by omega) hg hb
   have hk':DA.f k [(⟨#[]⟩,0,0,0,[])] [] ⟨#[]⟩ n.at_ 0 0 [] [] 0 [] n.kind n.text n.n n.at_ n.kids false=_:=hk'
   rw [hk']
   cases hn:C9 100000 [] st0 n false with
   | bad e=>rfl
   | ok s' =>
    obtain ⟨t,ht⟩:=Bkl hn
    cases s' with
    | mk fs gl sl cs lo lp =>
     have ht:(⟨#[]⟩,0,0,0,[]) :: t=fs:=ht
     subst ht
     rfl
mutual
inductive IsE:Tree→Prop
 | atom {k n a:Int} {t:ByteArray}:1≤k→k≤6→IsE (.mk k t n a [])
 | index {n a:Int} {t:ByteArray} {x y:Tree}:IsE x→IsE y→IsE (.mk 7 t n a [x,y])
 | call {n a:Int} {t:ByteArray} {x:Tree} {l:List Tree}:IsE x→(∀ y ∈ l,IsE y)→IsE (.mk 8 t n a (x :: l))
 | paren {n a:Int} {t:ByteArray} {x:Tree}:IsE x→IsE (.mk 9 t n a [x])
 | unary {n a:Int} {t:ByteArray} {x:Tree}:IsE x→IsE (.mk 10 t n a [x])
 | binary {n a:Int} {t:ByteArray} {x y:Tree}:IsE x→IsE y→IsE (.mk 11 t n a [x,y])
 | table {n a:Int} {t:ByteArray} {l:List Tree}:(∀ y ∈ l,K5 y)→IsE (.mk 12 t n a l)
inductive K5:Tree→Prop
 | item {n a:Int} {t:ByteArray} {x:Tree}:IsE x→K5 (.mk 13 t n a [x])
 | field {n a:Int} {t:ByteArray} {x y:Tree}:IsE x→IsE y→K5 (.mk 14 t n a [x,y])
end
mutual
inductive EF:Tree→Prop
 | block {n a:Int} {t:ByteArray} {l:List Tree}:(∀ x ∈ l,IsS x)→EF (.mk 20 t n a l)
inductive IsS:Tree→Prop
 | loc {a:Int} {t:ByteArray} {l m:List Tree}:l≠[]→(∀ x ∈ m,IsE x)→IsS (.mk 21 t (l.length:Nat) a (l++m))
 | asg {a:Int} {t:ByteArray} {l m:List Tree}:l≠[]→(∀ x ∈ l,IsE x∧(x.kind=6∨x.kind=7))→m≠[]→(∀ x ∈ m,IsE x)→IsS (.mk 22 t (l.length:Nat) a (l++m))
 | run {n a:Int} {t:ByteArray} {x:Tree}:IsE x→x.kind=8→IsS (.mk 23 t n a [x])
 | if_ {n a:Int} {t:ByteArray} {l:List Tree}:IsR l→IsS (.mk 24 t n a l)
 | while_ {n a:Int} {t:ByteArray} {x b:Tree}:IsE x→EF b→IsS (.mk 25 t n a [x,b])
 | for_ {n a:Int} {t:ByteArray} {x b:Tree} {l:List Tree}:l.length=2∨l.length=3→(∀ y ∈ l,IsE y)→EF b→IsS (.mk 26 t n a (x :: l++[b]))
 | forIn {a:Int} {t:ByteArray} {b:Tree} {l m:List Tree}:l≠[]→m≠[]→(∀ y ∈ m,IsE y)→EF b→IsS (.mk 27 t (l.length:Nat) a (l++m++[b]))
 | do_ {n a:Int} {t:ByteArray} {b:Tree}:EF b→IsS (.mk 28 t n a [b])
 | break_ {n a:Int} {t:ByteArray}:IsS (.mk 29 t n a [])
 | ret {n a:Int} {t:ByteArray} {l:List Tree}:(∀ y ∈ l,IsE y)→IsS (.mk 30 t n a l)
/-- The branches of an if. -/
inductive IsR:List Tree→Prop
 | nil:IsR []
 | last {b:Tree}:EF b→IsR [b]
 | more {e b:Tree} {l:List Tree}:IsE e→EF b→IsR l→IsR (e :: b :: l)
end
inductive Jp:Tree→Prop
 | fn {a:Int} {t:ByteArray} {l:List Tree} {b:Tree}:EF b→Jp (.mk 31 t (l.length:Nat) a (l++[b]))
inductive IsC:Tree→Prop
 | chunk {n a:Int} {t:ByteArray} {l:List Tree}:(∀ x ∈ l,IsS x∨Jp x)→IsC (.mk 20 t n a l)
abbrev Ey (l:List Tree):Prop:=∀ x ∈ l,IsE x
theorem Aao {l:List Tree} {x:Tree} (h:Ey l) (hx:IsE x):Ey (l++[x]):=fun y hy=>by
 rcases EG.1 hy with hy | hy
 ·exact h y hy
 ·obtain rfl:=DG.1 hy;exact hx
theorem le_nil:Ey []:=fun _ h=>nomatch h
structure XE (f:Nat):Prop where
 exp:∀ least ts,R (DH f least ts) fun n _=>IsE n
 loop:∀ least n ts,IsE n→R (FQ f least n ts) fun n _=>IsE n
 operand:∀ ts,R (FB f ts) fun n _=>IsE n
 fields:∀ acc ts,(∀ x ∈ acc,K5 x)→R (FA f acc ts) fun l _=>∀ x ∈ l,K5 x
 field:∀ ts,R (Gc f ts) fun n _=>K5 n
 ET:∀ ts,R (Fm f ts) fun n _=>IsE n
 DV:∀ at_ n ts,IsE n→R (Fl f at_ n ts) fun n _=>IsE n
 D1:∀ ts,R (Fk f ts) fun l _=>Ey l∧l≠[]
 GG:∀ acc ts,Ey acc→acc≠[]→R (FP f acc ts) fun l _=>Ey l∧l≠[]
theorem UN (ts:List Tk):R (Jg 6 ts) fun n _=>IsE n∧n.kind=6:=R.ite (fun _=>R.ok ⟨.atom (by decide) (by decide),rfl⟩) fun _=>R.bad
theorem Bty (ts:List Tk):R (Jg 5 ts) fun n _=>IsE n:=R.ite (fun _=>R.ok (.atom (by decide) (by decide))) fun _=>R.bad
theorem IF (w:ByteArray) (ts:List Tk):R (Gw w ts) fun _ _=>True:=R.ite (fun _=>R.ok trivial) fun _=>R.bad
theorem Agk:∀ (f:Nat) (acc:List Tree) (ts:List Tk),acc≠[]→R (GL f acc ts) fun l _=>l≠[]
 | 0,_,_,_=>R.none
 | f+1,acc,ts,h=>by
  unfold GL
  exact R.ite (fun _=>R.bind (UN ts.tail) fun n r _=>Agk f _ r (by simp)) fun _=>R.ok h
theorem Ay1 (f:Nat) (ts:List Tk):R (Ng f ts) fun l _=>l≠[]:=R.bind (UN ts) fun n r _=>Agk f _ r (by simp)
theorem xE:∀ f,XE f
 | 0=>by constructor <;> intros <;> (first | rw [DH] | rw [FQ] | rw [FB] | rw [FA] | rw [Gc] | rw [Fm] | rw [Fl] | rw [Fk] | rw [FP]) <;> exact R.none
 | f+1=>by
  have ih:=xE f
  constructor
  ·intro least ts;unfold DH
   exact R.bind (ih.operand ts) fun n r hn=>ih.loop _ _ _ hn
  ·intro least n ts hw;unfold FQ
   refine R.ite (fun _=>R.ok hw) fun _=>R.bind (ih.exp _ _) fun m r hm=>ih.loop _ _ _ (.binary hw hm)
  ·intro ts;unfold FB
   refine R.ite (fun _=>R.ok (.atom (by decide) (by decide))) fun _=>?_
   refine R.ite (fun _=>R.ok (.atom (by decide) (by decide))) fun _=>?_
   refine R.ite (fun _=>R.ok (.atom (by decide) (by decide))) fun _=>?_
   refine R.ite (fun _=>R.ok (.atom (by decide) (by decide))) fun _=>?_
   refine R.ite (fun _=>R.ok (.atom (by decide) (by decide))) fun _=>?_
   refine R.ite (fun _=>R.bind (ih.exp _ _) fun m r hm=>R.ok (.unary hm)) fun _=>?_
   refine R.ite (fun _=>R.bind (ih.fields _ _ (fun _ h=>nomatch h)) fun l r hl=>R.ok (.table hl)) fun _=>?_
   exact ih.ET _
  ·intro acc ts ha;unfold FA
   refine R.ite (fun _=>R.ok ha) fun _=>R.bind (ih.field ts) fun x r hx=>?_
   have hs:∀ y ∈ acc++[x],K5 y:=fun y hy=>by
    rcases EG.1 hy with hy | hy
    ·exact ha y hy
    ·obtain rfl:=DG.1 hy;exact hx
   refine R.ite (fun _=>ih.fields _ _ hs) fun _=>R.ite (fun _=>ih.fields _ _ hs) fun _=>?_
   exact R.bind (IF _ _) fun _ s hr=>R.ok hs
  ·intro ts;unfold Gc
   refine R.ite (fun _=>?_) fun _=>R.ite (fun _=>?_) fun _=>?_
   ·exact R.bind (ih.exp _ _) fun k r hk=>R.bind (IF _ _) fun _ r hr=>R.bind (IF _ _) fun _ r hr=>R.bind (ih.exp _ _) fun v r hv=>R.ok (.field hk hv)
   ·exact R.bind (ih.exp _ _) fun v r hv=>R.ok (.field (.atom (by decide) (by decide)) hv)
   ·exact R.bind (ih.exp _ _) fun v r hv=>R.ok (.item hv)
  ·intro ts;unfold Fm
   refine R.ite (fun _=>?_) fun _=>?_
   ·exact R.bind (ih.exp _ _) fun e r he=>R.bind (IF _ _) fun _ r hr=>ih.DV _ _ _ (.paren he)
   ·exact R.bind (UN _) fun n r hn=>ih.DV _ _ _ hn.1
  ·intro at_ n ts hw;unfold Fl
   refine R.ite (fun _=>?_) fun _=>R.ite (fun _=>?_) fun _=>R.ite (fun _=>?_) fun _=>R.ok hw
   ·exact R.bind (ih.exp _ _) fun e r he=>R.bind (IF _ _) fun _ r hr=>ih.DV _ _ _ (.index hw he)
   ·exact R.bind (Bty _) fun e r he=>ih.DV _ _ _ (.index hw he)
   ·exact R.bind (Q1:=fun l _=>Ey l) (R.ite (fun _=>R.ok le_nil) fun _=>R.weak (ih.D1 _) fun l _ h=>h.1) fun l r hl=>R.bind (IF _ _) fun _ r hr=>ih.DV _ _ _ (.call hw hl)
  ·intro ts;unfold Fk
   exact R.bind (ih.exp _ _) fun e r he=>ih.GG _ _ (Aao le_nil he) (by simp)
  ·intro acc ts ha hn;unfold FP
   exact R.ite (fun _=>R.bind (ih.exp _ _) fun e r he=>ih.GG _ _ (Aao ha he) (by simp)) fun _=>R.ok ⟨ha,hn⟩
def Q7 (c:Bool) (x:Tree):Prop:=IsS x∨(c=true∧Jp x)
theorem ZA {c:Bool} {acc:List Tree} {x:Tree} (h:∀ y ∈ acc,Q7 c y) (hx:Q7 c x):∀ y ∈ acc++[x],Q7 c y:=fun y hy=>by
 rcases EG.1 hy with hy | hy
 ·exact h y hy
 ·obtain rfl:=DG.1 hy;exact hx
theorem IsR.Ait:∀ {acc:List Tree} {e b:Tree},IsR acc→(∃ m,acc.length=2 * m)→IsE e→EF b→IsR (acc++[e]++[b])∧(∃ m,(acc++[e]++[b]).length=2 * m)
 | [],e,b,_,_,he,hb=>⟨.more he hb .nil,1,rfl⟩
 | [_],e,b,_,⟨m,hm⟩,_,_=>by simp at hm;omega
 | x :: y :: l,e,b,h,⟨m,hm⟩,he,hb=>by
  cases h with
  | more h1 h2 h3 =>
   obtain ⟨h4,m',h5⟩:=IsR.Ait h3 ⟨m - 1,by simp at hm;omega⟩ he hb
   exact ⟨.more h1 h2 h4,m'+1,by simp at h5 ⊢;omega⟩
theorem IsR.app1:∀ {acc:List Tree} {b:Tree},IsR acc→(∃ m,acc.length=2 * m)→EF b→IsR (acc++[b])
 | [],b,_,_,hb=>.last hb
 | [_],b,_,⟨m,hm⟩,_=>by simp at hm;omega
 | x :: y :: l,b,h,⟨m,hm⟩,hb=>by
  cases h with
  | more h1 h2 h3=>exact .more h1 h2 (IsR.app1 h3 ⟨m - 1,by simp at hm;omega⟩ hb)
structure XS (f:Nat):Prop where
 block:∀ c ts,R (Fc f c ts) fun n _=>∃ a l,n=.mk 20 noB 0 a l∧∀ x ∈ l,Q7 c x
 EI:∀ c at_ acc ts,(∀ x ∈ acc,Q7 c x)→R (Fj f c at_ acc ts) fun n _=>∃ a l,n=.mk 20 noB 0 a l∧∀ x ∈ l,Q7 c x
 function:∀ ts,R (Ge f ts) fun n _=>Jp n
 body:∀ ts,R (Fx f ts) fun n _=>EF n
 stat:∀ ts,R (Gg f ts) fun n _=>IsS n
 branches:∀ acc ts,IsR acc→(∃ m,acc.length=2 * m)→R (FO f acc ts) fun l _=>IsR l
 for_:∀ at_ ts,R (Gd f at_ ts) fun n _=>IsS n
 plain:∀ ts,R (Gf f ts) fun n _=>IsS n
 targets:∀ acc e ts,(∀ x ∈ acc,IsE x∧(x.kind=6∨x.kind=7))→IsE e→R (FR f acc e ts) fun l _=>l≠[]∧∀ x ∈ l,IsE x∧(x.kind=6∨x.kind=7)
theorem xS:∀ f,XS f
 | 0=>by constructor <;> intros <;> (first | unfold Fc | unfold Fj | unfold Ge | unfold Fx | unfold Gg | unfold FO | unfold Gd | unfold Gf | unfold FR) <;> exact R.none
 | f+1=>by
  have ih:=xS f
  have ie:=xE f
  have blk:∀ ts,R (Fc f false ts) fun n _=>EF n:=fun ts=>R.weak (ih.block false ts) fun n r ⟨a,l,e,hl⟩=>by
   rw [e];exact .block fun x hx=>(hl x hx).elim id fun h=>nomatch h.1
  constructor
  ·intro c ts;unfold Fc
   exact ih.EI _ _ _ _ (fun _ hx=>nomatch hx)
  ·intro c at_ acc ts ha;unfold Fj
   refine R.ite (fun _=>ih.EI _ _ _ _ ha) fun _=>R.ite (fun _=>?_) fun _=>R.ite (fun hc=>?_) fun _=>R.ite (fun _=>R.ok ⟨_,_,rfl,ha⟩) fun _=>?_
   ·exact R.bind (Q1:=fun l _=>Ey l) (R.ite (fun _=>R.ok le_nil) fun _=>R.weak (ie.D1 _) fun l _ h=>h.1) fun l r hl=>R.ok ⟨_,_,rfl,ZA ha (.inl (.ret hl))⟩
   ·have hc':c=true:=by simp only [Bool.and_eq_true] at hc;exact hc.1
    exact R.bind (ih.function ts) fun x r hx=>ih.EI _ _ _ _ (ZA ha (.inr ⟨hc',hx⟩))
   ·exact R.bind (ih.stat ts) fun x r hx=>ih.EI _ _ _ _ (ZA ha (.inl hx))
  ·intro ts;unfold Ge
   exact R.bind (UN _) fun nm r hn=>R.bind (IF _ _) fun _ r hr=>R.bind (Q1:=fun _ _=>True) (R.ite (fun _=>R.ok trivial) fun _=>R.weak (Ay1 f _) fun _ _ _=>trivial) fun ps r hp=>R.bind (IF _ _) fun _ r hr=>R.bind (blk _) fun b r hb=>R.bind (IF _ _) fun _ r hr=>R.ok (.fn hb)
  ·intro ts;unfold Fx
   exact R.bind (IF _ _) fun _ r hr=>R.bind (blk _) fun b r hb=>R.bind (IF _ _) fun _ r hr=>R.ok hb
  ·intro ts;unfold Gg
   refine R.ite (fun _=>?_) fun _=>R.ite (fun _=>?_) fun _=>R.ite (fun _=>?_) fun _=>R.ite (fun _=>ih.for_ _ _) fun _=>R.ite (fun _=>?_) fun _=>R.ite (fun _=>R.ok .break_) fun _=>ih.plain _
   ·exact R.bind (ih.body ts) fun b r hb=>R.ok (.do_ hb)
   ·exact R.bind (ie.exp _ _) fun e r he=>R.bind (ih.body _) fun b r hb=>R.ok (.while_ he hb)
   ·exact R.bind (ih.branches _ _ .nil ⟨0,rfl⟩) fun l r hl=>R.ok (.if_ hl)
   ·exact R.bind (Ay1 f _) fun l r hl=>R.bind (Q1:=fun l _=>Ey l) (R.ite (fun _=>R.weak (ie.D1 _) fun l _ h=>h.1) fun _=>R.ok le_nil) fun es r he=>R.ok (.loc hl he)
  ·intro acc ts ha hm;unfold FO
   refine R.bind (ie.exp _ _) fun e r he=>R.bind (IF _ _) fun _ r hr=>R.bind (blk _) fun b r hb=>?_
   obtain ⟨h2,h3⟩:=IsR.Ait ha hm he hb
   refine R.ite (fun _=>ih.branches _ _ h2 h3) fun _=>R.ite (fun _=>?_) fun _=>?_
   ·exact R.bind (blk _) fun c r hc=>R.bind (IF _ _) fun _ r hr=>R.ok (IsR.app1 h2 h3 hc)
   ·exact R.bind (IF _ _) fun _ r hr=>R.ok h2
  ·intro at_ ts;unfold Gd
   refine R.bind (UN _) fun n r hn=>R.ite (fun _=>?_) fun _=>?_
   ·refine R.bind (ie.exp _ _) fun a r ha=>R.bind (IF _ _) fun _ r hr=>R.bind (ie.exp _ _) fun b r hb=>R.bind (Q1:=fun l _=>Ey l∧l.length≤1) (R.ite (fun _=>R.bind (ie.exp _ _) fun c r hc=>R.ok ⟨Aao le_nil hc,Nat.le_refl _⟩) fun _=>R.ok ⟨le_nil,Nat.zero_le _⟩) fun cs r hcs=>R.bind (ih.body _) fun bd r hbd=>R.ok ?_
    have hl:Ey ([a]++[b]++cs):=fun y hy=>by
     simp only [EG,DG] at hy
     rcases hy with (rfl | rfl) | hy
     ·exact ha
     ·exact hb
     ·exact hcs.1 y hy
    exact IsS.for_ (x:=n) (l:=[a]++[b]++cs) (by have:=hcs.2;simp only [AM,AD,Be];omega) hl hbd
   ·exact R.bind (Agk f _ _ (by simp)) fun l r hl=>R.bind (IF _ _) fun _ r hr=>R.bind (ie.D1 _) fun es r he=>R.bind (ih.body _) fun bd r hbd=>R.ok (.forIn hl he.2 he.1 hbd)
  ·intro ts;unfold Gf
   refine R.bind (ie.ET ts) fun e r he=>R.ite (fun _=>?_) fun _=>R.ite (fun hk=>R.ok (.run he hk)) fun _=>R.bad
   exact R.bind (ih.targets _ _ _ (fun _ h=>nomatch h) he) fun l r hl=>R.bind (IF _ _) fun _ r hr=>R.bind (ie.D1 _) fun es r hes=>R.ok (.asg hl.1 hl.2 hes.2 hes.1)
  ·intro acc e ts ha hw;unfold FR
   refine R.ite (fun hk=>?_) fun _=>R.bad
   have h2:∀ x ∈ acc++[e],IsE x∧(x.kind=6∨x.kind=7):=fun y hy=>by
    rcases EG.1 hy with hy | hy
    ·exact ha y hy
    ·obtain rfl:=DG.1 hy;exact ⟨hw,hk⟩
   exact R.ite (fun _=>R.bind (ie.ET _) fun e' r he=>ih.targets _ _ _ h2 he) fun _=>R.ok ⟨by simp,h2⟩
theorem Bsm {ts:List Tk} {n:Tree} {r:List Tk} (h:Hy true ts=.ok n r):IsC n:=by
 obtain ⟨a,l,rfl,hl⟩:=(xS (fu _)).block true ts n r (val_ok h)
 exact .chunk fun x hx=>(hl x hx).elim .inl fun h=>.inr h.2
end
section
open Go Go.RowKit
section
variable {A:World} {ds:List Deferred} {n0:Nat} {env env':Env} {l l' X:List Ab} {q:Act→World→Prop} {P:Program} {Q:Exit→Act→World→Prop} {ops:Array Oper} {os rest:List Oper} {o:Oper}
theorem Bii {E T TS U:TypeId} {b n m:Nat} {cs news:List Value} {h:Ab} {y:Value} {s x:Operand} (ho:o.op=.call { callee:=.builtin .copy,args:=#[s,x],argTypes:=#[TS,U] })
  (hT:P.underlying TS=some (.slice E)) (hsz:(P.info? E).map (·.size)=some 1) (hg:Cn ops env o=some true) (hd:inB n0 o.dst=true) (hs:BV env s=some (.slice (some ⟨b,0,none⟩) n n)) (hx:BV env x=some y)
  (hR:Rd 1 h y m news) (hm:h ∈ l) (hmn:m≤n) (hcs:cs.length=n) (hone:∀ u ∈ news,u.oneCell'=true)
  (hk:K ds A n0 (Bp env o.dst (goInt m)) (blk b (.cells (news++cs.drop m).toArray T (0,0)) :: l) (wpList P ops Q rest)):K ds A n0 env (blk b (.cells cs.toArray T (0,0)) :: l) (wpList P ops Q (o :: rest)):=by
 refine Fv hg fun a w ha hw=>?_
 have hsr:Src P 1 w y m news:=hR.src hw.sat (.tail _ hm)
 have hl:news.length=m:=by have:=hR.1;omega
 cases hif:P.info? E with
 | none=>rw [hif] at hsz;cases hsz
 | some i =>
  rw [hif] at hsz
  have hsize:i.size=1:=Ap hsz
  have hgc:w.heap[b]? = some (.cells cs.toArray T (0,0)):=hw.sat.1 b _ (by simp [blk])
  have hst:=run_storeCells_at P b 0 T news 0 cs.toArray w hgc (by simp;omega) hone
  simp only [Nat.add_zero,Nat.zero_add,List.take_zero,List.nil_append] at hst
  have hmin:Nat.min m n=m:=Nat.min_eq_left hmn
  have hr:(Builtin.copy_ #[TS,U] o.type #[.slice (some ⟨b,0,none⟩) n n,y]).run P w=.ok (goInt m) (w.setRow b (news++cs.drop m).toArray):=by
   have h1:=hsr.now
   rw [hl] at hst
   simp [Builtin.copy_,run_underlying hT,hsr.len,hmin,sizeOf,typeInfo,hif,hsize,h1]
   rw [hst]
   rfl
  unfold Oper.wp execOp
  simp only [ho,resolve,invoke,builtin,Sem.run_bind,Sem.run_pure,Result.andThen_ok,List.map_toArray,List.map_cons,List.map_nil,ha.eval hs,ha.eval hx,hr]
  exact hk _ _ (ha.Bp _ hd) (hw.setRow _)
def cp3 (l:List Int) (i:Nat):Int:=(l[i]?).getD 0
theorem Bij {E T TS U:TypeId} {b:Nat} {xs:List Int} {h:Ab} {A':Option Addr} {c:Nat} {s x:Operand} (ho:o.op=.call { callee:=.builtin .copy,args:=#[s,x],argTypes:=#[TS,U] })
  (hT:P.underlying TS=some (.slice E)) (hsz:(P.info? E).map (·.size)=some 1) (hg:Cn ops env o=some true) (hd:inB n0 o.dst=true) (hs:BV env s=some (.slice (some ⟨b,0,none⟩) 3 3)) (hx:BV env x=some (.slice A' xs.length c))
  (hR:Bf (encI .i64) 1 h (.slice A' xs.length c) xs) (hm:h ∈ l) (hle:decide (xs.length≤3)=true)
  (hk:K ds A n0 (Bp env o.dst (.int .i64 ((xs.length:Nat):Int))) (blk b (.cells #[.int .i64 (cp3 xs 0),.int .i64 (cp3 xs 1),.int .i64 (cp3 xs 2)] T (0,0)) :: l) (wpList P ops Q rest)):K ds A n0 env (blk b (.cells #[.int .i64 0,.int .i64 0,.int .i64 0] T (0,0)) :: l) (wpList P ops Q (o :: rest)):=by
 have hle:=of_decide_eq_true hle
 refine Bii (n:=3) (m:=xs.length) (cs:=[.int .i64 0,.int .i64 0,.int .i64 0]) (news:=xs.flatMap (encI .i64)) ho hT hsz hg hd hs hx hR hm hle rfl hR.2.1 ?_
 have e:(xs.flatMap (encI .i64)++([.int .i64 0,.int .i64 0,.int .i64 0]:List Value).drop xs.length).toArray=#[.int .i64 (cp3 xs 0),.int .i64 (cp3 xs 1),.int .i64 (cp3 xs 2)]:=by
  match xs,hle with
  | [],_=>rfl
  | [_],_=>rfl
  | [_,_],_=>rfl
  | [_,_,_],_=>rfl
  | _ :: _ :: _ :: _ :: _,h=>simp at h
 rw [e]
 exact hk
end
def e48 (x:Int×Int×Int×Int):List Value:=[.int .i64 x.1,.int .i64 x.2.1,.int .i64 x.2.2.1,.int .i64 x.2.2.2]
theorem Fi:Ex e48 4:=⟨fun _=>rfl,fun _=>rfl⟩
theorem A5j:Ft Tryz.prog 39 48 4 32 Tryz.t48 (.agg #[iv 0,iv 0,iv 0,iv 0]):=⟨by kernel_rfl,by kernel_rfl,by kernel_rfl,by kernel_rfl,by kernel_rfl,by kernel_rfl,by decide⟩
def BC.f (_k:Nat) (Au:TyA) (a1:Int) (a2:List Int):Option (Int×TyA):=cond (decide (a2.length≤3)) ((apd 32 Au [(a1,cp3 a2 0,cp3 a2 1,cp3 a2 2)]).bind fun l4=>some (IntKind.i64.wrap (((l4.length:Nat):Int) - 1),l4)) none
theorem BC.ok {k b0 B2 FY:Nat} {Au:TyA} {a1:Int} {a2:List Int} {Ay Az A2 DC B3 Ed AA B4 B5 FE Br:Value} {BF Kb:Ab} {B1 FX:Ar} {r:Int×TyA} (h:BC.f k Au a1 a2=some r) (Ck:Ah e48 48 4 BF (Aa B1 Au B2) Au) (N3:Bf (encI .i64) 1 Kb (Aa FX a2 FY) a2): Ct Tryz.prog 30 #[pt b0,iv a1,Aa FX a2 FY] [bk b0 #[Ay,Az,A2,DC,Aa B1 Au B2,B3,Ed,AA,B4,B5,FE,Br] 66,BF] [Kb] (fun e l1=>∃ (H0_:Ab) (A0_:Ar) (c0_:Nat),Ah e48 48 4 H0_ (Aa A0_ r.2 c0_) r.2∧e=.returned (iv r.1)∧l1=[bk b0 #[Ay,Az,A2,DC,Aa A0_ r.2 c0_,B3,Ed,AA,B4,B5,FE,Br] 66,H0_]):=by
 refine Cz (args:=[pt b0,iv a1,Aa FX a2 FY]) Tryz.func30 rfl (B0 rfl) ?_
 intro A X hh_
 obtain ⟨ML,_⟩:=hh_
 unfold BC.f at h
 refine K.eq (env':=[(0,pt b0),(1,iv a1),(2,Aa FX a2 FY)]) (l':=bk b0 #[Ay,Az,A2,DC,Aa B1 Au B2,B3,Ed,AA,B4,B5,FE,Br] 66 :: BF :: X) rfl rfl (ksr (kx 1 (AY (knp #[iv 0,iv 0,iv 0] 113 fun b1=>(AY (kx 2 ?_))))))
 obtain ⟨tq2,h⟩:=IH h
 refine Bij (E:=3) (xs:=a2) rfl (by kernel_rfl) (by kernel_rfl) (by kernel_rfl) (by kernel_rfl) (by kernel_rfl) (by kernel_rfl) N3 (t2 ML) tq2 (Ad (Bz (IN [(0,0),(1,0),(2,0),(3,0),(4,0),(5,3),(6,0),(7,0),(8,3),(9,0),(10,3),(11,0),(12,3),(13,0),(14,1)] [bk b1 #[iv (cp3 a2 0),iv (cp3 a2 1),iv (cp3 a2 2)] 113,bk b0 #[Ay,Az,A2,DC,Aa B1 Au B2,B3,Ed,AA,B4,B5,FE,Br] 66,BF,Kb] (fun w h_=>⟨h_.sat.on _ (.head _),h_.sat.on _ (.tail _ (.head _)),h_.sat.on _ (.tail _ (.tail _ (.head _))),h_.sat.on _ (t3 ML),trivial⟩) (Ax 5 (AU 1 4 rfl (Ax 2 (AU 0 0 rfl (Ax 1 (AU 0 1 rfl (Ax 1 ?_))))))))))
 refine AU 0 2 rfl (Ax 1 (kpt (Hq #[iv a1,iv (cp3 a2 0),iv (cp3 a2 1),iv (cp3 a2 2)] 48 1 fun b3=>(Pi (fun w h_=>⟨h_.sat.on _ (.tail _ (.head _)),h_.sat.on _ (.tail _ (.tail _ (.head _))),h_.sat.on _ (.tail _ (.tail _ (.tail _ (.head _)))),h_.sat.on _ (t4 ML),trivial⟩) (BY (K.mv3 (bnd h fun l4 hl4 h=>(QJ (ys:=[(a1,cp3 a2 0,cp3 a2 1,cp3 a2 2)]) Fi rfl A5j hl4 Ck (NY (n:=1) Fi [(a1,cp3 a2 0,cp3 a2 1,cp3 a2 2)] (by kernel_rfl) rfl (by decide) 1 rfl) fun h5 A6 k7 o8=>(K.Ao (K.drop ?_))))))))))
 refine K.Ao (K.drop (kx 3 (K.Ao (AQ 4 1 #[Ay,Az,A2,DC,Aa A6 l4 k7,B3,Ed,AA,B4,B5,FE,Br] (AY (kx 4 (kld 0 4 rfl (kx 3 (Ad (Cr ?_))))))))))
 obtain rfl:=Ap h
 exact kdv (iv (IntKind.i64.wrap (((l4.length:Nat):Int) - 1))) [bk b0 #[Ay,Az,A2,DC,Aa A6 l4 k7,B3,Ed,AA,B4,B5,FE,Br] 66,h5] (BH ⟨h5,A6,k7,o8,rfl,rfl⟩)
def EK.f (_k:Nat) (Au:List (Int×Int×Int×Int)):Option (Int):=some (((Au.length:Nat):Int))
theorem EK.ok {k b0 B2:Nat} {Au:TyA} {Ay Az A2 DC B3 Ed AA B4 B5 FE Br:Value} {BF:Ab} {B1:Ar} {r:Int} (h:EK.f k Au=some r) (Ck:Bf e48 4 BF (Aa B1 Au B2) Au): Ct Tryz.prog 76 #[pt b0] [bk b0 #[Ay,Az,A2,DC,Aa B1 Au B2,B3,Ed,AA,B4,B5,FE,Br] 66] [BF] (fun e l1=>e=.returned (iv r)∧l1=[bk b0 #[Ay,Az,A2,DC,Aa B1 Au B2,B3,Ed,AA,B4,B5,FE,Br] 66]):=by
 refine Cz (args:=[pt b0]) Tryz.func76 rfl (B0 rfl) ?_
 intro A X hh_
 obtain ⟨SL,_⟩:=hh_
 unfold EK.f at h
 refine K.eq (env':=[(0,pt b0)]) (l':=bk b0 #[Ay,Az,A2,DC,Aa B1 Au B2,B3,Ed,AA,B4,B5,FE,Br] 66 :: X) rfl rfl (ksr (kx 1 (AY (kx 4 (kld 0 4 rfl (kx 2 (Ad (Cr ?_))))))))
 obtain rfl:=Ap h
 exact kdn rfl
def Hj.l0:Nat→(a1:List Tree)→(x1:Int)→(l2:List ByteArray)→Option (List ByteArray)
 | 0,_,_,_=>none
 | m7+1,a1,x1,l2=>cond (decide (x1 < ((a1.length:Nat):Int))) ((AZ a1 x1).bind fun x9=>(apd 16 l2 [x9.text]).bind fun KI=>Hj.l0 m7 a1 (IntKind.i64.wrap (x1+1)) KI) (some (l2))
def Hj.f (k:Nat) (An:List ByteArray) (a1:List Tree):Option (List ByteArray):=Hj.l0 k a1 0 An
theorem Hj.ok {k b0 AT C5:Nat} {An r:Ag} {a1:List Tree} {Ay Az A2 DC EE B3 Ed AA B4 B5 Br:Value} {BS DW:Ab} {AR C3:Ar} (h:Hj.f k An a1=some r) (Cg:Ah encS 9 1 BS (Aa AR An AT) An) (EW:RdR (Bb 54) DW (Aa C3 a1 C5) a1): Ct Tryz.prog 72 #[pt b0,Aa C3 a1 C5] [bk b0 #[Ay,Az,A2,DC,EE,B3,Ed,AA,B4,B5,Aa AR An AT,Br] 66,BS] [DW] (fun e l1=>∃ (H0_:Ab) (A0_:Ar) (c0_:Nat),Ah encS 9 1 H0_ (Aa A0_ r c0_) r∧e=.returned (.tuple #[])∧l1=[bk b0 #[Ay,Az,A2,DC,EE,B3,Ed,AA,B4,B5,Aa A0_ r c0_,Br] 66,H0_]):=by
 refine Cz (args:=[pt b0,Aa C3 a1 C5]) Tryz.func72 rfl (B0 rfl) ?_
 intro A X hh_
 obtain ⟨DS,_⟩:=hh_
 unfold Hj.f at h
 refine K.eq (env':=[(0,pt b0),(1,Aa C3 a1 C5)]) (l':=bk b0 #[Ay,Az,A2,DC,EE,B3,Ed,AA,B4,B5,Aa AR An AT,Br] 66 :: BS :: X) rfl rfl (ksr (kx 3 (Ad (Co (EL (τ:=Int×Ag×Ab×Ar×Nat) (fun t=>[(0,pt b0),(6,Aa C3 a1 C5),(7,iv ((a1.length:Nat):Int)),(8,iv t.1)]) (fun t=>bk b0 #[Ay,Az,A2,DC,EE,B3,Ed,AA,B4,B5,Aa t.2.2.2.1 t.2.1 t.2.2.2.2,Br] 66 :: t.2.2.1 :: X) (fun m t=>Hj.l0 m a1 t.1 t.2.1=some r∧Ah encS 9 1 t.2.2.1 (Aa t.2.2.2.1 t.2.1 t.2.2.2.2) t.2.1) k (0,An,BS,AR,AT) ⟨h,Cg⟩ sb rfl ?_)))))
 clear h
 rintro m7 ⟨x1,l2,h3,A4,k5⟩ ⟨h,o6⟩
 cases m7 with
 | zero=>simp [Hj.l0] at h
 | succ m7 =>
  simp only [Hj.l0] at h
  refine ksr (kx 1 (Ad (Bz ?_)))
  refine AF h (fun h=>?_) fun h=>?_
  ·refine Bt (AB (Bz (Co (ksr (bnd h fun x9 hx9 h=>(DL (T:=54) (kd:=.i64) (R:=(Bb 54)) rfl hx9 EW fun p10 u13 q14 e11 y12=>?_))))))
   obtain ⟨Mx,k16,rfl,o17⟩:=DI 54 q14
   refine E8 rfl e11 (t2 DS) (knp #[iv 0,sv noS,iv 0,iv 0,nS] 54 fun b18=>(AQ 0 5 #[iv x9.kind,sv x9.text,iv x9.n,iv x9.at_,Aa Mx x9.kids k16] (Ad (kpr [(0,0),(1,0),(2,0),(3,0),(4,3),(5,0),(6,3),(7,1)] [0,1] (Ax 4 (AU 1 10 rfl (Ax 1 (AU 0 1 rfl (kpt (Hq #[sv x9.text] 9 1 fun b19=>?_))))))))))
   refine Dp [1,2] rfl (BY (K.mv3 (bnd h fun KI Ba2 h=>(QJ (ys:=[x9.text]) IZ rfl S0 Ba2 o6 (NY (n:=1) IZ [x9.text] (by kernel_rfl) rfl (by decide) 1 rfl) fun h21 Im k23 IU=>(K.Ao (K.drop (K.Ao (K.drop (kx 2 (K.Ao ?_))))))))))
   exact AQ 10 1 #[Ay,Az,A2,DC,EE,B3,Ed,AA,B4,B5,Aa Im KI k23,Br] (knl (Bo (AB (Bc (kx 2 (Ad (Ea m7 (IntKind.i64.wrap (x1+1),KI,h21,Im,k23) (Nat.lt_succ_self _) ⟨h,IU⟩ sb rfl)))))))
  ·refine E6 (CY (CY (E7 (Cw ?_))))
   obtain rfl:=Ap h
   exact kdv (.tuple #[]) [bk b0 #[Ay,Az,A2,DC,EE,B3,Ed,AA,B4,B5,Aa A4 l2 k5,Br] 66,h3] (BH ⟨h3,A4,k5,o6,rfl,rfl⟩)
def LY.f (k:Nat) (An:Ag) (a1:List Tree):Option (Int×Ag):=(Ow 16 An (⟨#[]⟩:ByteArray) 3).bind fun l1=>(Hj.f k l1 a1).bind fun r6=>some (IntKind.i64.wrap (((An.length:Nat):Int)+1),r6)
theorem LY.ok {k b0 AT C5:Nat} {An:Ag} {a1:List Tree} {Ay Az A2 DC EE B3 Ed AA B4 B5 Br:Value} {BS DW:Ab} {AR C3:Ar} {r:Int×Ag} (h:LY.f k An a1=some r) (Cg:Ah encS 9 1 BS (Aa AR An AT) An) (EW:RdR (Bb 54) DW (Aa C3 a1 C5) a1): Ct Tryz.prog 81 #[pt b0,Aa C3 a1 C5] [bk b0 #[Ay,Az,A2,DC,EE,B3,Ed,AA,B4,B5,Aa AR An AT,Br] 66,BS] [DW] (fun e l1=>∃ (H0_:Ab) (A0_:Ar) (c0_:Nat),Ah encS 9 1 H0_ (Aa A0_ r.2 c0_) r.2∧e=.returned (iv r.1)∧l1=[bk b0 #[Ay,Az,A2,DC,EE,B3,Ed,AA,B4,B5,Aa A0_ r.2 c0_,Br] 66,H0_]):=by
 refine Cz (args:=[pt b0,Aa C3 a1 C5]) Tryz.func81 rfl (B0 rfl) ?_
 intro A X hh_
 obtain ⟨DS,_⟩:=hh_
 unfold LY.f at h
 refine K.eq (env':=[(0,pt b0),(1,Aa C3 a1 C5)]) (l':=bk b0 #[Ay,Az,A2,DC,EE,B3,Ed,AA,B4,B5,Aa AR An AT,Br] 66 :: BS :: X) rfl rfl (ksr (kx 1 (AY (kx 3 (kld 0 10 rfl (kx 3 (AY (kx 4 (kld 0 10 rfl (K.Ao ?_))))))))))
 refine bnd h fun l1 hl1 h=>(Bie (kz:=.i64) (z0:=(⟨#[]⟩:ByteArray)) .i64 IZ (by kernel_rfl) rfl S0 (by kernel_rfl) (by kernel_rfl) (by kernel_rfl) (by kernel_rfl) (by kernel_rfl) hl1 Cg fun h2 A3 k4 o5=>(kx 2 (K.Ao (AQ 10 1 #[Ay,Az,A2,DC,EE,B3,Ed,AA,B4,B5,Aa A3 l1 k4,Br] (AY (kx 2 (K.Ao (K.Ao (bnd h fun r6 MN h=>(B6 (Hj.ok MN o5 EW) rfl ⟨DS,trivial⟩ ?_))))))))))
 rintro _ _ ⟨h7,A8,k9,o10,rfl,rfl⟩
 refine Bn (AY (kx 2 (Ad (Cr ?_))))
 obtain rfl:=Ap h
 exact kdv (iv (IntKind.i64.wrap (((An.length:Nat):Int)+1))) [bk b0 #[Ay,Az,A2,DC,EE,B3,Ed,AA,B4,B5,Aa A8 r6 k9,Br] 66,h7] (BH ⟨h7,A8,k9,o10,rfl,rfl⟩)
def MI.f (_k:Nat) (An:List ByteArray) (a1:Int):Option (List ByteArray):=(D8 An 0 (IntKind.i64.wrap (a1 - 1))).bind fun l1=>some (l1)
theorem MI.ok {k b0 AT:Nat} {An r:Ag} {a1:Int} {Ay Az A2 DC EE B3 Ed AA B4 B5 Br:Value} {BS:Ab} {AR:Ar} (h:MI.f k An a1=some r) (Cg:Ah encS 9 1 BS (Aa AR An AT) An): Ct Tryz.prog 83 #[pt b0,iv a1] [bk b0 #[Ay,Az,A2,DC,EE,B3,Ed,AA,B4,B5,Aa AR An AT,Br] 66,BS] [] (fun e l1=>∃ (H0_:Ab) (A0_:Ar) (c0_:Nat),Ah encS 9 1 H0_ (Aa A0_ r c0_) r∧e=.returned (.tuple #[])∧l1=[bk b0 #[Ay,Az,A2,DC,EE,B3,Ed,AA,B4,B5,Aa A0_ r c0_,Br] 66,H0_]):=by
 refine Cz (args:=[pt b0,iv a1]) Tryz.func83 rfl (B0 rfl) ?_
 intro A X hh_
 unfold MI.f at h
 refine K.eq (env':=[(0,pt b0),(1,iv a1)]) (l':=bk b0 #[Ay,Az,A2,DC,EE,B3,Ed,AA,B4,B5,Aa AR An AT,Br] 66 :: BS :: X) rfl rfl (Bc (kx 4 (kld 0 10 rfl (kx 2 (bnd h fun l1 hl1 h=>(Aaa (T:=9) (sz:=1) (k:=.i64) (xs:=An) (IntKind.i64.wrap (a1 - 1)) IZ rfl (by kernel_rfl) (by kernel_rfl) (by kernel_rfl) (by kernel_rfl) (by kernel_rfl) (by kernel_rfl) hl1 Cg fun o2=>(kx 2 (AQ 10 1 #[Ay,Az,A2,DC,EE,B3,Ed,AA,B4,B5,Aa AR l1 AT,Br] (knl (Cw ?_))))))))))
 obtain rfl:=Ap h
 exact kdv (.tuple #[]) [bk b0 #[Ay,Az,A2,DC,EE,B3,Ed,AA,B4,B5,Aa AR l1 AT,Br] 66,BS] (BH ⟨BS,AR,AT,o2,rfl,rfl⟩)
def Lp.f (k:Nat) (Al:List ByteArray) (a1:ByteArray):Option (Int):=(ER.f k Al a1).bind fun r1=>some (IntKind.i64.wrap (r1+1))
theorem Lp.ok {k b0 AH:Nat} {Al:Ag} {a1:ByteArray} {Ay Az A2 DC EE B3 AA B4 B5 FE Br:Value} {C4:Ab} {AG:Ar} {r:Int} (h:Lp.f k Al a1=some r) (Cm:Bf encS 1 C4 (Aa AG Al AH) Al): Ct Tryz.prog 86 #[pt b0,sv a1] [bk b0 #[Ay,Az,A2,DC,EE,B3,Aa AG Al AH,AA,B4,B5,FE,Br] 66] [C4] (fun e l1=>e=.returned (iv r)∧l1=[bk b0 #[Ay,Az,A2,DC,EE,B3,Aa AG Al AH,AA,B4,B5,FE,Br] 66]):=by
 refine Cz (args:=[pt b0,sv a1]) Tryz.func86 rfl (B0 rfl) ?_
 intro A X hh_
 obtain ⟨CM,_⟩:=hh_
 unfold Lp.f at h
 refine K.eq (env':=[(0,pt b0),(1,sv a1)]) (l':=bk b0 #[Ay,Az,A2,DC,EE,B3,Aa AG Al AH,AA,B4,B5,FE,Br] 66 :: X) rfl rfl (ksr (kx 1 (AY (kx 3 (kld 0 6 rfl (kx 1 (bnd h fun r1 hr1 h=>(FN (ER.ok hr1 Cm) ⟨(.tail _ CM),trivial⟩ (kx 2 (Ad ?_))))))))))
 refine Cr ?_
 obtain rfl:=Ap h
 exact kdn rfl
def Lo.f (k:Nat) (Ai:Bl) (Au:TyA) (Af:Int) (As:Int) (Aq:ByteArray):Option TyA:=(G8.f k Ai Af As Aq).bind fun r2=>(BC.f k Au 2 ([IntKind.i64.wrap (r2+1)])).bind fun r4=>some (r4.2)
theorem Lo.ok {k b0 AJ B2:Nat} {Ai:Bl} {Au r:TyA} {Af As:Int} {Aq:ByteArray} {Ay Az A2 B3 Ed AA B4 B5 FE Br:Value} {CF BF:Ab} {AI B1:Ar} (h:Lo.f k Ai Au Af As Aq=some r) (Cu:Bf Dt 3 CF (Aa AI Ai AJ) Ai) (Ck:Ah e48 48 4 BF (Aa B1 Au B2) Au): Ct Tryz.prog 109 #[pt b0,.agg #[iv Af,iv As,sv Aq]] [bk b0 #[Ay,Az,A2,Aa AI Ai AJ,Aa B1 Au B2,B3,Ed,AA,B4,B5,FE,Br] 66,BF] [CF] (fun e l1=>∃ (H0_:Ab) (A0_:Ar) (c0_:Nat),Ah e48 48 4 H0_ (Aa A0_ r c0_) r∧e=.returned (.tuple #[])∧l1=[bk b0 #[Ay,Az,A2,Aa AI Ai AJ,Aa A0_ r c0_,B3,Ed,AA,B4,B5,FE,Br] 66,H0_]):=by
 refine Cz (args:=[pt b0,.agg #[iv Af,iv As,sv Aq]]) Tryz.func109 rfl (B0 rfl) ?_
 intro A X hh_
 obtain ⟨CX,_⟩:=hh_
 unfold Lo.f at h
 refine K.eq (env':=[(0,pt b0),(1,.agg #[iv Af,iv As,sv Aq])]) (l':=bk b0 #[Ay,Az,A2,Aa AI Ai AJ,Aa B1 Au B2,B3,Ed,AA,B4,B5,FE,Br] 66 :: BF :: X) rfl rfl (ksr (knp #[iv Af,iv As,sv Aq] 78 fun b1=>(Ad (kpr [(0,0),(1,0),(2,0),(3,0),(4,0),(5,3),(6,3)] [0,1] (Ax 5 (AU 1 3 rfl (Gt 0 0 3 rfl (BY (bnd h fun r2 hr2 h=>(FN (G8.ok hr2 Cu) ⟨(t3 CX),trivial⟩ ?_))))))))))
 refine K.drop (kx 1 (De #[iv (IntKind.i64.wrap (r2+1))] 3 1 fun b3=>(K.Ak (K.Ak (bnd h fun r4 hr4 h=>(B6 (BC.ok hr4 Ck (Ah.rd (Ah.blk 3 (D7 .i64) b3 [IntKind.i64.wrap (r2+1)] #[iv (IntKind.i64.wrap (r2+1))] 1 (by kernel_rfl) rfl (by decide)))) rfl ⟨(.head _),trivial⟩ ?_))))))
 rintro _ _ ⟨h5,A6,k7,o8,rfl,rfl⟩
 refine Bn (K.Ak (K.drop (knl (Cw ?_))))
 obtain rfl:=Ap h
 exact kdv (.tuple #[]) [bk b0 #[Ay,Az,A2,Aa AI Ai AJ,Aa A6 r4.2 k7,B3,Ed,AA,B4,B5,FE,Br] 66,h5] (BH ⟨h5,A6,k7,o8,rfl,rfl⟩)
end
end Go.Proofs.YtkdjiehclahliaaGreatDoor
