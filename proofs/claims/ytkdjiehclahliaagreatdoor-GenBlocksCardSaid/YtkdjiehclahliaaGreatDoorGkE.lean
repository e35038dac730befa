/- Texts of mine for genBlocks_card, part 5. -/
import Derived.Test.YtkdjiehclahliaaGreatDoorGkD
set_option linter.unusedSimpArgs false
set_option linter.unusedVariables false
set_option linter.unusedSectionVars false
namespace Go.Proofs.YtkdjiehclahliaaGreatDoor
set_option maxRecDepth 100000
section
open Go Go.RowKit
theorem A6t:Gy Tryz.prog 31 43 5 64 Tryz.t43 (.agg #[sv noS,iv 0,iv 0,iv 0,nS]):=⟨by kernel_rfl,by kernel_rfl,by kernel_rfl,by kernel_rfl,by kernel_rfl,by kernel_rfl,by decide⟩
structure CK where
 D9:CZ→Ae→ByteArray→Int→Int→Int→Bg→Ae→Int→Ae→Int→ByteArray→Int→Int→List Tree→Bool→Option (PR (CZ×Ae×Int×Bg×Ae×Int) (Int×Int))
 EF:CZ→Ae→ByteArray→Int→Int→Int→Bg→Ae→Int→Ae→List Tree→Option (PR (CZ×Ae×Int×Bg×Ae×Int) (Int×Int))
 IA:CZ→Ae→ByteArray→Int→Int→Int→Bg→Ae→Int→Ae→Int→ByteArray→Int→Int→List Tree→Bool→Option (PR (CZ×Ae×Int×Bg×Ae×Int) (Int×Int))
 GB:CZ→Ae→ByteArray→Int→Int→Int→Bg→Ae→Int→Ae→Int→ByteArray→Int→Int→List Tree→List Tree→Int→ByteArray→Int→Int→List Tree→Int→Option (PR (CZ×Ae×Int×Bg×Ae×Int) (Int×Int))
 IB:CZ→Ae→ByteArray→Int→Int→Int→Bg→Ae→Int→Ae→Int→ByteArray→Int→Int→List Tree→Option (PR (CZ×Ae×Int×Bg×Ae×Int) (Int×Int))
def D9.C (fC:CZ→Ae→ByteArray→Int→Int→Int→Bg→Ae→Int→Ae→Int→ByteArray→Int→Int→List Tree→Bool→Option (PR (CZ×Ae×Int×Bg×Ae×Int) (Int×Int))):Prop:=∀ {Ac:CZ} {Ag B6 AZ:Ae} {Bn Av:ByteArray} {Bo Bp BO BQ Ao Ap AF:Int} {Bq:Bg} {Ak:List Tree} {a2:Bool} {b0 Ax C0 Bj Cq CC Ce Be:Nat} {B5 CI Da Ds Fi Cs G:Ab} {Aw Cz Cp CA Cc Bc:Aq} {r:PR (CZ×Ae×Int×Bg×Ae×Int) (Int×Int)} (h:fC Ac Ag Bn Bo Bp BO Bq B6 BQ AZ Ao Av Ap AF Ak a2=some r) (AJ:AK FU 43 B5 (Aa Aw Ac Ax) Ac) (D8:Ah encS 9 1 CI (Aa Cz Ag C0) Ag) (DG:Ah Dv 78 3 Da (Aa Cp Bq Cq) Bq) (Ej:Ah encS 9 1 Ds (Aa CA B6 CC) B6) (Ex:Bl encS 1 Fi (Aa Cc AZ Ce) AZ) (BE:RdR (AX 54) Cs (Aa Bc Ak Be) Ak) (hG:EE G),Ct Tryz.prog 21 #[pt b0,.agg #[iv Ao,sv Av,iv Ap,iv AF,Aa Bc Ak Be],bv a2] [bk b0 #[Aa Aw Ac Ax,Aa Cz Ag C0,pt Bj] 75,B5,CI,bk Bj #[sv Bn,iv Bo,iv Bp,iv BO,Aa Cp Bq Cq,Aa CA B6 CC,iv BQ,Aa Cc AZ Ce] 73,Da,Ds] [Fi,Cs,G] (PR.Post KS (fun (r:CZ×Ae×Int×Bg×Ae×Int) e l1=>∃ (H0_:Ab) (A0_:Aq) (c0_:Nat) (H1_:Ab) (D1:Aq) (D3:Nat) (H2_:Ab) (A2_:Aq) (Ea:Nat) (H3_:Ab) (A3_:Aq) (Eb:Nat),AK FU 43 H0_ (Aa A0_ r.1 c0_) r.1∧Ah encS 9 1 H1_ (Aa D1 r.2.1 D3) r.2.1∧Ah Dv 78 3 H2_ (Aa A2_ r.2.2.2.1 Ea) r.2.2.2.1∧Ah encS 9 1 H3_ (Aa A3_ r.2.2.2.2.1 Eb) r.2.2.2.2.1∧e=.returned (.tuple #[])∧l1=[bk b0 #[Aa A0_ r.1 c0_,Aa D1 r.2.1 D3,pt Bj] 75,H0_,H1_,bk Bj #[sv Bn,iv Bo,iv Bp,iv r.2.2.1,Aa A2_ r.2.2.2.1 Ea,Aa A3_ r.2.2.2.2.1 Eb,iv r.2.2.2.2.2,Aa Cc AZ Ce] 73,H2_,H3_]) r)
def EF.C (fC:CZ→Ae→ByteArray→Int→Int→Int→Bg→Ae→Int→Ae→List Tree→Option (PR (CZ×Ae×Int×Bg×Ae×Int) (Int×Int))):Prop:=∀ {Ac:CZ} {Ag B6 AZ:Ae} {Bn:ByteArray} {Bo Bp BO BQ:Int} {Bq:Bg} {a1:List Tree} {b0 Ax C0 Bj Cq CC Ce C6:Nat} {B5 CI Da Ds Fi DY G:Ab} {Aw Cz Cp CA Cc C4:Aq} {r:PR (CZ×Ae×Int×Bg×Ae×Int) (Int×Int)} (h:fC Ac Ag Bn Bo Bp BO Bq B6 BQ AZ a1=some r) (AJ:AK FU 43 B5 (Aa Aw Ac Ax) Ac) (D8:Ah encS 9 1 CI (Aa Cz Ag C0) Ag) (DG:Ah Dv 78 3 Da (Aa Cp Bq Cq) Bq) (Ej:Ah encS 9 1 Ds (Aa CA B6 CC) B6) (Ex:Bl encS 1 Fi (Aa Cc AZ Ce) AZ) (Fk:RdR (AX 54) DY (Aa C4 a1 C6) a1) (hG:EE G),Ct Tryz.prog 31 #[pt b0,Aa C4 a1 C6] [bk b0 #[Aa Aw Ac Ax,Aa Cz Ag C0,pt Bj] 75,B5,CI,bk Bj #[sv Bn,iv Bo,iv Bp,iv BO,Aa Cp Bq Cq,Aa CA B6 CC,iv BQ,Aa Cc AZ Ce] 73,Da,Ds] [Fi,DY,G] (PR.Post KS (fun (r:CZ×Ae×Int×Bg×Ae×Int) e l1=>∃ (H0_:Ab) (A0_:Aq) (c0_:Nat) (H1_:Ab) (D1:Aq) (D3:Nat) (H2_:Ab) (A2_:Aq) (Ea:Nat) (H3_:Ab) (A3_:Aq) (Eb:Nat),AK FU 43 H0_ (Aa A0_ r.1 c0_) r.1∧Ah encS 9 1 H1_ (Aa D1 r.2.1 D3) r.2.1∧Ah Dv 78 3 H2_ (Aa A2_ r.2.2.2.1 Ea) r.2.2.2.1∧Ah encS 9 1 H3_ (Aa A3_ r.2.2.2.2.1 Eb) r.2.2.2.2.1∧e=.returned (.tuple #[])∧l1=[bk b0 #[Aa A0_ r.1 c0_,Aa D1 r.2.1 D3,pt Bj] 75,H0_,H1_,bk Bj #[sv Bn,iv Bo,iv Bp,iv r.2.2.1,Aa A2_ r.2.2.2.1 Ea,Aa A3_ r.2.2.2.2.1 Eb,iv r.2.2.2.2.2,Aa Cc AZ Ce] 73,H2_,H3_]) r)
def IA.C (fC:CZ→Ae→ByteArray→Int→Int→Int→Bg→Ae→Int→Ae→Int→ByteArray→Int→Int→List Tree→Bool→Option (PR (CZ×Ae×Int×Bg×Ae×Int) (Int×Int))):Prop:=∀ {Ac:CZ} {Ag B6 AZ:Ae} {Bn Av:ByteArray} {Bo Bp BO BQ Ao Ap AF:Int} {Bq:Bg} {Ak:List Tree} {a2:Bool} {b0 Ax C0 Bj Cq CC Ce Be:Nat} {B5 CI Da Ds Fi Cs G:Ab} {Aw Cz Cp CA Cc Bc:Aq} {r:PR (CZ×Ae×Int×Bg×Ae×Int) (Int×Int)} (h:fC Ac Ag Bn Bo Bp BO Bq B6 BQ AZ Ao Av Ap AF Ak a2=some r) (AJ:AK FU 43 B5 (Aa Aw Ac Ax) Ac) (D8:Ah encS 9 1 CI (Aa Cz Ag C0) Ag) (DG:Ah Dv 78 3 Da (Aa Cp Bq Cq) Bq) (Ej:Ah encS 9 1 Ds (Aa CA B6 CC) B6) (Ex:Bl encS 1 Fi (Aa Cc AZ Ce) AZ) (BE:RdR (AX 54) Cs (Aa Bc Ak Be) Ak) (hG:EE G),Ct Tryz.prog 36 #[pt b0,.agg #[iv Ao,sv Av,iv Ap,iv AF,Aa Bc Ak Be],bv a2] [bk b0 #[Aa Aw Ac Ax,Aa Cz Ag C0,pt Bj] 75,B5,CI,bk Bj #[sv Bn,iv Bo,iv Bp,iv BO,Aa Cp Bq Cq,Aa CA B6 CC,iv BQ,Aa Cc AZ Ce] 73,Da,Ds] [Fi,Cs,G] (PR.Post KS (fun (r:CZ×Ae×Int×Bg×Ae×Int) e l1=>∃ (H0_:Ab) (A0_:Aq) (c0_:Nat) (H1_:Ab) (D1:Aq) (D3:Nat) (H2_:Ab) (A2_:Aq) (Ea:Nat) (H3_:Ab) (A3_:Aq) (Eb:Nat),AK FU 43 H0_ (Aa A0_ r.1 c0_) r.1∧Ah encS 9 1 H1_ (Aa D1 r.2.1 D3) r.2.1∧Ah Dv 78 3 H2_ (Aa A2_ r.2.2.2.1 Ea) r.2.2.2.1∧Ah encS 9 1 H3_ (Aa A3_ r.2.2.2.2.1 Eb) r.2.2.2.2.1∧e=.returned (.tuple #[])∧l1=[bk b0 #[Aa A0_ r.1 c0_,Aa D1 r.2.1 D3,pt Bj] 75,H0_,H1_,bk Bj #[sv Bn,iv Bo,iv Bp,iv r.2.2.1,Aa A2_ r.2.2.2.1 Ea,Aa A3_ r.2.2.2.2.1 Eb,iv r.2.2.2.2.2,Aa Cc AZ Ce] 73,H2_,H3_]) r)
def GB.C (fC:CZ→Ae→ByteArray→Int→Int→Int→Bg→Ae→Int→Ae→Int→ByteArray→Int→Int→List Tree→List Tree→Int→ByteArray→Int→Int→List Tree→Int→Option (PR (CZ×Ae×Int×Bg×Ae×Int) (Int×Int))):Prop:=∀ {Ac:CZ} {Ag B6 AZ:Ae} {Bn Av MT:ByteArray} {Bo Bp BO BQ Ao Ap AF MS MU MV a4:Int} {Bq:Bg} {Ak a2 Ly:List Tree} {b0 Ax C0 Bj Cq CC Ce Be Gj OM:Nat} {B5 CI Da Ds Fi Cs Kn XT G:Ab} {Aw Cz Cp CA Cc Bc Gi O9:Aq} {r:PR (CZ×Ae×Int×Bg×Ae×Int) (Int×Int)} (h:fC Ac Ag Bn Bo Bp BO Bq B6 BQ AZ Ao Av Ap AF Ak a2 MS MT MU MV Ly a4=some r) (AJ:AK FU 43 B5 (Aa Aw Ac Ax) Ac) (D8:Ah encS 9 1 CI (Aa Cz Ag C0) Ag) (DG:Ah Dv 78 3 Da (Aa Cp Bq Cq) Bq) (Ej:Ah encS 9 1 Ds (Aa CA B6 CC) B6) (Ex:Bl encS 1 Fi (Aa Cc AZ Ce) AZ) (BE:RdR (AX 54) Cs (Aa Bc Ak Be) Ak) (NP:RdR (AX 54) Kn (Aa Gi a2 Gj) a2) (Ait:RdR (AX 54) XT (Aa O9 Ly OM) Ly) (hG:EE G),Ct Tryz.prog 35 #[pt b0,.agg #[iv Ao,sv Av,iv Ap,iv AF,Aa Bc Ak Be],Aa Gi a2 Gj,.agg #[iv MS,sv MT,iv MU,iv MV,Aa O9 Ly OM],iv a4] [bk b0 #[Aa Aw Ac Ax,Aa Cz Ag C0,pt Bj] 75,B5,CI,bk Bj #[sv Bn,iv Bo,iv Bp,iv BO,Aa Cp Bq Cq,Aa CA B6 CC,iv BQ,Aa Cc AZ Ce] 73,Da,Ds] [Fi,Cs,Kn,XT,G] (PR.Post KS (fun (r:CZ×Ae×Int×Bg×Ae×Int) e l1=>∃ (H0_:Ab) (A0_:Aq) (c0_:Nat) (H1_:Ab) (D1:Aq) (D3:Nat) (H2_:Ab) (A2_:Aq) (Ea:Nat) (H3_:Ab) (A3_:Aq) (Eb:Nat),AK FU 43 H0_ (Aa A0_ r.1 c0_) r.1∧Ah encS 9 1 H1_ (Aa D1 r.2.1 D3) r.2.1∧Ah Dv 78 3 H2_ (Aa A2_ r.2.2.2.1 Ea) r.2.2.2.1∧Ah encS 9 1 H3_ (Aa A3_ r.2.2.2.2.1 Eb) r.2.2.2.2.1∧e=.returned (.tuple #[])∧l1=[bk b0 #[Aa A0_ r.1 c0_,Aa D1 r.2.1 D3,pt Bj] 75,H0_,H1_,bk Bj #[sv Bn,iv Bo,iv Bp,iv r.2.2.1,Aa A2_ r.2.2.2.1 Ea,Aa A3_ r.2.2.2.2.1 Eb,iv r.2.2.2.2.2,Aa Cc AZ Ce] 73,H2_,H3_]) r)
def IB.C (fC:CZ→Ae→ByteArray→Int→Int→Int→Bg→Ae→Int→Ae→Int→ByteArray→Int→Int→List Tree→Option (PR (CZ×Ae×Int×Bg×Ae×Int) (Int×Int))):Prop:=∀ {Ac:CZ} {Ag B6 AZ:Ae} {Bn Av:ByteArray} {Bo Bp BO BQ Ao Ap AF:Int} {Bq:Bg} {Ak:List Tree} {b0 Ax C0 Bj Cq CC Ce Be:Nat} {B5 CI Da Ds Fi Cs G:Ab} {Aw Cz Cp CA Cc Bc:Aq} {r:PR (CZ×Ae×Int×Bg×Ae×Int) (Int×Int)} (h:fC Ac Ag Bn Bo Bp BO Bq B6 BQ AZ Ao Av Ap AF Ak=some r) (AJ:AK FU 43 B5 (Aa Aw Ac Ax) Ac) (D8:Ah encS 9 1 CI (Aa Cz Ag C0) Ag) (DG:Ah Dv 78 3 Da (Aa Cp Bq Cq) Bq) (Ej:Ah encS 9 1 Ds (Aa CA B6 CC) B6) (Ex:Bl encS 1 Fi (Aa Cc AZ Ce) AZ) (BE:RdR (AX 54) Cs (Aa Bc Ak Be) Ak) (hG:EE G),Ct Tryz.prog 32 #[pt b0,.agg #[iv Ao,sv Av,iv Ap,iv AF,Aa Bc Ak Be]] [bk b0 #[Aa Aw Ac Ax,Aa Cz Ag C0,pt Bj] 75,B5,CI,bk Bj #[sv Bn,iv Bo,iv Bp,iv BO,Aa Cp Bq Cq,Aa CA B6 CC,iv BQ,Aa Cc AZ Ce] 73,Da,Ds] [Fi,Cs,G] (PR.Post KS (fun (r:CZ×Ae×Int×Bg×Ae×Int) e l1=>∃ (H0_:Ab) (A0_:Aq) (c0_:Nat) (H1_:Ab) (D1:Aq) (D3:Nat) (H2_:Ab) (A2_:Aq) (Ea:Nat) (H3_:Ab) (A3_:Aq) (Eb:Nat),AK FU 43 H0_ (Aa A0_ r.1 c0_) r.1∧Ah encS 9 1 H1_ (Aa D1 r.2.1 D3) r.2.1∧Ah Dv 78 3 H2_ (Aa A2_ r.2.2.2.1 Ea) r.2.2.2.1∧Ah encS 9 1 H3_ (Aa A3_ r.2.2.2.2.1 Eb) r.2.2.2.2.1∧e=.returned (.tuple #[])∧l1=[bk b0 #[Aa A0_ r.1 c0_,Aa D1 r.2.1 D3,pt Bj] 75,H0_,H1_,bk Bj #[sv Bn,iv Bo,iv Bp,iv r.2.2.1,Aa A2_ r.2.2.2.1 Ea,Aa A3_ r.2.2.2.2.1 Eb,iv r.2.2.2.2.2,Aa Cc AZ Ce] 73,H2_,H3_]) r)
structure CK.Good (R:CK):Prop where
 D9:D9.C R.D9
 EF:EF.C R.EF
 IA:IA.C R.IA
 GB:GB.C R.GB
 IB:IB.C R.IB
def D9.l0:Nat→(Rc:CK)→(Bn:ByteArray)→(Bo:Int)→(Bp:Int)→(AZ:Ae)→(Ap:Int)→(Ak:List Tree)→(x84:Int)→(TO:CZ)→(TP:Ae)→(x95:Int)→(l96:Bg)→(TI:Ae)→(UQ:Int)→Option (PR (CZ×Ae×Int×Bg×Ae×Int) (Int×Int))
 | 0,_,_,_,_,_,_,_,_,_,_,_,_,_,_=>none
 | TV+1,Rc,Bn,Bo,Bp,AZ,Ap,Ak,x84,TO,TP,x95,l96,TI,UQ=>cond (decide (x84 < ((Ak.length:Nat):Int))) ((Bh Ak x84).bind fun x109=>PR.bind (Rc.D9 TO TP Bn Bo Bp x95 l96 TI UQ AZ x109.kind x109.text x109.n x109.at_ x109.kids (decide (x84 < Ap))) fun F2=>D9.l0 TV Rc Bn Bo Bp AZ Ap Ak (IntKind.i64.wrap (x84+1)) F2.1 F2.2.1 F2.2.2.1 F2.2.2.2.1 F2.2.2.2.2.1 F2.2.2.2.2.2) (some (PR.ok (TO,TP,x95,l96,TI,UQ)))
def D9.g (Rc:CK) (k:Nat) (Ac:CZ) (Ag:Ae) (Bn:ByteArray) (Bo:Int) (Bp:Int) (BO:Int) (Bq:Bg) (B6:Ae) (BQ:Int) (AZ:Ae) (Ao:Int) (Av:ByteArray) (Ap:Int) (AF:Int) (Ak:List Tree) (a2:Bool):Option (PR (CZ×Ae×Int×Bg×Ae×Int) (Int×Int)):=cond (Ao == 20) (PR.bind (Rc.EF Ac Ag Bn Bo Bp BO Bq B6 BQ AZ Ak) fun r3=>(DR r3.2.2.2.2.1 0 ((B6.length:Nat):Int)).bind fun l21=>some (PR.ok (r3.1,r3.2.1,r3.2.2.1,r3.2.2.2.1,l21,r3.2.2.2.2.2))) (cond (Ao == 31) (PR.bind (Rc.IB Ac Ag Bn Bo Bp BO Bq B6 BQ AZ Ao Av Ap AF Ak) fun FB=>some (PR.ok (FB.1,FB.2.1,FB.2.2.1,FB.2.2.2.1,FB.2.2.2.2.1,FB.2.2.2.2.2))) (cond (Ao == 21) (PR.bind (Fm.f k Ao Av Ap AF Ak Ap 50) fun Uv=>PR.bind (Fm.f k Ao Av Ap AF Ak (IntKind.i64.wrap (((Ak.length:Nat):Int) - Ap)) 50) fun r45=>(DR Ak Ap ((Ak.length:Nat):Int)).bind fun l47=>PR.bind (Rc.EF Ac Ag Bn Bo Bp BO Bq B6 BQ AZ l47) fun J0=>(DR Ak 0 Ap).bind fun l69=>PR.bind (Hj.f k J0.1 J0.2.1 Bn Bo Bp J0.2.2.1 J0.2.2.2.1 J0.2.2.2.2.1 J0.2.2.2.2.2 AZ Ao Av Ap AF Ak l69) fun r73=>some (PR.ok (J0.1,J0.2.1,r73.1,J0.2.2.2.1,r73.2,J0.2.2.2.2.2))) (cond (Ao == 22) (PR.bind (Fm.f k Ao Av Ap AF Ak Ap 50) fun r80=>PR.bind (Fm.f k Ao Av Ap AF Ak (IntKind.i64.wrap (((Ak.length:Nat):Int) - Ap)) 50) fun IS=>D9.l0 k Rc Bn Bo Bp AZ Ap Ak 0 Ac Ag BO Bq B6 BQ) (cond (Ao == 25) ((Bh Ak 0).bind fun Sq=>PR.bind (Rc.D9 Ac Ag Bn Bo Bp BO Bq B6 BQ AZ Sq.kind Sq.text Sq.n Sq.at_ Sq.kids false) fun PP=>(Bh Ak 1).bind fun Ss=>PR.bind (Rc.GB PP.1 PP.2.1 Bn Bo Bp PP.2.2.1 PP.2.2.2.1 PP.2.2.2.2.1 PP.2.2.2.2.2 AZ Ao Av Ap AF Ak ([]) Ss.kind Ss.text Ss.n Ss.at_ Ss.kids 0) fun KB=>some (PR.ok (KB.1,KB.2.1,KB.2.2.1,KB.2.2.2.1,KB.2.2.2.2.1,KB.2.2.2.2.2))) (cond (Ao == 26) ((DR Ak 1 (IntKind.i64.wrap (((Ak.length:Nat):Int) - 1))).bind fun P5=>PR.bind (Rc.EF Ac Ag Bn Bo Bp BO Bq B6 BQ AZ P5) fun PQ=>(DR Ak 0 1).bind fun Asb=>(Bh Ak (IntKind.i64.wrap (((Ak.length:Nat):Int) - 1))).bind fun Sv=>PR.bind (Rc.GB PQ.1 PQ.2.1 Bn Bo Bp PQ.2.2.1 PQ.2.2.2.1 PQ.2.2.2.2.1 PQ.2.2.2.2.2 AZ Ao Av Ap AF Ak Asb Sv.kind Sv.text Sv.n Sv.at_ Sv.kids 3) fun KC=>some (PR.ok (KC.1,KC.2.1,KC.2.2.1,KC.2.2.2.1,KC.2.2.2.2.1,KC.2.2.2.2.2))) (cond (Ao == 27) (PR.bind (Fm.f k Ao Av Ap AF Ak Ap 50) fun Bsa=>PR.bind (Fm.f k Ao Av Ap AF Ak (IntKind.i64.wrap ((IntKind.i64.wrap (((Ak.length:Nat):Int) - 1)) - Ap)) 50) fun Bsb=>(DR Ak Ap (IntKind.i64.wrap (((Ak.length:Nat):Int) - 1))).bind fun Asj=>PR.bind (Rc.EF Ac Ag Bn Bo Bp BO Bq B6 BQ AZ Asj) fun PT=>(DR Ak 0 Ap).bind fun Asl=>(Bh Ak (IntKind.i64.wrap (((Ak.length:Nat):Int) - 1))).bind fun Sx=>PR.bind (Rc.GB PT.1 PT.2.1 Bn Bo Bp PT.2.2.1 PT.2.2.2.1 PT.2.2.2.2.1 PT.2.2.2.2.2 AZ Ao Av Ap AF Ak Asl Sx.kind Sx.text Sx.n Sx.at_ Sx.kids 3) fun KD=>some (PR.ok (KD.1,KD.2.1,KD.2.2.1,KD.2.2.2.1,KD.2.2.2.2.1,KD.2.2.2.2.2))) (cond (Ao == 29) (cond (BQ == 0) (PR.bind (Hk.f k 5 AF) fun Bsc=>some (PR.ok (Ac,Ag,BO,Bq,B6,BQ))) (some (PR.ok (Ac,Ag,BO,Bq,B6,BQ)))) (PR.bind (Rc.IA Ac Ag Bn Bo Bp BO Bq B6 BQ AZ Ao Av Ap AF Ak a2) fun KE=>some (PR.ok (KE.1,KE.2.1,KE.2.2.1,KE.2.2.2.1,KE.2.2.2.2.1,KE.2.2.2.2.2))))))))))
theorem D9.C2 {Rc:CK} (hR:Rc.Good) {k:Nat}:D9.C (D9.g Rc k):=by
 intro Ac Ag B6 AZ Bn Av Bo Bp BO BQ Ao Ap AF Bq Ak a2 b0 Ax C0 Bj Cq CC Ce Be B5 CI Da Ds Fi Cs G Aw Cz Cp CA Cc Bc r h AJ D8 DG Ej Ex BE hG
 refine C3 (args:=[pt b0,.agg #[iv Ao,sv Av,iv Ap,iv AF,Aa Bc Ak Be],bv a2]) Tryz.func21 rfl (By rfl) ?_
 intro A X hh_
 obtain ⟨Ft,BC,BU,_⟩:=hh_
 unfold D9.g at h
 refine K.eq (env':=[(0,pt b0),(1,.agg #[iv Ao,sv Av,iv Ap,iv AF,Aa Bc Ak Be]),(2,bv a2)]) (l':=bk b0 #[Aa Aw Ac Ax,Aa Cz Ag C0,pt Bj] 75 :: B5 :: CI :: bk Bj #[sv Bn,iv Bo,iv Bp,iv BO,Aa Cp Bq Cq,Aa CA B6 CC,iv BQ,Aa Cc AZ Ce] 73 :: Da :: Ds :: X) rfl rfl (ksr (knp #[iv Ao,sv Av,iv Ap,iv AF,Aa Bc Ak Be] 54 fun b1=>(Ba (kx 1 (kld 0 4 rfl (kx 3 (Ba (kx 1 (kld 0 0 rfl (Ad ?_))))))))))
 refine C1 (ksr (kx 2 (Ad ?_)))
 refine AU h (fun h=>?_) fun h=>?_
 ·refine ksr (kx 3 (kld 1 2 rfl (kx 2 (kld 4 5 rfl (kx 2 (Ba (kx 2 (kld 0 4 rfl (K.drop (K.mv5 ?_))))))))))
  refine K.mv5 (K.mv5 (K.mv5 (K.mv5 (K.mv5 (Cb h (fun _ hr3=>(hR.EF hr3 AJ D8 DG Ej Ex BE hG)) rfl ⟨Ft,BC,BU,trivial⟩ (fun _ e=>Bf (B_ (kpn 0 e rfl))) fun r3 h=>?_)))))
  rintro _ _ ⟨h5,A6,k7,h9,F5,k11,h13,Hf,k15,h17,Jm,k19,o8,Ht,o16,o20,rfl,rfl⟩
  refine E4 (Ad (kpr [(0,0),(1,0),(2,0),(3,3),(4,0),(5,0),(6,0),(7,3),(8,0),(9,0),(10,3),(11,0),(12,0)] [0,3] (Ar 3 (AP 0 2 rfl (Ar 3 (AP 0 2 rfl (Ar 2 (AP 1 5 rfl (Ar 1 (bnd h fun l21 Ze h=>?_))))))))))
  refine Ar5 (T:=9) (sz:=1) (k:=.i64) (xs:=r3.2.2.2.2.1) ((B6.length:Nat):Int) Jp rfl (by kernel_rfl) (by kernel_rfl) (by kernel_rfl) (by kernel_rfl) (by kernel_rfl) (by kernel_rfl) Ze o20 fun GU=>(Ca (kx 2 (K.mv3 (AQ 5 1 #[sv Bn,iv Bo,iv Bp,iv r3.2.2.1,Aa Hf r3.2.2.2.1 k15,Aa Jm l21 k19,iv r3.2.2.2.2.2,Aa Cc AZ Ce] (knl (B7 (Cw ?_)))))))
  obtain rfl:=As h
  exact kdv (.tuple #[]) [bk b0 #[Aa A6 r3.1 k7,Aa F5 r3.2.1 k11,pt Bj] 75,h5,h9,bk Bj #[sv Bn,iv Bo,iv Bp,iv r3.2.2.1,Aa Hf r3.2.2.2.1 k15,Aa Jm l21 k19,iv r3.2.2.2.2.2,Aa Cc AZ Ce] 73,h13,h17] (K.mv5 (K.mv5 (K.Al (K.mv5 (K.mv5 (K.mv5 (BH (PR.okI ⟨h5,A6,k7,h9,F5,k11,h13,Hf,k15,h17,Jm,k19,o8,Ht,o16,GU,rfl,rfl⟩))))))))
 ·refine ksr (kx 2 (Ad ?_))
  refine AU h (fun h=>?_) fun h=>?_
  ·refine Bu (kx 1 (CV 0 0 5 rfl (K.drop (K.mv5 (K.mv5 (K.mv5 (K.mv5 (K.mv5 (K.mv5 (Cb h (fun _ Pg=>(hR.IB Pg AJ D8 DG Ej Ex BE hG)) rfl ⟨Ft,BC,BU,trivial⟩ (fun _ e=>B_ (kpn 0 e rfl)) fun FB h=>?_))))))))))
   rintro _ _ ⟨h26,A27,k28,h30,GL,k32,h34,A35,QW,h38,A39,K4,o29,LU,PD,o41,rfl,rfl⟩
   refine E4 (knl (B7 (Cw ?_)))
   obtain rfl:=As h
   exact kdv (.tuple #[]) [bk b0 #[Aa A27 FB.1 k28,Aa GL FB.2.1 k32,pt Bj] 75,h26,h30,bk Bj #[sv Bn,iv Bo,iv Bp,iv FB.2.2.1,Aa A35 FB.2.2.2.1 QW,Aa A39 FB.2.2.2.2.1 K4,iv FB.2.2.2.2.2,Aa Cc AZ Ce] 73,h34,h38] (BH (PR.okI ⟨h26,A27,k28,h30,GL,k32,h34,A35,QW,h38,A39,K4,o29,LU,PD,o41,rfl,rfl⟩))
  ·refine ksr (kx 2 (Ad ?_))
   refine AU h (fun h=>?_) fun h=>?_
   ·refine ksr (CV 0 0 5 rfl (kx 1 (kld 0 2 rfl (Cb h (fun _ Z6=>(Fm.ok Z6 BE)) rfl ⟨(t7 BC),trivial⟩ (fun _ e=>Bf (B_ (kpn 7 e rfl))) fun Uv h=>?_))))
    rintro _ _ ⟨rfl,rfl⟩
    refine Hb (Ba (CV 0 0 5 rfl (kx 1 (kld 0 4 rfl (kx 2 (kld 0 2 rfl (kx 1 (Cb h (fun _ Z7=>(Fm.ok Z7 BE)) rfl ⟨(t7 BC),trivial⟩ (fun _ e=>Bf (B_ (kpn 7 e rfl))) fun r45 h=>?_))))))))
    rintro _ _ ⟨rfl,rfl⟩
    refine Hb (Ba (kx 2 (kld 0 4 rfl (kx 1 (kld 0 2 rfl (bnd h fun l47 Bcg h=>(P3 (T:=54) (R:=(AX 54)) (xs:=Ak) Ap ((Ak.length:Nat):Int) rfl (by kernel_rfl) (by kernel_rfl) (by kernel_rfl) (.inr ⟨_,.i64,rfl,(by kernel_rfl)⟩) (.inl ⟨rfl,rfl⟩) (by kernel_rfl) (by kernel_rfl) Bcg BE fun A48 k49 R4=>(K.mv6 (K.mv6 (K.mv6 ?_))))))))))
    refine K.mv6 (K.mv6 (K.mv6 (Cb h (fun _ Bfd=>(hR.EF Bfd AJ D8 DG Ej Ex R4 hG)) rfl ⟨(.tail _ Ft),(.tail _ BC),(.tail _ BU),trivial⟩ (fun _ e=>Bf (B_ (kpn 1 e rfl))) fun J0 h=>?_)))
    rintro _ _ ⟨h53,O8,Py,h57,Hg,k59,h61,S3,k63,h65,A66,k67,M3,o60,R6,o68,rfl,rfl⟩
    refine E4 (Ad (kpr [(0,0),(1,3),(2,0),(3,3),(4,0),(5,3),(6,0)] [6] (Ar 1 (GR 0 0 5 rfl (Ar 1 (AP 0 4 rfl (Ar 1 (AP 0 2 rfl (bnd h fun l69 Bct h=>(KY (T:=54) (R:=(AX 54)) (xs:=Ak) 0 Ap rfl (by kernel_rfl) (by kernel_rfl) (by kernel_rfl) (.inl ⟨rfl,rfl⟩) (.inr ⟨_,.i64,rfl,(by kernel_rfl)⟩) (by kernel_rfl) (by kernel_rfl) Bct BE fun A70 k71 o72=>?_))))))))))
    refine Ca (K.mv5 (K.Bx (K.Al (Cb h (fun _ ZI=>(Hj.ok ZI (AK.rd M3) (Ah.rd o60) (Ah.rd R6) o68 Ex BE o72)) rfl ⟨(.head _),(.tail _ (.head _)),(.tail _ (.tail _ (.head _))),(t4 Ft),(t4 BC),(t4 BC),trivial⟩ (fun _ e=>B_ (kpn 4 e rfl)) fun r73 h=>?_))))
    rintro _ _ ⟨h75,Lm,LL,o78,rfl,rfl⟩
    refine Ok (K.mv6 (K.drop (knl (B7 (Cw ?_)))))
    obtain rfl:=As h
    exact kdv (.tuple #[]) [bk b0 #[Aa O8 J0.1 Py,Aa Hg J0.2.1 k59,pt Bj] 75,h53,h57,bk Bj #[sv Bn,iv Bo,iv Bp,iv r73.1,Aa S3 J0.2.2.2.1 k63,Aa Lm r73.2 LL,iv J0.2.2.2.2.2,Aa Cc AZ Ce] 73,h61,h75] (K.Al (K.mv5 (K.mv3 (K.mv5 (K.mv5 (K.mv5 (BH (PR.okI ⟨h53,O8,Py,h57,Hg,k59,h61,S3,k63,h75,Lm,LL,M3,o60,R6,o78,rfl,rfl⟩))))))))
   ·refine ksr (kx 2 (Ad ?_))
    refine AU h (fun h=>?_) fun h=>?_
    ·refine ksr (CV 0 0 5 rfl (kx 1 (kld 0 2 rfl (Cb h (fun _ Pq=>(Fm.ok Pq BE)) rfl ⟨(t7 BC),trivial⟩ (fun _ e=>Bf (B_ (kpn 7 e rfl))) fun r80 h=>?_))))
     rintro _ _ ⟨rfl,rfl⟩
     refine Hb (Ba (CV 0 0 5 rfl (kx 1 (kld 0 4 rfl (kx 2 (kld 0 2 rfl (kx 1 (Cb h (fun _ Nj=>(Fm.ok Nj BE)) rfl ⟨(t7 BC),trivial⟩ (fun _ e=>Bf (B_ (kpn 7 e rfl))) fun IS h=>?_))))))))
     rintro _ _ ⟨rfl,rfl⟩
     refine Hb (Ba (kx 1 (kld 0 4 rfl (kx 2 (Ad (C1 (K.mv6 (K.mv6 (K.mv5 (K.mv5 ?_))))))))))
     refine K.mv6 (K.mv6 (K.mv6 (Fx (τ:=Int×CZ×Ae×Int×Bg×Ae×Int×Ab×Aq×Nat×Ab×Aq×Nat×Ab×Aq×Nat×Ab×Aq×Nat) (fun t=>[(0,pt b0),(4,pt b1),(98,Aa Bc Ak Be),(99,iv ((Ak.length:Nat):Int)),(100,iv t.1)]) (fun t=>bk b1 #[iv Ao,sv Av,iv Ap,iv AF,Aa Bc Ak Be] 54 :: bk b0 #[Aa t.2.2.2.2.2.2.2.2.1 t.2.1 t.2.2.2.2.2.2.2.2.2.1,Aa t.2.2.2.2.2.2.2.2.2.2.2.1 t.2.2.1 t.2.2.2.2.2.2.2.2.2.2.2.2.1,pt Bj] 75 :: bk Bj #[sv Bn,iv Bo,iv Bp,iv t.2.2.2.1,Aa t.2.2.2.2.2.2.2.2.2.2.2.2.2.2.1 t.2.2.2.2.1 t.2.2.2.2.2.2.2.2.2.2.2.2.2.2.2.1,Aa t.2.2.2.2.2.2.2.2.2.2.2.2.2.2.2.2.2.1 t.2.2.2.2.2.1 t.2.2.2.2.2.2.2.2.2.2.2.2.2.2.2.2.2.2,iv t.2.2.2.2.2.2.1,Aa Cc AZ Ce] 73 :: t.2.2.2.2.2.2.2.1 :: t.2.2.2.2.2.2.2.2.2.2.1 :: t.2.2.2.2.2.2.2.2.2.2.2.2.2.1 :: t.2.2.2.2.2.2.2.2.2.2.2.2.2.2.2.2.1 :: X) (fun m t=>D9.l0 m Rc Bn Bo Bp AZ Ap Ak t.1 t.2.1 t.2.2.1 t.2.2.2.1 t.2.2.2.2.1 t.2.2.2.2.2.1 t.2.2.2.2.2.2.1=some r∧AK FU 43 t.2.2.2.2.2.2.2.1 (Aa t.2.2.2.2.2.2.2.2.1 t.2.1 t.2.2.2.2.2.2.2.2.2.1) t.2.1∧Ah encS 9 1 t.2.2.2.2.2.2.2.2.2.2.1 (Aa t.2.2.2.2.2.2.2.2.2.2.2.1 t.2.2.1 t.2.2.2.2.2.2.2.2.2.2.2.2.1) t.2.2.1∧Ah Dv 78 3 t.2.2.2.2.2.2.2.2.2.2.2.2.2.1 (Aa t.2.2.2.2.2.2.2.2.2.2.2.2.2.2.1 t.2.2.2.2.1 t.2.2.2.2.2.2.2.2.2.2.2.2.2.2.2.1) t.2.2.2.2.1∧Ah encS 9 1 t.2.2.2.2.2.2.2.2.2.2.2.2.2.2.2.2.1 (Aa t.2.2.2.2.2.2.2.2.2.2.2.2.2.2.2.2.2.1 t.2.2.2.2.2.1 t.2.2.2.2.2.2.2.2.2.2.2.2.2.2.2.2.2.2) t.2.2.2.2.2.1) k (0,Ac,Ag,BO,Bq,B6,BQ,B5,Aw,Ax,CI,Cz,C0,Da,Cp,Cq,Ds,CA,CC) ⟨h,AJ,D8,DG,Ej⟩ sb rfl ?_)))
     clear h
     rintro TV ⟨x84,TO,TP,x95,l96,TI,UQ,h86,A87,k88,h91,A92,k93,h97,A98,k99,OY,O4,Pw⟩ ⟨h,o89,R8,WB,Rx⟩
     cases TV with
     | zero=>simp [D9.l0] at h
     | succ TV =>
      simp only [D9.l0] at h
      refine ksr (kx 1 (Ad (B8 ?_)))
      refine AU h (fun h=>?_) fun h=>?_
      ·refine BV (AM (B8 (C1 (ksr (kx 1 (bnd h fun x109 Bgb h=>(DI (T:=54) (kd:=.i64) (R:=(AX 54)) rfl Bgb BE fun B1s B2w Brm A5f y112=>?_)))))))
       obtain ⟨Azj,Bij,rfl,Bm1⟩:=DF 54 Brm
       refine Fq rfl A5f (t7 BC) (knp #[iv 0,sv noS,iv 0,iv 0,nS] 54 fun Bx2=>(kx 1 (AQ 0 5 #[iv x109.kind,sv x109.text,iv x109.n,iv x109.at_,Aa Azj x109.kids Bij] (FG (kx 1 (CV 0 0 5 rfl (K.drop (kx 2 (kld 0 2 rfl (kx 1 ?_))))))))))
       refine K.mv6 (K.mv6 (K.Bx (K.mv6 (K.mv6 (K.mv6 (Cb h (fun _ Zu=>(hR.D9 Zu o89 R8 WB Rx Ex Bm1 hG)) rfl ⟨(.tail _ Ft),(.tail _ BC),(.tail _ BU),trivial⟩ (fun _ e=>B_ (Bf (Bf (B_ (B_ (kpn 1 e rfl)))))) fun F2 h=>?_))))))
       rintro _ _ ⟨A9b,Ahg,Aps,YH,UW,VY,A9d,Azr,Biu,SV,Sy,Tw,Ach,Ack,Bm8,PB,rfl,rfl⟩
       refine E4 (knl (B7 (AM (Bu (kx 2 (Ad (K.mv5 (K.mv5 (K.Bx (K.Bx ?_))))))))))
       exact K.mv5 (K.mv5 (K.mv6 (E3 TV (IntKind.i64.wrap (x84+1),F2.1,F2.2.1,F2.2.2.1,F2.2.2.2.1,F2.2.2.2.2.1,F2.2.2.2.2.2,A9b,Ahg,Aps,YH,UW,VY,A9d,Azr,Biu,SV,Sy,Tw) (Nat.lt_succ_self _) ⟨h,Ach,Ack,Bm8,PB⟩ sb rfl)))
      ·refine Fv (Dg (Dg (Fw (B7 (Cw ?_)))))
       obtain rfl:=As h
       exact kdv (.tuple #[]) [bk b0 #[Aa A87 TO k88,Aa A92 TP k93,pt Bj] 75,h86,h91,bk Bj #[sv Bn,iv Bo,iv Bp,iv x95,Aa A98 l96 k99,Aa O4 TI Pw,iv UQ,Aa Cc AZ Ce] 73,h97,OY] (K.drop (K.mv5 (K.mv5 (K.mv3 (K.mv5 (K.mv5 (K.mv5 (BH (PR.okI ⟨h86,A87,k88,h91,A92,k93,h97,A98,k99,OY,O4,Pw,o89,R8,WB,Rx,rfl,rfl⟩)))))))))
    ·refine ksr (kx 2 (Ad ?_))
     refine AU h (fun h=>?_) fun h=>?_
     ·refine ksr (kx 2 (kld 0 4 rfl (bnd h fun Sq Bgj h=>(DI (T:=54) (kd:=.i64) (R:=(AX 54)) rfl Bgj BE fun B1z B22 Brt A5i B3u=>?_))))
      obtain ⟨Bw8,B0c,rfl,Acp⟩:=DF 54 Brt
      refine Fq rfl A5i (t7 BC) (K.mv6 (K.mv6 (K.mv6 (K.mv6 (K.mv6 (K.mv6 (Cb h (fun _ Bdz=>(hR.D9 Bdz AJ D8 DG Ej Ex Acp hG)) rfl ⟨(.tail _ Ft),(.tail _ BC),(.tail _ BU),trivial⟩ (fun _ e=>Bf (B_ (kpn 1 e rfl))) fun PP h=>?_)))))))
      rintro _ _ ⟨A9l,UZ,Wa,Bym,Bxc,B0e,Byo,Bxd,B0f,A9m,Azw,Bix,R0,Bne,Bnh,Acu,rfl,rfl⟩
      refine E4 (Ad (Js [(0,0),(1,3),(2,0),(3,3),(4,0),(5,3)] [bk b1 #[iv Ao,sv Av,iv Ap,iv AF,Aa Bc Ak Be] 54,Cs] (fun w h_=>⟨h_.sat.on _ (.tail _ (.tail _ (.tail _ (.tail _ (.tail _ (.tail _ (.head _))))))),h_.sat.on _ (t7 BC),trivial⟩) (Ar 1 (GR 0 0 5 rfl (Ar 1 (AP 0 4 rfl (bnd h fun Ss Bgr h=>(GT (T:=54) (kd:=.i64) (R:=(AX 54)) rfl Bgr BE fun B2a B3a Br0 e167 y168=>?_))))))))
      obtain ⟨Bxe,B0h,rfl,Bnk⟩:=DF 54 Br0
      refine IE rfl e167 (fun w h_=>h_.mem _ (.tail _ (.head _))) (Ca (Dl (K.mv6 (K.mv6 (K.mv6 (K.mv6 (K.mv6 (K.mv6 (Cb h (fun _ Bd4=>(hR.GB Bd4 R0 Bne Bnh Acu Ex BE (RdR.nil (AX 54) none_) Bnk hG)) rfl ⟨(t2 Ft),(t2 BC),(.head _),(t2 BC),(t2 BU),trivial⟩ (fun _ e=>B_ (kpn 2 e rfl)) fun KB h=>?_)))))))))
      rintro _ _ ⟨QH,Qo,QU,QI,NG,Oe,Am2,Qp,QV,Am3,Ahn,Apy,Acx,WG,Ac0,Bns,rfl,rfl⟩
      refine E4 (K.mv6 (K.drop (K.mv6 (K.drop (knl (B7 (Cw ?_)))))))
      obtain rfl:=As h
      exact kdv (.tuple #[]) [bk b0 #[Aa Qo KB.1 QU,Aa NG KB.2.1 Oe,pt Bj] 75,QH,QI,bk Bj #[sv Bn,iv Bo,iv Bp,iv KB.2.2.1,Aa Qp KB.2.2.2.1 QV,Aa Ahn KB.2.2.2.2.1 Apy,iv KB.2.2.2.2.2,Aa Cc AZ Ce] 73,Am2,Am3] (BH (PR.okI ⟨QH,Qo,QU,QI,NG,Oe,Am2,Qp,QV,Am3,Ahn,Apy,Acx,WG,Ac0,Bns,rfl,rfl⟩))
     ·refine ksr (kx 2 (Ad ?_))
      refine AU h (fun h=>?_) fun h=>?_
      ·refine ksr (kx 2 (kld 0 4 rfl (kx 1 (bnd h fun P5 Bbx h=>(P3 (T:=54) (R:=(AX 54)) (xs:=Ak) 1 (IntKind.i64.wrap (((Ak.length:Nat):Int) - 1)) rfl (by kernel_rfl) (by kernel_rfl) (by kernel_rfl) (.inr ⟨_,.i64,rfl,(by kernel_rfl)⟩) (.inr ⟨_,.i64,rfl,(by kernel_rfl)⟩) (by kernel_rfl) (by kernel_rfl) Bbx BE fun Az6 Bi8 Aue=>(K.mv6 (K.mv6 (K.mv6 (K.mv6 (K.mv6 ?_))))))))))
       refine K.mv6 (Cb h (fun _ Beb=>(hR.EF Beb AJ D8 DG Ej Ex Aue hG)) rfl ⟨(.tail _ Ft),(.tail _ BC),(.tail _ BU),trivial⟩ (fun _ e=>Bf (B_ (kpn 1 e rfl))) fun PQ h=>?_)
       rintro _ _ ⟨Byu,Bxh,B0j,Byw,Bxl,B0n,Byx,Bxm,B0o,Byz,Bxo,B0r,Bn0,Bn1,Bn2,Bn3,rfl,rfl⟩
       refine E4 (Ad (Js [(0,0),(1,3),(2,0),(3,3),(4,0),(5,0),(6,3),(7,0),(8,0),(9,3)] [bk b1 #[iv Ao,sv Av,iv Ap,iv AF,Aa Bc Ak Be] 54,Cs] (fun w h_=>⟨h_.sat.on _ (.tail _ (.tail _ (.tail _ (.tail _ (.tail _ (.tail _ (.head _))))))),h_.sat.on _ (t7 BC),trivial⟩) (Ar 1 (GR 0 0 5 rfl (Ar 1 (AP 0 4 rfl (bnd h fun Asb Bb1 h=>(KY (T:=54) (R:=(AX 54)) (xs:=Ak) 0 1 rfl (by kernel_rfl) (by kernel_rfl) (by kernel_rfl) (.inl ⟨rfl,rfl⟩) (.inr ⟨_,.i64,rfl,(by kernel_rfl)⟩) (by kernel_rfl) (by kernel_rfl) Bb1 BE fun Bxq B0s Bn7=>(Ar 1 (AP 0 4 rfl ?_))))))))))
       refine Ar 1 (bnd h fun Sv Bg7 h=>(GT (T:=54) (kd:=.i64) (R:=(AX 54)) rfl Bg7 BE fun B2m B3i Br5 e221 B4f=>?_))
       obtain ⟨Bxs,B0v,rfl,Boc⟩:=DF 54 Br5
       refine IE rfl e221 (fun w h_=>h_.mem _ (.tail _ (.head _))) (Ca (K.mv5 (K.mv5 (K.mv5 (K.mv5 (K.mv5 (K.mv5 (Cb h (fun _ Bem=>(hR.GB Bem Bn0 Bn1 Bn2 Bn3 Ex BE Bn7 Boc hG)) rfl ⟨(.tail _ Ft),(.tail _ BC),(.tail _ BC),(.tail _ BC),(.tail _ BU),trivial⟩ (fun _ e=>B_ (kpn 1 e rfl)) fun KC h=>?_))))))))
       rintro _ _ ⟨Ana,Ahw,Ap3,SW,Sz,Tx,SX,S0,Ty,SY,S1,Tz,Boj,Ac3,Ac5,Ac7,rfl,rfl⟩
       refine E4 (K.mv6 (K.drop (knl (B7 (Cw ?_)))))
       obtain rfl:=As h
       exact kdv (.tuple #[]) [bk b0 #[Aa Ahw KC.1 Ap3,Aa Sz KC.2.1 Tx,pt Bj] 75,Ana,SW,bk Bj #[sv Bn,iv Bo,iv Bp,iv KC.2.2.1,Aa S0 KC.2.2.2.1 Ty,Aa S1 KC.2.2.2.2.1 Tz,iv KC.2.2.2.2.2,Aa Cc AZ Ce] 73,SX,SY] (BH (PR.okI ⟨Ana,Ahw,Ap3,SW,Sz,Tx,SX,S0,Ty,SY,S1,Tz,Boj,Ac3,Ac5,Ac7,rfl,rfl⟩))
      ·refine ksr (kx 2 (Ad ?_))
       refine AU h (fun h=>?_) fun h=>?_
       ·refine ksr (CV 0 0 5 rfl (kx 1 (kld 0 2 rfl (Cb h (fun _ Bep=>(Fm.ok Bep BE)) rfl ⟨(t7 BC),trivial⟩ (fun _ e=>Bf (B_ (kpn 7 e rfl))) fun Bsa h=>?_))))
        rintro _ _ ⟨rfl,rfl⟩
        refine Hb (Ba (CV 0 0 5 rfl (kx 2 (kld 0 2 rfl (kx 1 (Cb h (fun _ Beq=>(Fm.ok Beq BE)) rfl ⟨(t7 BC),trivial⟩ (fun _ e=>Bf (B_ (kpn 7 e rfl))) fun Bsb h=>?_))))))
        rintro _ _ ⟨rfl,rfl⟩
        refine Hb (Ba (kx 2 (kld 0 4 rfl (kx 1 (kld 0 2 rfl (kx 1 (bnd h fun Asj Bb7 h=>(P3 (T:=54) (R:=(AX 54)) (xs:=Ak) Ap (IntKind.i64.wrap (((Ak.length:Nat):Int) - 1)) rfl (by kernel_rfl) (by kernel_rfl) (by kernel_rfl) (.inr ⟨_,.i64,rfl,(by kernel_rfl)⟩) (.inr ⟨_,.i64,rfl,(by kernel_rfl)⟩) (by kernel_rfl) (by kernel_rfl) Bb7 BE fun Bxt B00 Bol=>(K.mv6 (K.mv6 ?_))))))))))
        refine K.mv6 (K.mv6 (K.mv6 (K.mv6 (Cb h (fun _ Ber=>(hR.EF Ber AJ D8 DG Ej Ex Bol hG)) rfl ⟨(.tail _ Ft),(.tail _ BC),(.tail _ BU),trivial⟩ (fun _ e=>Bf (B_ (kpn 1 e rfl))) fun PT h=>?_))))
        rintro _ _ ⟨By0,Bxv,B04,YN,XJ,Aan,YO,XK,Aao,YP,XL,Aar,Boo,Ada,Adb,Ade,rfl,rfl⟩
        refine E4 (Ad (Js [(0,0),(1,3),(2,0),(3,3),(4,0),(5,3),(6,0),(7,0),(8,3),(9,0),(10,0),(11,3)] [bk b1 #[iv Ao,sv Av,iv Ap,iv AF,Aa Bc Ak Be] 54,Cs] (fun w h_=>⟨h_.sat.on _ (.tail _ (.tail _ (.tail _ (.tail _ (.tail _ (.tail _ (.head _))))))),h_.sat.on _ (t7 BC),trivial⟩) (Ar 1 (GR 0 0 5 rfl (Ar 1 (AP 0 4 rfl (Ar 1 (AP 0 2 rfl (bnd h fun Asl Bca h=>(KY (T:=54) (R:=(AX 54)) (xs:=Ak) 0 Ap rfl (by kernel_rfl) (by kernel_rfl) (by kernel_rfl) (.inl ⟨rfl,rfl⟩) (.inr ⟨_,.i64,rfl,(by kernel_rfl)⟩) (by kernel_rfl) (by kernel_rfl) Bca BE fun XM Aas Adf=>?_))))))))))
        refine Ar 1 (AP 0 4 rfl (Ar 1 (bnd h fun Sx Bhc h=>(GT (T:=54) (kd:=.i64) (R:=(AX 54)) rfl Bhc BE fun B2q B3l Br9 e279 B4l=>?_))))
        obtain ⟨Bxw,B05,rfl,Boq⟩:=DF 54 Br9
        refine IE rfl e279 (fun w h_=>h_.mem _ (.tail _ (.head _))) (Ca (K.mv5 (K.mv5 (K.mv5 (K.mv5 (K.mv5 (K.mv5 (Cb h (fun _ Beu=>(hR.GB Beu Boo Ada Adb Ade Ex BE Adf Boq hG)) rfl ⟨(.tail _ Ft),(.tail _ BC),(.tail _ BC),(.tail _ BC),(.tail _ BU),trivial⟩ (fun _ e=>B_ (kpn 1 e rfl)) fun KD h=>?_))))))))
        rintro _ _ ⟨Anj,Ahz,Ap8,QK,MM,Nr,Anl,Ah0,Ap9,Ano,Ah2,Aqb,Bot,Adg,Bou,Boz,rfl,rfl⟩
        refine E4 (K.mv6 (K.drop (knl (B7 (Cw ?_)))))
        obtain rfl:=As h
        exact kdv (.tuple #[]) [bk b0 #[Aa Ahz KD.1 Ap8,Aa MM KD.2.1 Nr,pt Bj] 75,Anj,QK,bk Bj #[sv Bn,iv Bo,iv Bp,iv KD.2.2.1,Aa Ah0 KD.2.2.2.1 Ap9,Aa Ah2 KD.2.2.2.2.1 Aqb,iv KD.2.2.2.2.2,Aa Cc AZ Ce] 73,Anl,Ano] (BH (PR.okI ⟨Anj,Ahz,Ap8,QK,MM,Nr,Anl,Ah0,Ap9,Ano,Ah2,Aqb,Bot,Adg,Bou,Boz,rfl,rfl⟩))
       ·refine ksr (kx 2 (Ad ?_))
        refine AU h (fun h=>?_) fun h=>?_
        ·refine ksr (kx 3 (kld 1 2 rfl (kx 2 (kld 4 6 rfl (kx 1 (Ad ?_))))))
         refine AU h (fun h=>?_) fun h=>?_
         ·refine Bu (kx 1 (kld 0 3 rfl (K.drop (Cb h (fun _ Bey=>(Hk.ok Bey)) rfl trivial (fun _ e=>B_ (kpn 6 e rfl)) fun Bsc h=>?_))))
          rintro _ _ ⟨rfl,rfl⟩
          refine Hb (knl (B7 (Cw ?_)))
          obtain rfl:=As h
          exact kdv (.tuple #[]) [bk b0 #[Aa Aw Ac Ax,Aa Cz Ag C0,pt Bj] 75,B5,CI,bk Bj #[sv Bn,iv Bo,iv Bp,iv BO,Aa Cp Bq Cq,Aa CA B6 CC,iv BQ,Aa Cc AZ Ce] 73,Da,Ds] (BH (PR.okI ⟨B5,Aw,Ax,CI,Cz,C0,Da,Cp,Cq,Ds,CA,CC,AJ,D8,DG,Ej,rfl,rfl⟩))
         ·refine BV (B7 (Cw ?_))
          obtain rfl:=As h
          exact kdv (.tuple #[]) [bk b0 #[Aa Aw Ac Ax,Aa Cz Ag C0,pt Bj] 75,B5,CI,bk Bj #[sv Bn,iv Bo,iv Bp,iv BO,Aa Cp Bq Cq,Aa CA B6 CC,iv BQ,Aa Cc AZ Ce] 73,Da,Ds] (K.drop (BH (PR.okI ⟨B5,Aw,Ax,CI,Cz,C0,Da,Cp,Cq,Ds,CA,CC,AJ,D8,DG,Ej,rfl,rfl⟩)))
        ·refine Bu (kx 1 (CV 0 0 5 rfl (K.drop (kx 1 (K.mv5 (K.mv5 (K.mv5 (K.mv5 (K.mv5 (K.mv5 ?_))))))))))
         refine Cb h (fun _ Bez=>(hR.IA Bez AJ D8 DG Ej Ex BE hG)) rfl ⟨Ft,BC,BU,trivial⟩ (fun _ e=>B_ (kpn 0 e rfl)) fun KE h=>?_
         rintro _ _ ⟨Anp,Ah3,Aqc,Anq,Ah4,Aqi,Anr,Ah5,Aqj,Anx,Aia,Aql,Bo2,Bo6,Bo9,Bpc,rfl,rfl⟩
         refine E4 (knl (B7 (Cw ?_)))
         obtain rfl:=As h
         exact kdv (.tuple #[]) [bk b0 #[Aa Ah3 KE.1 Aqc,Aa Ah4 KE.2.1 Aqi,pt Bj] 75,Anp,Anq,bk Bj #[sv Bn,iv Bo,iv Bp,iv KE.2.2.1,Aa Ah5 KE.2.2.2.1 Aqj,Aa Aia KE.2.2.2.2.1 Aql,iv KE.2.2.2.2.2,Aa Cc AZ Ce] 73,Anr,Anx] (BH (PR.okI ⟨Anp,Ah3,Aqc,Anq,Ah4,Aqi,Anr,Ah5,Aqj,Anx,Aia,Aql,Bo2,Bo6,Bo9,Bpc,rfl,rfl⟩))
def EF.l0:Nat→(Rc:CK)→(Bn:ByteArray)→(Bo:Int)→(Bp:Int)→(AZ:Ae)→(a1:List Tree)→(x1:Int)→(l2:CZ)→(l7:Ae)→(x12:Int)→(l13:Bg)→(l18:Ae)→(x23:Int)→Option (PR (CZ×Ae×Int×Bg×Ae×Int) (Int×Int))
 | 0,_,_,_,_,_,_,_,_,_,_,_,_,_=>none
 | m24+1,Rc,Bn,Bo,Bp,AZ,a1,x1,l2,l7,x12,l13,l18,x23=>cond (decide (x1 < ((a1.length:Nat):Int))) ((Bh a1 x1).bind fun x26=>PR.bind (Rc.D9 l2 l7 Bn Bo Bp x12 l13 l18 x23 AZ x26.kind x26.text x26.n x26.at_ x26.kids false) fun r36=>EF.l0 m24 Rc Bn Bo Bp AZ a1 (IntKind.i64.wrap (x1+1)) r36.1 r36.2.1 r36.2.2.1 r36.2.2.2.1 r36.2.2.2.2.1 r36.2.2.2.2.2) (some (PR.ok (l2,l7,x12,l13,l18,x23)))
def EF.g (Rc:CK) (k:Nat) (Ac:CZ) (Ag:Ae) (Bn:ByteArray) (Bo:Int) (Bp:Int) (BO:Int) (Bq:Bg) (B6:Ae) (BQ:Int) (AZ:Ae) (a1:List Tree):Option (PR (CZ×Ae×Int×Bg×Ae×Int) (Int×Int)):=EF.l0 k Rc Bn Bo Bp AZ a1 0 Ac Ag BO Bq B6 BQ
theorem EF.C2 {Rc:CK} (hR:Rc.Good) {k:Nat}:EF.C (EF.g Rc k):=by
 intro Ac Ag B6 AZ Bn Bo Bp BO BQ Bq a1 b0 Ax C0 Bj Cq CC Ce C6 B5 CI Da Ds Fi DY G Aw Cz Cp CA Cc C4 r h AJ D8 DG Ej Ex Fk hG
 refine C3 (args:=[pt b0,Aa C4 a1 C6]) Tryz.func31 rfl (By rfl) ?_
 intro A X hh_
 obtain ⟨Ft,DV,BU,_⟩:=hh_
 unfold EF.g at h
 refine K.eq (env':=[(0,pt b0),(1,Aa C4 a1 C6)]) (l':=bk b0 #[Aa Aw Ac Ax,Aa Cz Ag C0,pt Bj] 75 :: B5 :: CI :: bk Bj #[sv Bn,iv Bo,iv Bp,iv BO,Aa Cp Bq Cq,Aa CA B6 CC,iv BQ,Aa Cc AZ Ce] 73 :: Da :: Ds :: X) rfl rfl (ksr (kx 3 (Ad (C1 (K.mv5 (K.mv5 (K.Bx (K.Bx (K.mv5 (K.mv5 ?_))))))))))
 refine Fx (τ:=Int×CZ×Ae×Int×Bg×Ae×Int×Ab×Aq×Nat×Ab×Aq×Nat×Ab×Aq×Nat×Ab×Aq×Nat) (fun t=>[(0,pt b0),(6,Aa C4 a1 C6),(7,iv ((a1.length:Nat):Int)),(8,iv t.1)]) (fun t=>bk b0 #[Aa t.2.2.2.2.2.2.2.2.1 t.2.1 t.2.2.2.2.2.2.2.2.2.1,Aa t.2.2.2.2.2.2.2.2.2.2.2.1 t.2.2.1 t.2.2.2.2.2.2.2.2.2.2.2.2.1,pt Bj] 75 :: bk Bj #[sv Bn,iv Bo,iv Bp,iv t.2.2.2.1,Aa t.2.2.2.2.2.2.2.2.2.2.2.2.2.2.1 t.2.2.2.2.1 t.2.2.2.2.2.2.2.2.2.2.2.2.2.2.2.1,Aa t.2.2.2.2.2.2.2.2.2.2.2.2.2.2.2.2.2.1 t.2.2.2.2.2.1 t.2.2.2.2.2.2.2.2.2.2.2.2.2.2.2.2.2.2,iv t.2.2.2.2.2.2.1,Aa Cc AZ Ce] 73 :: t.2.2.2.2.2.2.2.1 :: t.2.2.2.2.2.2.2.2.2.2.1 :: t.2.2.2.2.2.2.2.2.2.2.2.2.2.1 :: t.2.2.2.2.2.2.2.2.2.2.2.2.2.2.2.2.1 :: X) (fun m t=>EF.l0 m Rc Bn Bo Bp AZ a1 t.1 t.2.1 t.2.2.1 t.2.2.2.1 t.2.2.2.2.1 t.2.2.2.2.2.1 t.2.2.2.2.2.2.1=some r∧AK FU 43 t.2.2.2.2.2.2.2.1 (Aa t.2.2.2.2.2.2.2.2.1 t.2.1 t.2.2.2.2.2.2.2.2.2.1) t.2.1∧Ah encS 9 1 t.2.2.2.2.2.2.2.2.2.2.1 (Aa t.2.2.2.2.2.2.2.2.2.2.2.1 t.2.2.1 t.2.2.2.2.2.2.2.2.2.2.2.2.1) t.2.2.1∧Ah Dv 78 3 t.2.2.2.2.2.2.2.2.2.2.2.2.2.1 (Aa t.2.2.2.2.2.2.2.2.2.2.2.2.2.2.1 t.2.2.2.2.1 t.2.2.2.2.2.2.2.2.2.2.2.2.2.2.2.1) t.2.2.2.2.1∧Ah encS 9 1 t.2.2.2.2.2.2.2.2.2.2.2.2.2.2.2.2.1 (Aa t.2.2.2.2.2.2.2.2.2.2.2.2.2.2.2.2.2.1 t.2.2.2.2.2.1 t.2.2.2.2.2.2.2.2.2.2.2.2.2.2.2.2.2.2) t.2.2.2.2.2.1) k (0,Ac,Ag,BO,Bq,B6,BQ,B5,Aw,Ax,CI,Cz,C0,Da,Cp,Cq,Ds,CA,CC) ⟨h,AJ,D8,DG,Ej⟩ sb rfl ?_
 clear h
 rintro m24 ⟨x1,l2,l7,x12,l13,l18,x23,h3,A4,k5,h8,A9,k10,h14,ML,k16,h19,A20,k21⟩ ⟨h,o6,HU,o17,GU⟩
 cases m24 with
 | zero=>simp [EF.l0] at h
 | succ m24 =>
  simp only [EF.l0] at h
  refine ksr (kx 1 (Ad (B8 ?_)))
  refine AU h (fun h=>?_) fun h=>?_
  ·refine BV (AM (B8 (C1 (ksr (bnd h fun x26 Bhb h=>(DI (T:=54) (kd:=.i64) (R:=(AX 54)) rfl Bhb Fk fun p27 u30 q31 e28 y29=>?_))))))
   obtain ⟨MN,k33,rfl,Is⟩:=DF 54 q31
   refine Fq rfl e28 (t6 DV) (knp #[iv 0,sv noS,iv 0,iv 0,nS] 54 fun OH=>(AQ 0 5 #[iv x26.kind,sv x26.text,iv x26.n,iv x26.at_,Aa MN x26.kids k33] (FG (kx 1 (CV 0 0 5 rfl (K.drop (K.mv5 (K.mv5 (K.mv3 (K.mv5 ?_))))))))))
   refine K.mv5 (K.mv5 (Cb h (fun _ LH=>(hR.D9 LH o6 HU o17 GU Ex Is hG)) rfl ⟨Ft,DV,BU,trivial⟩ (fun _ e=>B_ (Bf (Bf (B_ (kpn 0 e rfl))))) fun r36 h=>?_))
   rintro _ _ ⟨h38,A39,K4,h42,O6,Px,h46,A47,k48,h50,KK,k52,o41,LV,o49,N3,rfl,rfl⟩
   refine E4 (knl (B7 (AM (Bu (kx 2 (Ad (K.mv5 (K.mv5 (K.Bx (K.Bx ?_))))))))))
   exact K.mv5 (K.mv5 (E3 m24 (IntKind.i64.wrap (x1+1),r36.1,r36.2.1,r36.2.2.1,r36.2.2.2.1,r36.2.2.2.2.1,r36.2.2.2.2.2,h38,A39,K4,h42,O6,Px,h46,A47,k48,h50,KK,k52) (Nat.lt_succ_self _) ⟨h,o41,LV,o49,N3⟩ sb rfl))
  ·refine Fv (Dg (Dg (Fw (Cw ?_))))
   obtain rfl:=As h
   exact kdv (.tuple #[]) [bk b0 #[Aa A4 l2 k5,Aa A9 l7 k10,pt Bj] 75,h3,h8,bk Bj #[sv Bn,iv Bo,iv Bp,iv x12,Aa ML l13 k16,Aa A20 l18 k21,iv x23,Aa Cc AZ Ce] 73,h14,h19] (K.mv5 (K.mv5 (K.mv3 (K.mv5 (K.mv5 (K.mv5 (BH (PR.okI ⟨h3,A4,k5,h8,A9,k10,h14,ML,k16,h19,A20,k21,o6,HU,o17,GU,rfl,rfl⟩))))))))
def IA.g (Rc:CK) (k:Nat) (Ac:CZ) (Ag:Ae) (Bn:ByteArray) (Bo:Int) (Bp:Int) (BO:Int) (Bq:Bg) (B6:Ae) (BQ:Int) (AZ:Ae) (Ao:Int) (Av:ByteArray) (Ap:Int) (AF:Int) (Ak:List Tree) (a2:Bool):Option (PR (CZ×Ae×Int×Bg×Ae×Int) (Int×Int)):=BG (fun (l2:Ae) (l7:Bg)=>PR.bind (Rc.EF Ac l2 Bn Bo Bp BO l7 B6 BQ AZ Ak) fun r13=>some (PR.ok (r13.1,r13.2.1,r13.2.2.1,r13.2.2.2.1,r13.2.2.2.2.1,r13.2.2.2.2.2))) (fun J12=>cond (Ao == 8) (PR.bind (Fm.f k Ao Av Ap AF Ak (IntKind.i64.wrap (((Ak.length:Nat):Int) - 1)) 50) fun r32=>J12 Ag Bq) (cond (Ao == 30) (PR.bind (Fm.f k Ao Av Ap AF Ak ((Ak.length:Nat):Int) 50) fun Iw=>J12 Ag Bq) (cond (Ao == 12) (PR.bind (Fm.f k Ao Av Ap AF Ak ((Ak.length:Nat):Int) 200) fun r38=>J12 Ag Bq) (cond (Ao == 4) (PR.bind (M_.f k Ac Ag Bn Bo Bp BO Bq B6 BQ AZ Ao Av Ap AF Ak 2 Ap (⟨#[]⟩:ByteArray)) fun Gs=>J12 Ag Gs) (cond (Ao == 5) (PR.bind (M_.f k Ac Ag Bn Bo Bp BO Bq B6 BQ AZ Ao Av Ap AF Ak 3 0 Av) fun r48=>J12 Ag r48) (cond (Ao == 6) (PR.bind (OO.f k Ac Ag Bn Bo Bp BO Bq B6 BQ AZ Ao Av Ap AF Ak) fun r55=>J12 r55 Bq) (cond (Ao == 7) ((Bh Ak 0).bind fun x62=>(cond (x62.kind == 6) ((Ks.f k x62.text).bind fun r95=>some r95) (some false):Option Bool).bind fun q72=>cond q72 (BG (fun (_:Unit)=>some (PR.ok (Ac,Ag,BO,Bq,B6,BQ))) (fun J74=>(Bh Ak 1).bind fun x75=>(cond a2 (some true) (cond (x75.kind != 5) (some true) ((KF x62.text (⟨#[46]⟩:ByteArray)).bind fun s91:ByteArray=>(KF s91 x75.text).bind fun s92:ByteArray=>(MZ.f k s92).bind fun r93=>some (r93 == 0))):Option Bool).bind fun Uo=>cond Uo (PR.bind (Hk.f k 5 AF) fun r87=>J74 ()) (J74 ()))) (J12 Ag Bq)) (J12 Ag Bq))))))))
theorem IA.C2 {Rc:CK} (hR:Rc.Good) {k:Nat}:IA.C (IA.g Rc k):=by
 intro Ac Ag B6 AZ Bn Av Bo Bp BO BQ Ao Ap AF Bq Ak a2 b0 Ax C0 Bj Cq CC Ce Be B5 CI Da Ds Fi Cs G Aw Cz Cp CA Cc Bc r h AJ D8 DG Ej Ex BE hG
 refine C3 (args:=[pt b0,.agg #[iv Ao,sv Av,iv Ap,iv AF,Aa Bc Ak Be],bv a2]) Tryz.func36 rfl (By rfl) ?_
 intro A X hh_
 obtain ⟨Ft,BC,BU,_⟩:=hh_
 unfold IA.g at h
 refine K.eq (env':=[(0,pt b0),(1,.agg #[iv Ao,sv Av,iv Ap,iv AF,Aa Bc Ak Be]),(2,bv a2)]) (l':=bk b0 #[Aa Aw Ac Ax,Aa Cz Ag C0,pt Bj] 75 :: B5 :: CI :: bk Bj #[sv Bn,iv Bo,iv Bp,iv BO,Aa Cp Bq Cq,Aa CA B6 CC,iv BQ,Aa Cc AZ Ce] 73 :: Da :: Ds :: X) rfl rfl (ksr (knp #[iv Ao,sv Av,iv Ap,iv AF,Aa Bc Ak Be] 54 fun b1=>(Ad ?_)))
 obtain ⟨J12,YS,h⟩:=De h
 refine Df (τ:=Ae×Bg×Ab×Aq×Nat×Ab×Aq×Nat) (fun t=>[(0,pt b0),(4,pt b1)]) (fun t=>bk b1 #[iv Ao,sv Av,iv Ap,iv AF,Aa Bc Ak Be] 54 :: bk b0 #[Aa Aw Ac Ax,Aa t.2.2.2.1 t.1 t.2.2.2.2.1,pt Bj] 75 :: B5 :: bk Bj #[sv Bn,iv Bo,iv Bp,iv BO,Aa t.2.2.2.2.2.2.1 t.2.1 t.2.2.2.2.2.2.2,Aa CA B6 CC,iv BQ,Aa Cc AZ Ce] 73 :: Ds :: t.2.2.1 :: t.2.2.2.2.2.1 :: X) (fun t=>J12 t.1 t.2.1=some r∧Ah encS 9 1 t.2.2.1 (Aa t.2.2.2.1 t.1 t.2.2.2.2.1) t.1∧Ah Dv 78 3 t.2.2.2.2.2.1 (Aa t.2.2.2.2.2.2.1 t.2.1 t.2.2.2.2.2.2.2) t.2.1) ?_ ?_
 ·rintro ⟨l2,l7,h3,A4,k5,h8,A9,k10⟩ ⟨h,o6,HU⟩
  subst YS
  refine Bu (kx 2 (kld 0 4 rfl (K.drop (K.mv3 (K.mv5 (K.Bx (K.mv5 (K.mv5 (K.mv5 (Cb h (fun _ Pe=>(hR.EF Pe AJ o6 HU Ej Ex BE hG)) rfl ⟨Ft,BC,BU,trivial⟩ (fun _ e=>kpn 0 e rfl) fun r13 h=>?_))))))))))
  rintro _ _ ⟨h15,F6,k17,h19,A20,k21,h23,FF,k25,h27,A28,k29,JQ,GU,JS,N2,rfl,rfl⟩
  refine E4 (knl (Cw ?_))
  obtain rfl:=As h
  exact kdv (.tuple #[]) [bk b0 #[Aa F6 r13.1 k17,Aa A20 r13.2.1 k21,pt Bj] 75,h15,h19,bk Bj #[sv Bn,iv Bo,iv Bp,iv r13.2.2.1,Aa FF r13.2.2.2.1 k25,Aa A28 r13.2.2.2.2.1 k29,iv r13.2.2.2.2.2,Aa Cc AZ Ce] 73,h23,h27] (BH (PR.okI ⟨h15,F6,k17,h19,A20,k21,h23,FF,k25,h27,A28,k29,JQ,GU,JS,N2,rfl,rfl⟩))
 ·skip
  refine ksr (kx 1 (kld 0 0 rfl (Ad (C1 (ksr (kx 2 (Ad ?_)))))))
  refine AU h (fun h=>?_) fun h=>?_
  ·refine Bu (CV 0 0 5 rfl (kx 1 (kld 0 4 rfl (kx 2 (Cb h (fun _ Pi=>(Fm.ok Pi BE)) rfl ⟨(t7 BC),trivial⟩ (fun _ e=>B_ (Bf (kpn 7 e rfl))) fun r32 h=>?_)))))
   rintro _ _ ⟨rfl,rfl⟩
   refine Hb (knl (B7 (AM (K.mv5 (K.Bx (K.mv6 (K.mv6 (K.mv6 (K.mv6 (K.mv6 ?_))))))))))
   exact B4 (Ag,Bq,CI,Cz,C0,Da,Cp,Cq) ⟨h,D8,DG⟩ sb rfl
  ·refine ksr (kx 2 (Ad ?_))
   refine AU h (fun h=>?_) fun h=>?_
   ·refine Bu (CV 0 0 5 rfl (kx 1 (kld 0 4 rfl (kx 1 (Cb h (fun _ Pj=>(Fm.ok Pj BE)) rfl ⟨(t7 BC),trivial⟩ (fun _ e=>B_ (Bf (kpn 7 e rfl))) fun Iw h=>?_)))))
    rintro _ _ ⟨rfl,rfl⟩
    refine Hb (knl (B7 (AM (K.mv5 (K.Bx (K.mv6 (K.mv6 (K.mv6 (K.mv6 (K.mv6 ?_))))))))))
    exact B4 (Ag,Bq,CI,Cz,C0,Da,Cp,Cq) ⟨h,D8,DG⟩ sb rfl
   ·refine ksr (kx 2 (Ad ?_))
    refine AU h (fun h=>?_) fun h=>?_
    ·refine Bu (CV 0 0 5 rfl (kx 1 (kld 0 4 rfl (kx 1 (Cb h (fun _ Pl=>(Fm.ok Pl BE)) rfl ⟨(t7 BC),trivial⟩ (fun _ e=>B_ (Bf (kpn 7 e rfl))) fun r38 h=>?_)))))
     rintro _ _ ⟨rfl,rfl⟩
     refine Hb (knl (B7 (AM (K.mv5 (K.Bx (K.mv6 (K.mv6 (K.mv6 (K.mv6 (K.mv6 ?_))))))))))
     exact B4 (Ag,Bq,CI,Cz,C0,Da,Cp,Cq) ⟨h,D8,DG⟩ sb rfl
    ·refine ksr (kx 2 (Ad ?_))
     refine AU h (fun h=>?_) fun h=>?_
     ·refine Bu (kx 1 (CV 0 0 5 rfl (kx 1 (kld 0 2 rfl (kx 1 (K.mv5 (K.mv5 (K.mv3 (Cb h (fun _ Pm=>(M_.ok Pm (AK.rd AJ) (Ah.rd D8) DG (Ah.rd Ej) Ex BE)) rfl ⟨(.tail _ (.head _)),(.tail _ (.tail _ (.head _))),(.tail _ (.tail _ (.tail _ (.head _)))),(t4 Ft),(t4 BC),trivial⟩ (fun _ e=>B_ (Bf (kpn 4 e rfl))) fun Gs h=>?_)))))))))
      rintro _ _ ⟨h43,A44,k45,Ua,rfl,rfl⟩
      refine Ok (knl (B7 (AM (K.Al (K.mv5 (K.mv6 (K.Bx (K.mv6 (K.mv5 (K.mv6 ?_))))))))))
      exact B4 (Ag,Gs,CI,Cz,C0,h43,A44,k45) ⟨h,D8,Ua⟩ sb rfl
     ·refine ksr (kx 2 (Ad ?_))
      refine AU h (fun h=>?_) fun h=>?_
      ·refine Bu (kx 1 (CV 0 0 5 rfl (kx 1 (kld 0 1 rfl (kx 1 (K.mv5 (K.mv5 (K.mv3 (Cb h (fun _ Z9=>(M_.ok Z9 (AK.rd AJ) (Ah.rd D8) DG (Ah.rd Ej) Ex BE)) rfl ⟨(.tail _ (.head _)),(.tail _ (.tail _ (.head _))),(.tail _ (.tail _ (.tail _ (.head _)))),(t4 Ft),(t4 BC),trivial⟩ (fun _ e=>B_ (Bf (kpn 4 e rfl))) fun r48 h=>?_)))))))))
       rintro _ _ ⟨h50,KK,k52,N3,rfl,rfl⟩
       refine Ok (knl (B7 (AM (K.Al (K.mv5 (K.mv6 (K.Bx (K.mv6 (K.mv5 (K.mv6 ?_))))))))))
       exact B4 (Ag,r48,CI,Cz,C0,h50,KK,k52) ⟨h,D8,N3⟩ sb rfl
      ·refine ksr (kx 2 (Ad ?_))
       refine AU h (fun h=>?_) fun h=>?_
       ·refine Bu (kx 1 (CV 0 0 5 rfl (K.Bx (K.Bx (K.mv3 (Cb h (fun _ Tl=>(OO.ok Tl (AK.rd AJ) D8 (Ah.rd DG) (Ah.rd Ej) Ex BE)) rfl ⟨(.tail _ (.head _)),(.tail _ (.tail _ (.head _))),(.tail _ (.tail _ (.tail _ (.head _)))),(t4 Ft),(t4 BC),trivial⟩ (fun _ e=>B_ (Bf (kpn 4 e rfl))) fun r55 h=>?_))))))
        rintro _ _ ⟨h57,Hg,k59,o60,rfl,rfl⟩
        refine Ok (knl (B7 (AM (K.mv5 (K.Al (K.mv6 (K.Bx (K.mv6 (K.mv5 (K.mv6 ?_))))))))))
        exact B4 (r55,Bq,h57,Hg,k59,Da,Cp,Cq) ⟨h,o60,DG⟩ sb rfl
       ·refine ksr (kx 2 (Ad ?_))
        refine AU h (fun h=>?_) fun h=>?_
        ·refine ksr (kx 1 (kld 0 4 rfl (bnd h fun x62 ZV h=>(DI (T:=54) (kd:=.i64) (R:=(AX 54)) rfl ZV BE fun p63 u66 q67 e64 y65=>?_))))
         obtain ⟨Hh,k69,rfl,KA⟩:=DF 54 q67
         refine Fq rfl e64 (t7 BC) (knp #[iv 0,sv noS,iv 0,iv 0,nS] 54 fun b71=>(AQ 0 5 #[iv x62.kind,sv x62.text,iv x62.n,iv x62.at_,Aa Hh x62.kids k69] (Ad (bnd h fun q72 Zr h=>?_))))
         refine G_ [(0,pt b0),(2,bv a2),(4,pt b1),(6,pt b71),(66,bv q72)] (bk b71 #[iv x62.kind,sv x62.text,iv x62.n,iv x62.at_,Aa Hh x62.kids k69] 54 :: bk b1 #[iv Ao,sv Av,iv Ap,iv AF,Aa Bc Ak Be] 54 :: bk b0 #[Aa Aw Ac Ax,Aa Cz Ag C0,pt Bj] 75 :: B5 :: CI :: bk Bj #[sv Bn,iv Bo,iv Bp,iv BO,Aa Cp Bq Cq,Aa CA B6 CC,iv BQ,Aa Cc AZ Ce] 73 :: Da :: Ds :: X) ?_ ?_
         ·clear Zr
          refine AU h (fun h=>?_) fun h=>?_
          ·obtain ⟨J74,Ba2,h⟩:=De h
           refine Df (τ:=Unit) (fun t=>[]) (fun t=>bk b0 #[Aa Aw Ac Ax,Aa Cz Ag C0,pt Bj] 75 :: B5 :: CI :: bk Bj #[sv Bn,iv Bo,iv Bp,iv BO,Aa Cp Bq Cq,Aa CA B6 CC,iv BQ,Aa Cc AZ Ce] 73 :: Da :: Ds :: X) (fun t=>J74 ()=some r) ?_ ?_
           ·rintro ⟨⟩ h
            subst Ba2
            refine C9 (Fu (DH ?_))
            obtain rfl:=As h
            exact kdv (.tuple #[]) [bk b0 #[Aa Aw Ac Ax,Aa Cz Ag C0,pt Bj] 75,B5,CI,bk Bj #[sv Bn,iv Bo,iv Bp,iv BO,Aa Cp Bq Cq,Aa CA B6 CC,iv BQ,Aa Cc AZ Ce] 73,Da,Ds] (BH (PR.okI ⟨B5,Aw,Ax,CI,Cz,C0,Da,Cp,Cq,Ds,CA,CC,AJ,D8,DG,Ej,rfl,rfl⟩))
           ·skip
            refine ksr (kx 1 (kld 1 4 rfl (bnd h fun x75 Bhv h=>(DI (T:=54) (kd:=.i64) (R:=(AX 54)) rfl Bhv BE fun p76 u79 q80 e77 y78=>?_))))
            obtain ⟨XO,k82,rfl,o83⟩:=DF 54 q80
            refine Fq rfl e77 (t8 BC) (knp #[iv 0,sv noS,iv 0,iv 0,nS] 54 fun b84=>(AQ 0 5 #[iv x75.kind,sv x75.text,iv x75.n,iv x75.at_,Aa XO x75.kids k82] (Ad (bnd h fun Uo Zs h=>?_))))
            refine G_ [(4,pt b1),(86,bv Uo)] (bk b1 #[iv Ao,sv Av,iv Ap,iv AF,Aa Bc Ak Be] 54 :: bk b0 #[Aa Aw Ac Ax,Aa Cz Ag C0,pt Bj] 75 :: B5 :: CI :: bk Bj #[sv Bn,iv Bo,iv Bp,iv BO,Aa Cp Bq Cq,Aa CA B6 CC,iv BQ,Aa Cc AZ Ce] 73 :: Da :: Ds :: X) ?_ ?_
            ·clear Zs
             refine AU h (fun h=>?_) fun h=>?_
             ·refine Bu (kx 1 (kld 0 3 rfl (K.drop (Cb h (fun _ ZM=>(Hk.ok ZM)) rfl trivial (fun _ e=>Bf (B_ (Bf (kpn 6 e rfl)))) fun r87 h=>?_))))
              rintro _ _ ⟨rfl,rfl⟩
              exact Hb (Ad (B4 () h trivial rfl))
             ·exact BV (AM (K.drop (B4 () h trivial rfl)))
            ·have h:=Zs
             clear Zs
             refine Bu (kx 2 ?_)
             refine Ee 72 h (fun h=>?_) fun h=>?_
             ·exact kx 14 (Ad (K.drop (K.drop (Dd ⟨gr,gb (As h),trivial⟩))))
             ·refine kx 1 (kld 0 0 rfl (kx 3 ?_))
              refine Ee 77 h (fun h=>?_) fun h=>?_
              ·exact kx 9 (Ad (K.drop (K.drop (Dd ⟨gr,gb (As h),trivial⟩))))
              ·refine kx 1 (kld 1 1 rfl (K.An (K.drop (bnd h fun s91 Bf2 h=>(TD rfl (by kernel_rfl) (by kernel_rfl) (by kernel_rfl) (by kernel_rfl) Bf2 (kx 1 (kld 0 1 rfl (K.drop (bnd h fun s92 Bf4 h=>(TD rfl (by kernel_rfl) (by kernel_rfl) (by kernel_rfl) (by kernel_rfl) Bf4 ?_))))))))))
               exact bnd h fun r93 To h=>(G2 (MZ.ok To hG) ⟨(t7 BU),trivial⟩ (kx 2 (Ad (Dd ⟨gr,gb (As h),trivial⟩))))
          ·refine BV (B7 (AM (K.drop (K.mv5 (K.Bx (K.mv6 (K.mv6 (K.mv6 (K.mv6 (K.mv6 ?_))))))))))
           exact B4 (Ag,Bq,CI,Cz,C0,Da,Cp,Cq) ⟨h,D8,DG⟩ sb rfl
         ·have h:=Zr
          clear Zr
          refine Bu (kx 1 (kld 0 0 rfl (kx 2 ?_)))
          refine Ee 62 h (fun h=>?_) fun h=>?_
          ·exact kx 1 (kld 0 1 rfl (bnd h fun r95 Nk h=>(G2 (Ks.ok Nk) trivial (kx 1 (Ad (Dd ⟨gr,gr,gr,gr,gb (As h),trivial⟩))))))
          ·exact kx 4 (Ad (Dd ⟨gr,gr,gr,gr,gb (As h),trivial⟩))
        ·exact BV (B7 (AM (K.mv5 (K.Bx (K.mv6 (K.mv6 (K.mv6 (K.mv6 (K.mv6 (B4 (Ag,Bq,CI,Cz,C0,Da,Cp,Cq) ⟨h,D8,DG⟩ sb rfl))))))))))
def GB.g (Rc:CK) (k:Nat) (Ac:CZ) (Ag:Ae) (Bn:ByteArray) (Bo:Int) (Bp:Int) (BO:Int) (Bq:Bg) (B6:Ae) (BQ:Int) (AZ:Ae) (Ao:Int) (Av:ByteArray) (Ap:Int) (AF:Int) (Ak:List Tree) (a2:List Tree) (MS:Int) (MT:ByteArray) (MU:Int) (MV:Int) (Ly:List Tree) (a4:Int):Option (PR (CZ×Ae×Int×Bg×Ae×Int) (Int×Int)):=(OF 16 B6 (⟨#[]⟩:ByteArray) a4).bind fun l3=>BG (fun (x8:Int) (l9:Ae)=>PR.bind (Rc.D9 Ac Ag Bn Bo Bp x8 Bq l9 (IntKind.i64.wrap (BQ+1)) AZ MS MT MU MV Ly false) fun BS=>(DR BS.2.2.2.2.1 0 ((B6.length:Nat):Int)).bind fun JN=>some (PR.ok (BS.1,BS.2.1,BS.2.2.1,BS.2.2.2.1,JN,IntKind.i64.wrap (BS.2.2.2.2.2 - 1)))) (fun J14=>cond (decide (a4 > 0)) (PR.bind (Hj.f k Ac Ag Bn Bo Bp BO Bq l3 BQ AZ Ao Av Ap AF Ak a2) fun r36=>J14 r36.1 r36.2) (J14 BO l3))
theorem GB.C2 {Rc:CK} (hR:Rc.Good) {k:Nat}:GB.C (GB.g Rc k):=by
 intro Ac Ag B6 AZ Bn Av MT Bo Bp BO BQ Ao Ap AF MS MU MV a4 Bq Ak a2 Ly b0 Ax C0 Bj Cq CC Ce Be Gj OM B5 CI Da Ds Fi Cs Kn XT G Aw Cz Cp CA Cc Bc Gi O9 r h AJ D8 DG Ej Ex BE NP Ait hG
 refine C3 (args:=[pt b0,.agg #[iv Ao,sv Av,iv Ap,iv AF,Aa Bc Ak Be],Aa Gi a2 Gj,.agg #[iv MS,sv MT,iv MU,iv MV,Aa O9 Ly OM],iv a4]) Tryz.func35 rfl (By rfl) ?_
 intro A X hh_
 obtain ⟨Ft,BC,Nf,Bcz,BU,_⟩:=hh_
 unfold GB.g at h
 refine K.eq (env':=[(0,pt b0),(1,.agg #[iv Ao,sv Av,iv Ap,iv AF,Aa Bc Ak Be]),(2,Aa Gi a2 Gj),(3,.agg #[iv MS,sv MT,iv MU,iv MV,Aa O9 Ly OM]),(4,iv a4)]) (l':=bk b0 #[Aa Aw Ac Ax,Aa Cz Ag C0,pt Bj] 75 :: B5 :: CI :: bk Bj #[sv Bn,iv Bo,iv Bp,iv BO,Aa Cp Bq Cq,Aa CA B6 CC,iv BQ,Aa Cc AZ Ce] 73 :: Da :: Ds :: X) rfl rfl (ksr (knp #[iv Ao,sv Av,iv Ap,iv AF,Aa Bc Ak Be] 54 fun b1=>(knp #[iv MS,sv MT,iv MU,iv MV,Aa O9 Ly OM] 54 fun b2=>(Ba (kx 3 (kld 2 2 rfl (kx 2 (kld 5 5 rfl (kx 2 (Ad ?_))))))))))
 refine B8 (kpr [(0,0),(1,0),(2,0),(3,3),(4,0),(5,0),(6,0),(7,3),(8,0),(9,0),(10,3),(11,0),(12,1)] [2,5] (Ar 3 (AP 0 2 rfl (Ar 3 (AP 0 2 rfl (Ar 2 (AP 1 5 rfl (Ar 1 (kpt (K.mv7 ?_))))))))))
 refine bnd h fun l3 hl3 h=>(Auk (kz:=.i64) (z0:=(⟨#[]⟩:ByteArray)) .i64 Jp (by kernel_rfl) rfl SN (by kernel_rfl) (by kernel_rfl) (by kernel_rfl) (by kernel_rfl) hl3 Ej fun h4 A5 k6 o7=>(Dm [3,6] rfl (Ca (kx 2 (K.mv6 (AQ 5 1 #[sv Bn,iv Bo,iv Bp,iv BO,Aa Cp Bq Cq,Aa A5 l3 k6,iv BQ,Aa Cc AZ Ce] (Ad ?_)))))))
 obtain ⟨J14,LD,h⟩:=De h
 refine Df (τ:=Int×Ae×Ab×Aq×Nat) (fun t=>[(0,pt b0),(8,pt b2),(10,iv ((B6.length:Nat):Int))]) (fun t=>bk Bj #[sv Bn,iv Bo,iv Bp,iv t.1,Aa Cp Bq Cq,Aa t.2.2.2.1 t.2.1 t.2.2.2.2,iv BQ,Aa Cc AZ Ce] 73 :: bk b2 #[iv MS,sv MT,iv MU,iv MV,Aa O9 Ly OM] 54 :: bk b0 #[Aa Aw Ac Ax,Aa Cz Ag C0,pt Bj] 75 :: B5 :: CI :: Da :: t.2.2.1 :: X) (fun t=>J14 t.1 t.2.1=some r∧Ah encS 9 1 t.2.2.1 (Aa t.2.2.2.1 t.2.1 t.2.2.2.2) t.2.1) ?_ ?_
 ·rintro ⟨x8,l9,h10,O5,k12⟩ ⟨h,Rz⟩
  subst LD
  refine ksr (kx 3 (kld 2 2 rfl (kx 2 (kld 0 6 rfl (kx 3 (AQ 6 1 #[sv Bn,iv Bo,iv Bp,iv x8,Aa Cp Bq Cq,Aa O5 l9 k12,iv (IntKind.i64.wrap (BQ+1)),Aa Cc AZ Ce] (Ba (kx 1 (CV 1 0 5 rfl (K.An ?_))))))))))
  refine K.drop (K.mv5 (K.mv5 (K.Al (K.mv5 (K.mv5 (K.mv5 (Cb h (fun _ LG=>(hR.D9 LG AJ D8 DG Rz Ex Ait hG)) rfl ⟨Ft,Bcz,BU,trivial⟩ (fun _ e=>Bf (kpn 0 e rfl)) fun BS h=>?_)))))))
  rintro _ _ ⟨h17,Jm,k19,h21,I4,k23,h25,A26,k27,h29,JB,k31,o20,JR,TZ,o32,rfl,rfl⟩
  refine E4 (Ba (kx 3 (kld 0 2 rfl (kx 2 (kld 3 6 rfl (kx 3 (K.mv3 (AQ 6 1 #[sv Bn,iv Bo,iv Bp,iv BS.2.2.1,Aa A26 BS.2.2.2.1 k27,Aa JB BS.2.2.2.2.1 k31,iv (IntKind.i64.wrap (BS.2.2.2.2.2 - 1)),Aa Cc AZ Ce] (Ad (kpr [(0,0),(1,0),(2,0),(3,3),(4,0),(5,0),(6,0),(7,3),(8,0),(9,0),(10,3),(11,0),(12,0)] [0,1] ?_))))))))))
  refine Ar 3 (AP 1 2 rfl (Ar 3 (AP 1 2 rfl (Ar 2 (AP 0 5 rfl (Ar 1 (bnd h fun JN Bcd h=>(Ar5 (T:=9) (sz:=1) (k:=.i64) (xs:=BS.2.2.2.2.1) ((B6.length:Nat):Int) Jp rfl (by kernel_rfl) (by kernel_rfl) (by kernel_rfl) (by kernel_rfl) (by kernel_rfl) (by kernel_rfl) Bcd o32 fun Is=>(Ca (kx 2 ?_))))))))))
  refine AQ 5 1 #[sv Bn,iv Bo,iv Bp,iv BS.2.2.1,Aa A26 BS.2.2.2.1 k27,Aa JB JN k31,iv (IntKind.i64.wrap (BS.2.2.2.2.2 - 1)),Aa Cc AZ Ce] (knl (Cw ?_))
  obtain rfl:=As h
  exact kdv (.tuple #[]) [bk b0 #[Aa Jm BS.1 k19,Aa I4 BS.2.1 k23,pt Bj] 75,h17,h21,bk Bj #[sv Bn,iv Bo,iv Bp,iv BS.2.2.1,Aa A26 BS.2.2.2.1 k27,Aa JB JN k31,iv (IntKind.i64.wrap (BS.2.2.2.2.2 - 1)),Aa Cc AZ Ce] 73,h25,h29] (K.mv5 (K.mv5 (K.Al (K.mv5 (K.mv5 (K.mv5 (BH (PR.okI ⟨h17,Jm,k19,h21,I4,k23,h25,A26,k27,h29,JB,k31,o20,JR,TZ,Is,rfl,rfl⟩))))))))
 ·skip
  refine ksr (kx 2 (Ad ?_))
  refine AU h (fun h=>?_) fun h=>?_
  ·refine Bu (kx 1 (CV 3 0 5 rfl (K.mv3 (K.drop (kx 1 (K.An (K.An (K.mv3 (Cb h (fun _ LH=>(Hj.ok LH (AK.rd AJ) (Ah.rd D8) (Ah.rd DG) o7 Ex BE NP)) rfl ⟨(.tail _ (.head _)),(.tail _ (.tail _ (.head _))),(.tail _ (.tail _ (.tail _ (.head _)))),(t4 Ft),(t4 BC),(t4 Nf),trivial⟩ (fun _ e=>Bf (kpn 4 e rfl)) fun r36 h=>?_)))))))))
   rintro _ _ ⟨h38,A39,K4,o41,rfl,rfl⟩
   exact Ok (Ad (K.Al (K.mv6 (K.mv6 (K.mv6 (K.Bx (K.mv6 (K.mv6 (B4 (r36.1,r36.2,h38,A39,K4) ⟨h,o41⟩ sb rfl)))))))))
  ·refine BV (AM (K.mv3 (K.drop (K.An (K.mv6 (K.mv6 (K.mv6 (K.mv6 (K.mv6 (K.mv6 ?_))))))))))
   exact B4 (BO,l3,h4,A5,k6) ⟨h,o7⟩ sb rfl
def IB.g (Rc:CK) (k:Nat) (Ac:CZ) (Ag:Ae) (Bn:ByteArray) (Bo:Int) (Bp:Int) (BO:Int) (Bq:Bg) (B6:Ae) (BQ:Int) (AZ:Ae) (Ao:Int) (Av:ByteArray) (Ap:Int) (AF:Int) (Ak:List Tree):Option (PR (CZ×Ae×Int×Bg×Ae×Int) (Int×Int)):=PR.bind (Fm.f k Ao Av Ap AF Ak ((Ac.length:Nat):Int) 100) fun r2=>BG (fun (_:Unit)=>PR.bind (Fm.f k Ao Av Ap AF Ak Ap 50) fun r5=>(Na.f k Ac Ag Bn Bo Bp BO Bq B6 BQ AZ Av).bind fun r7=>(DR Ak 0 Ap).bind fun l13=>PR.bind (Hj.f k Ac r7 Av AF Ap 0 ([]) ([]) 0 B6 Ao Av Ap AF Ak l13) fun EC=>(Bh Ak Ap).bind fun x23=>PR.bind (Rc.D9 Ac r7 Av AF Ap EC.1 ([]) EC.2 0 B6 x23.kind x23.text x23.n x23.at_ x23.kids false) fun r32=>(apd 64 r32.1 [(Av,AF,Ap,r32.2.2.1,r32.2.2.2.1)]).bind fun l53=>some (PR.ok (l53,r32.2.1,BO,Bq,B6,BQ))) (fun J4=>(Ks.f k Av).bind fun JV=>cond JV (PR.bind (Hk.f k 5 AF) fun r60=>J4 ()) (J4 ()))
theorem IB.C2 {Rc:CK} (hR:Rc.Good) {k:Nat}:IB.C (IB.g Rc k):=by
 intro Ac Ag B6 AZ Bn Av Bo Bp BO BQ Ao Ap AF Bq Ak b0 Ax C0 Bj Cq CC Ce Be B5 CI Da Ds Fi Cs G Aw Cz Cp CA Cc Bc r h AJ D8 DG Ej Ex BE hG
 refine C3 (args:=[pt b0,.agg #[iv Ao,sv Av,iv Ap,iv AF,Aa Bc Ak Be]]) Tryz.func32 rfl (By rfl) ?_
 intro A X hh_
 obtain ⟨Ft,BC,BU,_⟩:=hh_
 unfold IB.g at h
 refine K.eq (env':=[(0,pt b0),(1,.agg #[iv Ao,sv Av,iv Ap,iv AF,Aa Bc Ak Be])]) (l':=bk b0 #[Aa Aw Ac Ax,Aa Cz Ag C0,pt Bj] 75 :: B5 :: CI :: bk Bj #[sv Bn,iv Bo,iv Bp,iv BO,Aa Cp Bq Cq,Aa CA B6 CC,iv BQ,Aa Cc AZ Ce] 73 :: Da :: Ds :: X) rfl rfl (ksr (knp #[iv Ao,sv Av,iv Ap,iv AF,Aa Bc Ak Be] 54 fun b1=>(Ad (B8 (kpr [(0,3),(1,0),(2,0),(3,0),(4,0),(5,3),(6,0)] [0,1] (GR 0 0 5 rfl (Ar 4 (AP 1 0 rfl (Ar 1 (Ca ?_))))))))))
 refine Cb h (fun _ hr2=>(Fm.ok hr2 BE)) rfl ⟨(t7 BC),trivial⟩ (fun _ e=>Bf (kpn 7 e rfl)) fun r2 h=>?_
 rintro _ _ ⟨rfl,rfl⟩
 refine Hb (Ad ?_)
 obtain ⟨J4,hJ4,h⟩:=De h
 refine Df (τ:=Unit) (fun t=>[(0,pt b0),(3,pt b1)]) (fun t=>bk b1 #[iv Ao,sv Av,iv Ap,iv AF,Aa Bc Ak Be] 54 :: bk b0 #[Aa Aw Ac Ax,Aa Cz Ag C0,pt Bj] 75 :: B5 :: CI :: bk Bj #[sv Bn,iv Bo,iv Bp,iv BO,Aa Cp Bq Cq,Aa CA B6 CC,iv BQ,Aa Cc AZ Ce] 73 :: Da :: Ds :: X) (fun t=>J4 ()=some r) ?_ ?_
 ·rintro ⟨⟩ h
  subst hJ4
  refine ksr (CV 0 0 5 rfl (kx 1 (kld 0 2 rfl (Cb h (fun _ hr5=>(Fm.ok hr5 BE)) rfl ⟨(t7 BC),trivial⟩ (fun _ e=>Bf (kpn 7 e rfl)) fun r5 h=>?_))))
  rintro _ _ ⟨rfl,rfl⟩
  refine Hb (Ba (kx 2 (kld 0 1 rfl (K.Bx (K.Bx (K.mv3 (bnd h fun r7 hr7 h=>(Bz (Na.ok hr7 (AK.rd AJ) D8 (Ah.rd DG) (Ah.rd Ej) Ex) rfl ⟨(.tail _ (.head _)),(.tail _ (.tail _ (.head _))),(.tail _ (.tail _ (.tail _ (.head _)))),(t4 Ft),trivial⟩ ?_))))))))
  rintro _ _ ⟨h8,A9,k10,HU,rfl,rfl⟩
  refine Ok (Ba (kx 3 (kld 0 2 rfl (kx 1 (Ad (B8 (kpr [(0,0),(1,0),(2,3),(3,0),(4,3),(5,0),(6,3),(7,0),(8,0),(9,0),(10,0),(11,3)] [2,3] (Ar 2 (AP 1 1 rfl (Ar 1 ?_))))))))))
  refine AP 1 3 rfl (Ar 1 (AP 1 2 rfl (Ar 4 (AP 0 5 rfl (Ca (kx 1 (knp #[sv Av,iv AF,iv Ap,iv 0,nS,nS,iv 0,Aa CA B6 CC] 73 fun b12=>(kx 2 (K.An (AQ 2 1 #[Aa Aw Ac Ax,Aa A9 r7 k10,pt b12] ?_))))))))))
  refine Ad (B8 (kpr [(0,0),(1,3),(2,0),(3,3),(4,0),(5,3),(6,0)] [4] (Ar 1 (GR 0 0 5 rfl (Ar 1 (AP 0 4 rfl (Ar 1 (AP 0 2 rfl (bnd h fun l13 Zd h=>(KY (T:=54) (R:=(AX 54)) (xs:=Ak) 0 Ap rfl (by kernel_rfl) (by kernel_rfl) (by kernel_rfl) (.inl ⟨rfl,rfl⟩) (.inr ⟨_,.i64,rfl,(by kernel_rfl)⟩) (by kernel_rfl) (by kernel_rfl) Zd BE fun Hf k15 o16=>?_))))))))))
  refine Ca (Dl (Dl (K.mv3 (K.mv3 (Cb h (fun _ Kz=>(Hj.ok Kz (AK.rd AJ) (Ah.rd HU) (Bl.nil Dv 3 none_) (Ah.nil encS 9 1 none_) (Ah.rd Ej) BE o16)) rfl ⟨(.tail _ (.tail _ (.tail _ (.tail _ (.head _))))),(.tail _ (.head _)),(.head _),(.tail _ (.tail _ (.tail _ (.tail _ (.tail _ (.tail _ (.head _))))))),(t7 BC),(t7 BC),trivial⟩ (fun _ e=>Bf (kpn 7 e rfl)) fun EC h=>?_)))))
  rintro _ _ ⟨h19,A20,k21,GU,rfl,rfl⟩
  refine Ok (K.mv3 (K.drop (Ba (kx 2 (kld 5 4 rfl (kx 1 (kld 5 2 rfl (K.mv5 (K.drop (bnd h fun x23 Bg8 h=>?_))))))))))
  refine DI (T:=54) (kd:=.i64) (R:=(AX 54)) rfl Bg8 BE fun p24 u27 q28 e25 y26=>?_
  obtain ⟨A29,k30,rfl,Hd⟩:=DF 54 q28
  refine Fq rfl e25 (t8 BC) (Dl (K.mv3 (K.An (K.mv3 (K.Bx (K.mv6 (K.mv5 (Cb h (fun _ Pi=>(hR.D9 Pi AJ HU (Ah.nil Dv 78 3 none_) GU (Ah.rd Ej) Hd hG)) rfl ⟨(.tail _ (.tail _ (.head _))),(t3 BC),(t3 BU),trivial⟩ (fun _ e=>Bf (kpn 3 e rfl)) fun r32 h=>?_))))))))
  rintro _ _ ⟨h34,A35,QW,h38,A39,K4,h42,O6,Px,h46,A47,k48,PD,o41,LV,o49,rfl,rfl⟩
  refine E4 (Ad (B8 (kpr [(0,0),(1,0),(2,0),(3,0),(4,0),(5,3),(6,0),(7,0),(8,0),(9,3),(10,0),(11,0),(12,3),(13,1)] [0,3] (Ar 5 (AP 0 0 rfl (Ar 3 (AP 0 2 rfl (Ar 2 (GR 1 0 5 rfl (kpt ?_))))))))))
  refine HY #[sv Av,iv AF,iv Ap,iv r32.2.2.1,Aa O6 r32.2.2.2.1 Px] 43 1 fun b50=>(Dm [1,4] rfl (Ca (K.mv5 (K.An (DP (T:=43) (n:=1) (xs:=[(Av,AF,Ap,r32.2.2.1,r32.2.2.2.1)]) (Cn.one (Xm (x:=(Av,AF,Ap,r32.2.2.1,r32.2.2.2.1)) LV)) rfl rfl (By rfl) fun h51 R5=>(K.Al (bnd h fun l53 Bci h=>(FQ rfl A6t rfl Bci PD R5 fun h54 Mk Mv WH=>(kx 3 (K.An ?_))))))))))
  refine AQ 0 1 #[Aa Mk l53 Mv,Aa A39 r32.2.1 K4,pt b12] (FG (kx 4 (AQ 2 1 #[Aa Mk l53 Mv,Aa A39 r32.2.1 K4,pt Bj] (K.mv3 (K.drop (K.mv3 (K.drop (knl (Cw ?_)))))))))
  obtain rfl:=As h
  exact kdv (.tuple #[]) [bk b0 #[Aa Mk l53 Mv,Aa A39 r32.2.1 K4,pt Bj] 75,h54,h38,bk Bj #[sv Bn,iv Bo,iv Bp,iv BO,Aa Cp Bq Cq,Aa CA B6 CC,iv BQ,Aa Cc AZ Ce] 73,Da,Ds] (BH (PR.okI ⟨h54,Mk,Mv,h38,A39,K4,Da,Cp,Cq,Ds,CA,CC,WH,o41,DG,Ej,rfl,rfl⟩))
 ·skip
  refine ksr (kx 1 (kld 0 1 rfl (bnd h fun JV Tm h=>(G2 (Ks.ok Tm) trivial (Ad ?_)))))
  refine AU h (fun h=>?_) fun h=>?_
  ·refine Bu (kx 1 (kld 0 3 rfl (Cb h (fun _ Po=>(Hk.ok Po)) rfl trivial (fun _ e=>Bf (kpn 7 e rfl)) fun r60 h=>?_)))
   rintro _ _ ⟨rfl,rfl⟩
   exact Hb (Ad (B4 () h sb rfl))
  ·exact BV (AM (B4 () h sb rfl))
def CK.at:Nat→CK
 | 0=>⟨fun _ _ _ _ _ _ _ _ _ _ _ _ _ _ _ _=>none,fun _ _ _ _ _ _ _ _ _ _ _=>none,fun _ _ _ _ _ _ _ _ _ _ _ _ _ _ _ _=>none,fun _ _ _ _ _ _ _ _ _ _ _ _ _ _ _ _ _ _ _ _ _ _=>none,fun _ _ _ _ _ _ _ _ _ _ _ _ _ _ _=>none⟩
 | k+1=>⟨D9.g (CK.at k) k,EF.g (CK.at k) k,IA.g (CK.at k) k,GB.g (CK.at k) k,IB.g (CK.at k) k⟩
theorem CK.good:∀ k,(CK.at k).Good
 | 0=>⟨(by unfold D9.C;intros;rename_i h _ _ _ _ _ _ _;cases (show (none:Option _)=some _ from h)),(by unfold EF.C;intros;rename_i h _ _ _ _ _ _ _;cases (show (none:Option _)=some _ from h)),(by unfold IA.C;intros;rename_i h _ _ _ _ _ _ _;cases (show (none:Option _)=some _ from h)),(by unfold GB.C;intros;rename_i h _ _ _ _ _ _ _ _ _;cases (show (none:Option _)=some _ from h)),(by unfold IB.C;intros;rename_i h _ _ _ _ _ _ _;cases (show (none:Option _)=some _ from h))⟩
 | k+1=>⟨D9.C2 (k:=k) (CK.good k),EF.C2 (k:=k) (CK.good k),IA.C2 (k:=k) (CK.good k),GB.C2 (k:=k) (CK.good k),IB.C2 (k:=k) (CK.good k)⟩
def D9.f (k:Nat):=D9.g (CK.at k) k
theorem D9.ok {k:Nat}:D9.C (D9.f k):=D9.C2 (k:=k) (CK.good k)
section
variable {A:World} {ds:List Deferred} {n0:Nat} {env env':Env} {l l' X:List Ab} {q:Act→World→Prop} {P:Program} {Q:Exit→Act→World→Prop} {ops:Array Oper} {os rest:List Oper} {o:Oper} {α:Type} {R:FX α}
theorem Bkc {x0 x':α} {t:List α} {h Hn:Ab} {A':Option Addr} {c:Nat} {T T1:TypeId} {p v:Value} {s y:Operand} (ho:o.op=.store T1 s y) (hg:Cy ops env o=some true) (hd:inB n0 o.dst=true)
  (hs:Ch env s=some p) (hy:Ch env y=some v) (hsz:(P.info? T1).map (·.size)=some v.cells.size) (hp:Place A' 0 p) (hO:AK R T h (.slice A' (x0 :: t).length c) (x0 :: t)) (hx:R.own x' Hn v.cells.toList)
  (hk:∀ h',AK R T h' (.slice A' (x' :: t).length c) (x' :: t)→K ds A n0 (Bv env o.dst undef) (h' :: l) (wpList P ops Q rest)):K ds A n0 env (h :: Hn :: l) (wpList P ops Q (o :: rest)):=by
 obtain ⟨Ho,Hi,cs,rfl,hab,YY,H1,H2,c1,c2,rfl,hbc,rfl,h1,h2⟩:=hO
 refine Og hab (K.An (Og hbc (K.drop (K.An ?_))))
 obtain ⟨hl1,ho1⟩:=R.len h1
 obtain ⟨hlx,hox⟩:=R.len hx
 refine FS hg fun a w ha hw=>?_
 cases hif:P.info? T1 with
 | none=>rw [hif] at hsz;cases hsz
 | some i =>
  rw [hif] at hsz
  have hsize:i.size=v.cells.size:=As hsz
  obtain ⟨hlen,Jr,hc⟩:=YY
  rcases hc with ⟨he,h0⟩ | ⟨g,cap,cur,he,rfl,h4,h5,h6,h7⟩
  ·simp at h0
  ·cases he
   obtain ⟨b,of_,he,rfl⟩:=hp
   cases he
   have hgc:w.heap[g]? = some (.cells cur T (0,0)):=hw.sat.1 g _ (by simp [blk])
   have hge:R.sz≤cur.toList.length:=by
    have e:c1.length+c2.length≤cur.toList.length:=by
     rw [← AV,← h7,List.length_take];omega
    omega
   have hst:=run_storeCells_at P g 0 T v.cells.toList 0 cur w hgc (by rw [hlx];simpa using hge) hox
   simp only [Nat.add_zero,Nat.zero_add,List.take_zero,List.nil_append] at hst
   have hr:(Instr.storeAt T1 (.pointer (some ⟨g,0+0,none⟩)) v).run P w=.ok () (w.setRow g (v.cells.toList++cur.toList.drop v.cells.toList.length).toArray):=by
    simp [Instr.storeAt,Instr.sureAddr,storeVar,sizeOf,typeInfo,hif,hsize]
    simpa using hst
   have YZ:Own T R.sz (blk g (.cells (v.cells.toList++cur.toList.drop v.cells.toList.length).toArray T (0,0))) (.slice (some ⟨g,0,none⟩) (x' :: t).length c) (x' :: t).length (v.cells.toList++c2):=by
    refine ⟨by rw [AV,hl1] at hlen;rw [AV,hlx];exact hlen,fun u hu=>?_,.inr ⟨g,c,_,rfl,rfl,h4,h5,?_,?_⟩⟩
    ·rcases EQ.1 hu with hu | hu
     ·exact hox u hu
     ·exact Jr u (List.mem_append_right _ hu)
    ·have h6':cur.toList.length=c * R.sz:=by rw [Array.length_toList];exact h6
     rw [List.size_toArray,AV,BX,hlx,← h6']
     omega
    ·have e1:((x' :: t).length * R.sz)=R.sz+t.length * R.sz:=by rw [AI,Nat.add_mul,Nat.one_mul,Nat.add_comm]
     have e2:(x0 :: t).length * R.sz=R.sz+t.length * R.sz:=by rw [AI,Nat.add_mul,Nat.one_mul,Nat.add_comm]
     rw [e2] at h7
     show (v.cells.toList++cur.toList.drop v.cells.toList.length).take _=_
     rw [e1,← hlx,List.take_length_add_append]
     congr 1
     have h8:=congrArg (List.drop R.sz) h7
     rw [List.drop_take,Nat.add_sub_cancel_left,← hl1,List.drop_left,hl1] at h8
     rw [hlx]
     exact h8
   unfold Oper.wp execOp
   simp only [ho,ha.eval hs,ha.eval hy,Sem.run_bind,hr,Result.andThen_ok,Sem.run_pure]
   have hk':K ds A n0 (Bv env o.dst undef) (blk g (.cells (v.cells.toList++cur.toList.drop v.cells.toList.length).toArray T (0,0)) :: H2 :: Hn :: l) (wpList P ops Q rest) :=
    K.Al (K.Al (K.An (K5 fun hap=>K.An (K5 fun Bbd=>hk _ ⟨_,_,_,rfl,Bbd,YZ,Hn,H2,_,c2,rfl,hap,rfl,hx,h2⟩))))
   exact hk' _ _ (ha.Bv _ hd) (hw.setRow _)
def Abe {α:Type} (l:List α) (x:α):Option (List α):=match l with | []=>none | _ :: t=>some (x :: t)
theorem Bk3 {α:Type} {l l':List α} {x:α} (h:Abe l x=some l'):l'.length=l.length:=by
 cases l with
 | nil=>cases h
 | cons y t=>cases h;rfl
theorem Bj9 {x':α} {xs xs':List α} {h Hn:Ab} {A':Option Addr} {c:Nat} {T T1:TypeId} {p v:Value} {s y:Operand} (ho:o.op=.store T1 s y) (hg:Cy ops env o=some true) (hd:inB n0 o.dst=true)
  (hs:Ch env s=some p) (hy:Ch env y=some v) (hsz:(P.info? T1).map (·.size)=some v.cells.size) (hp:Place A' 0 p) (hO:AK R T h (.slice A' xs.length c) xs) (hx:R.own x' Hn v.cells.toList) (hset:Abe xs x'=some xs')
  (hk:∀ h',AK R T h' (.slice A' xs'.length c) xs'→K ds A n0 (Bv env o.dst undef) (h' :: l) (wpList P ops Q rest)):K ds A n0 env (h :: Hn :: l) (wpList P ops Q (o :: rest)):=by
 cases xs with
 | nil=>cases hset
 | cons x0 t=>cases hset;exact Bkc ho hg hd hs hy hsz hp hO hx hk
end
def ON.f (k:Nat) (a0:ByteArray):Option (CZ×Ae×Int×Int):=(LY.f k a0).bind fun r3=>cond (r3.2.2.2.2.2.1 != 0) (some ([],[],r3.2.2.2.2.2.1,r3.2.2.2.2.2.2)) (BG (fun (_:Unit)=>PR.elim (D9.f k ([((⟨#[]⟩:ByteArray),0,0,0,[])]) ([]) (⟨#[]⟩:ByteArray) r3.2.2.2.1 0 0 ([]) ([]) 0 ([]) r3.1 r3.2.1 r3.2.2.1 r3.2.2.2.1 r3.2.2.2.2.1 false) (fun i17=>some ([],[],i17.1,i17.2)) fun r16=>(Bh r16.1 0).bind fun x34=>(Abe r16.1 ((⟨#[]⟩:ByteArray),r3.2.2.2.1,0,r16.2.2.1,r16.2.2.2.1)).bind fun EI=>some (EI,r16.2.1,0,0)) (fun Vh=>(Ef.f k r3.1 r3.2.1 r3.2.2.1 r3.2.2.2.1 r3.2.2.2.2.1).bind fun r47=>cond (decide (r47 > 100)) (PR.elim (Hk.f k 6 r3.2.2.2.1) (fun i50=>some ([],[],i50.1,i50.2)) fun r49=>Vh ()) (Vh ())))
theorem ON.ok {k:Nat} {a0:ByteArray} {G:Ab} {r:CZ×Ae×Int×Int} (h:ON.f k a0=some r) (hG:EE G): Ct Tryz.prog 8 #[sv a0] [] [G] (fun e l1=>∃ (H0_:Ab) (A0_:Aq) (c0_:Nat) (H1_:Ab) (D1:Aq) (D3:Nat),AK FU 43 H0_ (Aa A0_ r.1 c0_) r.1∧Ah encS 9 1 H1_ (Aa D1 r.2.1 D3) r.2.1∧e=.returned (.tuple #[.agg #[Aa A0_ r.1 c0_,Aa D1 r.2.1 D3],.agg #[iv r.2.2.1,iv r.2.2.2]])∧l1=[H0_,H1_]):=by
 refine Akp (args:=[sv a0]) Tryz.func8 rfl (By rfl) ?_
 intro A X hh_
 obtain ⟨BU,_⟩:=hh_
 unfold ON.f at h
 refine ksr (knp #[nS,nS] 33 fun b1=>(knp #[iv 0,iv 0] 28 fun b2=>(Ba (kx 1 (bnd h fun r3 hr3 h=>(Bz (LY.ok hr3 hG) rfl ⟨(t2 BU),trivial⟩ ?_))))))
 rintro _ _ ⟨h4,A5,k6,o7,rfl,rfl⟩
 refine Fy (kx 3 (knp #[iv 0,sv noS,iv 0,iv 0,nS] 54 fun b8=>(AQ 0 5 #[iv r3.1,sv r3.2.1,iv r3.2.2.1,iv r3.2.2.2.1,Aa A5 r3.2.2.2.2.1 k6] (K.Al (AQ 0 2 #[iv r3.2.2.2.2.2.1,iv r3.2.2.2.2.2.2] (Ad (B8 (ksr (kx 1 (kld 0 0 rfl ?_))))))))))
 refine kx 1 (Ad ?_)
 refine AU h (fun h=>?_) fun h=>?_
 ·refine B8 (Aax (kpr [(0,0),(1,3),(2,1)] [0] (Ar 1 (GR 0 0 2 rfl (kpt (K.mv3 (ost 0 2 #[nS,nS] (Dm [1] rfl (Ca (K.An ?_))))))))))
  refine AQ 0 2 #[iv r3.2.2.2.2.2.1,iv r3.2.2.2.2.2.2] (K.Al (K.drop (K.Al (K.drop (knl (Aay (AM (C9 (DH ?_)))))))))
  obtain rfl:=As h
  exact Aru (v:=.tuple #[.agg #[nS,nS],.agg #[iv r3.2.2.2.2.2.1,iv r3.2.2.2.2.2.2]]) [.val (nS),.val (nS),.val (iv r3.2.2.2.2.2.1),.val (iv r3.2.2.2.2.2.2)] [.ld ⟨b1,0,none⟩ (nS),.ld ⟨b1,1,none⟩ (nS),.ld ⟨b2,0,none⟩ (iv r3.2.2.2.2.2.1),.ld ⟨b2,1,none⟩ (iv r3.2.2.2.2.2.2)] [none_,none_] (by kernel_rfl) (by kernel_rfl) ⟨⟨1,_,_,_,rfl,rfl,rfl⟩,⟨1,_,_,_,rfl,rfl,rfl⟩,⟨0,_,_,_,rfl,rfl,rfl⟩,⟨0,_,_,_,rfl,rfl,rfl⟩,trivial⟩ (Dl (Dl (K.Al (K.drop (K.Al (K.drop (BH ⟨none_,none,0,none_,none,0,(AK.nil FU 43 none_),(Ah.nil encS 9 1 none_),rfl,rfl⟩)))))))
 ·refine BV (AM (ksr (kx 1 (Ar0 { target:=.fn (.func 19) #[pt b1,pt b2],args:=#[] } (by kernel_rfl) (by kernel_rfl) (by kernel_rfl) (Ad ?_)))))
  obtain ⟨Vh,Bae,h⟩:=De h
  refine Df (τ:=Unit) (fun t=>[(2,pt b1),(3,pt b2),(4,pt b8)]) (fun t=>bk b2 #[iv r3.2.2.2.2.2.1,iv r3.2.2.2.2.2.2] 28 :: bk b8 #[iv r3.1,sv r3.2.1,iv r3.2.2.1,iv r3.2.2.2.1,Aa A5 r3.2.2.2.2.1 k6] 54 :: h4 :: bk b1 #[nS,nS] 33 :: X) (fun t=>Vh ()=some r) ?_ ?_
  ·rintro ⟨⟩ h
   subst Bae
   refine ksr (kx 1 (kld 1 3 rfl (kx 2 (knp #[sv noS,iv r3.2.2.2.1,iv 0,iv 0,nS,nS,iv 0,nS] 73 fun b11=>(kx 1 (knp #[nS,nS,pt b11] 75 fun b12=>(kx 1 (Ba (kx 2 (Dh #[sv noS,iv 0,iv 0,iv 0,nS] 43 1 fun b13=>?_))))))))))
   refine kx 3 (K.An (AQ 0 1 #[.slice (some ⟨b13,0,none⟩) 1 1,nS,pt b11] (Ba (kx 1 (CV 4 0 5 rfl (K.Bx (K.drop (Dl (K.Al (DP (T:=43) (n:=1) (xs:=[((⟨#[]⟩:ByteArray),0,0,0,[])]) (Cn.one (Xm (x:=((⟨#[]⟩:ByteArray),0,0,0,[])) (Ah.nil Dv 78 3 none_))) rfl rfl (By rfl) fun h14 o15=>?_))))))))))
   refine Dl (Dl (Dl (Dl (K.An (K.mv6 (K.mv3 (K.mv5 (K.mv6 ?_))))))))
   rcases W_ h with ⟨i17,Ky,h⟩ | ⟨r16,Ky,h⟩
   ·refine Bz (D9.ok Ky o15 (Ah.nil encS 9 1 none_) (Ah.nil Dv 78 3 none_) (Ah.nil encS 9 1 none_) (Bl.nil encS 1 none_) (AK.rd o7) hG) rfl ⟨(.head _),(.tail _ (.tail _ (.head _))),(t4 BU),trivial⟩ ?_
    rintro _ _ ⟨rfl,rfl⟩
    refine WA (Bf (K.drop (K.An (K.drop (K.An ?_)))))
    obtain rfl:=As h
    exact Wh (v:=.tuple #[.agg #[nS,nS],.agg #[iv i17.1,iv i17.2]]) (bk b1 #[nS,nS] 33 :: bk b2 #[iv i17.1,iv i17.2] 28 :: X) (fun _=>by kernel_rfl) (fun w_ hw_=>Akm hw_) [.val (nS),.val (nS),.val (iv i17.1),.val (iv i17.2)] [.ld ⟨b1,0,none⟩ (nS),.ld ⟨b1,1,none⟩ (nS),.ld ⟨b2,0,none⟩ (iv i17.1),.ld ⟨b2,1,none⟩ (iv i17.2)] [none_,none_] (by kernel_rfl) (by kernel_rfl) ⟨⟨0,_,_,_,rfl,rfl,rfl⟩,⟨0,_,_,_,rfl,rfl,rfl⟩,⟨1,_,_,_,rfl,rfl,rfl⟩,⟨1,_,_,_,rfl,rfl,rfl⟩,trivial⟩ fun w_ hw_=>(⟨⟨none_,none,0,none_,none,0,(AK.nil FU 43 none_),(Ah.nil encS 9 1 none_),rfl,rfl⟩,St.TY 2 hw_.tail.tail⟩)
   refine Bz (D9.ok Ky o15 (Ah.nil encS 9 1 none_) (Ah.nil Dv 78 3 none_) (Ah.nil encS 9 1 none_) (Bl.nil encS 1 none_) (AK.rd o7) hG) rfl ⟨(.head _),(.tail _ (.tail _ (.head _))),(t4 BU),trivial⟩ ?_
   rintro _ _ ⟨h18,A19,k20,h22,A23,k24,h26,A27,k28,h30,GL,k32,o21,Hc,o29,LU,rfl,rfl⟩
   refine E4 (K.mv6 (K.drop (K.mv7 (K.drop (Ad (B8 (Aax (kpr [(0,0),(1,0),(2,0),(3,0),(4,3),(5,0),(6,0),(7,0),(8,3),(9,0),(10,0),(11,3)] [0,3] (Ar 4 (AP 0 0 rfl ?_))))))))))
   refine Ar 3 (AP 0 2 rfl (Ar 2 (GR 1 0 5 rfl (Ca (bnd h fun x34 hx34 h=>(DI (T:=43) (kd:=.i64) (R:=FU) rfl hx34 (AK.rd o21) fun p35 u38 q39 e36 y37=>?_))))))
   obtain ⟨Mj,k41,rfl,R1⟩:=Bsm q39
   refine K.Bx (K.Al (bnd h fun EI Td h=>(Bj9 (v:=.agg #[sv noS,iv r3.2.2.2.1,iv 0,iv r16.2.2.1,Aa A27 r16.2.2.2.1 k28]) (x':=((⟨#[]⟩:ByteArray),r3.2.2.2.1,0,r16.2.2.1,r16.2.2.2.1)) rfl (by kernel_rfl) (by kernel_rfl) (by kernel_rfl) (by kernel_rfl) (by kernel_rfl) y37 o21 (Xm (x:=((⟨#[]⟩:ByteArray),r3.2.2.2.1,0,r16.2.2.1,r16.2.2.2.1)) o29) Td fun h44 LV=>?_)))
   have g46:=Bk3 Td
   refine K.weak (env':=[(2,pt b1),(3,pt b2),(5,pt b12),(50,.agg #[sv noS,iv r3.2.2.2.1,iv 0,iv r16.2.2.1,Aa A27 r16.2.2.2.1 k28])]) ?_ ⟨gr,gr,gr,(by first | rfl | (unfold Aa;rw [g46];rfl)),trivial⟩
   refine K.eq (l':=h44 :: bk b12 #[Aa A19 EI k20,Aa A23 r16.2.1 k24,pt b11] 75 :: h22 :: bk b11 #[sv noS,iv r3.2.2.2.1,iv 0,iv r16.2.2.1,Aa A27 r16.2.2.2.1 k28,Aa GL r16.2.2.2.2.1 k32,iv r16.2.2.2.2.2,nS] 73 :: h30 :: bk b2 #[iv r3.2.2.2.2.2.1,iv r3.2.2.2.2.2.2] 28 :: bk b1 #[nS,nS] 33 :: X) rfl (by first | rfl | (unfold Aa;rw [g46];first | done | rfl)) (knl (Aay (AM (ksr (kx 3 (CV 1 0 2 rfl (K.An (K.drop (K.Al (K.drop ?_))))))))))
   refine K.Al (K.drop (kx 1 (K.mv3 (AQ 0 2 #[Aa A19 EI k20,Aa A23 r16.2.1 k24] (K.mv3 (AQ 0 2 #[iv 0,iv 0] (Ad (C9 ?_))))))))
   obtain rfl:=As h
   exact Art (fun _=>by kernel_rfl) (A4b (pt b1) (pt b2)) (v:=.tuple #[.agg #[Aa A19 EI k20,Aa A23 r16.2.1 k24],.agg #[iv 0,iv 0]]) [.val (Aa A19 EI k20),.val (Aa A23 r16.2.1 k24),.val (iv 0),.val (iv 0)] [.ld ⟨b1,0,none⟩ (Aa A19 EI k20),.ld ⟨b1,1,none⟩ (Aa A23 r16.2.1 k24),.ld ⟨b2,0,none⟩ (iv 0),.ld ⟨b2,1,none⟩ (iv 0)] [h44,h22] (by kernel_rfl) (by kernel_rfl) ⟨⟨1,_,_,_,rfl,rfl,rfl⟩,⟨1,_,_,_,rfl,rfl,rfl⟩,⟨0,_,_,_,rfl,rfl,rfl⟩,⟨0,_,_,_,rfl,rfl,rfl⟩,trivial⟩ (K.drop (K.drop (Arv ⟨h44,A19,k20,h22,A23,k24,LV,Hc,rfl,rfl⟩)))
  ·skip
   refine ksr (CV 1 0 5 rfl (bnd h fun r47 hr47 h=>(G2 (Ef.ok hr47 (AK.rd o7)) ⟨(.tail _ (.tail _ (.head _))),trivial⟩ (kx 1 (Ad ?_)))))
   refine AU h (fun h=>?_) fun h=>?_
   ·refine Bu (kx 1 (kld 1 3 rfl ?_))
    rcases W_ h with ⟨i50,ZA,h⟩ | ⟨r49,ZA,h⟩
    ·refine Bz (Hk.ok ZA) rfl trivial ?_
     rintro _ _ ⟨rfl,rfl⟩
     refine WA (Bf (K.An (K.drop (K.An (K.drop (K.An ?_))))))
     obtain rfl:=As h
     exact Wh (v:=.tuple #[.agg #[nS,nS],.agg #[iv i50.1,iv i50.2]]) (bk b1 #[nS,nS] 33 :: bk b2 #[iv i50.1,iv i50.2] 28 :: X) (fun _=>by kernel_rfl) (fun w_ hw_=>Akm hw_) [.val (nS),.val (nS),.val (iv i50.1),.val (iv i50.2)] [.ld ⟨b1,0,none⟩ (nS),.ld ⟨b1,1,none⟩ (nS),.ld ⟨b2,0,none⟩ (iv i50.1),.ld ⟨b2,1,none⟩ (iv i50.2)] [none_,none_] (by kernel_rfl) (by kernel_rfl) ⟨⟨0,_,_,_,rfl,rfl,rfl⟩,⟨0,_,_,_,rfl,rfl,rfl⟩,⟨1,_,_,_,rfl,rfl,rfl⟩,⟨1,_,_,_,rfl,rfl,rfl⟩,trivial⟩ fun w_ hw_=>(⟨⟨none_,none,0,none_,none,0,(AK.nil FU 43 none_),(Ah.nil encS 9 1 none_),rfl,rfl⟩,St.TY 2 hw_.tail.tail⟩)
    refine Bz (Hk.ok ZA) rfl trivial ?_
    rintro _ _ ⟨rfl,rfl⟩
    exact Hb (Ad (B4 () h sb rfl))
   ·exact BV (AM (B4 () h sb rfl))
end
section
open Go Go.RowKit Lx
theorem wiC (x:Int) (h0:-9223372036854775808≤x) (h1:x≤9223372036854775807):IntKind.i64.wrap x=x:=by unfold IntKind.wrap;simp [IntKind.bits,IntKind.signed];omega
theorem Aa9 {α:Type} {l:List α} {i:Nat} (h:i < l.length):Bh l (i:Int)=some l[i]:=by
 unfold Bh
 rw [if_pos (by omega),Int.toNat_natCast,List.getElem?_eq_getElem h]
def KH (X:Bs):List Bs→Int→Int
 | [],_=>-1
 | y :: l,i=>if X == y then i else KH X l (i+1)
theorem Ao9 (L:List ByteArray) (hL:L.length≤1000) (s:ByteArray):∀ (d i k:Nat),L.length - i≤d→i≤L.length→d < k →
  Fe.l0 k L s (fun _=>some (-1)) (i:Int)=some (KH s.toList ((L.drop i).map (·.toList)) i)
 | d,i,k,hd,hi,hk=>by
  obtain ⟨k,rfl⟩:∃ m,k=m+1:=⟨k - 1,by omega⟩
  simp only [Fe.l0]
  rcases Nat.lt_or_ge i L.length with h | h
  ·obtain ⟨d,rfl⟩:∃ m,d=m+1:=⟨d - 1,by omega⟩
   rw [decide_eq_true (p:=(i:Int) < L.length) (by omega),Aa9 h,wiC ((i:Int)+1) (by omega) (by omega),show (i:Int)+1=((i+1:Nat):Int) by omega,List.drop_eq_getElem_cons h,List.map_cons]
   simp only [cond_true,Aj]
   unfold KH
   cases hq:s.toList == L[i].toList with
   | true=>rfl
   | false =>
    rw [cond_false,Ao9 L hL s d (i+1) k (by omega) (by omega) (by omega)]
    rfl
  ·rw [decide_eq_false (p:=(i:Int) < L.length) (by omega),List.drop_of_length_le h]
   rfl
def Xk:Ae:=[(⟨#[112,114,105,110,116]⟩:ByteArray),(⟨#[116,121,112,101]⟩:ByteArray),(⟨#[116,111,115,116,114,105,110,103]⟩:ByteArray),(⟨#[116,111,110,117,109,98,101,114]⟩:ByteArray),(⟨#[110,101,120,116]⟩:ByteArray),(⟨#[112,97,105,114,115]⟩:ByteArray),(⟨#[105,112,97,105,114,115]⟩:ByteArray),(⟨#[114,97,119,108,101,110]⟩:ByteArray),(⟨#[115,116,97,116,115]⟩:ByteArray),(⟨#[112,114,111,98,101,115]⟩:ByteArray),(⟨#[]⟩:ByteArray),(⟨#[116,97,98,108,101,46,105,110,115,101,114,116]⟩:ByteArray),(⟨#[116,97,98,108,101,46,114,101,109,111,118,101]⟩:ByteArray),(⟨#[116,97,98,108,101,46,99,111,110,99,97,116]⟩:ByteArray),(⟨#[116,97,98,108,101,46,117,110,112,97,99,107]⟩:ByteArray),(⟨#[116,97,98,108,101,46,109,111,118,101]⟩:ByteArray),(⟨#[116,97,98,108,101,46,115,111,114,116]⟩:ByteArray),(⟨#[117,116,102,56,46,108,101,110]⟩:ByteArray),(⟨#[117,116,102,56,46,99,104,97,114]⟩:ByteArray),(⟨#[117,116,102,56,46,99,111,100,101,112,111,105,110,116]⟩:ByteArray),(⟨#[117,116,102,56,46,111,102,102,115,101,116]⟩:ByteArray),(⟨#[117,116,102,56,46,99,111,100,101,115]⟩:ByteArray)]
def Xc:List Bs:=Lib.fields (⟨#[112,114,105,110,116,32,116,121,112,101,32,116,111,115,116,114,105,110,103,32,116,111,110,117,109,98,101,114,32,110,101,120,116,32,112,97,105,114,115,32,105,112,97,105,114,115,32,114,97,119,108,101,110,32,115,116,97,116,115,32,112,114,111,98,101,115,32,45,32,116,97,98,108,101,46,105,110,115,101,114,116,32,116,97,98,108,101,46,114,101,109,111,118,101,32,116,97,98,108,101,46,99,111,110,99,97,116,32,116,97,98,108,101,46,117,110,112,97,99,107,32,116,97,98,108,101,46,109,111,118,101,32,116,97,98,108,101,46,115,111,114,116,32,117,116,102,56,46,108,101,110,32,117,116,102,56,46,99,104,97,114,32,117,116,102,56,46,99,111,100,101,112,111,105,110,116,32,117,116,102,56,46,111,102,102,115,101,116,32,117,116,102,56,46,99,111,100,101,115,32,45]⟩:ByteArray).data.toList
def UO (X:Bs):List Bs→Int→Int
 | [],_=>0
 | y :: l,i=>if (!(X == [])) && y == X then i+1 else UO X l (i+1)
theorem Ay3 (X:Bs):∀ (l:List Bs) (i:Int),X ∉ l→KH X l i=-1
 | [],_,_=>rfl
 | y :: l,i,h=>by
  unfold KH
  rw [if_neg (by simp only [beq_iff_eq];rintro rfl;exact h (CB ..))]
  exact Ay3 X l _ fun h'=>h (Db _ h')
theorem Ay5 (X:Bs):∀ (l:List Bs) (i:Int),X ∉ l→UO X l i=0
 | [],_,_=>rfl
 | y :: l,i,h=>by
  unfold UO
  rw [if_neg (by simp only [Bool.and_eq_true,beq_iff_eq];rintro ⟨_,rfl⟩;exact h (CB ..))]
  exact Ay5 X l _ fun h'=>h (Db _ h')
def Jv (X:Bs):Int:=if X == [45] then 0 else KH X Xc 0+1
theorem Blp (X:Bs):Jv X=UO X (Xk.map (·.toList)) 0∧0≤Jv X∧Jv X≤22:=by
 by_cases h:X ∈ [45] :: (Xc++Xk.map (·.toList))
 ·revert h
  have key:∀ x ∈ [45] :: (Xc++Xk.map (·.toList)),Jv x=UO x (Xk.map (·.toList)) 0∧0≤Jv x∧Jv x≤22:=by decide +kernel
  exact key X
 ·simp only [List.mem_cons,EQ,not_or] at h
  obtain ⟨h1,h2,h3⟩:=h
  have e:Jv X=0:=by
   unfold Jv
   rw [if_neg (by simpa using h1),Ay3 X _ _ h2]
   rfl
  rw [e,Ay5 X _ _ h3]
  decide
def Xb:Ae:=(Lib.fields (⟨#[112,114,105,110,116,32,116,121,112,101,32,116,111,115,116,114,105,110,103,32,116,111,110,117,109,98,101,114,32,110,101,120,116,32,112,97,105,114,115,32,105,112,97,105,114,115,32,114,97,119,108,101,110,32,115,116,97,116,115,32,112,114,111,98,101,115,32,45,32,116,97,98,108,101,46,105,110,115,101,114,116,32,116,97,98,108,101,46,114,101,109,111,118,101,32,116,97,98,108,101,46,99,111,110,99,97,116,32,116,97,98,108,101,46,117,110,112,97,99,107,32,116,97,98,108,101,46,109,111,118,101,32,116,97,98,108,101,46,115,111,114,116,32,117,116,102,56,46,108,101,110,32,117,116,102,56,46,99,104,97,114,32,117,116,102,56,46,99,111,100,101,112,111,105,110,116,32,117,116,102,56,46,111,102,102,115,101,116,32,117,116,102,56,46,99,111,100,101,115,32,45]⟩:ByteArray).data.toList).map fun l=>⟨l.toArray⟩
theorem A7t (k:Nat):strings_Fields.f k (⟨#[112,114,105,110,116,32,116,121,112,101,32,116,111,115,116,114,105,110,103,32,116,111,110,117,109,98,101,114,32,110,101,120,116,32,112,97,105,114,115,32,105,112,97,105,114,115,32,114,97,119,108,101,110,32,115,116,97,116,115,32,112,114,111,98,101,115,32,45,32,116,97,98,108,101,46,105,110,115,101,114,116,32,116,97,98,108,101,46,114,101,109,111,118,101,32,116,97,98,108,101,46,99,111,110,99,97,116,32,116,97,98,108,101,46,117,110,112,97,99,107,32,116,97,98,108,101,46,109,111,118,101,32,116,97,98,108,101,46,115,111,114,116,32,117,116,102,56,46,108,101,110,32,117,116,102,56,46,99,104,97,114,32,117,116,102,56,46,99,111,100,101,112,111,105,110,116,32,117,116,102,56,46,111,102,102,115,101,116,32,117,116,102,56,46,99,111,100,101,115,32,45]⟩:ByteArray)=some Xb:=by
 have h:(decide ((⟨#[112,114,105,110,116,32,116,121,112,101,32,116,111,115,116,114,105,110,103,32,116,111,110,117,109,98,101,114,32,110,101,120,116,32,112,97,105,114,115,32,105,112,97,105,114,115,32,114,97,119,108,101,110,32,115,116,97,116,115,32,112,114,111,98,101,115,32,45,32,116,97,98,108,101,46,105,110,115,101,114,116,32,116,97,98,108,101,46,114,101,109,111,118,101,32,116,97,98,108,101,46,99,111,110,99,97,116,32,116,97,98,108,101,46,117,110,112,97,99,107,32,116,97,98,108,101,46,109,111,118,101,32,116,97,98,108,101,46,115,111,114,116,32,117,116,102,56,46,108,101,110,32,117,116,102,56,46,99,104,97,114,32,117,116,102,56,46,99,111,100,101,112,111,105,110,116,32,117,116,102,56,46,111,102,102,115,101,116,32,117,116,102,56,46,99,111,100,101,115,32,45]⟩:ByteArray).size < 4294967281∧(Lib.fields (⟨#[112,114,105,110,116,32,116,121,112,101,32,116,111,115,116,114,105,110,103,32,116,111,110,117,109,98,101,114,32,110,101,120,116,32,112,97,105,114,115,32,105,112,97,105,114,115,32,114,97,119,108,101,110,32,115,116,97,116,115,32,112,114,111,98,101,115,32,45,32,116,97,98,108,101,46,105,110,115,101,114,116,32,116,97,98,108,101,46,114,101,109,111,118,101,32,116,97,98,108,101,46,99,111,110,99,97,116,32,116,97,98,108,101,46,117,110,112,97,99,107,32,116,97,98,108,101,46,109,111,118,101,32,116,97,98,108,101,46,115,111,114,116,32,117,116,102,56,46,108,101,110,32,117,116,102,56,46,99,104,97,114,32,117,116,102,56,46,99,111,100,101,112,111,105,110,116,32,117,116,102,56,46,111,102,102,115,101,116,32,117,116,102,56,46,99,111,100,101,115,32,45]⟩:ByteArray).data.toList).length≤1000000) && (⟨#[112,114,105,110,116,32,116,121,112,101,32,116,111,115,116,114,105,110,103,32,116,111,110,117,109,98,101,114,32,110,101,120,116,32,112,97,105,114,115,32,105,112,97,105,114,115,32,114,97,119,108,101,110,32,115,116,97,116,115,32,112,114,111,98,101,115,32,45,32,116,97,98,108,101,46,105,110,115,101,114,116,32,116,97,98,108,101,46,114,101,109,111,118,101,32,116,97,98,108,101,46,99,111,110,99,97,116,32,116,97,98,108,101,46,117,110,112,97,99,107,32,116,97,98,108,101,46,109,111,118,101,32,116,97,98,108,101,46,115,111,114,116,32,117,116,102,56,46,108,101,110,32,117,116,102,56,46,99,104,97,114,32,117,116,102,56,46,99,111,100,101,112,111,105,110,116,32,117,116,102,56,46,111,102,102,115,101,116,32,117,116,102,56,46,99,111,100,101,115,32,45]⟩:ByteArray).data.toList.all fun b=>decide (b.toNat < 128))=true:=by decide +kernel
 unfold strings_Fields.f
 rw [h]
 rfl
theorem Bq8:Xb.length=23:=by decide +kernel
theorem Brb:Xb.map (·.toList)=Xc:=by decide +kernel
theorem As6 (k:Nat) (hk:30≤k) (a0:ByteArray):MZ.f k a0=some (Jv a0.toList):=by
 have h1:=A7t k
 obtain ⟨L,hL⟩:∃ L,L=Xb:=⟨_,rfl⟩
 have h2:=Bq8
 have h3:=Brb
 rw [← hL] at h1 h2 h3
 have hd:(⟨#[45]⟩:ByteArray).toList=[45]:=by kernel_rfl
 unfold MZ.f
 rw [hd,h1]
 unfold Jv
 cases hq:a0.toList == [45] with
 | true=>rfl
 | false =>
  simp only [cond_false,Aj,Bool.false_eq_true,if_false]
  unfold Fe.f BG
  have hl:=Ao9 L (by omega) a0 L.length 0 k (by omega) (by omega) (by omega)
  rw [List.drop_zero,h3,Int.ofNat_zero] at hl
  change ((Fe.l0 k L a0 (fun _=>some (-1)) 0).bind _)=_
  rw [hl]
  have hb:=(Blp a0.toList).2
  unfold Jv at hb
  rw [hq] at hb
  simp only [Bool.false_eq_true,if_false] at hb
  simp only [Aj]
  rw [wiC _ (by omega) (by omega)]
theorem DW {α:Type} (pre:List α) (x:α) (t:List α):Bh (pre++x :: t) (pre.length:Int)=some x:=by
 unfold Bh
 rw [if_pos (by omega)]
 simp
theorem Ir {a b:Int} (h:a < b):decide (a < b)=true:=decide_eq_true h
theorem ltF {a b:Int} (h:¬ a < b):decide (a < b)=false:=decide_eq_false h
abbrev V3:=Int×Int×ByteArray
abbrev Km:=ByteArray×Int×Int×Int×List V3
abbrev CT:=List Km×List ByteArray×Int×List V3×List ByteArray×Int
structure BF where
 fs:List Km
 gl:List ByteArray
 sl:Int
 cs:List V3
 lo:List ByteArray
 lp:Int
def BF.IX (s:BF):CT:=(s.fs,s.gl,s.sl,s.cs,s.lo,s.lp)
abbrev PC (α:Type):=PR α (Int×Int)
def PR.th {α β ε:Type} (x:PR α ε) (f:α→PR β ε):PR β ε:=match x with | .ok a=>f a | .bad e=>.bad e
def PR.mp {α β ε:Type} (f:α→β) (x:PR α ε):PR β ε:=match x with | .ok a=>.ok (f a) | .bad e=>.bad e
def Nd (l:List ByteArray) (a:ByteArray):Bool:=l.any fun x=>a.toList == x.toList
def Ob (l:List V3) (v:V3):Bool:=l.any fun x=>(v.1 == x.1) && ((v.2.1 == x.2.1) && ((v.2.2.toList == x.2.2.toList) && true))
abbrev Yd:ByteArray:=⟨#[116,97,98,108,101]⟩
abbrev A2l:ByteArray:=⟨#[117,116,102,56]⟩
abbrev SC:ByteArray:=⟨#[46]⟩
def Jg (t:ByteArray):Bool:=t.toList == Yd.toList || t.toList == A2l.toList
def Ga (a:Int) (count most:Int):PC Unit:=if count > most then .bad (6,a) else .ok ()
def NQ (gl:List ByteArray) (t:ByteArray):List ByteArray:=if Nd gl t then gl else gl++[t]
def KR (a:Int) (cs:List V3) (v:V3):PC (List V3):=if Ob cs v then .ok cs else (Ga a (cs.length+1:Nat) 250).th fun _=>.ok (cs++[v])
def Mz (a:Int) (t:ByteArray) (gl lo ab:List ByteArray):PC (List ByteArray) :=
 if Jg t then .bad (5,a) else if Nd lo t then .ok gl else if Nd ab t then .bad (5,a) else .ok (NQ gl t)
def K7:List ByteArray→List Tree→PC (List ByteArray)
 | lo,[]=>.ok lo
 | lo,x :: l=>if Jg x.text then .bad (5,x.at_) else K7 (lo++[x.text]) l
def JG (a:Int) (sl:Int) (lo:List ByteArray) (l:List Tree):PC (Int×List ByteArray) :=
 (K7 lo l).th fun lo=>(Ga a (lo.length:Nat) 60).th fun _=>.ok (if ((lo.length:Nat):Int) > sl then ((lo.length:Nat):Int) else sl,lo)
def DL (f:BF→Tree→PC BF):BF→List Tree→PC BF
 | s,[]=>.ok s
 | s,x :: l=>(f s x).th fun s=>DL f s l
def Jo (f:BF→Tree→Bool→PC BF) (n:Int):Nat→BF→List Tree→PC BF
 | _,s,[]=>.ok s
 | i,s,x :: l=>(f s x (decide ((i:Int) < n))).th fun s=>Jo f n (i+1) s l
def tNo:Tree:=.mk 0 ⟨#[]⟩ 0 0 []
def BN (l:List Tree) (i:Nat):Tree:=(l[i]?).getD tNo
def IH (f:BF→Tree→PC BF) (a:Int) (s:BF) (names:List Tree) (b:Tree) (more:Nat):PC BF :=
 (if more > 0 then JG a s.sl (s.lo++List.replicate more ⟨#[]⟩) names else .ok (s.sl,s.lo)).th fun r =>
  (f { s with sl:=r.1,lo:=r.2,lp:=s.lp+1 } b).th fun s'=>.ok { s' with lo:=s'.lo.take s.lo.length,lp:=s'.lp - 1 }
def SD (tg:Bool) (x y:Tree):Bool:=tg || (y.kind != 5 || Jv (x.text++SC++y.text).toList == 0)
def Kw (f:BF→List Tree→PC BF) (ab:List ByteArray) (s:BF) (k:Int) (t:ByteArray) (n a:Int) (l:List Tree) (tg:Bool):PC BF :=
 if k=8 then (Ga a ((l.length:Nat) - 1:Int) 50).th fun _=>f s l
 else if k=30 then (Ga a (l.length:Nat) 50).th fun _=>f s l
 else if k=12 then (Ga a (l.length:Nat) 200).th fun _=>f s l
 else if k=4 then (KR a s.cs (2,n,⟨#[]⟩)).th fun cs=>f { s with cs:=cs } l
 else if k=5 then (KR a s.cs (3,0,t)).th fun cs=>f { s with cs:=cs } l
 else if k=6 then (Mz a t s.gl s.lo ab).th fun gl=>f { s with gl:=gl } l
 else if k=7∧(BN l 0).kind=6∧Jg (BN l 0).text=true then
  if SD tg (BN l 0) (BN l 1) then .bad (5,a) else .ok s
 else f s l
def Cm:Nat→List ByteArray→BF→Tree→Bool→PC BF
 | 0,_,_,_,_=>.bad (0,0)
 | d+1,ab,s,.mk k t n a l,tg =>
  if k=20 then (DL (fun s x=>Cm d ab s x false) s l).th fun s'=>.ok { s' with lo:=s'.lo.take s.lo.length }
  else if k=31 then
   (Ga a (s.fs.length:Nat) 100).th fun _=>if Jg t then .bad (5,a) else
    (Ga a n 50).th fun _=>(JG a 0 [] (l.take n.toNat)).th fun r =>
     (Cm d s.lo ⟨s.fs,NQ s.gl t,r.1,[],r.2,0⟩ (BN l n.toNat) false).th fun s' =>
      .ok { s with fs:=s'.fs++[(t,a,n,s'.sl,s'.cs)],gl:=s'.gl }
  else if k=21 then
   (Ga a n 50).th fun _=>(Ga a (l.length - n) 50).th fun _=>(DL (fun s x=>Cm d ab s x false) s (l.drop n.toNat)).th fun s =>
    (JG a s.sl s.lo (l.take n.toNat)).th fun r=>.ok { s with sl:=r.1,lo:=r.2 }
  else if k=22 then
   (Ga a n 50).th fun _=>(Ga a (l.length - n) 50).th fun _=>Jo (fun s x b=>Cm d ab s x b) n 0 s l
  else if k=25 then (Cm d ab s (BN l 0) false).th fun s=>IH (fun s x=>Cm d ab s x false) a s [] (BN l 1) 0
  else if k=26 then (DL (fun s x=>Cm d ab s x false) s ((l.drop 1).take (l.length - 2))).th fun s=>IH (fun s x=>Cm d ab s x false) a s (l.take 1) (BN l (l.length - 1)) 3
  else if k=27 then
   (Ga a n 50).th fun _=>(Ga a (l.length - 1 - n) 50).th fun _=>(DL (fun s x=>Cm d ab s x false) s ((l.drop n.toNat).take (l.length - 1 - n.toNat))).th fun s =>
    IH (fun s x=>Cm d ab s x false) a s (l.take n.toNat) (BN l (l.length - 1)) 3
  else if k=29 then if s.lp=0 then .bad (5,a) else .ok s
  else Kw (fun s l=>DL (fun s x=>Cm d ab s x false) s l) ab s k t n a l tg
theorem Ajq {α β ε:Type} (x:PR α ε) (f:α→PR β ε) (F:α→Option (PR β ε)) (h:∀ a,x=.ok a→F a=some (f a)):PR.bind (some x) F=some (x.th f):=by
 cases x with
 | ok a=>exact h a rfl
 | bad e=>rfl
theorem QE (k:Nat) (a0:Int) (a1:ByteArray) (a2 a3:Int) (a4:List Tree) (c m:Int):Fm.f k a0 a1 a2 a3 a4 c m=some (Ga a3 c m):=by
 unfold Fm.f Ga
 by_cases h:c > m
 ·rw [decide_eq_true h,if_pos h];rfl
 ·rw [decide_eq_false h,if_neg h];rfl
theorem Wl (k:Nat) (t:ByteArray):Ks.f k t=some (Jg t):=by
 unfold Ks.f Jg
 cases t.toList == Yd.toList <;> rfl
theorem Ao6:∀ (t pre:List ByteArray) (a:ByteArray) (m:Nat),pre.length+t.length≤1000000→t.length+1≤m →
  ∃ v,Fe.l0 m (pre++t) a (fun _=>some (-1)) (pre.length:Int)=some v∧decide (v ≥ 0)=Nd t a
 | [],pre,a,m,hl,hm=>by
  obtain ⟨m,rfl⟩:∃ m',m=m'+1:=⟨m - 1,by omega⟩
  simp only [Fe.l0]
  rw [ltF (by simp)]
  exact ⟨-1,rfl,rfl⟩
 | x :: t,pre,a,m,hl,hm=>by
  obtain ⟨m,rfl⟩:∃ m',m=m'+1:=⟨m - 1,by omega⟩
  simp only [AI] at hl hm
  simp only [Fe.l0]
  rw [Ir (by simp;omega),DW]
  simp only [cond_true,Aj]
  unfold Nd
  rw [List.any_cons]
  cases hq:a.toList == x.toList with
  | true=>exact ⟨_,rfl,decide_eq_true (by omega)⟩
  | false =>
   rw [cond_false,Bool.false_or,wiC _ (by omega) (by omega)]
   have ih:=Ao6 t (pre++[x]) a m (by simp;omega) (by omega)
   rw [Ck,AV] at ih
   exact ih
theorem containsS (k:Nat) (l:List ByteArray) (a:ByteArray) (hl:l.length≤1000000) (hk:l.length+1≤k):Mf.f k l a=some (Nd l a):=by
 unfold Mf.f Fe.f BG
 obtain ⟨v,hv,hd⟩:=Ao6 l [] a k (by simpa using hl) hk
 have hv:Fe.l0 k l a (fun _=>some (-1)) (0:Int)=some v:=hv
 simp only [hv,Aj,hd]
theorem Ao8:∀ (t pre:List V3) (a0 a1:Int) (a2:ByteArray) (m:Nat),pre.length+t.length≤1000000→t.length+1≤m →
  ∃ v,GH.l0 m (pre++t) a0 a1 a2 (fun _=>some (-1)) (pre.length:Int)=some v∧decide (v ≥ 0)=Ob t (a0,a1,a2)
 | [],pre,a0,a1,a2,m,hl,hm=>by
  obtain ⟨m,rfl⟩:∃ m',m=m'+1:=⟨m - 1,by omega⟩
  simp only [GH.l0]
  rw [ltF (by simp)]
  exact ⟨-1,rfl,rfl⟩
 | x :: t,pre,a0,a1,a2,m,hl,hm=>by
  obtain ⟨m,rfl⟩:∃ m',m=m'+1:=⟨m - 1,by omega⟩
  simp only [AI] at hl hm
  simp only [GH.l0]
  rw [Ir (by simp;omega),DW]
  simp only [cond_true,Aj]
  unfold Ob
  rw [List.any_cons]
  simp only
  cases hq:(a0 == x.1) && ((a1 == x.2.1) && ((a2.toList == x.2.2.toList) && true)) with
  | true=>exact ⟨_,rfl,decide_eq_true (by omega)⟩
  | false =>
   rw [cond_false,Bool.false_or,wiC _ (by omega) (by omega)]
   have ih:=Ao8 t (pre++[x]) a0 a1 a2 m (by simp;omega) (by omega)
   rw [Ck,AV] at ih
   exact ih
theorem A4k (k:Nat) (l:List V3) (a0 a1:Int) (a2:ByteArray) (hl:l.length≤1000000) (hk:l.length+1≤k):Qb.f k l a0 a1 a2=some (Ob l (a0,a1,a2)):=by
 unfold Qb.f GH.f BG
 obtain ⟨v,hv,hd⟩:=Ao8 l [] a0 a1 a2 k (by simpa using hl) hk
 have hv:GH.l0 k l a0 a1 a2 (fun _=>some (-1)) (0:Int)=some v:=hv
 simp only [hv,Aj,hd]
theorem KP {α:Type} {b:Nat} {l ys:List α} (h:(l.length+ys.length) * b≤140737488355328):apd b l ys=some (l++ys):=by
 unfold apd
 rw [decide_eq_true h]
 rfl
section
variable {k:Nat} {f0:List Km} {gl:List ByteArray} {nm:ByteArray} {at_ pc sl:Int} {cs:List V3} {lo:List ByteArray} {lp:Int} {ab:List ByteArray}
theorem Aml (t:ByteArray) (hg:gl.length≤400000) (hk:500000≤k):Na.f k f0 gl nm at_ pc sl cs lo lp ab t=some (NQ gl t):=by
 unfold Na.f NQ
 rw [containsS k gl t (by omega) (by omega)]
 simp only [Aj]
 cases Nd gl t with
 | true=>rfl
 | false =>
  rw [KP (by simp;omega)]
  rfl
theorem Bl7 (x0:Int) (t:ByteArray) (x2 a:Int) (x4:List Tree) (hg:gl.length≤400000) (ho:lo.length≤400000) (ha:ab.length≤400000) (hk:500000≤k) :
  OO.f k f0 gl nm at_ pc sl cs lo lp ab x0 t x2 a x4=some (Mz a t gl lo ab):=by
 unfold OO.f Mz
 rw [Wl,containsS k lo t (by omega) (by omega),containsS k ab t (by omega) (by omega),Aml t hg hk]
 simp only [Aj]
 cases Jg t with
 | true=>rfl
 | false =>
  cases Nd lo t with
  | true=>rfl
  | false=>cases Nd ab t <;> rfl
theorem const_eq (x0:Int) (x1:ByteArray) (x2 a:Int) (x4:List Tree) (v0 v1:Int) (v2:ByteArray) (hc:cs.length≤400000) (hk:500000≤k) :
  M_.f k f0 gl nm at_ pc sl cs lo lp ab x0 x1 x2 a x4 v0 v1 v2=some (KR a cs (v0,v1,v2)):=by
 unfold M_.f KR
 rw [A4k k cs v0 v1 v2 (by omega) (by omega)]
 simp only [Aj]
 cases Ob cs (v0,v1,v2) with
 | true=>rfl
 | false =>
  simp only [Bool.not_false,cond_true,Bool.false_eq_true,if_false]
  rw [QE,wiC _ (by omega) (by omega)]
  refine Ajq _ _ _ fun u _=>?_
  rw [KP (by simp;omega)]
  rfl
theorem Akb:∀ (t pre:List Tree) (lo:Ae) (m:Nat) (J:Ae→Option (PC (Int×Ae))) (j:Ae→PC (Int×Ae)),pre.length+t.length≤400000→lo.length+t.length≤900000→t.length+1≤m →
  (∀ lo',K7 lo t=.ok lo'→J lo'=some (j lo'))→Hj.l0 m (pre++t) J (pre.length:Int) lo=some ((K7 lo t).th j)
 | [],pre,lo,m,J,j,hl,ho,hm,hJ=>by
  obtain ⟨m,rfl⟩:∃ m',m=m'+1:=⟨m - 1,by omega⟩
  simp only [Hj.l0]
  rw [ltF (by simp)]
  exact hJ lo rfl
 | x :: t,pre,lo,m,J,j,hl,ho,hm,hJ=>by
  obtain ⟨m,rfl⟩:∃ m',m=m'+1:=⟨m - 1,by omega⟩
  simp only [AI] at hl ho hm
  simp only [Hj.l0]
  rw [Ir (by simp;omega),DW]
  simp only [cond_true,Aj,BG,Wl]
  unfold K7
  cases hq:Jg x.text with
  | true=>rfl
  | false =>
   simp only [cond_false,Bool.false_eq_true,if_false]
   rw [KP (by simp;omega),wiC _ (by omega) (by omega)]
   have ih:=Akb t (pre++[x]) (lo++[x.text]) m J j (by simp;omega) (by simp;omega) (by omega) fun lo' h=>hJ lo' (by unfold K7;rw [hq];exact h)
   rw [Ck,AV] at ih
   exact ih
theorem Yr (x0:Int) (x1:ByteArray) (x2 a:Int) (x4:List Tree) (l:List Tree) (hl:l.length≤400000) (ho:lo.length≤400000) (hk:500000≤k) :
  Hj.f k f0 gl nm at_ pc sl cs lo lp ab x0 x1 x2 a x4 l=some (JG a sl lo l):=by
 unfold Hj.f BG JG
 refine Akb l [] lo k _ _ (by simpa using hl) (by omega) (by omega) fun lo' _=>?_
 rw [QE]
 exact Ajq _ _ _ fun _ _=>rfl
end
def A8v (k n:Int) (t:ByteArray) (l:List Tree):Prop :=
 t.size≤30000∧(k=7→l.length=2)∧(k=25→l.length=2)∧(k=26→4≤l.length)∧(k=21∨k=22→∃ m:Nat,n=m∧m≤l.length)∧(k=27→∃ m:Nat,n=m∧m+1≤l.length)∧(k=31→∃ m:Nat,n=m∧l.length=m+1)
mutual
def gw:Tree→Prop
 | .mk k t n _ l=>A8v k n t l∧EH l
def EH:List Tree→Prop
 | []=>True
 | x :: l=>gw x∧EH l
end
theorem QG:∀ {l:List Tree},EH l ↔ ∀ x ∈ l,gw x
 | []=>by simp [EH]
 | x :: l=>by simp [EH,QG (l:=l)]
mutual
theorem X3:∀ {t:Tree},wfT t→gw t
 | .mk k t n a l,⟨⟨h1,h2,h3,h4,h5,h6,h7⟩,hl⟩=>⟨⟨h1,h3,h4,h5,h6,h7,fun h=>absurd h h2⟩,Agw hl⟩
theorem Agw:∀ {l:List Tree},H8 l→EH l
 | [],_=>trivial
 | _ :: _,h=>⟨X3 h.1,Agw h.2⟩
end
theorem A7x {t:Tree} (h:fnT t):gw t:=by
 cases t with
 | mk k t n a l =>
  obtain ⟨h1,h2,h3,h4⟩:=h
  subst h2
  exact ⟨⟨h1,nx rfl,nx rfl,nx rfl,nx rfl,nx rfl,fun _=>h3⟩,Agw h4⟩
theorem G5 (t:Tree):1≤sz t:=by cases t;simp only [sz];omega
theorem FJ {x:Tree}:∀ {l:List Tree},x ∈ l→sz x≤Au l
 | y :: l,h=>by
  simp only [Au]
  rcases List.mem_cons.1 h with rfl | h
  ·omega
  ·have:=FJ h;omega
theorem NA (l:List Tree) (i:Nat):Au (l.take i)+Au (l.drop i)=Au l:=by rw [← DB,List.take_append_drop]
theorem FR {l:List Tree} {i:Nat} (h:i < l.length):BN l i=l[i]∧BN l i ∈ l:=by
 unfold BN
 rw [List.getElem?_eq_getElem h]
 exact ⟨rfl,List.getElem_mem h⟩
theorem A5c {l:List Tree} {i:Nat} (h:i < l.length):l.drop i=BN l i :: l.drop (i+1):=by
 rw [(FR h).1]
 exact List.drop_eq_getElem_cons h
theorem MH {l:List Tree} {i:Nat} (h:i < l.length):Au (l.take i)+sz (BN l i)+Au (l.drop (i+1))=Au l:=by
 have:=NA l i
 rw [A5c h] at this
 simp only [Au] at this
 omega
def pot (s:BF):Nat:=s.fs.length+s.gl.length+s.cs.length+s.lo.length
structure Post (s s':BF) (n:Nat):Prop where
 pre:s.lo <+: s'.lo
 lp:s'.lp=s.lp
 pot:pot s'≤pot s+n
theorem Post.refl (s:BF):Post s s 0:=⟨List.prefix_refl _,rfl,Nat.le_refl _⟩
theorem Post.trans {s s1 s2:BF} {n m:Nat} (h:Post s s1 n) (h':Post s1 s2 m):Post s s2 (n+m):=⟨h.pre.trans h'.pre,h'.lp.trans h.lp,by have:=h.pot;have:=h'.pot;omega⟩
theorem Post.weak {s s':BF} {n m:Nat} (h:Post s s' n) (hm:n≤m):Post s s' m:=⟨h.pre,h.lp,by have:=h.pot;omega⟩
theorem U9 {α:Type} {a b:List α} (h:a <+: b):b.take a.length=a:=by obtain ⟨t,rfl⟩:=h;simp
theorem Ava {α:Type} {a b:List α} (h:a <+: b):a.length≤b.length:=by obtain ⟨t,rfl⟩:=h;simp
theorem BM {α β ε:Type} {x:PR α ε} {f:α→PR β ε} {b:β} (h:x.th f=.ok b):∃ a,x=.ok a∧f a=.ok b:=by
 cases x with
 | ok a=>exact ⟨a,rfl,h⟩
 | bad e=>cases h
theorem FE {α β ε:Type} {x:PR α ε} {f:α→PR β ε} {e:ε} (h:x.th f=.bad e):x=.bad e∨∃ a,x=.ok a∧f a=.bad e:=by
 cases x with
 | ok a=>exact .inr ⟨a,rfl,h⟩
 | bad e=>cases h;exact .inl rfl
theorem Ato:∀ {l:List Tree} {lo lo':List ByteArray},K7 lo l=.ok lo'→lo'=lo++l.map Tree.text
 | [],lo,lo',h=>by cases h;simp
 | x :: l,lo,lo',h=>by
  unfold K7 at h
  split at h
  ·cases h
  ·rw [Ato h];simp
theorem Q8 {a sl:Int} {lo:List ByteArray} {l:List Tree} {r:Int×List ByteArray} (h:JG a sl lo l=.ok r):r.2=lo++l.map Tree.text∧r.2.length≤60∧r.1=max sl (r.2.length:Int):=by
 unfold JG at h
 obtain ⟨lo',h1,h⟩:=BM h
 obtain ⟨_,h2,h⟩:=BM h
 unfold Ga at h2
 split at h2
 ·cases h2
 ·cases h
  refine ⟨Ato h1,by show lo'.length≤60;omega,?_⟩
  show (if ((lo'.length:Nat):Int) > sl then ((lo'.length:Nat):Int) else sl)=max sl (lo'.length:Int)
  split <;> omega
theorem Vp (gl:List ByteArray) (t:ByteArray):(NQ gl t).length≤gl.length+1:=by unfold NQ;split <;> simp
theorem Yu {a:Int} {cs cs':List V3} {v:V3} (h:KR a cs v=.ok cs'):cs'.length≤cs.length+1:=by
 unfold KR at h
 split at h
 ·cases h;omega
 ·obtain ⟨_,_,h⟩:=BM h
  cases h;simp
theorem Atl {a:Int} {t:ByteArray} {gl lo ab KT:List ByteArray} (h:Mz a t gl lo ab=.ok KT):KT.length≤gl.length+1:=by
 unfold Mz at h
 split at h
 ·cases h
 split at h
 ·cases h;omega
 split at h
 ·cases h
 ·cases h;exact Vp _ _
theorem Abz {f:BF→Tree→PC BF}:∀ {l:List Tree} {s s':BF},(∀ s x s',x ∈ l→f s x=.ok s'→Post s s' (4 * sz x))→DL f s l=.ok s'→Post s s' (4 * Au l)
 | [],s,s',_,h=>by cases h;exact Post.refl _
 | x :: l,s,s',hf,h=>by
  unfold DL at h
  obtain ⟨s1,h1,h⟩:=BM h
  have:=(hf _ _ _ (CB ..) h1).trans (Abz (fun s y s' hy=>hf s y s' (Db _ hy)) h)
  exact this.weak (by simp only [Au];omega)
theorem Ajg {f:BF→Tree→Bool→PC BF} {n:Int}:∀ {l:List Tree} {i:Nat} {s s':BF},(∀ s x b s',x ∈ l→f s x b=.ok s'→Post s s' (4 * sz x))→Jo f n i s l=.ok s'→Post s s' (4 * Au l)
 | [],_,s,s',_,h=>by cases h;exact Post.refl _
 | x :: l,i,s,s',hf,h=>by
  unfold Jo at h
  obtain ⟨s1,h1,h⟩:=BM h
  have:=(hf _ _ _ _ (CB ..) h1).trans (Ajg (fun s y b s' hy=>hf s y b s' (Db _ hy)) h)
  exact this.weak (by simp only [Au];omega)
theorem Abq {f:BF→Tree→PC BF} {a:Int} {s s':BF} {names:List Tree} {b:Tree} {more:Nat} (hm:more=0∨more=3) (hf:∀ s s',f s b=.ok s'→Post s s' (4 * sz b)) (h:IH f a s names b more=.ok s'):Post s s' (4 * sz b+names.length+3)∧s'.lo=s.lo:=by
 unfold IH at h
 obtain ⟨r,h1,h⟩:=BM h
 obtain ⟨s1,h2,h⟩:=BM h
 cases h
 have hp:=hf _ _ h2
 have hr:s.lo <+: r.2∧r.2.length≤s.lo.length+names.length+3:=by
  split at h1
  ·have:=(Q8 h1).1
   rw [this]
   refine ⟨⟨_,by rw [Ck]⟩,?_⟩
   simp
   omega
  ·cases h1
   exact ⟨List.prefix_refl _,by show s.lo.length≤_;omega⟩
 have h3:=U9 (hr.1.trans hp.pre)
 refine ⟨⟨by show s.lo <+: s1.lo.take s.lo.length;rw [h3];exact List.prefix_refl _,by show s1.lp - 1=s.lp;have:=hp.lp;simp only at this;omega,?_⟩,h3⟩
 have hq:=hp.pot
 have:=Ava hp.pre
 simp only [pot] at hq this ⊢
 rw [List.length_take]
 omega
theorem A7i {f:BF→List Tree→PC BF} {ab:Ae} {s s':BF} {k n a:Int} {t:ByteArray} {l:List Tree} {tg:Bool} (hf:∀ s s',f s l=.ok s'→Post s s' (4 * Au l)) (h:Kw f ab s k t n a l tg=.ok s'):Post s s' (4 * Au l+1):=by
 unfold Kw at h
 split at h
 ·obtain ⟨_,_,h⟩:=BM h;exact (hf _ _ h).weak (by omega)
 split at h
 ·obtain ⟨_,_,h⟩:=BM h;exact (hf _ _ h).weak (by omega)
 split at h
 ·obtain ⟨_,_,h⟩:=BM h;exact (hf _ _ h).weak (by omega)
 split at h
 ·obtain ⟨cs,h1,h⟩:=BM h
  have hp:=hf _ _ h
  have:=Yu h1
  exact ⟨hp.pre,hp.lp,by have:=hp.pot;simp only [pot] at this ⊢;omega⟩
 split at h
 ·obtain ⟨cs,h1,h⟩:=BM h
  have hp:=hf _ _ h
  have:=Yu h1
  exact ⟨hp.pre,hp.lp,by have:=hp.pot;simp only [pot] at this ⊢;omega⟩
 split at h
 ·obtain ⟨gl,h1,h⟩:=BM h
  have hp:=hf _ _ h
  have:=Atl h1
  exact ⟨hp.pre,hp.lp,by have:=hp.pot;simp only [pot] at this ⊢;omega⟩
 split at h
 ·split at h
  ·cases h
  ·cases h;exact (Post.refl _).weak (by omega)
 ·exact (hf _ _ h).weak (by omega)
theorem Hs:∀ {d:Nat} {ab:List ByteArray} {s s':BF} {t:Tree} {tg:Bool},gw t→Cm d ab s t tg=.ok s'→Post s s' (4 * sz t)
 | 0,_,_,_,_,_,_,h=>by unfold Cm at h;cases h
 | d+1,ab,s,s',.mk k t n a l,tg,hw,h=>by
  obtain ⟨⟨hs1,hs7,Nl,Nm,Pr,Nn,Tp⟩,hw⟩:=hw
  rw [QG] at hw
  have hN:∀ (m:List Tree),(∀ x ∈ m,x ∈ l)→∀ ab s s',DL (fun s x=>Cm d ab s x false) s m=.ok s'→Post s s' (4 * Au m):=fun m hm ab s s' h=>Abz (fun s x s' hx h=>Hs (hw x (hm x hx)) h) h
  have hlen:=Em l
  simp only [sz]
  unfold Cm at h
  split at h
  ·obtain ⟨s1,h1,h⟩:=BM h
   cases h
   have hp:=hN l (fun _ h=>h) _ _ _ h1
   refine ⟨by rw [U9 hp.pre];exact List.prefix_refl _,hp.lp,?_⟩
   have:=hp.pot
   simp only [pot] at this ⊢
   rw [List.length_take];omega
  split at h
  ·rename_i hk
   obtain ⟨m,rfl,hm⟩:=Tp hk
   obtain ⟨_,_,h⟩:=BM h
   split at h
   ·cases h
   obtain ⟨_,_,h⟩:=BM h
   obtain ⟨r,h1,h⟩:=BM h
   obtain ⟨s1,h2,h⟩:=BM h
   cases h
   simp only [Int.toNat_natCast] at h1 h2
   have hk:=FR (l:=l) (i:=m) (by omega)
   have hp:=Hs (hw _ hk.2) h2
   have hb:=Q8 h1
   have:=MH (l:=l) (i:=m) (by omega)
   have h3:=hp.pot
   have h4:=Vp s.gl t
   have h5:r.2.length≤m:=by rw [hb.1];simp;omega
   refine ⟨List.prefix_refl _,rfl,?_⟩
   have:=Em (l.take m)
   rw [List.length_take] at this
   simp only [pot,AV,AI,Br] at h3 ⊢
   omega
  split at h
  ·rename_i hk
   obtain ⟨m,rfl,hm⟩:=Pr (.inl hk)
   obtain ⟨_,_,h⟩:=BM h
   obtain ⟨_,_,h⟩:=BM h
   obtain ⟨s1,h1,h⟩:=BM h
   obtain ⟨r,h2,h⟩:=BM h
   cases h
   simp only [Int.toNat_natCast] at h1 h2
   have hp:=hN _ (fun x hx=>List.mem_of_mem_drop hx) _ _ _ h1
   have hb:=Q8 h2
   have:=NA l m
   have:=Em (l.take m)
   refine ⟨hp.pre.trans ⟨_,hb.1.symm⟩,hp.lp,?_⟩
   have h3:=hp.pot
   simp only [pot] at h3 ⊢
   rw [hb.1]
   simp only [AV,List.length_map]
   omega
  split at h
  ·obtain ⟨_,_,h⟩:=BM h
   obtain ⟨_,_,h⟩:=BM h
   exact (Ajg (fun s x b s' hx h=>Hs (hw x hx) h) h).weak (by omega)
  split at h
  ·rename_i hk
   have h2:=Nl hk
   obtain ⟨s1,h1,h⟩:=BM h
   have k0:=FR (l:=l) (i:=0) (by omega)
   have k1:=FR (l:=l) (i:=1) (by omega)
   have hp:=Hs (hw _ k0.2) h1
   have hq:=(Abq (.inl rfl) (fun s s' h=>Hs (hw _ k1.2) h) h).1
   have e1:=MH (l:=l) (i:=1) (by omega)
   have e2:Au (l.take 1)=sz (BN l 0):=by
    have:=MH (l:=l) (i:=0) (by omega)
    have:=NA l 1
    simp only [List.take_zero,Au,Nat.zero_add] at *
    omega
   exact (hp.trans hq).weak (by simp only [Br];omega)
  split at h
  ·rename_i hk
   have h2:=Nm hk
   obtain ⟨s1,h1,h⟩:=BM h
   have kl:=FR (l:=l) (i:=l.length - 1) (by omega)
   have hp:=hN _ (fun x hx=>List.mem_of_mem_drop (List.mem_of_mem_take hx)) _ _ _ h1
   have hq:=(Abq (.inr rfl) (fun s s' h=>Hs (hw _ kl.2) h) h).1
   have e1:=MH (l:=l) (i:=l.length - 1) (by omega)
   have e2:Au ((l.drop 1).take (l.length - 2))+Au (l.take 1)≤Au (l.take (l.length - 1)):=by
    have:=NA (l.take (l.length - 1)) 1
    rw [List.drop_take,List.take_take,Nat.min_eq_left (by omega),show l.length - 1 - 1=l.length - 2 by omega] at this
    omega
   have e3:=Em (l.take 1)
   exact (hp.trans hq).weak (by omega)
  split at h
  ·rename_i hk
   obtain ⟨m,rfl,hm⟩:=Nn hk
   obtain ⟨_,_,h⟩:=BM h
   obtain ⟨_,_,h⟩:=BM h
   obtain ⟨s1,h1,h⟩:=BM h
   simp only [Int.toNat_natCast] at h1 h
   have kl:=FR (l:=l) (i:=l.length - 1) (by omega)
   have hp:=hN _ (fun x hx=>List.mem_of_mem_drop (List.mem_of_mem_take hx)) _ _ _ h1
   have hq:=(Abq (.inr rfl) (fun s s' h=>Hs (hw _ kl.2) h) h).1
   have e1:=MH (l:=l) (i:=l.length - 1) (by omega)
   have e2:Au ((l.drop m).take (l.length - 1 - m))+Au (l.take m)≤Au (l.take (l.length - 1)):=by
    have:=NA (l.take (l.length - 1)) m
    rw [List.drop_take,List.take_take,Nat.min_eq_left (by omega)] at this
    omega
   have e3:=Em (l.take m)
   exact (hp.trans hq).weak (by omega)
  split at h
  ·split at h
   ·cases h
   ·cases h;exact (Post.refl _).weak (by omega)
  ·exact (A7i (fun s s' h=>hN l (fun _ h=>h) _ _ _ h) h).weak (by omega)
structure BdC (s:BF) (ab:List ByteArray) (n:Nat):Prop where
 pot:pot s+4 * n≤400000
 ab:ab.length≤400000
 lp0:0≤s.lp
 lp:s.lp+n≤400000
theorem BdC.weak {s:BF} {ab:List ByteArray} {n m:Nat} (h:BdC s ab n) (hm:m≤n):BdC s ab m:=⟨by have:=h.pot;omega,h.ab,h.lp0,by have:=h.lp;omega⟩
theorem BdC.step {s s':BF} {ab:List ByteArray} {n m:Nat} (h:BdC s ab (n+m)) (hp:Post s s' (4 * n)):BdC s' ab m:=⟨by have:=h.pot;have:=hp.pot;omega,h.ab,by rw [hp.lp];exact h.lp0,by rw [hp.lp];have:=h.lp;omega⟩
section
variable {α β γ δ ε:Type}
theorem bindM {x:PR α ε} {g:α→β} {F:β→Option (PR γ ε)} {f:α→PR δ ε} {h:δ→γ} (H:∀ a,x=.ok a→F (g a)=some (PR.mp h (f a))):PR.bind (some (PR.mp g x)) F=some (PR.mp h (x.th f)):=by
 cases x with
 | ok a=>exact H a rfl
 | bad e=>rfl
theorem I7 {x:PR α ε} {F:α→Option (PR γ ε)} {f:α→PR δ ε} {h:δ→γ} (H:∀ a,x=.ok a→F a=some (PR.mp h (f a))):PR.bind (some x) F=some (PR.mp h (x.th f)):=by
 cases x with
 | ok a=>exact H a rfl
 | bad e=>rfl
end
theorem eqC {a b:Int} (h:a=b):(a == b)=true:=beq_iff_eq.2 h
theorem DK {a b:Int} (h:a≠b):(a == b)=false:=beq_eq_false_iff_ne.2 h
theorem GI {α:Type} {l:List α} {lo hi:Int} (a b:Nat) (ha:lo=a) (hb:hi=b) (h1:a≤b) (h2:b≤l.length):DR l lo hi=some ((l.drop a).take (b - a)):=by
 subst ha hb
 unfold DR
 rw [decide_eq_true (by omega)]
 rfl
theorem U7 {α:Type} {l m:List α} (h:m <+: l):DR l (0:Int) ((m.length:Nat):Int)=some (l.take m.length):=by
 rw [GI 0 m.length (by omega) (by omega) (Nat.zero_le _) (Ava h)]
 rfl
theorem Pt {l:List Tree} {i:Int} (m:Nat) (h:i=m) (hm:m < l.length):Bh l i=some (BN l m):=by
 rw [h,Aa9 hm,(FR hm).1]
theorem Q9 {a b:ByteArray} (h:a.size+b.size≤9223372036854775807):KF a b=some (a++b):=by
 unfold KF
 rw [decide_eq_true h]
 rfl
def RcN (R:CK) (d:Nat):Prop:=∀ (nm:ByteArray) (at_ pc:Int) (ab:List ByteArray) (s:BF) (t:Tree) (tg:Bool),sz t≤d→gw t→BdC s ab (sz t) →
 R.D9 s.fs s.gl nm at_ pc s.sl s.cs s.lo s.lp ab t.kind t.text t.n t.at_ t.kids tg=some (PR.mp BF.IX (Cm d ab s t tg))
abbrev nsC (d:Nat) (ab:List ByteArray) (s:BF) (l:List Tree):PC BF:=DL (fun s x=>Cm d ab s x false) s l
def RcL (R:CK) (d:Nat):Prop:=∀ (nm:ByteArray) (at_ pc:Int) (ab:List ByteArray) (s:BF) (l:List Tree),(∀ x ∈ l,sz x≤d∧gw x)→BdC s ab (Au l) →
 R.EF s.fs s.gl nm at_ pc s.sl s.cs s.lo s.lp ab l=some (PR.mp BF.IX (nsC d ab s l))
def RcX (R:CK) (d:Nat):Prop:=∀ (nm:ByteArray) (at_ pc:Int) (ab:List ByteArray) (s:BF) (k:Int) (t:ByteArray) (n a:Int) (l:List Tree) (tg:Bool),(∀ x ∈ l,sz x≤d∧gw x)→(k=7→l.length=2)→BdC s ab (Au l+1) →
 R.IA s.fs s.gl nm at_ pc s.sl s.cs s.lo s.lp ab k t n a l tg=some (PR.mp BF.IX (Kw (fun s l=>nsC d ab s l) ab s k t n a l tg))
def RcP (R:CK) (d:Nat):Prop:=∀ (nm:ByteArray) (at_ pc:Int) (ab:Ae) (s:BF) (k:Int) (t:ByteArray) (n a:Int) (l names:List Tree) (b:Tree) (more:Nat),more=0∨more=3→sz b≤d→gw b→BdC s ab (sz b+names.length+1) →
 R.GB s.fs s.gl nm at_ pc s.sl s.cs s.lo s.lp ab k t n a l names b.kind b.text b.n b.at_ b.kids (more:Int)=some (PR.mp BF.IX (IH (fun s x=>Cm d ab s x false) a s names b more))
def RcF (R:CK) (d:Nat):Prop:=∀ (nm:ByteArray) (at_ pc:Int) (ab:List ByteArray) (s:BF) (t:ByteArray) (m:Nat) (a:Int) (l:List Tree),(∀ x ∈ l,sz x≤d∧gw x)→l.length=m+1→BdC s ab (Au l+1) →
 R.IB s.fs s.gl nm at_ pc s.sl s.cs s.lo s.lp ab 31 t (m:Int) a l=some (PR.mp BF.IX (Cm (d+1) ab s (.mk 31 t (m:Int) a l) false))
theorem Atv {R:CK} {d:Nat} (hR:RcN R d) (nm:ByteArray) (at_ pc:Int) (ab:Ae):∀ (t pre:List Tree) (s:BF) (m:Nat),pre.length+t.length≤400000→t.length+1≤m→(∀ x ∈ t,sz x≤d∧gw x)→BdC s ab (Au t) →
  EF.l0 m R nm at_ pc ab (pre++t) (pre.length:Int) s.fs s.gl s.sl s.cs s.lo s.lp=some (PR.mp BF.IX (nsC d ab s t))
 | [],pre,s,m,hl,hm,hw,hb=>by
  obtain ⟨m,rfl⟩:∃ m',m=m'+1:=⟨m - 1,by omega⟩
  simp only [EF.l0]
  rw [ltF (by simp)]
  rfl
 | x :: t,pre,s,m,hl,hm,hw,hb=>by
  obtain ⟨m,rfl⟩:∃ m',m=m'+1:=⟨m - 1,by omega⟩
  simp only [AI] at hl hm
  simp only [Au] at hb
  simp only [EF.l0]
  rw [Ir (by simp;omega),DW]
  simp only [cond_true,Aj]
  have hx:=hw x (CB ..)
  rw [hR nm at_ pc ab s x false hx.1 hx.2 (hb.weak (by omega))]
  unfold nsC DL
  refine bindM fun s' hs'=>?_
  have ih:=Atv hR nm at_ pc ab t (pre++[x]) s' m (by simp;omega) (by omega) (fun y hy=>hw y (Db _ hy)) (hb.step (Hs hx.2 hs'))
  rw [wiC _ (by omega) (by omega)]
  rw [Ck,AV] at ih
  exact ih
theorem Aje {R:CK} {d:Nat} (hR:RcN R d) (nm:ByteArray) (at_ pc:Int) (ab:Ae) (n:Int):∀ (t pre:List Tree) (s:BF) (m:Nat),pre.length+t.length≤400000→t.length+1≤m→(∀ x ∈ t,sz x≤d∧gw x)→BdC s ab (Au t) →
  D9.l0 m R nm at_ pc ab n (pre++t) (pre.length:Int) s.fs s.gl s.sl s.cs s.lo s.lp=some (PR.mp BF.IX (Jo (fun s x b=>Cm d ab s x b) n pre.length s t))
 | [],pre,s,m,hl,hm,hw,hb=>by
  obtain ⟨m,rfl⟩:∃ m',m=m'+1:=⟨m - 1,by omega⟩
  simp only [D9.l0]
  rw [ltF (by simp)]
  rfl
 | x :: t,pre,s,m,hl,hm,hw,hb=>by
  obtain ⟨m,rfl⟩:∃ m',m=m'+1:=⟨m - 1,by omega⟩
  simp only [AI] at hl hm
  simp only [Au] at hb
  simp only [D9.l0]
  rw [Ir (by simp;omega),DW]
  simp only [cond_true,Aj]
  have hx:=hw x (CB ..)
  rw [hR nm at_ pc ab s x _ hx.1 hx.2 (hb.weak (by omega))]
  unfold Jo
  refine bindM fun s' hs'=>?_
  have ih:=Aje hR nm at_ pc ab n t (pre++[x]) s' m (by simp;omega) (by omega) (fun y hy=>hw y (Db _ hy)) (hb.step (Hs hx.2 hs'))
  rw [wiC _ (by omega) (by omega)]
  rw [Ck,AV] at ih
  exact ih
theorem Aty {k d:Nat} (hk:500000≤k) (hR:RcN (CK.at k) d):RcL (CK.at (k+1)) d:=fun nm at_ pc ab s l hw hb=>by
 have:=Em l
 have:=hb.pot
 exact Atv hR nm at_ pc ab l [] s k (by simp only [Br];omega) (by omega) hw hb
theorem A7f {k d:Nat} (hk:500000≤k) (hR:RcL (CK.at k) d):RcX (CK.at (k+1)) d:=fun nm at_ pc ab s k0 t n a l tg hw h7 hb=>by
 have hp:=hb.pot
 have hlen:=Em l
 have hL:∀ s',BdC s' ab (Au l)→PR.bind ((CK.at k).EF s'.fs s'.gl nm at_ pc s'.sl s'.cs s'.lo s'.lp ab l) (fun r13=>some (PR.ok (r13.1,r13.2.1,r13.2.2.1,r13.2.2.2.1,r13.2.2.2.2.1,r13.2.2.2.2.2)))=some (PR.mp BF.IX (nsC d ab s' l)):=fun s' hb=>by
  rw [hR nm at_ pc ab s' l hw hb]
  cases nsC d ab s' l <;> rfl
 have hcs:∀ v cs,KR a s.cs v=.ok cs→BdC { s with cs:=cs } ab (Au l):=fun v cs h=>⟨by have:=Yu h;simp only [pot] at hp ⊢;omega,hb.ab,hb.lp0,by have:=hb.lp;show s.lp+_≤_;omega⟩
 show IA.g (CK.at k) k s.fs s.gl nm at_ pc s.sl s.cs s.lo s.lp ab k0 t n a l tg=_
 unfold IA.g Kw BG
 simp only [QE]
 have WZ:s.gl.length≤400000∧s.lo.length≤400000∧s.cs.length≤400000:=by simp only [pot] at hp;omega
 by_cases h:k0=8
 ·rw [eqC h,if_pos h,cond_true,wiC _ (by omega) (by omega)]
  exact I7 fun _ _=>hL s (hb.weak (by omega))
 rw [DK h,if_neg h,cond_false]
 by_cases h:k0=30
 ·rw [eqC h,if_pos h,cond_true]
  exact I7 fun _ _=>hL s (hb.weak (by omega))
 rw [DK h,if_neg h,cond_false]
 by_cases h:k0=12
 ·rw [eqC h,if_pos h,cond_true]
  exact I7 fun _ _=>hL s (hb.weak (by omega))
 rw [DK h,if_neg h,cond_false]
 by_cases h:k0=4
 ·rw [eqC h,if_pos h,cond_true,const_eq _ _ _ _ _ _ _ _ WZ.2.2 hk]
  exact I7 fun cs hcs'=>hL { s with cs:=cs } (hcs _ _ hcs')
 rw [DK h,if_neg h,cond_false]
 by_cases h:k0=5
 ·rw [eqC h,if_pos h,cond_true,const_eq _ _ _ _ _ _ _ _ WZ.2.2 hk]
  exact I7 fun cs hcs'=>hL { s with cs:=cs } (hcs _ _ hcs')
 rw [DK h,if_neg h,cond_false]
 by_cases h:k0=6
 ·rw [eqC h,if_pos h,cond_true,Bl7 _ _ _ _ _ WZ.1 WZ.2.1 hb.ab hk]
  exact I7 fun gl hgl=>hL { s with gl:=gl } ⟨by have:=Atl hgl;simp only [pot] at hp ⊢;omega,hb.ab,hb.lp0,by have:=hb.lp;show s.lp+_≤_;omega⟩
 rw [DK h,if_neg h,cond_false]
 by_cases h:k0=7
 ·rw [eqC h,cond_true]
  have h2:=h7 h
  rw [Pt 0 (by omega) (by omega)]
  simp only [Aj]
  by_cases h6:(BN l 0).kind=6
  ·rw [eqC h6,cond_true,Wl]
   simp only [Aj]
   cases hq:Jg (BN l 0).text with
   | false =>
    rw [cond_false,if_neg (fun e=>by cases e.2.2)]
    exact hL s (hb.weak (by omega))
   | true =>
    rw [cond_true,if_pos ⟨h,h6,rfl⟩,Pt 1 (by omega) (by omega)]
    simp only [Aj]
    unfold SD
    cases tg with
    | true=>rfl
    | false =>
     simp only [cond_false,Bool.false_or]
     by_cases h5:(BN l 1).kind=5
     ·have e5:((BN l 1).kind != 5)=false:=by simp [h5]
      have w0:=(hw _ (FR (l:=l) (i:=0) (by omega)).2).2
      have w1:=(hw _ (FR (l:=l) (i:=1) (by omega)).2).2
      have z0:(BN l 0).text.size≤30000:=by
       cases hx:BN l 0 with
       | mk k1 t1 n1 a1 l1=>rw [hx] at w0;exact w0.1.1
      have z1:(BN l 1).text.size≤30000:=by
       cases hx:BN l 1 with
       | mk k1 t1 n1 a1 l1=>rw [hx] at w1;exact w1.1.1
      have zd:(⟨#[46]⟩:ByteArray).size=1:=rfl
      rw [e5,Q9 (by omega)]
      simp only [cond_false,Bool.false_or,Aj]
      rw [Q9 (by rw [ByteArray.size_append];omega)]
      simp only [Aj]
      rw [As6 k (by omega)]
      simp only [Aj]
      cases Jv (((BN l 0).text++SC++(BN l 1).text).toList) == 0 <;> rfl
     ·have e5:((BN l 1).kind != 5)=true:=by simp [h5]
      rw [e5]
      rfl
  ·rw [DK h6,if_neg (fun e=>h6 e.2.1)]
   exact hL s (hb.weak (by omega))
 rw [DK h,if_neg (fun e=>h e.1),cond_false]
 exact hL s (hb.weak (by omega))
theorem Bl2 {k d:Nat} (hk:500000≤k) (hR:RcN (CK.at k) d):RcP (CK.at (k+1)) d:=fun nm at_ pc ab s k0 t n a l names b more hm hd hw hb=>by
 have hp:=hb.pot
 have hlp:=hb.lp
 have Bzk:=hb.lp0
 show GB.g (CK.at k) k s.fs s.gl nm at_ pc s.sl s.cs s.lo s.lp ab k0 t n a l names b.kind b.text b.n b.at_ b.kids (more:Int)=_
 unfold GB.g IH BG OF
 have hlo:s.lo.length+4≤400000:=by simp only [pot] at hp;omega
 rw [decide_eq_true (by rw [Int.toNat_natCast];omega)]
 simp only [cond_true,Aj,Int.toNat_natCast]
 have tail:∀ r:Int×List ByteArray,s.lo <+: r.2→r.2.length≤s.lo.length+names.length+3 →
   PR.bind ((CK.at k).D9 s.fs s.gl nm at_ pc r.1 s.cs r.2 (IntKind.i64.wrap (s.lp+1)) ab b.kind b.text b.n b.at_ b.kids false) (fun BS=>(DR BS.2.2.2.2.1 (0:Int) ((s.lo.length:Nat):Int)).bind fun JN=>some (PR.ok (BS.1,BS.2.1,BS.2.2.1,BS.2.2.2.1,JN,IntKind.i64.wrap (BS.2.2.2.2.2 - 1))))
   =some (PR.mp BF.IX ((Cm d ab { s with sl:=r.1,lo:=r.2,lp:=s.lp+1 } b false).th fun s'=>.ok { s' with lo:=s'.lo.take s.lo.length,lp:=s'.lp - 1 })):=fun r h1 h2=>by
  rw [wiC _ (by omega) (by omega)]
  have hb':BdC { s with sl:=r.1,lo:=r.2,lp:=s.lp+1 } ab (sz b):=⟨by simp only [pot] at hp ⊢;omega,hb.ab,by show 0≤s.lp+1;omega,by show s.lp+1+_≤_;omega⟩
  have:=hR nm at_ pc ab { s with sl:=r.1,lo:=r.2,lp:=s.lp+1 } b false hd hw hb'
  simp only at this
  rw [this]
  refine bindM fun s' hs'=>?_
  have hq:=Hs hw hs'
  have hl':s'.lp=s.lp+1:=hq.lp
  show (DR s'.lo (0:Int) ((s.lo.length:Nat):Int)).bind _=_
  rw [U7 (h1.trans hq.pre),Aj,show s'.IX.2.2.2.2.2=s'.lp from rfl,wiC _ (by omega) (by omega)]
  rfl
 rcases hm with rfl | rfl
 ·simp only [List.replicate_zero,List.append_nil]
  rw [decide_eq_false (p:=((0:Nat):Int) > 0) (by omega),cond_false,if_neg (by omega)]
  have:=tail (s.sl,s.lo) (List.prefix_refl _) (by show s.lo.length≤_;omega)
  exact this
 ·rw [decide_eq_true (p:=((3:Nat):Int) > 0) (by omega),cond_true]
  rw [Yr _ _ _ _ _ _ (by omega) (by simp;omega) hk,if_pos (by omega)]
  refine I7 fun r hr=>?_
  have hr':=Q8 hr
  refine tail r ?_ ?_
  ·rw [hr'.1];exact ⟨_,by rw [Ck]⟩
  ·rw [hr'.1];simp;omega
theorem A7z {k d:Nat} (hk:500000≤k) (hR:RcN (CK.at k) d):RcF (CK.at (k+1)) d:=fun nm at_ pc ab s t m a l hw hm hb=>by
 have hp:=hb.pot
 have hlen:=Em l
 have S_:=FR (l:=l) (i:=m) (by omega)
 have hks:=MH (l:=l) (i:=m) (by omega)
 have hts:=Em (l.take m)
 rw [List.length_take] at hts
 have Bzb:=Vp s.gl t
 have hpp:s.fs.length≤400000∧s.gl.length≤399999∧s.lo.length≤400000:=by simp only [pot] at hp;omega
 show IB.g (CK.at k) k s.fs s.gl nm at_ pc s.sl s.cs s.lo s.lp ab 31 t (m:Int) a l=_
 unfold IB.g BG Cm
 rw [if_neg (by decide),if_pos rfl,QE]
 refine I7 fun _ _=>?_
 rw [Wl]
 simp only [Aj]
 cases hq:Jg t with
 | true=>rfl
 | false =>
  simp only [cond_false,Bool.false_eq_true,if_false]
  rw [QE]
  refine I7 fun _ _=>?_
  rw [Aml t (by omega) hk,Aj,GI 0 m (by omega) (by omega) (Nat.zero_le _) (by omega),Aj]
  simp only [List.drop_zero,Nat.sub_zero,Int.toNat_natCast]
  rw [Yr _ _ _ _ _ _ (by rw [List.length_take];omega) (by simp) hk]
  refine I7 fun r hr=>?_
  have hr':=Q8 hr
  have hrl:r.2.length≤m:=by rw [hr'.1];simp;omega
  rw [Pt m (by omega) (by omega),Aj]
  have hw':=hw _ S_.2
  have hb':BdC ⟨s.fs,NQ s.gl t,r.1,[],r.2,0⟩ s.lo (sz (BN l m)):=⟨by simp only [pot,Br] at hp ⊢;omega,hpp.2.2,Int.le_refl _,by show (0:Int)+_≤_;omega⟩
  have:=hR t a m s.lo ⟨s.fs,NQ s.gl t,r.1,[],r.2,0⟩ (BN l m) false hw'.1 hw'.2 hb'
  simp only at this
  rw [this]
  refine bindM fun s' hs'=>?_
  have hq':=(Hs hw'.2 hs').pot
  show (apd 64 s'.fs [(t,a,(m:Int),s'.sl,s'.cs)]).bind _=_
  rw [KP (by simp only [pot,Br] at hp hq';simp;omega)]
  rfl
theorem Bmh {k d:Nat} (hk:500000≤k) (hR:RcN (CK.at k) d) (hL:RcL (CK.at k) d) (hX:RcX (CK.at k) d) (hP:RcP (CK.at k) d) (hF:RcF (CK.at k) d):RcN (CK.at (k+1)) (d+1):=fun nm at_ pc ab s x tg hd hw hb=>by
 cases x with
 | mk k0 t n a l =>
  obtain ⟨⟨hs1,hs7,Nl,Nm,Pr,Nn,Tp⟩,hw⟩:=hw
  rw [QG] at hw
  simp only [sz] at hd hb
  have hlen:=Em l
  have hp:=hb.pot
  have hwd:∀ x ∈ l,sz x≤d∧gw x:=fun x hx=>⟨by have:=FJ hx;omega,hw x hx⟩
  have id':∀ (x:PC BF) ,PR.bind (some (PR.mp BF.IX x)) (fun r=>some (PR.ok (r.1,r.2.1,r.2.2.1,r.2.2.2.1,r.2.2.2.2.1,r.2.2.2.2.2)))=some (PR.mp BF.IX x):=fun x=>by cases x <;> rfl
  have nP:∀ {m:List Tree},(∀ x ∈ m,x ∈ l)→∀ {s s'},nsC d ab s m=.ok s'→Post s s' (4 * Au m):=fun hm _ _ h=>Abz (fun s x s' hx h=>Hs (hw x (hm x hx)) h) h
  show D9.g (CK.at k) k s.fs s.gl nm at_ pc s.sl s.cs s.lo s.lp ab k0 t n a l tg=some (PR.mp BF.IX (Cm (d+1) ab s (.mk k0 t n a l) tg))
  unfold D9.g
  by_cases h31:k0=31
  ·obtain ⟨m,rfl,hm⟩:=Tp h31
   subst h31
   rw [DK (by decide),cond_false,eqC rfl,cond_true,hF nm at_ pc ab s t m a l hwd hm (hb.weak (by omega)),id']
   rfl
  unfold Cm
  by_cases h:k0=20
  ·rw [eqC h,if_pos h,cond_true,hL nm at_ pc ab s l hwd (hb.weak (by omega))]
   refine bindM fun s' hs'=>?_
   show (DR s'.lo (0:Int) ((s.lo.length:Nat):Int)).bind _=_
   rw [U7 (nP (fun _ h=>h) hs').pre]
   rfl
  rw [DK h,if_neg h,cond_false,DK h31,if_neg h31,cond_false]
  simp only [QE]
  by_cases h:k0=21
  ·obtain ⟨m,rfl,hm⟩:=Pr (.inl h)
   rw [eqC h,if_pos h,cond_true,wiC _ (by omega) (by omega)]
   refine I7 fun _ _=>I7 fun _ _=>?_
   have hsp:=NA l m
   have hlt:=Em (l.take m)
   rw [GI m l.length (by omega) (by omega) hm (Nat.le_refl _),Aj,List.take_of_length_le (by rw [BX];omega)]
   rw [hL nm at_ pc ab s _ (fun x hx=>hwd x (List.mem_of_mem_drop hx)) (hb.weak (by omega))]
   simp only [Int.toNat_natCast]
   refine bindM fun s' hs'=>?_
   have hq:=(nP (fun _ h=>List.mem_of_mem_drop h) hs').pot
   rw [GI 0 m (by omega) (by omega) (Nat.zero_le _) hm,Aj]
   simp only [List.drop_zero,Nat.sub_zero,BF.IX]
   rw [Yr _ _ _ _ _ _ (by rw [List.length_take];omega) (by simp only [pot] at hp hq;omega) hk]
   exact I7 fun r hr=>rfl
  rw [DK h,if_neg h,cond_false]
  by_cases h:k0=22
  ·obtain ⟨m,rfl,hm⟩:=Pr (.inr h)
   rw [eqC h,if_pos h,cond_true,wiC _ (by omega) (by omega)]
   refine I7 fun _ _=>I7 fun _ _=>?_
   exact Aje hR nm at_ pc ab _ l [] s k (by simp only [Br];omega) (by omega) hwd (hb.weak (by omega))
  rw [DK h,if_neg h,cond_false]
  by_cases h:k0=25
  ·have h2:=Nl h
   have k0:=FR (l:=l) (i:=0) (by omega)
   have k1:=FR (l:=l) (i:=1) (by omega)
   have e1:=MH (l:=l) (i:=1) (by omega)
   have e2:Au (l.take 1)=sz (BN l 0):=by
    have:=MH (l:=l) (i:=0) (by omega)
    have:=NA l 1
    simp only [List.take_zero,Au,Nat.zero_add] at *
    omega
   rw [eqC h,if_pos h,cond_true,Pt 0 (by omega) (by omega),Aj,hR nm at_ pc ab s (BN l 0) false (hwd _ k0.2).1 (hwd _ k0.2).2 (hb.weak (by omega))]
   refine bindM fun s' hs'=>?_
   have hb':BdC s' ab (sz (BN l 1)+0+1):=(hb.weak (m:=sz (BN l 0)+(sz (BN l 1)+0+1)) (by omega)).step (Hs (hwd _ k0.2).2 hs')
   rw [Pt 1 (by omega) (by omega),Aj]
   have:=hP nm at_ pc ab s' 25 t n a l [] (BN l 1) 0 (.inl rfl) (hwd _ k1.2).1 (hwd _ k1.2).2 hb'
   simp only [BF.IX]
   rw [h]
   have this:=this
   simp only [Int.ofNat_zero,Int.natCast_zero] at this
   rw [this]
   exact id' _
  rw [DK h,if_neg h,cond_false]
  by_cases h:k0=26
  ·have h2:=Nm h
   have kl:=FR (l:=l) (i:=l.length - 1) (by omega)
   have e1:=MH (l:=l) (i:=l.length - 1) (by omega)
   have e2:Au ((l.drop 1).take (l.length - 2))+Au (l.take 1)≤Au (l.take (l.length - 1)):=by
    have:=NA (l.take (l.length - 1)) 1
    rw [List.drop_take,List.take_take,Nat.min_eq_left (by omega),show l.length - 1 - 1=l.length - 2 by omega] at this
    omega
   have e3:=Em (l.take 1)
   rw [eqC h,if_pos h,cond_true,wiC _ (by omega) (by omega),GI 1 (l.length - 1) (by omega) (by omega) (by omega) (by omega),Aj,show l.length - 1 - 1=l.length - 2 by omega]
   rw [hL nm at_ pc ab s _ (fun x hx=>hwd x (List.mem_of_mem_drop (List.mem_of_mem_take hx))) (hb.weak (by omega))]
   refine bindM fun s' hs'=>?_
   have hb':=(hb.weak (m:=Au ((l.drop 1).take (l.length - 2))+(sz (BN l (l.length - 1))+(l.take 1).length+1)) (by omega)).step (nP (fun x hx=>List.mem_of_mem_drop (List.mem_of_mem_take hx)) hs')
   rw [GI 0 1 (by omega) (by omega) (Nat.zero_le _) (by omega),Aj,Pt (l.length - 1) (by omega) (by omega),Aj]
   simp only [List.drop_zero,Nat.sub_zero,BF.IX]
   have:=hP nm at_ pc ab s' k0 t n a l (l.take 1) (BN l (l.length - 1)) 3 (.inr rfl) (hwd _ kl.2).1 (hwd _ kl.2).2 hb'
   have this:(CK.at k).GB s'.fs s'.gl nm at_ pc s'.sl s'.cs s'.lo s'.lp ab k0 t n a l (l.take 1) (BN l (l.length - 1)).kind (BN l (l.length - 1)).text (BN l (l.length - 1)).n (BN l (l.length - 1)).at_ (BN l (l.length - 1)).kids (3:Int)=_:=this
   rw [this]
   exact id' _
  rw [DK h,if_neg h,cond_false]
  by_cases h:k0=27
  ·obtain ⟨m,rfl,hm⟩:=Nn h
   have kl:=FR (l:=l) (i:=l.length - 1) (by omega)
   have e1:=MH (l:=l) (i:=l.length - 1) (by omega)
   have e2:Au ((l.drop m).take (l.length - 1 - m))+Au (l.take m)≤Au (l.take (l.length - 1)):=by
    have:=NA (l.take (l.length - 1)) m
    rw [List.drop_take,List.take_take,Nat.min_eq_left (by omega)] at this
    omega
   have e3:=Em (l.take m)
   rw [eqC h,if_pos h,cond_true,wiC ((l.length:Int) - 1) (by omega) (by omega),wiC _ (by omega) (by omega)]
   refine I7 fun _ _=>I7 fun _ _=>?_
   rw [GI m (l.length - 1) (by omega) (by omega) (by omega) (by omega),Aj]
   rw [hL nm at_ pc ab s _ (fun x hx=>hwd x (List.mem_of_mem_drop (List.mem_of_mem_take hx))) (hb.weak (by omega))]
   simp only [Int.toNat_natCast]
   refine bindM fun s' hs'=>?_
   have hb':=(hb.weak (m:=Au ((l.drop m).take (l.length - 1 - m))+(sz (BN l (l.length - 1))+(l.take m).length+1)) (by omega)).step (nP (fun x hx=>List.mem_of_mem_drop (List.mem_of_mem_take hx)) hs')
   rw [GI 0 m (by omega) (by omega) (Nat.zero_le _) (by omega),Aj,Pt (l.length - 1) (by omega) (by omega),Aj]
   simp only [List.drop_zero,Nat.sub_zero,BF.IX]
   have:=hP nm at_ pc ab s' k0 t m a l (l.take m) (BN l (l.length - 1)) 3 (.inr rfl) (hwd _ kl.2).1 (hwd _ kl.2).2 hb'
   have this:(CK.at k).GB s'.fs s'.gl nm at_ pc s'.sl s'.cs s'.lo s'.lp ab k0 t m a l (l.take m) (BN l (l.length - 1)).kind (BN l (l.length - 1)).text (BN l (l.length - 1)).n (BN l (l.length - 1)).at_ (BN l (l.length - 1)).kids (3:Int)=_:=this
   rw [this]
   exact id' _
  rw [DK h,if_neg h,cond_false]
  by_cases h:k0=29
  ·rw [eqC h,if_pos h,cond_true]
   by_cases h0:s.lp=0
   ·rw [eqC h0,if_pos h0];rfl
   ·rw [DK h0,if_neg h0];rfl
  rw [DK h,if_neg h,cond_false,hX nm at_ pc ab s k0 t n a l tg hwd hs7 (hb.weak (by omega)),id']
theorem W6:∀ (d k:Nat),500003+3 * d≤k→RcN (CK.at k) d
 | 0,k,_=>fun nm at_ pc ab s t tg h=>by have:=G5 t;omega
 | d+1,k,hk=>by
  obtain ⟨k,rfl⟩:∃ m,k=m+3:=⟨k - 3,by omega⟩
  have h0:=W6 d k (by omega)
  have h1:=W6 d (k+1) (by omega)
  have h2:=W6 d (k+2) (by omega)
  exact Bmh (by omega) h2 (Aty (by omega) h1) (A7f (by omega) (Aty (by omega) h0)) (Bl2 (by omega) h1) (A7z (by omega) h1)
mutual
def htT:Tree→Nat
 | .mk _ _ _ _ l=>KU l+1
def KU:List Tree→Nat
 | []=>0
 | x :: l=>max (htT x) (KU l)
end
mutual
theorem Bf7:∀ t:Tree,htT t≤sz t
 | .mk _ _ _ _ l=>by simp only [htT,sz];have:=ZQ l;omega
theorem ZQ:∀ l:List Tree,KU l≤Au l
 | []=>by simp [KU,Au]
 | x :: l=>by simp only [KU,Au];have:=Bf7 x;have:=ZQ l;omega
end
theorem Aow (J:Int→Option Int) (R:H1):∀ (t pre:List Tree) (m a:Nat),pre.length+t.length≤10000000→t.length+1≤m →
  (∀ x ∈ t,R.Ef x.kind x.text x.n x.at_ x.kids=some (htT x:Int))→Ef.l0 m R (pre++t) J (a:Int) (pre.length:Int)=J ((max a (KU t):Nat):Int)
 | [],pre,m,a,hl,hm,_=>by
  obtain ⟨m,rfl⟩:∃ m',m=m'+1:=⟨m - 1,by omega⟩
  simp only [Ef.l0]
  rw [ltF (by simp)]
  simp [KU]
 | x :: t,pre,m,a,hl,hm,hR=>by
  obtain ⟨m,rfl⟩:∃ m',m=m'+1:=⟨m - 1,by omega⟩
  simp only [AI] at hl hm
  have ih:=Aow J R t (pre++[x]) m (max a (htT x)) (by simp;omega) (by omega) (fun y hy=>hR y (Db _ hy))
  simp only [Ef.l0]
  rw [Ir (by simp;omega),DW]
  simp only [cond_true,Aj]
  rw [hR x (CB ..)]
  simp only [Aj]
  rw [wiC _ (by omega) (by omega)]
  rw [Ck,AV] at ih
  have e1:(if (htT x:Int) > (a:Int) then (htT x:Int) else (a:Int))=((max a (htT x):Nat):Int):=by split <;> omega
  rw [e1]
  refine ih.trans (congrArg J ?_)
  simp only [KU]
  omega
theorem ZP:∀ (k:Nat) (t:Tree),sz t≤k→sz t≤1000000→Ef.g (H1.at k) k t.kind t.text t.n t.at_ t.kids=some (htT t:Int)
 | 0,t,h,_=>by have:=G5 t;omega
 | k+1,.mk kd tx n a l,h,h9=>by
  simp only [sz] at h h9
  have hl:=Em l
  have hh:=ZQ l
  unfold Ef.g BG
  have:=Aow (fun x2=>some (IntKind.i64.wrap (x2+(1:Int)))) (H1.at (k+1)) l [] (k+1) 0 (by simp only [Br];omega) (by omega) fun x hx=>by
   have:=FJ hx
   exact ZP k x (by omega) (by omega)
  refine this.trans ?_
  rw [wiC _ (by omega) (by omega)]
  simp [htT]
def st0:BF:=⟨[(⟨#[]⟩,0,0,0,[])],[],0,[],[],0⟩
def JY (d:Nat) (n:Tree):PC BF:=if htT n > 100 then .bad (6,n.at_) else Cm d [] st0 n false
abbrev Rep:=List Km×List ByteArray×Int×Int
def Afb (a:Int):PC BF→Rep
 | .bad e=>([],[],e.1,e.2)
 | .ok s=>((⟨#[]⟩,a,0,s.sl,s.cs) :: s.fs.tail,s.gl,0,0)
theorem Bme:∀ {d:Nat} {ab:List ByteArray} {s s':BF} {t:Tree} {tg:Bool},Cm d ab s t tg=.ok s'→s.fs <+: s'.fs:=by
 intro d
 induction d with
 | zero=>intro ab s s' t tg h;unfold Cm at h;cases h
 | succ d ih =>
  have hN:∀ {m:List Tree} {ab s s'},DL (fun s x=>Cm d ab s x false) s m=.ok s'→s.fs <+: s'.fs:=by
   intro m
   induction m with
   | nil=>intro ab s s' h;cases h;exact List.prefix_refl _
   | cons x m ihm =>
    intro ab s s' h
    unfold DL at h
    obtain ⟨s1,h1,h⟩:=BM h
    exact (ih h1).trans (ihm h)
  have hA:∀ {m:List Tree} {n i ab s s'},Jo (fun s x b=>Cm d ab s x b) n i s m=.ok s'→s.fs <+: s'.fs:=by
   intro m
   induction m with
   | nil=>intro n i ab s s' h;cases h;exact List.prefix_refl _
   | cons x m ihm =>
    intro n i ab s s' h
    unfold Jo at h
    obtain ⟨s1,h1,h⟩:=BM h
    exact (ih h1).trans (ihm h)
  have hP:∀ {a:Int} {names:List Tree} {b:Tree} {more:Nat} {ab s s'},IH (fun s x=>Cm d ab s x false) a s names b more=.ok s'→s.fs <+: s'.fs:=by
   intro a names b more ab s s' h
   unfold IH at h
   obtain ⟨r,_,h⟩:=BM h
   obtain ⟨s1,h1,h⟩:=BM h
   cases h
   have h2:=ih (show Cm d ab _ b false=_ from h1)
   exact h2
  intro ab s s' t tg h
  cases t with
  | mk k t n a l =>
   unfold Cm at h
   split at h
   ·obtain ⟨s1,h1,h⟩:=BM h;cases h;have h2:=hN h1;exact h2
   split at h
   ·obtain ⟨_,_,h⟩:=BM h
    split at h
    ·cases h
    obtain ⟨_,_,h⟩:=BM h
    obtain ⟨r,_,h⟩:=BM h
    obtain ⟨s1,h1,h⟩:=BM h
    cases h
    exact (ih h1).trans (List.prefix_append _ _)
   split at h
   ·obtain ⟨_,_,h⟩:=BM h
    obtain ⟨_,_,h⟩:=BM h
    obtain ⟨s1,h1,h⟩:=BM h
    obtain ⟨r,_,h⟩:=BM h
    cases h;have h2:=hN h1;exact h2
   split at h
   ·obtain ⟨_,_,h⟩:=BM h
    obtain ⟨_,_,h⟩:=BM h
    exact hA h
   split at h
   ·obtain ⟨s1,h1,h⟩:=BM h;exact (ih h1).trans (hP h)
   split at h
   ·obtain ⟨s1,h1,h⟩:=BM h;exact (hN h1).trans (hP h)
   split at h
   ·obtain ⟨_,_,h⟩:=BM h
    obtain ⟨_,_,h⟩:=BM h
    obtain ⟨s1,h1,h⟩:=BM h;exact (hN h1).trans (hP h)
   split at h
   ·split at h
    ·cases h
    ·cases h;exact List.prefix_refl _
   ·unfold Kw at h
    (repeat' split at h) <;> first
     | (cases h;done)
     | (cases h;exact List.prefix_refl _)
     | exact hN h
     | (obtain ⟨_,_,h⟩:=BM h;have h2:=hN (show DL (fun s x=>Cm d ab s x false) _ l=_ from h);exact h2)
theorem Agv {n:Tree} (h:wfC n):gw n∧n.kind=20:=by
 cases n with
 | mk k t n a l =>
  obtain ⟨h1,h0,h2⟩:=h
  subst h1
  exact ⟨⟨⟨h0,nx rfl,nx rfl,nx rfl,nx rfl,nx rfl,nx rfl⟩,QG.2 fun x hx=>(h2 x hx).elim X3 A7x⟩,rfl⟩
theorem check_eq (k:Nat) (hk:900000≤k) (s:ByteArray):ON.f k s=some (match Iv s with | (kd,tx,n,a,l,c,p)=>if c≠0 then ([],[],c,p) else Afb a (JY 100000 (.mk kd tx n a l))):=by
 unfold ON.f
 rw [Aea k (by omega),Aj]
 rcases Bqi s with ⟨c,p,hc,he⟩ | ⟨n,he,hw,hz⟩
 ·rw [he]
  unfold M6
  simp only
  rw [show (c != 0)=true by rw [bne_iff_ne];exact hc,cond_true,if_pos hc]
 ·rw [he]
  unfold JZ
  obtain ⟨hg,_⟩:=Agv hw
  simp only [bne_self_eq_false,cond_false,BG,ne_eq,not_true_eq_false,if_false]
  have e:Tree.mk n.kind n.text n.n n.at_ n.kids=n:=by cases n;rfl
  rw [e,show Ef.f k n.kind n.text n.n n.at_ n.kids=some (htT n:Int) from ZP k n (by omega) (by omega)]
  simp only [Aj]
  unfold JY
  by_cases hh:htT n > 100
  ·rw [decide_eq_true (by omega),if_pos hh]
   rfl
  ·rw [decide_eq_false (by omega),if_neg hh,cond_false]
   have hb:BdC st0 [] (sz n):=⟨by simp only [pot,st0,AI,Br];omega,by simp,Int.le_refl _,by show (0:Int)+_≤_;omega⟩
   have hk':=W6 100000 (k+1) (by omega) ⟨#[]⟩ n.at_ 0 [] st0 n false (by omega) hg hb
   have hk':D9.f k [(⟨#[]⟩,0,0,0,[])] [] ⟨#[]⟩ n.at_ 0 0 [] [] 0 [] n.kind n.text n.n n.at_ n.kids false=_:=hk'
   rw [hk']
   cases hn:Cm 100000 [] st0 n false with
   | bad e=>rfl
   | ok s' =>
    obtain ⟨t,ht⟩:=Bme hn
    cases s' with
    | mk fs gl sl cs lo lp =>
     have ht:(⟨#[]⟩,0,0,0,[]) :: t=fs:=ht
     subst ht
     rfl
mutual
inductive IsE:Tree→Prop
 | atom {k n a:Int} {t:ByteArray}:1≤k→k≤6→IsE (.mk k t n a [])
 | index {n a:Int} {t:ByteArray} {x y:Tree}:IsE x→IsE y→IsE (.mk 7 t n a [x,y])
 | call {n a:Int} {t:ByteArray} {x:Tree} {l:List Tree}:IsE x→(∀ y ∈ l,IsE y)→IsE (.mk 8 t n a (x :: l))
 | paren {n a:Int} {t:ByteArray} {x:Tree}:IsE x→IsE (.mk 9 t n a [x])
 | unary {n a:Int} {t:ByteArray} {x:Tree}:IsE x→IsE (.mk 10 t n a [x])
 | binary {n a:Int} {t:ByteArray} {x y:Tree}:IsE x→IsE y→IsE (.mk 11 t n a [x,y])
 | table {n a:Int} {t:ByteArray} {l:List Tree}:(∀ y ∈ l,Ko y)→IsE (.mk 12 t n a l)
inductive Ko:Tree→Prop
 | item {n a:Int} {t:ByteArray} {x:Tree}:IsE x→Ko (.mk 13 t n a [x])
 | field {n a:Int} {t:ByteArray} {x y:Tree}:IsE x→IsE y→Ko (.mk 14 t n a [x,y])
end
mutual
inductive E7:Tree→Prop
 | block {n a:Int} {t:ByteArray} {l:List Tree}:(∀ x ∈ l,IsS x)→E7 (.mk 20 t n a l)
inductive IsS:Tree→Prop
 | loc {a:Int} {t:ByteArray} {l m:List Tree}:l≠[]→(∀ x ∈ m,IsE x)→IsS (.mk 21 t (l.length:Nat) a (l++m))
 | asg {a:Int} {t:ByteArray} {l m:List Tree}:l≠[]→(∀ x ∈ l,IsE x∧(x.kind=6∨x.kind=7))→m≠[]→(∀ x ∈ m,IsE x)→IsS (.mk 22 t (l.length:Nat) a (l++m))
 | run {n a:Int} {t:ByteArray} {x:Tree}:IsE x→x.kind=8→IsS (.mk 23 t n a [x])
 | if_ {n a:Int} {t:ByteArray} {l:List Tree}:IsR l→IsS (.mk 24 t n a l)
 | while_ {n a:Int} {t:ByteArray} {x b:Tree}:IsE x→E7 b→IsS (.mk 25 t n a [x,b])
 | for_ {n a:Int} {t:ByteArray} {x b:Tree} {l:List Tree}:l.length=2∨l.length=3→(∀ y ∈ l,IsE y)→E7 b→IsS (.mk 26 t n a (x :: l++[b]))
 | forIn {a:Int} {t:ByteArray} {b:Tree} {l m:List Tree}:l≠[]→m≠[]→(∀ y ∈ m,IsE y)→E7 b→IsS (.mk 27 t (l.length:Nat) a (l++m++[b]))
 | do_ {n a:Int} {t:ByteArray} {b:Tree}:E7 b→IsS (.mk 28 t n a [b])
 | break_ {n a:Int} {t:ByteArray}:IsS (.mk 29 t n a [])
 | ret {n a:Int} {t:ByteArray} {l:List Tree}:(∀ y ∈ l,IsE y)→IsS (.mk 30 t n a l)
/-- The branches of an if. -/
inductive IsR:List Tree→Prop
 | nil:IsR []
 | last {b:Tree}:E7 b→IsR [b]
 | more {e b:Tree} {l:List Tree}:IsE e→E7 b→IsR l→IsR (e :: b :: l)
end
inductive Lt:Tree→Prop
 | fn {a:Int} {t:ByteArray} {l:List Tree} {b:Tree}:E7 b→Lt (.mk 31 t (l.length:Nat) a (l++[b]))
inductive IsC:Tree→Prop
 | chunk {n a:Int} {t:ByteArray} {l:List Tree}:(∀ x ∈ l,IsS x∨Lt x)→IsC (.mk 20 t n a l)
abbrev E8 (l:List Tree):Prop:=∀ x ∈ l,IsE x
theorem Abi {l:List Tree} {x:Tree} (h:E8 l) (hx:IsE x):E8 (l++[x]):=fun y hy=>by
 rcases EQ.1 hy with hy | hy
 ·exact h y hy
 ·obtain rfl:=F7.1 hy;exact hx
theorem le_nil:E8 []:=fun _ h=>nomatch h
structure XE (f:Nat):Prop where
 exp:∀ least ts,R (D7 f least ts) fun n _=>IsE n
 loop:∀ least n ts,IsE n→R (F1 f least n ts) fun n _=>IsE n
 operand:∀ ts,R (Fs f ts) fun n _=>IsE n
 fields:∀ acc ts,(∀ x ∈ acc,Ko x)→R (Fr f acc ts) fun l _=>∀ x ∈ l,Ko x
 field:∀ ts,R (F8 f ts) fun n _=>Ko n
 El:∀ ts,R (EL f ts) fun n _=>IsE n
 DA:∀ at_ n ts,IsE n→R (EB f at_ n ts) fun n _=>IsE n
 Do:∀ ts,R (DT f ts) fun l _=>E8 l∧l≠[]
 Gz:∀ acc ts,E8 acc→acc≠[]→R (F0 f acc ts) fun l _=>E8 l∧l≠[]
theorem UV (ts:List Tk):R (It 6 ts) fun n _=>IsE n∧n.kind=6:=R.ite (fun _=>R.ok ⟨.atom (by decide) (by decide),rfl⟩) fun _=>R.bad
theorem Bwh (ts:List Tk):R (It 5 ts) fun n _=>IsE n:=R.ite (fun _=>R.ok (.atom (by decide) (by decide))) fun _=>R.bad
theorem I_ (w:ByteArray) (ts:List Tk):R (E_ w ts) fun _ _=>True:=R.ite (fun _=>R.ok trivial) fun _=>R.bad
theorem Ag2:∀ (f:Nat) (acc:List Tree) (ts:List Tk),acc≠[]→R (G3 f acc ts) fun l _=>l≠[]
 | 0,_,_,_=>R.none
 | f+1,acc,ts,h=>by
  unfold G3
  exact R.ite (fun _=>R.bind (UV ts.tail) fun n r _=>Ag2 f _ r (by simp)) fun _=>R.ok h
theorem Aza (f:Nat) (ts:List Tk):R (LX f ts) fun l _=>l≠[]:=R.bind (UV ts) fun n r _=>Ag2 f _ r (by simp)
theorem xE:∀ f,XE f
 | 0=>by constructor <;> intros <;> (first | rw [D7] | rw [F1] | rw [Fs] | rw [Fr] | rw [F8] | rw [EL] | rw [EB] | rw [DT] | rw [F0]) <;> exact R.none
 | f+1=>by
  have ih:=xE f
  constructor
  ·intro least ts;unfold D7
   exact R.bind (ih.operand ts) fun n r hn=>ih.loop _ _ _ hn
  ·intro least n ts hw;unfold F1
   refine R.ite (fun _=>R.ok hw) fun _=>R.bind (ih.exp _ _) fun m r hm=>ih.loop _ _ _ (.binary hw hm)
  ·intro ts;unfold Fs
   refine R.ite (fun _=>R.ok (.atom (by decide) (by decide))) fun _=>?_
   refine R.ite (fun _=>R.ok (.atom (by decide) (by decide))) fun _=>?_
   refine R.ite (fun _=>R.ok (.atom (by decide) (by decide))) fun _=>?_
   refine R.ite (fun _=>R.ok (.atom (by decide) (by decide))) fun _=>?_
   refine R.ite (fun _=>R.ok (.atom (by decide) (by decide))) fun _=>?_
   refine R.ite (fun _=>R.bind (ih.exp _ _) fun m r hm=>R.ok (.unary hm)) fun _=>?_
   refine R.ite (fun _=>R.bind (ih.fields _ _ (fun _ h=>nomatch h)) fun l r hl=>R.ok (.table hl)) fun _=>?_
   exact ih.El _
  ·intro acc ts ha;unfold Fr
   refine R.ite (fun _=>R.ok ha) fun _=>R.bind (ih.field ts) fun x r hx=>?_
   have hs:∀ y ∈ acc++[x],Ko y:=fun y hy=>by
    rcases EQ.1 hy with hy | hy
    ·exact ha y hy
    ·obtain rfl:=F7.1 hy;exact hx
   refine R.ite (fun _=>ih.fields _ _ hs) fun _=>R.ite (fun _=>ih.fields _ _ hs) fun _=>?_
   exact R.bind (I_ _ _) fun _ s hr=>R.ok hs
  ·intro ts;unfold F8
   refine R.ite (fun _=>?_) fun _=>R.ite (fun _=>?_) fun _=>?_
   ·exact R.bind (ih.exp _ _) fun k r hk=>R.bind (I_ _ _) fun _ r hr=>R.bind (I_ _ _) fun _ r hr=>R.bind (ih.exp _ _) fun v r hv=>R.ok (.field hk hv)
   ·exact R.bind (ih.exp _ _) fun v r hv=>R.ok (.field (.atom (by decide) (by decide)) hv)
   ·exact R.bind (ih.exp _ _) fun v r hv=>R.ok (.item hv)
  ·intro ts;unfold EL
   refine R.ite (fun _=>?_) fun _=>?_
   ·exact R.bind (ih.exp _ _) fun e r he=>R.bind (I_ _ _) fun _ r hr=>ih.DA _ _ _ (.paren he)
   ·exact R.bind (UV _) fun n r hn=>ih.DA _ _ _ hn.1
  ·intro at_ n ts hw;unfold EB
   refine R.ite (fun _=>?_) fun _=>R.ite (fun _=>?_) fun _=>R.ite (fun _=>?_) fun _=>R.ok hw
   ·exact R.bind (ih.exp _ _) fun e r he=>R.bind (I_ _ _) fun _ r hr=>ih.DA _ _ _ (.index hw he)
   ·exact R.bind (Bwh _) fun e r he=>ih.DA _ _ _ (.index hw he)
   ·exact R.bind (Q1:=fun l _=>E8 l) (R.ite (fun _=>R.ok le_nil) fun _=>R.weak (ih.Do _) fun l _ h=>h.1) fun l r hl=>R.bind (I_ _ _) fun _ r hr=>ih.DA _ _ _ (.call hw hl)
  ·intro ts;unfold DT
   exact R.bind (ih.exp _ _) fun e r he=>ih.Gz _ _ (Abi le_nil he) (by simp)
  ·intro acc ts ha hn;unfold F0
   exact R.ite (fun _=>R.bind (ih.exp _ _) fun e r he=>ih.Gz _ _ (Abi ha he) (by simp)) fun _=>R.ok ⟨ha,hn⟩
def QP (c:Bool) (x:Tree):Prop:=IsS x∨(c=true∧Lt x)
theorem ZZ {c:Bool} {acc:List Tree} {x:Tree} (h:∀ y ∈ acc,QP c y) (hx:QP c x):∀ y ∈ acc++[x],QP c y:=fun y hy=>by
 rcases EQ.1 hy with hy | hy
 ·exact h y hy
 ·obtain rfl:=F7.1 hy;exact hx
theorem IsR.Ajb:∀ {acc:List Tree} {e b:Tree},IsR acc→(∃ m,acc.length=2 * m)→IsE e→E7 b→IsR (acc++[e]++[b])∧(∃ m,(acc++[e]++[b]).length=2 * m)
 | [],e,b,_,_,he,hb=>⟨.more he hb .nil,1,rfl⟩
 | [_],e,b,_,⟨m,hm⟩,_,_=>by simp at hm;omega
 | x :: y :: l,e,b,h,⟨m,hm⟩,he,hb=>by
  cases h with
  | more h1 h2 h3 =>
   obtain ⟨h4,m',h5⟩:=IsR.Ajb h3 ⟨m - 1,by simp at hm;omega⟩ he hb
   exact ⟨.more h1 h2 h4,m'+1,by simp at h5 ⊢;omega⟩
theorem IsR.app1:∀ {acc:List Tree} {b:Tree},IsR acc→(∃ m,acc.length=2 * m)→E7 b→IsR (acc++[b])
 | [],b,_,_,hb=>.last hb
 | [_],b,_,⟨m,hm⟩,_=>by simp at hm;omega
 | x :: y :: l,b,h,⟨m,hm⟩,hb=>by
  cases h with
  | more h1 h2 h3=>exact .more h1 h2 (IsR.app1 h3 ⟨m - 1,by simp at hm;omega⟩ hb)
structure XS (f:Nat):Prop where
 block:∀ c ts,R (DM f c ts) fun n _=>∃ a l,n=.mk 20 noB 0 a l∧∀ x ∈ l,QP c x
 Es:∀ c at_ acc ts,(∀ x ∈ acc,QP c x)→R (Dt f c at_ acc ts) fun n _=>∃ a l,n=.mk 20 noB 0 a l∧∀ x ∈ l,QP c x
 function:∀ ts,R (EY f ts) fun n _=>Lt n
 body:∀ ts,R (E9 f ts) fun n _=>E7 n
 stat:∀ ts,R (EK f ts) fun n _=>IsS n
 branches:∀ acc ts,IsR acc→(∃ m,acc.length=2 * m)→R (Fz f acc ts) fun l _=>IsR l
 for_:∀ at_ ts,R (F9 f at_ ts) fun n _=>IsS n
 plain:∀ ts,R (FA f ts) fun n _=>IsS n
 targets:∀ acc e ts,(∀ x ∈ acc,IsE x∧(x.kind=6∨x.kind=7))→IsE e→R (EZ f acc e ts) fun l _=>l≠[]∧∀ x ∈ l,IsE x∧(x.kind=6∨x.kind=7)
theorem xS:∀ f,XS f
 | 0=>by constructor <;> intros <;> (first | unfold DM | unfold Dt | unfold EY | unfold E9 | unfold EK | unfold Fz | unfold F9 | unfold FA | unfold EZ) <;> exact R.none
 | f+1=>by
  have ih:=xS f
  have ie:=xE f
  have blk:∀ ts,R (DM f false ts) fun n _=>E7 n:=fun ts=>R.weak (ih.block false ts) fun n r ⟨a,l,e,hl⟩=>by
   rw [e];exact .block fun x hx=>(hl x hx).elim id fun h=>nomatch h.1
  constructor
  ·intro c ts;unfold DM
   exact ih.Es _ _ _ _ (fun _ hx=>nomatch hx)
  ·intro c at_ acc ts ha;unfold Dt
   refine R.ite (fun _=>ih.Es _ _ _ _ ha) fun _=>R.ite (fun _=>?_) fun _=>R.ite (fun hc=>?_) fun _=>R.ite (fun _=>R.ok ⟨_,_,rfl,ha⟩) fun _=>?_
   ·exact R.bind (Q1:=fun l _=>E8 l) (R.ite (fun _=>R.ok le_nil) fun _=>R.weak (ie.Do _) fun l _ h=>h.1) fun l r hl=>R.ok ⟨_,_,rfl,ZZ ha (.inl (.ret hl))⟩
   ·have hc':c=true:=by simp only [Bool.and_eq_true] at hc;exact hc.1
    exact R.bind (ih.function ts) fun x r hx=>ih.Es _ _ _ _ (ZZ ha (.inr ⟨hc',hx⟩))
   ·exact R.bind (ih.stat ts) fun x r hx=>ih.Es _ _ _ _ (ZZ ha (.inl hx))
  ·intro ts;unfold EY
   exact R.bind (UV _) fun nm r hn=>R.bind (I_ _ _) fun _ r hr=>R.bind (Q1:=fun _ _=>True) (R.ite (fun _=>R.ok trivial) fun _=>R.weak (Aza f _) fun _ _ _=>trivial) fun ps r hp=>R.bind (I_ _ _) fun _ r hr=>R.bind (blk _) fun b r hb=>R.bind (I_ _ _) fun _ r hr=>R.ok (.fn hb)
  ·intro ts;unfold E9
   exact R.bind (I_ _ _) fun _ r hr=>R.bind (blk _) fun b r hb=>R.bind (I_ _ _) fun _ r hr=>R.ok hb
  ·intro ts;unfold EK
   refine R.ite (fun _=>?_) fun _=>R.ite (fun _=>?_) fun _=>R.ite (fun _=>?_) fun _=>R.ite (fun _=>ih.for_ _ _) fun _=>R.ite (fun _=>?_) fun _=>R.ite (fun _=>R.ok .break_) fun _=>ih.plain _
   ·exact R.bind (ih.body ts) fun b r hb=>R.ok (.do_ hb)
   ·exact R.bind (ie.exp _ _) fun e r he=>R.bind (ih.body _) fun b r hb=>R.ok (.while_ he hb)
   ·exact R.bind (ih.branches _ _ .nil ⟨0,rfl⟩) fun l r hl=>R.ok (.if_ hl)
   ·exact R.bind (Aza f _) fun l r hl=>R.bind (Q1:=fun l _=>E8 l) (R.ite (fun _=>R.weak (ie.Do _) fun l _ h=>h.1) fun _=>R.ok le_nil) fun es r he=>R.ok (.loc hl he)
  ·intro acc ts ha hm;unfold Fz
   refine R.bind (ie.exp _ _) fun e r he=>R.bind (I_ _ _) fun _ r hr=>R.bind (blk _) fun b r hb=>?_
   obtain ⟨h2,h3⟩:=IsR.Ajb ha hm he hb
   refine R.ite (fun _=>ih.branches _ _ h2 h3) fun _=>R.ite (fun _=>?_) fun _=>?_
   ·exact R.bind (blk _) fun c r hc=>R.bind (I_ _ _) fun _ r hr=>R.ok (IsR.app1 h2 h3 hc)
   ·exact R.bind (I_ _ _) fun _ r hr=>R.ok h2
  ·intro at_ ts;unfold F9
   refine R.bind (UV _) fun n r hn=>R.ite (fun _=>?_) fun _=>?_
   ·refine R.bind (ie.exp _ _) fun a r ha=>R.bind (I_ _ _) fun _ r hr=>R.bind (ie.exp _ _) fun b r hb=>R.bind (Q1:=fun l _=>E8 l∧l.length≤1) (R.ite (fun _=>R.bind (ie.exp _ _) fun c r hc=>R.ok ⟨Abi le_nil hc,Nat.le_refl _⟩) fun _=>R.ok ⟨le_nil,Nat.zero_le _⟩) fun cs r hcs=>R.bind (ih.body _) fun bd r hbd=>R.ok ?_
    have hl:E8 ([a]++[b]++cs):=fun y hy=>by
     simp only [EQ,F7] at hy
     rcases hy with (rfl | rfl) | hy
     ·exact ha
     ·exact hb
     ·exact hcs.1 y hy
    exact IsS.for_ (x:=n) (l:=[a]++[b]++cs) (by have:=hcs.2;simp only [AV,AI,Br];omega) hl hbd
   ·exact R.bind (Ag2 f _ _ (by simp)) fun l r hl=>R.bind (I_ _ _) fun _ r hr=>R.bind (ie.Do _) fun es r he=>R.bind (ih.body _) fun bd r hbd=>R.ok (.forIn hl he.2 he.1 hbd)
  ·intro ts;unfold FA
   refine R.bind (ie.El ts) fun e r he=>R.ite (fun _=>?_) fun _=>R.ite (fun hk=>R.ok (.run he hk)) fun _=>R.bad
   exact R.bind (ih.targets _ _ _ (fun _ h=>nomatch h) he) fun l r hl=>R.bind (I_ _ _) fun _ r hr=>R.bind (ie.Do _) fun es r hes=>R.ok (.asg hl.1 hl.2 hes.2 hes.1)
  ·intro acc e ts ha hw;unfold EZ
   refine R.ite (fun hk=>?_) fun _=>R.bad
   have h2:∀ x ∈ acc++[e],IsE x∧(x.kind=6∨x.kind=7):=fun y hy=>by
    rcases EQ.1 hy with hy | hy
    ·exact ha y hy
    ·obtain rfl:=F7.1 hy;exact ⟨hw,hk⟩
   exact R.ite (fun _=>R.bind (ie.El _) fun e' r he=>ih.targets _ _ _ h2 he) fun _=>R.ok ⟨by simp,h2⟩
theorem Bu5 {ts:List Tk} {n:Tree} {r:List Tk} (h:H6 true ts=.ok n r):IsC n:=by
 obtain ⟨a,l,rfl,hl⟩:=(xS (fu _)).block true ts n r (val_ok h)
 exact .chunk fun x hx=>(hl x hx).elim .inl fun h=>.inr h.2
end
section
open Go Go.RowKit
section
variable {A:World} {ds:List Deferred} {n0:Nat} {env env':Env} {l l' X:List Ab} {q:Act→World→Prop} {P:Program} {Q:Exit→Act→World→Prop} {ops:Array Oper} {os rest:List Oper} {o:Oper}
theorem Bjx {E T TS U:TypeId} {b n m:Nat} {cs news:List Value} {h:Ab} {y:Value} {s x:Operand} (ho:o.op=.call { callee:=.builtin .copy,args:=#[s,x],argTypes:=#[TS,U] })
  (hT:P.underlying TS=some (.slice E)) (hsz:(P.info? E).map (·.size)=some 1) (hg:Cy ops env o=some true) (hd:inB n0 o.dst=true) (hs:Ch env s=some (.slice (some ⟨b,0,none⟩) n n)) (hx:Ch env x=some y)
  (hR:Rd 1 h y m news) (hm:h ∈ l) (hmn:m≤n) (hcs:cs.length=n) (hone:∀ u ∈ news,u.oneCell'=true)
  (hk:K ds A n0 (Bv env o.dst (goInt m)) (blk b (.cells (news++cs.drop m).toArray T (0,0)) :: l) (wpList P ops Q rest)):K ds A n0 env (blk b (.cells cs.toArray T (0,0)) :: l) (wpList P ops Q (o :: rest)):=by
 refine FS hg fun a w ha hw=>?_
 have hsr:Src P 1 w y m news:=hR.src hw.sat (.tail _ hm)
 have hl:news.length=m:=by have:=hR.1;omega
 cases hif:P.info? E with
 | none=>rw [hif] at hsz;cases hsz
 | some i =>
  rw [hif] at hsz
  have hsize:i.size=1:=As hsz
  have hgc:w.heap[b]? = some (.cells cs.toArray T (0,0)):=hw.sat.1 b _ (by simp [blk])
  have hst:=run_storeCells_at P b 0 T news 0 cs.toArray w hgc (by simp;omega) hone
  simp only [Nat.add_zero,Nat.zero_add,List.take_zero,List.nil_append] at hst
  have hmin:Nat.min m n=m:=Nat.min_eq_left hmn
  have hr:(Builtin.copy_ #[TS,U] o.type #[.slice (some ⟨b,0,none⟩) n n,y]).run P w=.ok (goInt m) (w.setRow b (news++cs.drop m).toArray):=by
   have h1:=hsr.now
   rw [hl] at hst
   simp [Builtin.copy_,run_underlying hT,hsr.len,hmin,sizeOf,typeInfo,hif,hsize,h1]
   rw [hst]
   rfl
  unfold Oper.wp execOp
  simp only [ho,resolve,invoke,builtin,Sem.run_bind,Sem.run_pure,Result.andThen_ok,List.map_toArray,List.map_cons,List.map_nil,ha.eval hs,ha.eval hx,hr]
  exact hk _ _ (ha.Bv _ hd) (hw.setRow _)
def cp3 (l:List Int) (i:Nat):Int:=(l[i]?).getD 0
theorem Bjy {E T TS U:TypeId} {b:Nat} {xs:List Int} {h:Ab} {A':Option Addr} {c:Nat} {s x:Operand} (ho:o.op=.call { callee:=.builtin .copy,args:=#[s,x],argTypes:=#[TS,U] })
  (hT:P.underlying TS=some (.slice E)) (hsz:(P.info? E).map (·.size)=some 1) (hg:Cy ops env o=some true) (hd:inB n0 o.dst=true) (hs:Ch env s=some (.slice (some ⟨b,0,none⟩) 3 3)) (hx:Ch env x=some (.slice A' xs.length c))
  (hR:Bl (encI .i64) 1 h (.slice A' xs.length c) xs) (hm:h ∈ l) (hle:decide (xs.length≤3)=true)
  (hk:K ds A n0 (Bv env o.dst (.int .i64 ((xs.length:Nat):Int))) (blk b (.cells #[.int .i64 (cp3 xs 0),.int .i64 (cp3 xs 1),.int .i64 (cp3 xs 2)] T (0,0)) :: l) (wpList P ops Q rest)):K ds A n0 env (blk b (.cells #[.int .i64 0,.int .i64 0,.int .i64 0] T (0,0)) :: l) (wpList P ops Q (o :: rest)):=by
 have hle:=of_decide_eq_true hle
 refine Bjx (n:=3) (m:=xs.length) (cs:=[.int .i64 0,.int .i64 0,.int .i64 0]) (news:=xs.flatMap (encI .i64)) ho hT hsz hg hd hs hx hR hm hle rfl hR.2.1 ?_
 have e:(xs.flatMap (encI .i64)++([.int .i64 0,.int .i64 0,.int .i64 0]:List Value).drop xs.length).toArray=#[.int .i64 (cp3 xs 0),.int .i64 (cp3 xs 1),.int .i64 (cp3 xs 2)]:=by
  match xs,hle with
  | [],_=>rfl
  | [_],_=>rfl
  | [_,_],_=>rfl
  | [_,_,_],_=>rfl
  | _ :: _ :: _ :: _ :: _,h=>simp at h
 rw [e]
 exact hk
end
def e48 (x:Int×Int×Int×Int):List Value:=[.int .i64 x.1,.int .i64 x.2.1,.int .i64 x.2.2.1,.int .i64 x.2.2.2]
theorem Fo:Fh e48 4:=⟨fun _=>rfl,fun _=>rfl⟩
theorem A6v:Gy Tryz.prog 39 48 4 32 Tryz.t48 (.agg #[iv 0,iv 0,iv 0,iv 0]):=⟨by kernel_rfl,by kernel_rfl,by kernel_rfl,by kernel_rfl,by kernel_rfl,by kernel_rfl,by decide⟩
def BA.f (_k:Nat) (At:TyA) (a1:Int) (a2:List Int):Option (Int×TyA):=cond (decide (a2.length≤3)) ((apd 32 At [(a1,cp3 a2 0,cp3 a2 1,cp3 a2 2)]).bind fun l4=>some (IntKind.i64.wrap (((l4.length:Nat):Int) - 1),l4)) none
theorem BA.ok {k b0 Bt Gj:Nat} {At:TyA} {a1:Int} {a2:List Int} {Ay Az A2 DC B0 Eo AA B1 B2 FW Bk:Value} {B9 Kn:Ab} {Bm Gi:Aq} {r:Int×TyA} (h:BA.f k At a1 a2=some r) (Cj:Ah e48 48 4 B9 (Aa Bm At Bt) At) (NP:Bl (encI .i64) 1 Kn (Aa Gi a2 Gj) a2): Ct Tryz.prog 30 #[pt b0,iv a1,Aa Gi a2 Gj] [bk b0 #[Ay,Az,A2,DC,Aa Bm At Bt,B0,Eo,AA,B1,B2,FW,Bk] 66,B9] [Kn] (fun e l1=>∃ (H0_:Ab) (A0_:Aq) (c0_:Nat),Ah e48 48 4 H0_ (Aa A0_ r.2 c0_) r.2∧e=.returned (iv r.1)∧l1=[bk b0 #[Ay,Az,A2,DC,Aa A0_ r.2 c0_,B0,Eo,AA,B1,B2,FW,Bk] 66,H0_]):=by
 refine C3 (args:=[pt b0,iv a1,Aa Gi a2 Gj]) Tryz.func30 rfl (By rfl) ?_
 intro A X hh_
 obtain ⟨Nf,_⟩:=hh_
 unfold BA.f at h
 refine K.eq (env':=[(0,pt b0),(1,iv a1),(2,Aa Gi a2 Gj)]) (l':=bk b0 #[Ay,Az,A2,DC,Aa Bm At Bt,B0,Eo,AA,B1,B2,FW,Bk] 66 :: B9 :: X) rfl rfl (ksr (kx 1 (Ba (knp #[iv 0,iv 0,iv 0] 113 fun b1=>(Ba (kx 2 ?_))))))
 obtain ⟨tq2,h⟩:=Kt h
 refine Bjy (E:=3) (xs:=a2) rfl (by kernel_rfl) (by kernel_rfl) (by kernel_rfl) (by kernel_rfl) (by kernel_rfl) (by kernel_rfl) NP (t2 Nf) tq2 (Ad (B8 (Js [(0,0),(1,0),(2,0),(3,0),(4,0),(5,3),(6,0),(7,0),(8,3),(9,0),(10,3),(11,0),(12,3),(13,0),(14,1)] [bk b1 #[iv (cp3 a2 0),iv (cp3 a2 1),iv (cp3 a2 2)] 113,bk b0 #[Ay,Az,A2,DC,Aa Bm At Bt,B0,Eo,AA,B1,B2,FW,Bk] 66,B9,Kn] (fun w h_=>⟨h_.sat.on _ (.head _),h_.sat.on _ (.tail _ (.head _)),h_.sat.on _ (.tail _ (.tail _ (.head _))),h_.sat.on _ (t3 Nf),trivial⟩) (Ar 5 (AP 1 4 rfl (Ar 2 (AP 0 0 rfl (Ar 1 (AP 0 1 rfl (Ar 1 ?_))))))))))
 refine AP 0 2 rfl (Ar 1 (kpt (HY #[iv a1,iv (cp3 a2 0),iv (cp3 a2 1),iv (cp3 a2 2)] 48 1 fun b3=>(P1 (fun w h_=>⟨h_.sat.on _ (.tail _ (.head _)),h_.sat.on _ (.tail _ (.tail _ (.head _))),h_.sat.on _ (.tail _ (.tail _ (.tail _ (.head _)))),h_.sat.on _ (t4 Nf),trivial⟩) (Ca (K.mv3 (bnd h fun l4 hl4 h=>(Wj (ys:=[(a1,cp3 a2 0,cp3 a2 1,cp3 a2 2)]) Fo rfl A6v hl4 Cj (Qd (n:=1) Fo [(a1,cp3 a2 0,cp3 a2 1,cp3 a2 2)] (by kernel_rfl) rfl (by decide) 1 rfl) fun h5 A6 k7 o8=>(K.An (K.drop ?_))))))))))
 refine K.An (K.drop (kx 3 (K.An (AQ 4 1 #[Ay,Az,A2,DC,Aa A6 l4 k7,B0,Eo,AA,B1,B2,FW,Bk] (Ba (kx 4 (kld 0 4 rfl (kx 3 (Ad (C9 ?_))))))))))
 obtain rfl:=As h
 exact kdv (iv (IntKind.i64.wrap (((l4.length:Nat):Int) - 1))) [bk b0 #[Ay,Az,A2,DC,Aa A6 l4 k7,B0,Eo,AA,B1,B2,FW,Bk] 66,h5] (BH ⟨h5,A6,k7,o8,rfl,rfl⟩)
def EU.f (_k:Nat) (At:List (Int×Int×Int×Int)):Option (Int):=some (((At.length:Nat):Int))
theorem EU.ok {k b0 Bt:Nat} {At:TyA} {Ay Az A2 DC B0 Eo AA B1 B2 FW Bk:Value} {B9:Ab} {Bm:Aq} {r:Int} (h:EU.f k At=some r) (Cj:Bl e48 4 B9 (Aa Bm At Bt) At): Ct Tryz.prog 76 #[pt b0] [bk b0 #[Ay,Az,A2,DC,Aa Bm At Bt,B0,Eo,AA,B1,B2,FW,Bk] 66] [B9] (fun e l1=>e=.returned (iv r)∧l1=[bk b0 #[Ay,Az,A2,DC,Aa Bm At Bt,B0,Eo,AA,B1,B2,FW,Bk] 66]):=by
 refine C3 (args:=[pt b0]) Tryz.func76 rfl (By rfl) ?_
 intro A X hh_
 obtain ⟨Pc,_⟩:=hh_
 unfold EU.f at h
 refine K.eq (env':=[(0,pt b0)]) (l':=bk b0 #[Ay,Az,A2,DC,Aa Bm At Bt,B0,Eo,AA,B1,B2,FW,Bk] 66 :: X) rfl rfl (ksr (kx 1 (Ba (kx 4 (kld 0 4 rfl (kx 2 (Ad (C9 ?_))))))))
 obtain rfl:=As h
 exact kdn rfl
def HJ.l0:Nat→(a1:List Tree)→(x1:Int)→(l2:List ByteArray)→Option (List ByteArray)
 | 0,_,_,_=>none
 | m7+1,a1,x1,l2=>cond (decide (x1 < ((a1.length:Nat):Int))) ((Bh a1 x1).bind fun x9=>(apd 16 l2 [x9.text]).bind fun KZ=>HJ.l0 m7 a1 (IntKind.i64.wrap (x1+1)) KZ) (some (l2))
def HJ.f (k:Nat) (Am:List ByteArray) (a1:List Tree):Option (List ByteArray):=HJ.l0 k a1 0 Am
theorem HJ.ok {k b0 AT C6:Nat} {Am r:Ae} {a1:List Tree} {Ay Az A2 DC EP B0 Eo AA B1 B2 Bk:Value} {BT DY:Ab} {AR C4:Aq} (h:HJ.f k Am a1=some r) (Ci:Ah encS 9 1 BT (Aa AR Am AT) Am) (Fk:RdR (AX 54) DY (Aa C4 a1 C6) a1): Ct Tryz.prog 72 #[pt b0,Aa C4 a1 C6] [bk b0 #[Ay,Az,A2,DC,EP,B0,Eo,AA,B1,B2,Aa AR Am AT,Bk] 66,BT] [DY] (fun e l1=>∃ (H0_:Ab) (A0_:Aq) (c0_:Nat),Ah encS 9 1 H0_ (Aa A0_ r c0_) r∧e=.returned (.tuple #[])∧l1=[bk b0 #[Ay,Az,A2,DC,EP,B0,Eo,AA,B1,B2,Aa A0_ r c0_,Bk] 66,H0_]):=by
 refine C3 (args:=[pt b0,Aa C4 a1 C6]) Tryz.func72 rfl (By rfl) ?_
 intro A X hh_
 obtain ⟨DV,_⟩:=hh_
 unfold HJ.f at h
 refine K.eq (env':=[(0,pt b0),(1,Aa C4 a1 C6)]) (l':=bk b0 #[Ay,Az,A2,DC,EP,B0,Eo,AA,B1,B2,Aa AR Am AT,Bk] 66 :: BT :: X) rfl rfl (ksr (kx 3 (Ad (C1 (Fx (τ:=Int×Ae×Ab×Aq×Nat) (fun t=>[(0,pt b0),(6,Aa C4 a1 C6),(7,iv ((a1.length:Nat):Int)),(8,iv t.1)]) (fun t=>bk b0 #[Ay,Az,A2,DC,EP,B0,Eo,AA,B1,B2,Aa t.2.2.2.1 t.2.1 t.2.2.2.2,Bk] 66 :: t.2.2.1 :: X) (fun m t=>HJ.l0 m a1 t.1 t.2.1=some r∧Ah encS 9 1 t.2.2.1 (Aa t.2.2.2.1 t.2.1 t.2.2.2.2) t.2.1) k (0,Am,BT,AR,AT) ⟨h,Ci⟩ sb rfl ?_)))))
 clear h
 rintro m7 ⟨x1,l2,h3,A4,k5⟩ ⟨h,o6⟩
 cases m7 with
 | zero=>simp [HJ.l0] at h
 | succ m7 =>
  simp only [HJ.l0] at h
  refine ksr (kx 1 (Ad (B8 ?_)))
  refine AU h (fun h=>?_) fun h=>?_
  ·refine BV (AM (B8 (C1 (ksr (bnd h fun x9 hx9 h=>(DI (T:=54) (kd:=.i64) (R:=(AX 54)) rfl hx9 Fk fun p10 u13 q14 e11 y12=>?_))))))
   obtain ⟨ML,k16,rfl,o17⟩:=DF 54 q14
   refine Fq rfl e11 (t2 DV) (knp #[iv 0,sv noS,iv 0,iv 0,nS] 54 fun b18=>(AQ 0 5 #[iv x9.kind,sv x9.text,iv x9.n,iv x9.at_,Aa ML x9.kids k16] (Ad (kpr [(0,0),(1,0),(2,0),(3,0),(4,3),(5,0),(6,3),(7,1)] [0,1] (Ar 4 (AP 1 10 rfl (Ar 1 (AP 0 1 rfl (kpt (HY #[sv x9.text] 9 1 fun b19=>?_))))))))))
   refine Dm [1,2] rfl (Ca (K.mv3 (bnd h fun KZ Bbz h=>(Wj (ys:=[x9.text]) Jp rfl SN Bbz o6 (Qd (n:=1) Jp [x9.text] (by kernel_rfl) rfl (by decide) 1 rfl) fun h21 I4 k23 JR=>(K.An (K.drop (K.An (K.drop (kx 2 (K.An ?_))))))))))
   exact AQ 10 1 #[Ay,Az,A2,DC,EP,B0,Eo,AA,B1,B2,Aa I4 KZ k23,Bk] (knl (B7 (AM (Bu (kx 2 (Ad (E3 m7 (IntKind.i64.wrap (x1+1),KZ,h21,I4,k23) (Nat.lt_succ_self _) ⟨h,JR⟩ sb rfl)))))))
  ·refine Fv (Dg (Dg (Fw (Cw ?_))))
   obtain rfl:=As h
   exact kdv (.tuple #[]) [bk b0 #[Ay,Az,A2,DC,EP,B0,Eo,AA,B1,B2,Aa A4 l2 k5,Bk] 66,h3] (BH ⟨h3,A4,k5,o6,rfl,rfl⟩)
def Ms.f (k:Nat) (Am:Ae) (a1:List Tree):Option (Int×Ae):=(OF 16 Am (⟨#[]⟩:ByteArray) 3).bind fun l1=>(HJ.f k l1 a1).bind fun r6=>some (IntKind.i64.wrap (((Am.length:Nat):Int)+1),r6)
theorem Ms.ok {k b0 AT C6:Nat} {Am:Ae} {a1:List Tree} {Ay Az A2 DC EP B0 Eo AA B1 B2 Bk:Value} {BT DY:Ab} {AR C4:Aq} {r:Int×Ae} (h:Ms.f k Am a1=some r) (Ci:Ah encS 9 1 BT (Aa AR Am AT) Am) (Fk:RdR (AX 54) DY (Aa C4 a1 C6) a1): Ct Tryz.prog 81 #[pt b0,Aa C4 a1 C6] [bk b0 #[Ay,Az,A2,DC,EP,B0,Eo,AA,B1,B2,Aa AR Am AT,Bk] 66,BT] [DY] (fun e l1=>∃ (H0_:Ab) (A0_:Aq) (c0_:Nat),Ah encS 9 1 H0_ (Aa A0_ r.2 c0_) r.2∧e=.returned (iv r.1)∧l1=[bk b0 #[Ay,Az,A2,DC,EP,B0,Eo,AA,B1,B2,Aa A0_ r.2 c0_,Bk] 66,H0_]):=by
 refine C3 (args:=[pt b0,Aa C4 a1 C6]) Tryz.func81 rfl (By rfl) ?_
 intro A X hh_
 obtain ⟨DV,_⟩:=hh_
 unfold Ms.f at h
 refine K.eq (env':=[(0,pt b0),(1,Aa C4 a1 C6)]) (l':=bk b0 #[Ay,Az,A2,DC,EP,B0,Eo,AA,B1,B2,Aa AR Am AT,Bk] 66 :: BT :: X) rfl rfl (ksr (kx 1 (Ba (kx 3 (kld 0 10 rfl (kx 3 (Ba (kx 4 (kld 0 10 rfl (K.An ?_))))))))))
 refine bnd h fun l1 hl1 h=>(Bjv (kz:=.i64) (z0:=(⟨#[]⟩:ByteArray)) .i64 Jp (by kernel_rfl) rfl SN (by kernel_rfl) (by kernel_rfl) (by kernel_rfl) (by kernel_rfl) (by kernel_rfl) hl1 Ci fun h2 A3 k4 o5=>(kx 2 (K.An (AQ 10 1 #[Ay,Az,A2,DC,EP,B0,Eo,AA,B1,B2,Aa A3 l1 k4,Bk] (Ba (kx 2 (K.An (K.An (bnd h fun r6 Nh h=>(Bz (HJ.ok Nh o5 Fk) rfl ⟨DV,trivial⟩ ?_))))))))))
 rintro _ _ ⟨h7,A8,k9,o10,rfl,rfl⟩
 refine Bi (Ba (kx 2 (Ad (C9 ?_))))
 obtain rfl:=As h
 exact kdv (iv (IntKind.i64.wrap (((Am.length:Nat):Int)+1))) [bk b0 #[Ay,Az,A2,DC,EP,B0,Eo,AA,B1,B2,Aa A8 r6 k9,Bk] 66,h7] (BH ⟨h7,A8,k9,o10,rfl,rfl⟩)
def Nc.f (_k:Nat) (Am:List ByteArray) (a1:Int):Option (List ByteArray):=(DR Am 0 (IntKind.i64.wrap (a1 - 1))).bind fun l1=>some (l1)
theorem Nc.ok {k b0 AT:Nat} {Am r:Ae} {a1:Int} {Ay Az A2 DC EP B0 Eo AA B1 B2 Bk:Value} {BT:Ab} {AR:Aq} (h:Nc.f k Am a1=some r) (Ci:Ah encS 9 1 BT (Aa AR Am AT) Am): Ct Tryz.prog 83 #[pt b0,iv a1] [bk b0 #[Ay,Az,A2,DC,EP,B0,Eo,AA,B1,B2,Aa AR Am AT,Bk] 66,BT] [] (fun e l1=>∃ (H0_:Ab) (A0_:Aq) (c0_:Nat),Ah encS 9 1 H0_ (Aa A0_ r c0_) r∧e=.returned (.tuple #[])∧l1=[bk b0 #[Ay,Az,A2,DC,EP,B0,Eo,AA,B1,B2,Aa A0_ r c0_,Bk] 66,H0_]):=by
 refine C3 (args:=[pt b0,iv a1]) Tryz.func83 rfl (By rfl) ?_
 intro A X hh_
 unfold Nc.f at h
 refine K.eq (env':=[(0,pt b0),(1,iv a1)]) (l':=bk b0 #[Ay,Az,A2,DC,EP,B0,Eo,AA,B1,B2,Aa AR Am AT,Bk] 66 :: BT :: X) rfl rfl (Bu (kx 4 (kld 0 10 rfl (kx 2 (bnd h fun l1 hl1 h=>(Arz (T:=9) (sz:=1) (k:=.i64) (xs:=Am) (IntKind.i64.wrap (a1 - 1)) Jp rfl (by kernel_rfl) (by kernel_rfl) (by kernel_rfl) (by kernel_rfl) (by kernel_rfl) (by kernel_rfl) hl1 Ci fun o2=>(kx 2 (AQ 10 1 #[Ay,Az,A2,DC,EP,B0,Eo,AA,B1,B2,Aa AR l1 AT,Bk] (knl (Cw ?_))))))))))
 obtain rfl:=As h
 exact kdv (.tuple #[]) [bk b0 #[Ay,Az,A2,DC,EP,B0,Eo,AA,B1,B2,Aa AR l1 AT,Bk] 66,BT] (BH ⟨BT,AR,AT,o2,rfl,rfl⟩)
def LC.f (k:Nat) (Ai:List ByteArray) (a1:ByteArray):Option (Int):=(Fe.f k Ai a1).bind fun r1=>some (IntKind.i64.wrap (r1+1))
theorem LC.ok {k b0 AD:Nat} {Ai:Ae} {a1:ByteArray} {Ay Az A2 DC EP B0 AA B1 B2 FW Bk:Value} {C5:Ab} {AC:Aq} {r:Int} (h:LC.f k Ai a1=some r) (Co:Bl encS 1 C5 (Aa AC Ai AD) Ai): Ct Tryz.prog 86 #[pt b0,sv a1] [bk b0 #[Ay,Az,A2,DC,EP,B0,Aa AC Ai AD,AA,B1,B2,FW,Bk] 66] [C5] (fun e l1=>e=.returned (iv r)∧l1=[bk b0 #[Ay,Az,A2,DC,EP,B0,Aa AC Ai AD,AA,B1,B2,FW,Bk] 66]):=by
 refine C3 (args:=[pt b0,sv a1]) Tryz.func86 rfl (By rfl) ?_
 intro A X hh_
 obtain ⟨CJ,_⟩:=hh_
 unfold LC.f at h
 refine K.eq (env':=[(0,pt b0),(1,sv a1)]) (l':=bk b0 #[Ay,Az,A2,DC,EP,B0,Aa AC Ai AD,AA,B1,B2,FW,Bk] 66 :: X) rfl rfl (ksr (kx 1 (Ba (kx 3 (kld 0 6 rfl (kx 1 (bnd h fun r1 hr1 h=>(G2 (Fe.ok hr1 Co) ⟨(.tail _ CJ),trivial⟩ (kx 2 (Ad ?_))))))))))
 refine C9 ?_
 obtain rfl:=As h
 exact kdn rfl
def LB.f (k:Nat) (Af:Bg) (At:TyA) (Ao:Int) (Av:Int) (Ap:ByteArray):Option TyA:=(GH.f k Af Ao Av Ap).bind fun r2=>(BA.f k At 2 ([IntKind.i64.wrap (r2+1)])).bind fun r4=>some (r4.2)
theorem LB.ok {k b0 AH Bt:Nat} {Af:Bg} {At r:TyA} {Ao Av:Int} {Ap:ByteArray} {Ay Az A2 B0 Eo AA B1 B2 FW Bk:Value} {CF B9:Ab} {AG Bm:Aq} (h:LB.f k Af At Ao Av Ap=some r) (Cu:Bl Dv 3 CF (Aa AG Af AH) Af) (Cj:Ah e48 48 4 B9 (Aa Bm At Bt) At): Ct Tryz.prog 109 #[pt b0,.agg #[iv Ao,iv Av,sv Ap]] [bk b0 #[Ay,Az,A2,Aa AG Af AH,Aa Bm At Bt,B0,Eo,AA,B1,B2,FW,Bk] 66,B9] [CF] (fun e l1=>∃ (H0_:Ab) (A0_:Aq) (c0_:Nat),Ah e48 48 4 H0_ (Aa A0_ r c0_) r∧e=.returned (.tuple #[])∧l1=[bk b0 #[Ay,Az,A2,Aa AG Af AH,Aa A0_ r c0_,B0,Eo,AA,B1,B2,FW,Bk] 66,H0_]):=by
 refine C3 (args:=[pt b0,.agg #[iv Ao,iv Av,sv Ap]]) Tryz.func109 rfl (By rfl) ?_
 intro A X hh_
 obtain ⟨CU,_⟩:=hh_
 unfold LB.f at h
 refine K.eq (env':=[(0,pt b0),(1,.agg #[iv Ao,iv Av,sv Ap])]) (l':=bk b0 #[Ay,Az,A2,Aa AG Af AH,Aa Bm At Bt,B0,Eo,AA,B1,B2,FW,Bk] 66 :: B9 :: X) rfl rfl (ksr (knp #[iv Ao,iv Av,sv Ap] 78 fun b1=>(Ad (kpr [(0,0),(1,0),(2,0),(3,0),(4,0),(5,3),(6,3)] [0,1] (Ar 5 (AP 1 3 rfl (GR 0 0 3 rfl (Ca (bnd h fun r2 hr2 h=>(G2 (GH.ok hr2 Cu) ⟨(t3 CU),trivial⟩ ?_))))))))))
 refine K.drop (kx 1 (Dh #[iv (IntKind.i64.wrap (r2+1))] 3 1 fun b3=>(K.Al (K.Al (bnd h fun r4 hr4 h=>(Bz (BA.ok hr4 Cj (Ah.rd (Ah.blk 3 (Ec .i64) b3 [IntKind.i64.wrap (r2+1)] #[iv (IntKind.i64.wrap (r2+1))] 1 (by kernel_rfl) rfl (by decide)))) rfl ⟨(.head _),trivial⟩ ?_))))))
 rintro _ _ ⟨h5,A6,k7,o8,rfl,rfl⟩
 refine Bi (K.Al (K.drop (knl (Cw ?_))))
 obtain rfl:=As h
 exact kdv (.tuple #[]) [bk b0 #[Ay,Az,A2,Aa AG Af AH,Aa A6 r4.2 k7,B0,Eo,AA,B1,B2,FW,Bk] 66,h5] (BH ⟨h5,A6,k7,o8,rfl,rfl⟩)
end
end Go.Proofs.YtkdjiehclahliaaGreatDoor
