/- Texts of mine for genSound_card, part 5. -/
import Derived.Test.YtkdjiehclahliaaGreatDoorGsD
set_option linter.unusedSimpArgs false
set_option linter.unusedVariables false
set_option linter.unusedSectionVars false
namespace Go.Proofs.YtkdjiehclahliaaGreatDoor
set_option maxRecDepth 100000
section
open Go Go.RowKit
theorem Cso:An8 Tryz.prog 31 43 5 64 Tryz.t43 (.agg #[sv noS,iv 0,iv 0,iv 0,nS]):=⟨by kernel_rfl,by kernel_rfl,by kernel_rfl,by kernel_rfl,by kernel_rfl,by kernel_rfl,by decide⟩
structure CK where
 Ah1:TyF→TyC→ByteArray→Int→Int→Int→TyB→TyC→Int→TyC→Int→ByteArray→Int→Int→List Tree→Bool→Option (PR (TyF×TyC×Int×TyB×TyC×Int) (Int×Int))
 Aj4:TyF→TyC→ByteArray→Int→Int→Int→TyB→TyC→Int→TyC→List Tree→Option (PR (TyF×TyC×Int×TyB×TyC×Int) (Int×Int))
 Art:TyF→TyC→ByteArray→Int→Int→Int→TyB→TyC→Int→TyC→Int→ByteArray→Int→Int→List Tree→Bool→Option (PR (TyF×TyC×Int×TyB×TyC×Int) (Int×Int))
 Aow:TyF→TyC→ByteArray→Int→Int→Int→TyB→TyC→Int→TyC→Int→ByteArray→Int→Int→List Tree→List Tree→Int→ByteArray→Int→Int→List Tree→Int→Option (PR (TyF×TyC×Int×TyB×TyC×Int) (Int×Int))
 Aru:TyF→TyC→ByteArray→Int→Int→Int→TyB→TyC→Int→TyC→Int→ByteArray→Int→Int→List Tree→Option (PR (TyF×TyC×Int×TyB×TyC×Int) (Int×Int))
def Ah1.C (fC:TyF→TyC→ByteArray→Int→Int→Int→TyB→TyC→Int→TyC→Int→ByteArray→Int→Int→List Tree→Bool→Option (PR (TyF×TyC×Int×TyB×TyC×Int) (Int×Int))):Prop:=∀ {Aac:TyF} {Aad Adf Ab1:TyC} {Acp Aar:ByteArray} {Acs Acu Adv Adx Aan Aao Aa5:Int} {Acv:TyB} {Aag:List Tree} {a2:Bool} {b0 Aau Aew Aci Afc Afv Ad7 Abx:Nat} {Adb Afs Agv Ahe Aky Ae4 G:Aaa} {Aas Aer Afb Afo Ad5 Abu:TyO} {r:PR (TyF×TyC×Int×TyB×TyC×Int) (Int×Int)} (h:fC Aac Aad Acp Acs Acu Adv Acv Adf Adx Ab1 Aan Aar Aao Aa5 Aag a2=some r) (Abe:Abf Ak8 43 Adb (slW Aas Aac Aau) Aac) (Ah0:Aaf encS 9 1 Afs (slW Aer Aad Aew) Aad) (Aib:Aaf e78 78 3 Agv (slW Afb Acv Afc) Acv) (Ai6:Aaf encS 9 1 Ahe (slW Afo Adf Afv) Adf) (Ajj:RdT encS 1 Aky (slW Ad5 Ab1 Ad7) Ab1) (Ado:RdR (Abt 54) Ae4 (slW Abu Aag Abx) Aag) (hG:GlP G),Ct Tryz.prog 21 #[pt b0,.agg #[iv Aan,sv Aar,iv Aao,iv Aa5,slW Abu Aag Abx],bv a2] [bk b0 #[slW Aas Aac Aau,slW Aer Aad Aew,pt Aci] 75,Adb,Afs,bk Aci #[sv Acp,iv Acs,iv Acu,iv Adv,slW Afb Acv Afc,slW Afo Adf Afv,iv Adx,slW Ad5 Ab1 Ad7] 73,Agv,Ahe] [Aky,Ae4,G] (PR.Post Awr (fun (r:TyF×TyC×Int×TyB×TyC×Int) e l1=>∃ (H0_:Aaa) (A0_:TyO) (c0_:Nat) (H1_:Aaa) (A1_:TyO) (c1_:Nat) (H2_:Aaa) (A2_:TyO) (c2_:Nat) (H3_:Aaa) (A3_:TyO) (c3_:Nat),Abf Ak8 43 H0_ (slW A0_ r.1 c0_) r.1∧Aaf encS 9 1 H1_ (slW A1_ r.2.1 c1_) r.2.1∧Aaf e78 78 3 H2_ (slW A2_ r.2.2.2.1 c2_) r.2.2.2.1∧Aaf encS 9 1 H3_ (slW A3_ r.2.2.2.2.1 c3_) r.2.2.2.2.1∧e=.returned (.tuple #[])∧l1=[bk b0 #[slW A0_ r.1 c0_,slW A1_ r.2.1 c1_,pt Aci] 75,H0_,H1_,bk Aci #[sv Acp,iv Acs,iv Acu,iv r.2.2.1,slW A2_ r.2.2.2.1 c2_,slW A3_ r.2.2.2.2.1 c3_,iv r.2.2.2.2.2,slW Ad5 Ab1 Ad7] 73,H2_,H3_]) r)
def Aj4.C (fC:TyF→TyC→ByteArray→Int→Int→Int→TyB→TyC→Int→TyC→List Tree→Option (PR (TyF×TyC×Int×TyB×TyC×Int) (Int×Int))):Prop:=∀ {Aac:TyF} {Aad Adf Ab1:TyC} {Acp:ByteArray} {Acs Acu Adv Adx:Int} {Acv:TyB} {a1:List Tree} {b0 Aau Aew Aci Afc Afv Ad7 Ae6:Nat} {Adb Afs Agv Ahe Aky Ahz G:Aaa} {Aas Aer Afb Afo Ad5 Ae2:TyO} {r:PR (TyF×TyC×Int×TyB×TyC×Int) (Int×Int)} (h:fC Aac Aad Acp Acs Acu Adv Acv Adf Adx Ab1 a1=some r) (Abe:Abf Ak8 43 Adb (slW Aas Aac Aau) Aac) (Ah0:Aaf encS 9 1 Afs (slW Aer Aad Aew) Aad) (Aib:Aaf e78 78 3 Agv (slW Afb Acv Afc) Acv) (Ai6:Aaf encS 9 1 Ahe (slW Afo Adf Afv) Adf) (Ajj:RdT encS 1 Aky (slW Ad5 Ab1 Ad7) Ab1) (Ajh:RdR (Abt 54) Ahz (slW Ae2 a1 Ae6) a1) (hG:GlP G),Ct Tryz.prog 31 #[pt b0,slW Ae2 a1 Ae6] [bk b0 #[slW Aas Aac Aau,slW Aer Aad Aew,pt Aci] 75,Adb,Afs,bk Aci #[sv Acp,iv Acs,iv Acu,iv Adv,slW Afb Acv Afc,slW Afo Adf Afv,iv Adx,slW Ad5 Ab1 Ad7] 73,Agv,Ahe] [Aky,Ahz,G] (PR.Post Awr (fun (r:TyF×TyC×Int×TyB×TyC×Int) e l1=>∃ (H0_:Aaa) (A0_:TyO) (c0_:Nat) (H1_:Aaa) (A1_:TyO) (c1_:Nat) (H2_:Aaa) (A2_:TyO) (c2_:Nat) (H3_:Aaa) (A3_:TyO) (c3_:Nat),Abf Ak8 43 H0_ (slW A0_ r.1 c0_) r.1∧Aaf encS 9 1 H1_ (slW A1_ r.2.1 c1_) r.2.1∧Aaf e78 78 3 H2_ (slW A2_ r.2.2.2.1 c2_) r.2.2.2.1∧Aaf encS 9 1 H3_ (slW A3_ r.2.2.2.2.1 c3_) r.2.2.2.2.1∧e=.returned (.tuple #[])∧l1=[bk b0 #[slW A0_ r.1 c0_,slW A1_ r.2.1 c1_,pt Aci] 75,H0_,H1_,bk Aci #[sv Acp,iv Acs,iv Acu,iv r.2.2.1,slW A2_ r.2.2.2.1 c2_,slW A3_ r.2.2.2.2.1 c3_,iv r.2.2.2.2.2,slW Ad5 Ab1 Ad7] 73,H2_,H3_]) r)
def Art.C (fC:TyF→TyC→ByteArray→Int→Int→Int→TyB→TyC→Int→TyC→Int→ByteArray→Int→Int→List Tree→Bool→Option (PR (TyF×TyC×Int×TyB×TyC×Int) (Int×Int))):Prop:=∀ {Aac:TyF} {Aad Adf Ab1:TyC} {Acp Aar:ByteArray} {Acs Acu Adv Adx Aan Aao Aa5:Int} {Acv:TyB} {Aag:List Tree} {a2:Bool} {b0 Aau Aew Aci Afc Afv Ad7 Abx:Nat} {Adb Afs Agv Ahe Aky Ae4 G:Aaa} {Aas Aer Afb Afo Ad5 Abu:TyO} {r:PR (TyF×TyC×Int×TyB×TyC×Int) (Int×Int)} (h:fC Aac Aad Acp Acs Acu Adv Acv Adf Adx Ab1 Aan Aar Aao Aa5 Aag a2=some r) (Abe:Abf Ak8 43 Adb (slW Aas Aac Aau) Aac) (Ah0:Aaf encS 9 1 Afs (slW Aer Aad Aew) Aad) (Aib:Aaf e78 78 3 Agv (slW Afb Acv Afc) Acv) (Ai6:Aaf encS 9 1 Ahe (slW Afo Adf Afv) Adf) (Ajj:RdT encS 1 Aky (slW Ad5 Ab1 Ad7) Ab1) (Ado:RdR (Abt 54) Ae4 (slW Abu Aag Abx) Aag) (hG:GlP G),Ct Tryz.prog 36 #[pt b0,.agg #[iv Aan,sv Aar,iv Aao,iv Aa5,slW Abu Aag Abx],bv a2] [bk b0 #[slW Aas Aac Aau,slW Aer Aad Aew,pt Aci] 75,Adb,Afs,bk Aci #[sv Acp,iv Acs,iv Acu,iv Adv,slW Afb Acv Afc,slW Afo Adf Afv,iv Adx,slW Ad5 Ab1 Ad7] 73,Agv,Ahe] [Aky,Ae4,G] (PR.Post Awr (fun (r:TyF×TyC×Int×TyB×TyC×Int) e l1=>∃ (H0_:Aaa) (A0_:TyO) (c0_:Nat) (H1_:Aaa) (A1_:TyO) (c1_:Nat) (H2_:Aaa) (A2_:TyO) (c2_:Nat) (H3_:Aaa) (A3_:TyO) (c3_:Nat),Abf Ak8 43 H0_ (slW A0_ r.1 c0_) r.1∧Aaf encS 9 1 H1_ (slW A1_ r.2.1 c1_) r.2.1∧Aaf e78 78 3 H2_ (slW A2_ r.2.2.2.1 c2_) r.2.2.2.1∧Aaf encS 9 1 H3_ (slW A3_ r.2.2.2.2.1 c3_) r.2.2.2.2.1∧e=.returned (.tuple #[])∧l1=[bk b0 #[slW A0_ r.1 c0_,slW A1_ r.2.1 c1_,pt Aci] 75,H0_,H1_,bk Aci #[sv Acp,iv Acs,iv Acu,iv r.2.2.1,slW A2_ r.2.2.2.1 c2_,slW A3_ r.2.2.2.2.1 c3_,iv r.2.2.2.2.2,slW Ad5 Ab1 Ad7] 73,H2_,H3_]) r)
def Aow.C (fC:TyF→TyC→ByteArray→Int→Int→Int→TyB→TyC→Int→TyC→Int→ByteArray→Int→Int→List Tree→List Tree→Int→ByteArray→Int→Int→List Tree→Int→Option (PR (TyF×TyC×Int×TyB×TyC×Int) (Int×Int))):Prop:=∀ {Aac:TyF} {Aad Adf Ab1:TyC} {Acp Aar A0p:ByteArray} {Acs Acu Adv Adx Aan Aao Aa5 A0o A0q A0s a4:Int} {Acv:TyB} {Aag a2 Axm:List Tree} {b0 Aau Aew Aci Afc Afv Ad7 Abx Anp A6b:Nat} {Adb Afs Agv Ahe Aky Ae4 Au4 Bqw G:Aaa} {Aas Aer Afb Afo Ad5 Abu Ano A5o:TyO} {r:PR (TyF×TyC×Int×TyB×TyC×Int) (Int×Int)} (h:fC Aac Aad Acp Acs Acu Adv Acv Adf Adx Ab1 Aan Aar Aao Aa5 Aag a2 A0o A0p A0q A0s Axm a4=some r) (Abe:Abf Ak8 43 Adb (slW Aas Aac Aau) Aac) (Ah0:Aaf encS 9 1 Afs (slW Aer Aad Aew) Aad) (Aib:Aaf e78 78 3 Agv (slW Afb Acv Afc) Acv) (Ai6:Aaf encS 9 1 Ahe (slW Afo Adf Afv) Adf) (Ajj:RdT encS 1 Aky (slW Ad5 Ab1 Ad7) Ab1) (Ado:RdR (Abt 54) Ae4 (slW Abu Aag Abx) Aag) (A3o:RdR (Abt 54) Au4 (slW Ano a2 Anp) a2) (B5q:RdR (Abt 54) Bqw (slW A5o Axm A6b) Axm) (hG:GlP G),Ct Tryz.prog 35 #[pt b0,.agg #[iv Aan,sv Aar,iv Aao,iv Aa5,slW Abu Aag Abx],slW Ano a2 Anp,.agg #[iv A0o,sv A0p,iv A0q,iv A0s,slW A5o Axm A6b],iv a4] [bk b0 #[slW Aas Aac Aau,slW Aer Aad Aew,pt Aci] 75,Adb,Afs,bk Aci #[sv Acp,iv Acs,iv Acu,iv Adv,slW Afb Acv Afc,slW Afo Adf Afv,iv Adx,slW Ad5 Ab1 Ad7] 73,Agv,Ahe] [Aky,Ae4,Au4,Bqw,G] (PR.Post Awr (fun (r:TyF×TyC×Int×TyB×TyC×Int) e l1=>∃ (H0_:Aaa) (A0_:TyO) (c0_:Nat) (H1_:Aaa) (A1_:TyO) (c1_:Nat) (H2_:Aaa) (A2_:TyO) (c2_:Nat) (H3_:Aaa) (A3_:TyO) (c3_:Nat),Abf Ak8 43 H0_ (slW A0_ r.1 c0_) r.1∧Aaf encS 9 1 H1_ (slW A1_ r.2.1 c1_) r.2.1∧Aaf e78 78 3 H2_ (slW A2_ r.2.2.2.1 c2_) r.2.2.2.1∧Aaf encS 9 1 H3_ (slW A3_ r.2.2.2.2.1 c3_) r.2.2.2.2.1∧e=.returned (.tuple #[])∧l1=[bk b0 #[slW A0_ r.1 c0_,slW A1_ r.2.1 c1_,pt Aci] 75,H0_,H1_,bk Aci #[sv Acp,iv Acs,iv Acu,iv r.2.2.1,slW A2_ r.2.2.2.1 c2_,slW A3_ r.2.2.2.2.1 c3_,iv r.2.2.2.2.2,slW Ad5 Ab1 Ad7] 73,H2_,H3_]) r)
def Aru.C (fC:TyF→TyC→ByteArray→Int→Int→Int→TyB→TyC→Int→TyC→Int→ByteArray→Int→Int→List Tree→Option (PR (TyF×TyC×Int×TyB×TyC×Int) (Int×Int))):Prop:=∀ {Aac:TyF} {Aad Adf Ab1:TyC} {Acp Aar:ByteArray} {Acs Acu Adv Adx Aan Aao Aa5:Int} {Acv:TyB} {Aag:List Tree} {b0 Aau Aew Aci Afc Afv Ad7 Abx:Nat} {Adb Afs Agv Ahe Aky Ae4 G:Aaa} {Aas Aer Afb Afo Ad5 Abu:TyO} {r:PR (TyF×TyC×Int×TyB×TyC×Int) (Int×Int)} (h:fC Aac Aad Acp Acs Acu Adv Acv Adf Adx Ab1 Aan Aar Aao Aa5 Aag=some r) (Abe:Abf Ak8 43 Adb (slW Aas Aac Aau) Aac) (Ah0:Aaf encS 9 1 Afs (slW Aer Aad Aew) Aad) (Aib:Aaf e78 78 3 Agv (slW Afb Acv Afc) Acv) (Ai6:Aaf encS 9 1 Ahe (slW Afo Adf Afv) Adf) (Ajj:RdT encS 1 Aky (slW Ad5 Ab1 Ad7) Ab1) (Ado:RdR (Abt 54) Ae4 (slW Abu Aag Abx) Aag) (hG:GlP G),Ct Tryz.prog 32 #[pt b0,.agg #[iv Aan,sv Aar,iv Aao,iv Aa5,slW Abu Aag Abx]] [bk b0 #[slW Aas Aac Aau,slW Aer Aad Aew,pt Aci] 75,Adb,Afs,bk Aci #[sv Acp,iv Acs,iv Acu,iv Adv,slW Afb Acv Afc,slW Afo Adf Afv,iv Adx,slW Ad5 Ab1 Ad7] 73,Agv,Ahe] [Aky,Ae4,G] (PR.Post Awr (fun (r:TyF×TyC×Int×TyB×TyC×Int) e l1=>∃ (H0_:Aaa) (A0_:TyO) (c0_:Nat) (H1_:Aaa) (A1_:TyO) (c1_:Nat) (H2_:Aaa) (A2_:TyO) (c2_:Nat) (H3_:Aaa) (A3_:TyO) (c3_:Nat),Abf Ak8 43 H0_ (slW A0_ r.1 c0_) r.1∧Aaf encS 9 1 H1_ (slW A1_ r.2.1 c1_) r.2.1∧Aaf e78 78 3 H2_ (slW A2_ r.2.2.2.1 c2_) r.2.2.2.1∧Aaf encS 9 1 H3_ (slW A3_ r.2.2.2.2.1 c3_) r.2.2.2.2.1∧e=.returned (.tuple #[])∧l1=[bk b0 #[slW A0_ r.1 c0_,slW A1_ r.2.1 c1_,pt Aci] 75,H0_,H1_,bk Aci #[sv Acp,iv Acs,iv Acu,iv r.2.2.1,slW A2_ r.2.2.2.1 c2_,slW A3_ r.2.2.2.2.1 c3_,iv r.2.2.2.2.2,slW Ad5 Ab1 Ad7] 73,H2_,H3_]) r)
structure CK.Good (R:CK):Prop where
 Ah1:Ah1.C R.Ah1
 Aj4:Aj4.C R.Aj4
 Art:Art.C R.Art
 Aow:Aow.C R.Aow
 Aru:Aru.C R.Aru
def Ah1.l0:Nat→(Rc:CK)→(Acp:ByteArray)→(Acs:Int)→(Acu:Int)→(Ab1:TyC)→(Aao:Int)→(Aag:List Tree)→(x84:Int)→(l85:TyF)→(l90:TyC)→(x95:Int)→(l96:TyB)→(Bg4:TyC)→(Bj4:Int)→Option (PR (TyF×TyC×Int×TyB×TyC×Int) (Int×Int))
 | 0,_,_,_,_,_,_,_,_,_,_,_,_,_,_=>none
 | Bhl+1,Rc,Acp,Acs,Acu,Ab1,Aao,Aag,x84,l85,l90,x95,l96,Bg4,Bj4=>cond (decide (x84 < ((Aag.length:Nat):Int))) ((Ack Aag x84).bind fun x109=>PR.bind (Rc.Ah1 l85 l90 Acp Acs Acu x95 l96 Bg4 Bj4 Ab1 x109.kind x109.text x109.n x109.at_ x109.kids (decide (x84 < Aao))) fun Alg=>Ah1.l0 Bhl Rc Acp Acs Acu Ab1 Aao Aag (IntKind.i64.wrap (x84+1)) Alg.1 Alg.2.1 Alg.2.2.1 Alg.2.2.2.1 Alg.2.2.2.2.1 Alg.2.2.2.2.2) (some (PR.ok (l85,l90,x95,l96,Bg4,Bj4)))
def Ah1.g (Rc:CK) (k:Nat) (Aac:TyF) (Aad:TyC) (Acp:ByteArray) (Acs:Int) (Acu:Int) (Adv:Int) (Acv:TyB) (Adf:TyC) (Adx:Int) (Ab1:TyC) (Aan:Int) (Aar:ByteArray) (Aao:Int) (Aa5:Int) (Aag:List Tree) (a2:Bool):Option (PR (TyF×TyC×Int×TyB×TyC×Int) (Int×Int)):=cond (Aan == 20) (PR.bind (Rc.Aj4 Aac Aad Acp Acs Acu Adv Acv Adf Adx Ab1 Aag) fun r3=>(Aiq r3.2.2.2.2.1 0 ((Adf.length:Nat):Int)).bind fun l21=>some (PR.ok (r3.1,r3.2.1,r3.2.2.1,r3.2.2.2.1,l21,r3.2.2.2.2.2))) (cond (Aan == 31) (PR.bind (Rc.Aru Aac Aad Acp Acs Acu Adv Acv Adf Adx Ab1 Aan Aar Aao Aa5 Aag) fun r24=>some (PR.ok (r24.1,r24.2.1,r24.2.2.1,r24.2.2.2.1,r24.2.2.2.2.1,r24.2.2.2.2.2))) (cond (Aan == 21) (PR.bind (Akz.f k Aan Aar Aao Aa5 Aag Aao 50) fun r43=>PR.bind (Akz.f k Aan Aar Aao Aa5 Aag (IntKind.i64.wrap (((Aag.length:Nat):Int) - Aao)) 50) fun r45=>(Aiq Aag Aao ((Aag.length:Nat):Int)).bind fun l47=>PR.bind (Rc.Aj4 Aac Aad Acp Acs Acu Adv Acv Adf Adx Ab1 l47) fun r51=>(Aiq Aag 0 Aao).bind fun l69=>PR.bind (Apu.f k r51.1 r51.2.1 Acp Acs Acu r51.2.2.1 r51.2.2.2.1 r51.2.2.2.2.1 r51.2.2.2.2.2 Ab1 Aan Aar Aao Aa5 Aag l69) fun r73=>some (PR.ok (r51.1,r51.2.1,r73.1,r51.2.2.2.1,r73.2,r51.2.2.2.2.2))) (cond (Aan == 22) (PR.bind (Akz.f k Aan Aar Aao Aa5 Aag Aao 50) fun r80=>PR.bind (Akz.f k Aan Aar Aao Aa5 Aag (IntKind.i64.wrap (((Aag.length:Nat):Int) - Aao)) 50) fun r82=>Ah1.l0 k Rc Acp Acs Acu Ab1 Aao Aag 0 Aac Aad Adv Acv Adf Adx) (cond (Aan == 25) ((Ack Aag 0).bind fun Bdm=>PR.bind (Rc.Ah1 Aac Aad Acp Acs Acu Adv Acv Adf Adx Ab1 Bdm.kind Bdm.text Bdm.n Bdm.at_ Bdm.kids false) fun A9f=>(Ack Aag 1).bind fun Bdo=>PR.bind (Rc.Aow A9f.1 A9f.2.1 Acp Acs Acu A9f.2.2.1 A9f.2.2.2.1 A9f.2.2.2.2.1 A9f.2.2.2.2.2 Ab1 Aan Aar Aao Aa5 Aag ([]) Bdo.kind Bdo.text Bdo.n Bdo.at_ Bdo.kids 0) fun Av3=>some (PR.ok (Av3.1,Av3.2.1,Av3.2.2.1,Av3.2.2.2.1,Av3.2.2.2.2.1,Av3.2.2.2.2.2))) (cond (Aan == 26) ((Aiq Aag 1 (IntKind.i64.wrap (((Aag.length:Nat):Int) - 1))).bind fun A8l=>PR.bind (Rc.Aj4 Aac Aad Acp Acs Acu Adv Acv Adf Adx Ab1 A8l) fun A9l=>(Aiq Aag 0 1).bind fun Cfx=>(Ack Aag (IntKind.i64.wrap (((Aag.length:Nat):Int) - 1))).bind fun Bdq=>PR.bind (Rc.Aow A9l.1 A9l.2.1 Acp Acs Acu A9l.2.2.1 A9l.2.2.2.1 A9l.2.2.2.2.1 A9l.2.2.2.2.2 Ab1 Aan Aar Aao Aa5 Aag Cfx Bdq.kind Bdq.text Bdq.n Bdq.at_ Bdq.kids 3) fun Av4=>some (PR.ok (Av4.1,Av4.2.1,Av4.2.2.1,Av4.2.2.2.1,Av4.2.2.2.2.1,Av4.2.2.2.2.2))) (cond (Aan == 27) (PR.bind (Akz.f k Aan Aar Aao Aa5 Aag Aao 50) fun Dc0=>PR.bind (Akz.f k Aan Aar Aao Aa5 Aag (IntKind.i64.wrap ((IntKind.i64.wrap (((Aag.length:Nat):Int) - 1)) - Aao)) 50) fun Dc1=>(Aiq Aag Aao (IntKind.i64.wrap (((Aag.length:Nat):Int) - 1))).bind fun Cf1=>PR.bind (Rc.Aj4 Aac Aad Acp Acs Acu Adv Acv Adf Adx Ab1 Cf1) fun A9o=>(Aiq Aag 0 Aao).bind fun Cf5=>(Ack Aag (IntKind.i64.wrap (((Aag.length:Nat):Int) - 1))).bind fun Bdx=>PR.bind (Rc.Aow A9o.1 A9o.2.1 Acp Acs Acu A9o.2.2.1 A9o.2.2.2.1 A9o.2.2.2.2.1 A9o.2.2.2.2.2 Ab1 Aan Aar Aao Aa5 Aag Cf5 Bdx.kind Bdx.text Bdx.n Bdx.at_ Bdx.kids 3) fun Av5=>some (PR.ok (Av5.1,Av5.2.1,Av5.2.2.1,Av5.2.2.2.1,Av5.2.2.2.2.1,Av5.2.2.2.2.2))) (cond (Aan == 29) (cond (Adx == 0) (PR.bind (Apv.f k 5 Aa5) fun Dc2=>some (PR.ok (Aac,Aad,Adv,Acv,Adf,Adx))) (some (PR.ok (Aac,Aad,Adv,Acv,Adf,Adx)))) (PR.bind (Rc.Art Aac Aad Acp Acs Acu Adv Acv Adf Adx Ab1 Aan Aar Aao Aa5 Aag a2) fun Av7=>some (PR.ok (Av7.1,Av7.2.1,Av7.2.2.1,Av7.2.2.2.1,Av7.2.2.2.2.1,Av7.2.2.2.2.2))))))))))
theorem Ah1.okg {Rc:CK} (hR:Rc.Good) {k:Nat}:Ah1.C (Ah1.g Rc k):=by
 intro Aac Aad Adf Ab1 Acp Aar Acs Acu Adv Adx Aan Aao Aa5 Acv Aag a2 b0 Aau Aew Aci Afc Afv Ad7 Abx Adb Afs Agv Ahe Aky Ae4 G Aas Aer Afb Afo Ad5 Abu r h Abe Ah0 Aib Ai6 Ajj Ado hG
 refine Afi (args:=[pt b0,.agg #[iv Aan,sv Aar,iv Aao,iv Aa5,slW Abu Aag Abx],bv a2]) Tryz.func21 rfl (Ac0 rfl) ?_
 intro A X hh_
 obtain ⟨Alb,Adg,Ad1,_⟩:=hh_
 unfold Ah1.g at h
 refine K.eq (env':=[(0,pt b0),(1,.agg #[iv Aan,sv Aar,iv Aao,iv Aa5,slW Abu Aag Abx]),(2,bv a2)]) (l':=bk b0 #[slW Aas Aac Aau,slW Aer Aad Aew,pt Aci] 75 :: Adb :: Afs :: bk Aci #[sv Acp,iv Acs,iv Acu,iv Adv,slW Afb Acv Afc,slW Afo Adf Afv,iv Adx,slW Ad5 Ab1 Ad7] 73 :: Agv :: Ahe :: X) rfl rfl (ksr (knp #[iv Aan,sv Aar,iv Aao,iv Aa5,slW Abu Aag Abx] 54 fun b1=>(Abz (kx 1 (kld 0 4 rfl (kx 3 (Abz (kx 1 (kld 0 0 rfl (knt ?_))))))))))
 refine Aez (ksr (kx 2 (knt ?_)))
 refine kcn h (fun h=>?_) fun h=>?_
 ·refine ksr (kx 3 (kld 1 2 rfl (kx 2 (kld 4 5 rfl (kx 2 (Abz (kx 2 (kld 0 4 rfl (K.drop (K.mv5 ?_))))))))))
  refine K.mv5 (K.mv5 (K.mv5 (K.mv5 (K.mv5 (kcp h (fun _ hr3=>(hR.Aj4 hr3 Abe Ah0 Aib Ai6 Ajj Ado hG)) rfl ⟨Alb,Adg,Ad1,trivial⟩ (fun _ e=>Ab5 (Ad4 (kpn 0 e rfl))) fun r3 h=>?_)))))
  rintro _ _ ⟨h5,A6,k7,h9,A10,k11,h13,A14,k15,h17,A18,k19,o8,o12,o16,o20,rfl,rfl⟩
  refine Ajr (knt (kpr [(0,0),(1,0),(2,0),(3,3),(4,0),(5,0),(6,0),(7,3),(8,0),(9,0),(10,3),(11,0),(12,0)] [0,3] (kpx 3 (kpd 0 2 rfl (kpx 3 (kpd 0 2 rfl (kpx 2 (kpd 1 5 rfl (kpx 1 (bnd h fun l21 Bt1 h=>?_))))))))))
  refine Cfr (T:=9) (sz:=1) (k:=.i64) (xs:=r3.2.2.2.2.1) ((Adf.length:Nat):Int) Arv rfl (by kernel_rfl) (by kernel_rfl) (by kernel_rfl) (by kernel_rfl) (by kernel_rfl) (by kernel_rfl) Bt1 o20 fun o22=>(kpz (kx 2 (K.mv3 (kst 5 1 #[sv Acp,iv Acs,iv Acu,iv r3.2.2.1,slW A14 r3.2.2.2.1 k15,slW A18 l21 k19,iv r3.2.2.2.2.2,slW Ad5 Ab1 Ad7] (knl (Ade (Afg ?_)))))))
  obtain rfl:=Aam h
  exact kdv (.tuple #[]) [bk b0 #[slW A6 r3.1 k7,slW A10 r3.2.1 k11,pt Aci] 75,h5,h9,bk Aci #[sv Acp,iv Acs,iv Acu,iv r3.2.2.1,slW A14 r3.2.2.2.1 k15,slW A18 l21 k19,iv r3.2.2.2.2.2,slW Ad5 Ab1 Ad7] 73,h13,h17] (K.mv5 (K.mv5 (K.mv2 (K.mv5 (K.mv5 (K.mv5 (Adq (PR.okI ⟨h5,A6,k7,h9,A10,k11,h13,A14,k15,h17,A18,k19,o8,o12,o16,o22,rfl,rfl⟩))))))))
 ·refine ksr (kx 2 (knt ?_))
  refine kcn h (fun h=>?_) fun h=>?_
  ·refine Ab6 (kx 1 (kla 0 0 5 rfl (K.drop (K.mv5 (K.mv5 (K.mv5 (K.mv5 (K.mv5 (K.mv5 (kcp h (fun _ A7f=>(hR.Aru A7f Abe Ah0 Aib Ai6 Ajj Ado hG)) rfl ⟨Alb,Adg,Ad1,trivial⟩ (fun _ e=>Ad4 (kpn 0 e rfl)) fun r24 h=>?_))))))))))
   rintro _ _ ⟨h26,A27,k28,h30,A31,k32,h34,A35,k36,h38,A39,k40,o29,o33,o37,o41,rfl,rfl⟩
   refine Ajr (knl (Ade (Afg ?_)))
   obtain rfl:=Aam h
   exact kdv (.tuple #[]) [bk b0 #[slW A27 r24.1 k28,slW A31 r24.2.1 k32,pt Aci] 75,h26,h30,bk Aci #[sv Acp,iv Acs,iv Acu,iv r24.2.2.1,slW A35 r24.2.2.2.1 k36,slW A39 r24.2.2.2.2.1 k40,iv r24.2.2.2.2.2,slW Ad5 Ab1 Ad7] 73,h34,h38] (Adq (PR.okI ⟨h26,A27,k28,h30,A31,k32,h34,A35,k36,h38,A39,k40,o29,o33,o37,o41,rfl,rfl⟩))
  ·refine ksr (kx 2 (knt ?_))
   refine kcn h (fun h=>?_) fun h=>?_
   ·refine ksr (kla 0 0 5 rfl (kx 1 (kld 0 2 rfl (kcp h (fun _ Bvb=>(Akz.ok Bvb Ado)) rfl ⟨(t7 Adg),trivial⟩ (fun _ e=>Ab5 (Ad4 (kpn 7 e rfl))) fun r43 h=>?_))))
    rintro _ _ ⟨rfl,rfl⟩
    refine Apk (Abz (kla 0 0 5 rfl (kx 1 (kld 0 4 rfl (kx 2 (kld 0 2 rfl (kx 1 (kcp h (fun _ Bvc=>(Akz.ok Bvc Ado)) rfl ⟨(t7 Adg),trivial⟩ (fun _ e=>Ab5 (Ad4 (kpn 7 e rfl))) fun r45 h=>?_))))))))
    rintro _ _ ⟨rfl,rfl⟩
    refine Apk (Abz (kx 2 (kld 0 4 rfl (kx 1 (kld 0 2 rfl (bnd h fun l47 Cxi h=>(A8i (T:=54) (R:=(Abt 54)) (xs:=Aag) Aao ((Aag.length:Nat):Int) rfl (by kernel_rfl) (by kernel_rfl) (by kernel_rfl) (.inr ⟨_,.i64,rfl,(by kernel_rfl)⟩) (.inl ⟨rfl,rfl⟩) (by kernel_rfl) (by kernel_rfl) Cxi Ado fun A48 k49 o50=>(K.mv6 (K.mv6 (K.mv6 ?_))))))))))
    refine K.mv6 (K.mv6 (K.mv6 (kcp h (fun _ Cz4=>(hR.Aj4 Cz4 Abe Ah0 Aib Ai6 Ajj o50 hG)) rfl ⟨(.tail _ Alb),(.tail _ Adg),(.tail _ Ad1),trivial⟩ (fun _ e=>Ab5 (Ad4 (kpn 1 e rfl))) fun r51 h=>?_)))
    rintro _ _ ⟨h53,A54,k55,h57,A58,k59,h61,A62,k63,h65,A66,k67,o56,o60,o64,o68,rfl,rfl⟩
    refine Ajr (knt (kpr [(0,0),(1,3),(2,0),(3,3),(4,0),(5,3),(6,0)] [6] (kpx 1 (kpa 0 0 5 rfl (kpx 1 (kpd 0 4 rfl (kpx 1 (kpd 0 2 rfl (bnd h fun l69 Cxw h=>(Awx (T:=54) (R:=(Abt 54)) (xs:=Aag) 0 Aao rfl (by kernel_rfl) (by kernel_rfl) (by kernel_rfl) (.inl ⟨rfl,rfl⟩) (.inr ⟨_,.i64,rfl,(by kernel_rfl)⟩) (by kernel_rfl) (by kernel_rfl) Cxw Ado fun A70 k71 o72=>?_))))))))))
    refine kpz (K.mv5 (K.mv4 (K.mv2 (kcp h (fun _ Bvt=>(Apu.ok Bvt (Abf.rd o56) (Aaf.rd o60) (Aaf.rd o64) o68 Ajj Ado o72)) rfl ⟨(.head _),(.tail _ (.head _)),(.tail _ (.tail _ (.head _))),(t4 Alb),(t4 Adg),(t4 Adg),trivial⟩ (fun _ e=>Ad4 (kpn 4 e rfl)) fun r73 h=>?_))))
    rintro _ _ ⟨h75,A76,k77,o78,rfl,rfl⟩
    refine A4o (K.mv6 (K.drop (knl (Ade (Afg ?_)))))
    obtain rfl:=Aam h
    exact kdv (.tuple #[]) [bk b0 #[slW A54 r51.1 k55,slW A58 r51.2.1 k59,pt Aci] 75,h53,h57,bk Aci #[sv Acp,iv Acs,iv Acu,iv r73.1,slW A62 r51.2.2.2.1 k63,slW A76 r73.2 k77,iv r51.2.2.2.2.2,slW Ad5 Ab1 Ad7] 73,h61,h75] (K.mv2 (K.mv5 (K.mv3 (K.mv5 (K.mv5 (K.mv5 (Adq (PR.okI ⟨h53,A54,k55,h57,A58,k59,h61,A62,k63,h75,A76,k77,o56,o60,o64,o78,rfl,rfl⟩))))))))
   ·refine ksr (kx 2 (knt ?_))
    refine kcn h (fun h=>?_) fun h=>?_
    ·refine ksr (kla 0 0 5 rfl (kx 1 (kld 0 2 rfl (kcp h (fun _ A7r=>(Akz.ok A7r Ado)) rfl ⟨(t7 Adg),trivial⟩ (fun _ e=>Ab5 (Ad4 (kpn 7 e rfl))) fun r80 h=>?_))))
     rintro _ _ ⟨rfl,rfl⟩
     refine Apk (Abz (kla 0 0 5 rfl (kx 1 (kld 0 4 rfl (kx 2 (kld 0 2 rfl (kx 1 (kcp h (fun _ A1n=>(Akz.ok A1n Ado)) rfl ⟨(t7 Adg),trivial⟩ (fun _ e=>Ab5 (Ad4 (kpn 7 e rfl))) fun r82 h=>?_))))))))
     rintro _ _ ⟨rfl,rfl⟩
     refine Apk (Abz (kx 1 (kld 0 4 rfl (kx 2 (knt (Aez (K.mv6 (K.mv6 (K.mv5 (K.mv5 ?_))))))))))
     refine K.mv6 (K.mv6 (K.mv6 (Akb (τ:=Int×TyF×TyC×Int×TyB×TyC×Int×Aaa×TyO×Nat×Aaa×TyO×Nat×Aaa×TyO×Nat×Aaa×TyO×Nat) (fun t=>[(0,pt b0),(4,pt b1),(98,slW Abu Aag Abx),(99,iv ((Aag.length:Nat):Int)),(100,iv t.1)]) (fun t=>bk b1 #[iv Aan,sv Aar,iv Aao,iv Aa5,slW Abu Aag Abx] 54 :: bk b0 #[slW t.2.2.2.2.2.2.2.2.1 t.2.1 t.2.2.2.2.2.2.2.2.2.1,slW t.2.2.2.2.2.2.2.2.2.2.2.1 t.2.2.1 t.2.2.2.2.2.2.2.2.2.2.2.2.1,pt Aci] 75 :: bk Aci #[sv Acp,iv Acs,iv Acu,iv t.2.2.2.1,slW t.2.2.2.2.2.2.2.2.2.2.2.2.2.2.1 t.2.2.2.2.1 t.2.2.2.2.2.2.2.2.2.2.2.2.2.2.2.1,slW t.2.2.2.2.2.2.2.2.2.2.2.2.2.2.2.2.2.1 t.2.2.2.2.2.1 t.2.2.2.2.2.2.2.2.2.2.2.2.2.2.2.2.2.2,iv t.2.2.2.2.2.2.1,slW Ad5 Ab1 Ad7] 73 :: t.2.2.2.2.2.2.2.1 :: t.2.2.2.2.2.2.2.2.2.2.1 :: t.2.2.2.2.2.2.2.2.2.2.2.2.2.1 :: t.2.2.2.2.2.2.2.2.2.2.2.2.2.2.2.2.1 :: X) (fun m t=>Ah1.l0 m Rc Acp Acs Acu Ab1 Aao Aag t.1 t.2.1 t.2.2.1 t.2.2.2.1 t.2.2.2.2.1 t.2.2.2.2.2.1 t.2.2.2.2.2.2.1=some r∧Abf Ak8 43 t.2.2.2.2.2.2.2.1 (slW t.2.2.2.2.2.2.2.2.1 t.2.1 t.2.2.2.2.2.2.2.2.2.1) t.2.1∧Aaf encS 9 1 t.2.2.2.2.2.2.2.2.2.2.1 (slW t.2.2.2.2.2.2.2.2.2.2.2.1 t.2.2.1 t.2.2.2.2.2.2.2.2.2.2.2.2.1) t.2.2.1∧Aaf e78 78 3 t.2.2.2.2.2.2.2.2.2.2.2.2.2.1 (slW t.2.2.2.2.2.2.2.2.2.2.2.2.2.2.1 t.2.2.2.2.1 t.2.2.2.2.2.2.2.2.2.2.2.2.2.2.2.1) t.2.2.2.2.1∧Aaf encS 9 1 t.2.2.2.2.2.2.2.2.2.2.2.2.2.2.2.2.1 (slW t.2.2.2.2.2.2.2.2.2.2.2.2.2.2.2.2.2.1 t.2.2.2.2.2.1 t.2.2.2.2.2.2.2.2.2.2.2.2.2.2.2.2.2.2) t.2.2.2.2.2.1) k (0,Aac,Aad,Adv,Acv,Adf,Adx,Adb,Aas,Aau,Afs,Aer,Aew,Agv,Afb,Afc,Ahe,Afo,Afv) ⟨h,Abe,Ah0,Aib,Ai6⟩ sb rfl ?_)))
     clear h
     rintro Bhl ⟨x84,l85,l90,x95,l96,Bg4,Bj4,h86,A87,k88,h91,A92,k93,h97,A98,k99,A6t,A5l,A8b⟩ ⟨h,o89,o94,Bnx,Bb1⟩
     cases Bhl with
     | zero=>simp [Ah1.l0] at h
     | succ Bhl =>
      simp only [Ah1.l0] at h
      refine ksr (kx 1 (knt (Acx ?_)))
      refine kcn h (fun h=>?_) fun h=>?_
      ·refine Adl (Abi (Acx (Aez (ksr (kx 1 (bnd h fun x109 C1l h=>(Ail (T:=54) (kd:=.i64) (R:=(Abt 54)) rfl C1l Ado fun Dl1 Dmu Dce Crn y112=>?_)))))))
       obtain ⟨Cm1,C3q,rfl,C8d⟩:=Aig 54 Dce
       refine keN rfl Crn (t7 Adg) (knp #[iv 0,sv noS,iv 0,iv 0,nS] 54 fun Dh1=>(kx 1 (kst 0 5 #[iv x109.kind,sv x109.text,iv x109.n,iv x109.at_,slW Cm1 x109.kids C3q] (knr (kx 1 (kla 0 0 5 rfl (K.drop (kx 2 (kld 0 2 rfl (kx 1 ?_))))))))))
       refine K.mv6 (K.mv6 (K.mv4 (K.mv6 (K.mv6 (K.mv6 (kcp h (fun _ Bux=>(hR.Ah1 Bux o89 o94 Bnx Bb1 Ajj C8d hG)) rfl ⟨(.tail _ Alb),(.tail _ Adg),(.tail _ Ad1),trivial⟩ (fun _ e=>Ad4 (Ab5 (Ab5 (Ad4 (Ad4 (kpn 1 e rfl)))))) fun Alg h=>?_))))))
       rintro _ _ ⟨Cuh,B30,Ccx,Bs6,Bke,Bmj,Cui,Bp6,Bwt,Bfa,Bdy,Bgj,Byo,Byt,Byw,A8u,rfl,rfl⟩
       refine Ajr (knl (Ade (Abi (Ab6 (kx 2 (knt (K.mv5 (K.mv5 (K.mv4 (K.mv4 ?_))))))))))
       exact K.mv5 (K.mv5 (K.mv6 (Ai4 Bhl (IntKind.i64.wrap (x84+1),Alg.1,Alg.2.1,Alg.2.2.1,Alg.2.2.2.1,Alg.2.2.2.2.1,Alg.2.2.2.2.2,Cuh,B30,Ccx,Bs6,Bke,Bmj,Cui,Bp6,Bwt,Bfa,Bdy,Bgj) (Nat.lt_succ_self _) ⟨h,Byo,Byt,Byw,A8u⟩ sb rfl)))
      ·refine Aj9 (Agh (Agh (Aka (Ade (Afg ?_)))))
       obtain rfl:=Aam h
       exact kdv (.tuple #[]) [bk b0 #[slW A87 l85 k88,slW A92 l90 k93,pt Aci] 75,h86,h91,bk Aci #[sv Acp,iv Acs,iv Acu,iv x95,slW A98 l96 k99,slW A5l Bg4 A8b,iv Bj4,slW Ad5 Ab1 Ad7] 73,h97,A6t] (K.drop (K.mv5 (K.mv5 (K.mv3 (K.mv5 (K.mv5 (K.mv5 (Adq (PR.okI ⟨h86,A87,k88,h91,A92,k93,h97,A98,k99,A6t,A5l,A8b,o89,o94,Bnx,Bb1,rfl,rfl⟩)))))))))
    ·refine ksr (kx 2 (knt ?_))
     refine kcn h (fun h=>?_) fun h=>?_
     ·refine ksr (kx 2 (kld 0 4 rfl (bnd h fun Bdm C1t h=>(Ail (T:=54) (kd:=.i64) (R:=(Abt 54)) rfl C1t Ado fun Dl9 Dm0 Dcn Crr Dns=>?_))))
      obtain ⟨Dg4,Dk0,rfl,Byx⟩:=Aig 54 Dcn
      refine keN rfl Crr (t7 Adg) (K.mv6 (K.mv6 (K.mv6 (K.mv6 (K.mv6 (K.mv6 (kcp h (fun _ Cyt=>(hR.Ah1 Cyt Abe Ah0 Aib Ai6 Ajj Byx hG)) rfl ⟨(.tail _ Alb),(.tail _ Adg),(.tail _ Ad1),trivial⟩ (fun _ e=>Ab5 (Ad4 (kpn 1 e rfl))) fun A9f h=>?_)))))))
      rintro _ _ ⟨Cuk,B37,Cc5,Diu,Dg7,Dk3,Diw,Dg8,Dk4,Cum,Cnj,C31,Bhp,C8y,C8z,By0,rfl,rfl⟩
      refine Ajr (knt (Arz [(0,0),(1,3),(2,0),(3,3),(4,0),(5,3)] [bk b1 #[iv Aan,sv Aar,iv Aao,iv Aa5,slW Abu Aag Abx] 54,Ae4] (fun w h_=>⟨h_.sat.on _ (.tail _ (.tail _ (.tail _ (.tail _ (.tail _ (.tail _ (.head _))))))),h_.sat.on _ (t7 Adg),trivial⟩) (kpx 1 (kpa 0 0 5 rfl (kpx 1 (kpd 0 4 rfl (bnd h fun Bdo C11 h=>(Ap9 (T:=54) (kd:=.i64) (R:=(Abt 54)) rfl C11 Ado fun Dmd Dm5 Dcs e167 y168=>?_))))))))
      obtain ⟨Dha,Dk5,rfl,C80⟩:=Aig 54 Dcs
      refine Aqy rfl e167 (fun w h_=>h_.mem _ (.tail _ (.head _))) (kpz (Ag6 (K.mv6 (K.mv6 (K.mv6 (K.mv6 (K.mv6 (K.mv6 (kcp h (fun _ Cyy=>(hR.Aow Cyy Bhp C8y C8z By0 Ajj Ado (RdR.nil (Abt 54) none_) C80 hG)) rfl ⟨(t2 Alb),(t2 Adg),(.head _),(t2 Adg),(t2 Ad1),trivial⟩ (fun _ e=>Ad4 (kpn 2 e rfl)) fun Av3 h=>?_)))))))))
      rintro _ _ ⟨Ba7,Bah,Bbh,Ba8,Bak,Bbj,B91,Bam,Bbl,B95,B4f,Cdd,By3,By4,By6,C84,rfl,rfl⟩
      refine Ajr (K.mv6 (K.drop (K.mv6 (K.drop (knl (Ade (Afg ?_)))))))
      obtain rfl:=Aam h
      exact kdv (.tuple #[]) [bk b0 #[slW Bah Av3.1 Bbh,slW Bak Av3.2.1 Bbj,pt Aci] 75,Ba7,Ba8,bk Aci #[sv Acp,iv Acs,iv Acu,iv Av3.2.2.1,slW Bam Av3.2.2.2.1 Bbl,slW B4f Av3.2.2.2.2.1 Cdd,iv Av3.2.2.2.2.2,slW Ad5 Ab1 Ad7] 73,B91,B95] (Adq (PR.okI ⟨Ba7,Bah,Bbh,Ba8,Bak,Bbj,B91,Bam,Bbl,B95,B4f,Cdd,By3,By4,By6,C84,rfl,rfl⟩))
     ·refine ksr (kx 2 (knt ?_))
      refine kcn h (fun h=>?_) fun h=>?_
      ·refine ksr (kx 2 (kld 0 4 rfl (kx 1 (bnd h fun A8l Cws h=>(A8i (T:=54) (R:=(Abt 54)) (xs:=Aag) 1 (IntKind.i64.wrap (((Aag.length:Nat):Int) - 1)) rfl (by kernel_rfl) (by kernel_rfl) (by kernel_rfl) (.inr ⟨_,.i64,rfl,(by kernel_rfl)⟩) (.inr ⟨_,.i64,rfl,(by kernel_rfl)⟩) (by kernel_rfl) (by kernel_rfl) Cws Ado fun Dhd Dk9 C89=>(K.mv6 (K.mv6 (K.mv6 (K.mv6 (K.mv6 ?_))))))))))
       refine K.mv6 (kcp h (fun _ Cy1=>(hR.Aj4 Cy1 Abe Ah0 Aib Ai6 Ajj C89 hG)) rfl ⟨(.tail _ Alb),(.tail _ Adg),(.tail _ Ad1),trivial⟩ (fun _ e=>Ab5 (Ad4 (kpn 1 e rfl))) fun A9l h=>?_)
       rintro _ _ ⟨Di0,Dhe,Dla,Di2,Dhg,Dlb,Di6,Dhh,Dlc,Di7,Dhi,Dld,C9b,C9c,C9d,C9f,rfl,rfl⟩
       refine Ajr (knt (Arz [(0,0),(1,3),(2,0),(3,3),(4,0),(5,0),(6,3),(7,0),(8,0),(9,3)] [bk b1 #[iv Aan,sv Aar,iv Aao,iv Aa5,slW Abu Aag Abx] 54,Ae4] (fun w h_=>⟨h_.sat.on _ (.tail _ (.tail _ (.tail _ (.tail _ (.tail _ (.tail _ (.head _))))))),h_.sat.on _ (t7 Adg),trivial⟩) (kpx 1 (kpa 0 0 5 rfl (kpx 1 (kpd 0 4 rfl (bnd h fun Cfx Cwu h=>(Awx (T:=54) (R:=(Abt 54)) (xs:=Aag) 0 1 rfl (by kernel_rfl) (by kernel_rfl) (by kernel_rfl) (.inl ⟨rfl,rfl⟩) (.inr ⟨_,.i64,rfl,(by kernel_rfl)⟩) (by kernel_rfl) (by kernel_rfl) Cwu Ado fun Dhj Dlh C9o=>(kpx 1 (kpd 0 4 rfl ?_))))))))))
       refine kpx 1 (bnd h fun Bdq C2a h=>(Ap9 (T:=54) (kd:=.i64) (R:=(Abt 54)) rfl C2a Ado fun Dml Dm9 Dcv e221 Dn1=>?_))
       obtain ⟨Dhn,Dlj,rfl,C9s⟩:=Aig 54 Dcv
       refine Aqy rfl e221 (fun w h_=>h_.mem _ (.tail _ (.head _))) (kpz (K.mv5 (K.mv5 (K.mv5 (K.mv5 (K.mv5 (K.mv5 (kcp h (fun _ Cy7=>(hR.Aow Cy7 C9b C9c C9d C9f Ajj Ado C9o C9s hG)) rfl ⟨(.tail _ Alb),(.tail _ Adg),(.tail _ Adg),(.tail _ Adg),(.tail _ Ad1),trivial⟩ (fun _ e=>Ad4 (kpn 1 e rfl)) fun Av4 h=>?_))))))))
       rintro _ _ ⟨Caf,B4p,Cdm,Bfb,Bdz,Bgk,Bfd,Bd2,Bgm,Bfe,Bd4,Bgn,C9u,Bzb,Bzd,Bze,rfl,rfl⟩
       refine Ajr (K.mv6 (K.drop (knl (Ade (Afg ?_)))))
       obtain rfl:=Aam h
       exact kdv (.tuple #[]) [bk b0 #[slW B4p Av4.1 Cdm,slW Bdz Av4.2.1 Bgk,pt Aci] 75,Caf,Bfb,bk Aci #[sv Acp,iv Acs,iv Acu,iv Av4.2.2.1,slW Bd2 Av4.2.2.2.1 Bgm,slW Bd4 Av4.2.2.2.2.1 Bgn,iv Av4.2.2.2.2.2,slW Ad5 Ab1 Ad7] 73,Bfd,Bfe] (Adq (PR.okI ⟨Caf,B4p,Cdm,Bfb,Bdz,Bgk,Bfd,Bd2,Bgm,Bfe,Bd4,Bgn,C9u,Bzb,Bzd,Bze,rfl,rfl⟩))
      ·refine ksr (kx 2 (knt ?_))
       refine kcn h (fun h=>?_) fun h=>?_
       ·refine ksr (kla 0 0 5 rfl (kx 1 (kld 0 2 rfl (kcp h (fun _ Cza=>(Akz.ok Cza Ado)) rfl ⟨(t7 Adg),trivial⟩ (fun _ e=>Ab5 (Ad4 (kpn 7 e rfl))) fun Dc0 h=>?_))))
        rintro _ _ ⟨rfl,rfl⟩
        refine Apk (Abz (kla 0 0 5 rfl (kx 2 (kld 0 2 rfl (kx 1 (kcp h (fun _ Czb=>(Akz.ok Czb Ado)) rfl ⟨(t7 Adg),trivial⟩ (fun _ e=>Ab5 (Ad4 (kpn 7 e rfl))) fun Dc1 h=>?_))))))
        rintro _ _ ⟨rfl,rfl⟩
        refine Apk (Abz (kx 2 (kld 0 4 rfl (kx 1 (kld 0 2 rfl (kx 1 (bnd h fun Cf1 Cw3 h=>(A8i (T:=54) (R:=(Abt 54)) (xs:=Aag) Aao (IntKind.i64.wrap (((Aag.length:Nat):Int) - 1)) rfl (by kernel_rfl) (by kernel_rfl) (by kernel_rfl) (.inr ⟨_,.i64,rfl,(by kernel_rfl)⟩) (.inr ⟨_,.i64,rfl,(by kernel_rfl)⟩) (by kernel_rfl) (by kernel_rfl) Cw3 Ado fun Dhq Dlk C9x=>(K.mv6 (K.mv6 ?_))))))))))
        refine K.mv6 (K.mv6 (K.mv6 (K.mv6 (kcp h (fun _ Czc=>(hR.Aj4 Czc Abe Ah0 Aib Ai6 Ajj C9x hG)) rfl ⟨(.tail _ Alb),(.tail _ Adg),(.tail _ Ad1),trivial⟩ (fun _ e=>Ab5 (Ad4 (kpn 1 e rfl))) fun A9o h=>?_))))
        rintro _ _ ⟨Di8,Dhs,Dlo,Bte,Bqe,Bw2,Bti,Bqi,Bw4,Btj,Bqj,Bw5,C9z,Bzi,Bzk,Bzo,rfl,rfl⟩
        refine Ajr (knt (Arz [(0,0),(1,3),(2,0),(3,3),(4,0),(5,3),(6,0),(7,0),(8,3),(9,0),(10,0),(11,3)] [bk b1 #[iv Aan,sv Aar,iv Aao,iv Aa5,slW Abu Aag Abx] 54,Ae4] (fun w h_=>⟨h_.sat.on _ (.tail _ (.tail _ (.tail _ (.tail _ (.tail _ (.tail _ (.head _))))))),h_.sat.on _ (t7 Adg),trivial⟩) (kpx 1 (kpa 0 0 5 rfl (kpx 1 (kpd 0 4 rfl (kpx 1 (kpd 0 2 rfl (bnd h fun Cf5 Cw6 h=>(Awx (T:=54) (R:=(Abt 54)) (xs:=Aag) 0 Aao rfl (by kernel_rfl) (by kernel_rfl) (by kernel_rfl) (.inl ⟨rfl,rfl⟩) (.inr ⟨_,.i64,rfl,(by kernel_rfl)⟩) (by kernel_rfl) (by kernel_rfl) Cw6 Ado fun Bqk Bw6 Bzq=>?_))))))))))
        refine kpx 1 (kpd 0 4 rfl (kpx 1 (bnd h fun Bdx C2f h=>(Ap9 (T:=54) (kd:=.i64) (R:=(Abt 54)) rfl C2f Ado fun Dmp Dnb Dcz e279 Dn3=>?_))))
        obtain ⟨Dht,Dlp,rfl,C92⟩:=Aig 54 Dcz
        refine Aqy rfl e279 (fun w h_=>h_.mem _ (.tail _ (.head _))) (kpz (K.mv5 (K.mv5 (K.mv5 (K.mv5 (K.mv5 (K.mv5 (kcp h (fun _ Cze=>(hR.Aow Cze C9z Bzi Bzk Bzo Ajj Ado Bzq C92 hG)) rfl ⟨(.tail _ Alb),(.tail _ Adg),(.tail _ Adg),(.tail _ Adg),(.tail _ Ad1),trivial⟩ (fun _ e=>Ad4 (kpn 1 e rfl)) fun Av5 h=>?_))))))))
        rintro _ _ ⟨Caj,B4u,Cdr,Bbb,A0j,A2f,Cam,B4x,Cds,Cao,B4z,Cdv,C98,Bzr,C99,Dac,rfl,rfl⟩
        refine Ajr (K.mv6 (K.drop (knl (Ade (Afg ?_)))))
        obtain rfl:=Aam h
        exact kdv (.tuple #[]) [bk b0 #[slW B4u Av5.1 Cdr,slW A0j Av5.2.1 A2f,pt Aci] 75,Caj,Bbb,bk Aci #[sv Acp,iv Acs,iv Acu,iv Av5.2.2.1,slW B4x Av5.2.2.2.1 Cds,slW B4z Av5.2.2.2.2.1 Cdv,iv Av5.2.2.2.2.2,slW Ad5 Ab1 Ad7] 73,Cam,Cao] (Adq (PR.okI ⟨Caj,B4u,Cdr,Bbb,A0j,A2f,Cam,B4x,Cds,Cao,B4z,Cdv,C98,Bzr,C99,Dac,rfl,rfl⟩))
       ·refine ksr (kx 2 (knt ?_))
        refine kcn h (fun h=>?_) fun h=>?_
        ·refine ksr (kx 3 (kld 1 2 rfl (kx 2 (kld 4 6 rfl (kx 1 (knt ?_))))))
         refine kcn h (fun h=>?_) fun h=>?_
         ·refine Ab6 (kx 1 (kld 0 3 rfl (K.drop (kcp h (fun _ Czk=>(Apv.ok Czk)) rfl trivial (fun _ e=>Ad4 (kpn 6 e rfl)) fun Dc2 h=>?_))))
          rintro _ _ ⟨rfl,rfl⟩
          refine Apk (knl (Ade (Afg ?_)))
          obtain rfl:=Aam h
          exact kdv (.tuple #[]) [bk b0 #[slW Aas Aac Aau,slW Aer Aad Aew,pt Aci] 75,Adb,Afs,bk Aci #[sv Acp,iv Acs,iv Acu,iv Adv,slW Afb Acv Afc,slW Afo Adf Afv,iv Adx,slW Ad5 Ab1 Ad7] 73,Agv,Ahe] (Adq (PR.okI ⟨Adb,Aas,Aau,Afs,Aer,Aew,Agv,Afb,Afc,Ahe,Afo,Afv,Abe,Ah0,Aib,Ai6,rfl,rfl⟩))
         ·refine Adl (Ade (Afg ?_))
          obtain rfl:=Aam h
          exact kdv (.tuple #[]) [bk b0 #[slW Aas Aac Aau,slW Aer Aad Aew,pt Aci] 75,Adb,Afs,bk Aci #[sv Acp,iv Acs,iv Acu,iv Adv,slW Afb Acv Afc,slW Afo Adf Afv,iv Adx,slW Ad5 Ab1 Ad7] 73,Agv,Ahe] (K.drop (Adq (PR.okI ⟨Adb,Aas,Aau,Afs,Aer,Aew,Agv,Afb,Afc,Ahe,Afo,Afv,Abe,Ah0,Aib,Ai6,rfl,rfl⟩)))
        ·refine Ab6 (kx 1 (kla 0 0 5 rfl (K.drop (kx 1 (K.mv5 (K.mv5 (K.mv5 (K.mv5 (K.mv5 (K.mv5 ?_))))))))))
         refine kcp h (fun _ Czl=>(hR.Art Czl Abe Ah0 Aib Ai6 Ajj Ado hG)) rfl ⟨Alb,Adg,Ad1,trivial⟩ (fun _ e=>Ad4 (kpn 0 e rfl)) fun Av7 h=>?_
         rintro _ _ ⟨Cau,B41,Cdw,Cav,B42,Cdy,Cax,B43,Cd0,Ca0,B48,Cd2,Dah,Dal,Dao,Das,rfl,rfl⟩
         refine Ajr (knl (Ade (Afg ?_)))
         obtain rfl:=Aam h
         exact kdv (.tuple #[]) [bk b0 #[slW B41 Av7.1 Cdw,slW B42 Av7.2.1 Cdy,pt Aci] 75,Cau,Cav,bk Aci #[sv Acp,iv Acs,iv Acu,iv Av7.2.2.1,slW B43 Av7.2.2.2.1 Cd0,slW B48 Av7.2.2.2.2.1 Cd2,iv Av7.2.2.2.2.2,slW Ad5 Ab1 Ad7] 73,Cax,Ca0] (Adq (PR.okI ⟨Cau,B41,Cdw,Cav,B42,Cdy,Cax,B43,Cd0,Ca0,B48,Cd2,Dah,Dal,Dao,Das,rfl,rfl⟩))
def Aj4.l0:Nat→(Rc:CK)→(Acp:ByteArray)→(Acs:Int)→(Acu:Int)→(Ab1:TyC)→(a1:List Tree)→(x1:Int)→(l2:TyF)→(l7:TyC)→(x12:Int)→(l13:TyB)→(l18:TyC)→(x23:Int)→Option (PR (TyF×TyC×Int×TyB×TyC×Int) (Int×Int))
 | 0,_,_,_,_,_,_,_,_,_,_,_,_,_=>none
 | m24+1,Rc,Acp,Acs,Acu,Ab1,a1,x1,l2,l7,x12,l13,l18,x23=>cond (decide (x1 < ((a1.length:Nat):Int))) ((Ack a1 x1).bind fun x26=>PR.bind (Rc.Ah1 l2 l7 Acp Acs Acu x12 l13 l18 x23 Ab1 x26.kind x26.text x26.n x26.at_ x26.kids false) fun r36=>Aj4.l0 m24 Rc Acp Acs Acu Ab1 a1 (IntKind.i64.wrap (x1+1)) r36.1 r36.2.1 r36.2.2.1 r36.2.2.2.1 r36.2.2.2.2.1 r36.2.2.2.2.2) (some (PR.ok (l2,l7,x12,l13,l18,x23)))
def Aj4.g (Rc:CK) (k:Nat) (Aac:TyF) (Aad:TyC) (Acp:ByteArray) (Acs:Int) (Acu:Int) (Adv:Int) (Acv:TyB) (Adf:TyC) (Adx:Int) (Ab1:TyC) (a1:List Tree):Option (PR (TyF×TyC×Int×TyB×TyC×Int) (Int×Int)):=Aj4.l0 k Rc Acp Acs Acu Ab1 a1 0 Aac Aad Adv Acv Adf Adx
theorem Aj4.okg {Rc:CK} (hR:Rc.Good) {k:Nat}:Aj4.C (Aj4.g Rc k):=by
 intro Aac Aad Adf Ab1 Acp Acs Acu Adv Adx Acv a1 b0 Aau Aew Aci Afc Afv Ad7 Ae6 Adb Afs Agv Ahe Aky Ahz G Aas Aer Afb Afo Ad5 Ae2 r h Abe Ah0 Aib Ai6 Ajj Ajh hG
 refine Afi (args:=[pt b0,slW Ae2 a1 Ae6]) Tryz.func31 rfl (Ac0 rfl) ?_
 intro A X hh_
 obtain ⟨Alb,Ah4,Ad1,_⟩:=hh_
 unfold Aj4.g at h
 refine K.eq (env':=[(0,pt b0),(1,slW Ae2 a1 Ae6)]) (l':=bk b0 #[slW Aas Aac Aau,slW Aer Aad Aew,pt Aci] 75 :: Adb :: Afs :: bk Aci #[sv Acp,iv Acs,iv Acu,iv Adv,slW Afb Acv Afc,slW Afo Adf Afv,iv Adx,slW Ad5 Ab1 Ad7] 73 :: Agv :: Ahe :: X) rfl rfl (ksr (kx 3 (knt (Aez (K.mv5 (K.mv5 (K.mv4 (K.mv4 (K.mv5 (K.mv5 ?_))))))))))
 refine Akb (τ:=Int×TyF×TyC×Int×TyB×TyC×Int×Aaa×TyO×Nat×Aaa×TyO×Nat×Aaa×TyO×Nat×Aaa×TyO×Nat) (fun t=>[(0,pt b0),(6,slW Ae2 a1 Ae6),(7,iv ((a1.length:Nat):Int)),(8,iv t.1)]) (fun t=>bk b0 #[slW t.2.2.2.2.2.2.2.2.1 t.2.1 t.2.2.2.2.2.2.2.2.2.1,slW t.2.2.2.2.2.2.2.2.2.2.2.1 t.2.2.1 t.2.2.2.2.2.2.2.2.2.2.2.2.1,pt Aci] 75 :: bk Aci #[sv Acp,iv Acs,iv Acu,iv t.2.2.2.1,slW t.2.2.2.2.2.2.2.2.2.2.2.2.2.2.1 t.2.2.2.2.1 t.2.2.2.2.2.2.2.2.2.2.2.2.2.2.2.1,slW t.2.2.2.2.2.2.2.2.2.2.2.2.2.2.2.2.2.1 t.2.2.2.2.2.1 t.2.2.2.2.2.2.2.2.2.2.2.2.2.2.2.2.2.2,iv t.2.2.2.2.2.2.1,slW Ad5 Ab1 Ad7] 73 :: t.2.2.2.2.2.2.2.1 :: t.2.2.2.2.2.2.2.2.2.2.1 :: t.2.2.2.2.2.2.2.2.2.2.2.2.2.1 :: t.2.2.2.2.2.2.2.2.2.2.2.2.2.2.2.2.1 :: X) (fun m t=>Aj4.l0 m Rc Acp Acs Acu Ab1 a1 t.1 t.2.1 t.2.2.1 t.2.2.2.1 t.2.2.2.2.1 t.2.2.2.2.2.1 t.2.2.2.2.2.2.1=some r∧Abf Ak8 43 t.2.2.2.2.2.2.2.1 (slW t.2.2.2.2.2.2.2.2.1 t.2.1 t.2.2.2.2.2.2.2.2.2.1) t.2.1∧Aaf encS 9 1 t.2.2.2.2.2.2.2.2.2.2.1 (slW t.2.2.2.2.2.2.2.2.2.2.2.1 t.2.2.1 t.2.2.2.2.2.2.2.2.2.2.2.2.1) t.2.2.1∧Aaf e78 78 3 t.2.2.2.2.2.2.2.2.2.2.2.2.2.1 (slW t.2.2.2.2.2.2.2.2.2.2.2.2.2.2.1 t.2.2.2.2.1 t.2.2.2.2.2.2.2.2.2.2.2.2.2.2.2.1) t.2.2.2.2.1∧Aaf encS 9 1 t.2.2.2.2.2.2.2.2.2.2.2.2.2.2.2.2.1 (slW t.2.2.2.2.2.2.2.2.2.2.2.2.2.2.2.2.2.1 t.2.2.2.2.2.1 t.2.2.2.2.2.2.2.2.2.2.2.2.2.2.2.2.2.2) t.2.2.2.2.2.1) k (0,Aac,Aad,Adv,Acv,Adf,Adx,Adb,Aas,Aau,Afs,Aer,Aew,Agv,Afb,Afc,Ahe,Afo,Afv) ⟨h,Abe,Ah0,Aib,Ai6⟩ sb rfl ?_
 clear h
 rintro m24 ⟨x1,l2,l7,x12,l13,l18,x23,h3,A4,k5,h8,A9,k10,h14,A15,k16,h19,A20,k21⟩ ⟨h,o6,o11,o17,o22⟩
 cases m24 with
 | zero=>simp [Aj4.l0] at h
 | succ m24 =>
  simp only [Aj4.l0] at h
  refine ksr (kx 1 (knt (Acx ?_)))
  refine kcn h (fun h=>?_) fun h=>?_
  ·refine Adl (Abi (Acx (Aez (ksr (bnd h fun x26 C2e h=>(Ail (T:=54) (kd:=.i64) (R:=(Abt 54)) rfl C2e Ajh fun p27 u30 q31 e28 y29=>?_))))))
   obtain ⟨A32,k33,rfl,o34⟩:=Aig 54 q31
   refine keN rfl e28 (t6 Ah4) (knp #[iv 0,sv noS,iv 0,iv 0,nS] 54 fun b35=>(kst 0 5 #[iv x26.kind,sv x26.text,iv x26.n,iv x26.at_,slW A32 x26.kids k33] (knr (kx 1 (kla 0 0 5 rfl (K.drop (K.mv5 (K.mv5 (K.mv3 (K.mv5 ?_))))))))))
   refine K.mv5 (K.mv5 (kcp h (fun _ Ayc=>(hR.Ah1 Ayc o6 o11 o17 o22 Ajj o34 hG)) rfl ⟨Alb,Ah4,Ad1,trivial⟩ (fun _ e=>Ad4 (Ab5 (Ab5 (Ad4 (kpn 0 e rfl))))) fun r36 h=>?_))
   rintro _ _ ⟨h38,A39,k40,h42,A43,k44,h46,A47,k48,h50,A51,k52,o41,o45,o49,o53,rfl,rfl⟩
   refine Ajr (knl (Ade (Abi (Ab6 (kx 2 (knt (K.mv5 (K.mv5 (K.mv4 (K.mv4 ?_))))))))))
   exact K.mv5 (K.mv5 (Ai4 m24 (IntKind.i64.wrap (x1+1),r36.1,r36.2.1,r36.2.2.1,r36.2.2.2.1,r36.2.2.2.2.1,r36.2.2.2.2.2,h38,A39,k40,h42,A43,k44,h46,A47,k48,h50,A51,k52) (Nat.lt_succ_self _) ⟨h,o41,o45,o49,o53⟩ sb rfl))
  ·refine Aj9 (Agh (Agh (Aka (Afg ?_))))
   obtain rfl:=Aam h
   exact kdv (.tuple #[]) [bk b0 #[slW A4 l2 k5,slW A9 l7 k10,pt Aci] 75,h3,h8,bk Aci #[sv Acp,iv Acs,iv Acu,iv x12,slW A15 l13 k16,slW A20 l18 k21,iv x23,slW Ad5 Ab1 Ad7] 73,h14,h19] (K.mv5 (K.mv5 (K.mv3 (K.mv5 (K.mv5 (K.mv5 (Adq (PR.okI ⟨h3,A4,k5,h8,A9,k10,h14,A15,k16,h19,A20,k21,o6,o11,o17,o22,rfl,rfl⟩))))))))
def Art.g (Rc:CK) (k:Nat) (Aac:TyF) (Aad:TyC) (Acp:ByteArray) (Acs:Int) (Acu:Int) (Adv:Int) (Acv:TyB) (Adf:TyC) (Adx:Int) (Ab1:TyC) (Aan:Int) (Aar:ByteArray) (Aao:Int) (Aa5:Int) (Aag:List Tree) (a2:Bool):Option (PR (TyF×TyC×Int×TyB×TyC×Int) (Int×Int)):=Adj (fun (l2:TyC) (l7:TyB)=>PR.bind (Rc.Aj4 Aac l2 Acp Acs Acu Adv l7 Adf Adx Ab1 Aag) fun r13=>some (PR.ok (r13.1,r13.2.1,r13.2.2.1,r13.2.2.2.1,r13.2.2.2.2.1,r13.2.2.2.2.2))) (fun J12=>cond (Aan == 8) (PR.bind (Akz.f k Aan Aar Aao Aa5 Aag (IntKind.i64.wrap (((Aag.length:Nat):Int) - 1)) 50) fun r32=>J12 Aad Acv) (cond (Aan == 30) (PR.bind (Akz.f k Aan Aar Aao Aa5 Aag ((Aag.length:Nat):Int) 50) fun r35=>J12 Aad Acv) (cond (Aan == 12) (PR.bind (Akz.f k Aan Aar Aao Aa5 Aag ((Aag.length:Nat):Int) 200) fun r38=>J12 Aad Acv) (cond (Aan == 4) (PR.bind (A08.f k Aac Aad Acp Acs Acu Adv Acv Adf Adx Ab1 Aan Aar Aao Aa5 Aag 2 Aao (⟨#[]⟩:ByteArray)) fun r41=>J12 Aad r41) (cond (Aan == 5) (PR.bind (A08.f k Aac Aad Acp Acs Acu Adv Acv Adf Adx Ab1 Aan Aar Aao Aa5 Aag 3 0 Aar) fun r48=>J12 Aad r48) (cond (Aan == 6) (PR.bind (A6c.f k Aac Aad Acp Acs Acu Adv Acv Adf Adx Ab1 Aan Aar Aao Aa5 Aag) fun r55=>J12 r55 Acv) (cond (Aan == 7) ((Ack Aag 0).bind fun x62=>(cond (x62.kind == 6) ((Avh.f k x62.text).bind fun r95=>some r95) (some false):Option Bool).bind fun q72=>cond q72 (Adj (fun (_:Unit)=>some (PR.ok (Aac,Aad,Adv,Acv,Adf,Adx))) (fun J74=>(Ack Aag 1).bind fun x75=>(cond a2 (some true) (cond (x75.kind != 5) (some true) ((A2v x62.text (⟨#[46]⟩:ByteArray)).bind fun s91:ByteArray=>(A2v s91 x75.text).bind fun s92:ByteArray=>(A06.f k s92).bind fun r93=>some (r93 == 0))):Option Bool).bind fun q85=>cond q85 (PR.bind (Apv.f k 5 Aa5) fun r87=>J74 ()) (J74 ()))) (J12 Aad Acv)) (J12 Aad Acv))))))))
theorem Art.okg {Rc:CK} (hR:Rc.Good) {k:Nat}:Art.C (Art.g Rc k):=by
 intro Aac Aad Adf Ab1 Acp Aar Acs Acu Adv Adx Aan Aao Aa5 Acv Aag a2 b0 Aau Aew Aci Afc Afv Ad7 Abx Adb Afs Agv Ahe Aky Ae4 G Aas Aer Afb Afo Ad5 Abu r h Abe Ah0 Aib Ai6 Ajj Ado hG
 refine Afi (args:=[pt b0,.agg #[iv Aan,sv Aar,iv Aao,iv Aa5,slW Abu Aag Abx],bv a2]) Tryz.func36 rfl (Ac0 rfl) ?_
 intro A X hh_
 obtain ⟨Alb,Adg,Ad1,_⟩:=hh_
 unfold Art.g at h
 refine K.eq (env':=[(0,pt b0),(1,.agg #[iv Aan,sv Aar,iv Aao,iv Aa5,slW Abu Aag Abx]),(2,bv a2)]) (l':=bk b0 #[slW Aas Aac Aau,slW Aer Aad Aew,pt Aci] 75 :: Adb :: Afs :: bk Aci #[sv Acp,iv Acs,iv Acu,iv Adv,slW Afb Acv Afc,slW Afo Adf Afv,iv Adx,slW Ad5 Ab1 Ad7] 73 :: Agv :: Ahe :: X) rfl rfl (ksr (knp #[iv Aan,sv Aar,iv Aao,iv Aa5,slW Abu Aag Abx] 54 fun b1=>(knt ?_)))
 obtain ⟨J12,Btm,h⟩:=Ags h
 refine Agt (τ:=TyC×TyB×Aaa×TyO×Nat×Aaa×TyO×Nat) (fun t=>[(0,pt b0),(4,pt b1)]) (fun t=>bk b1 #[iv Aan,sv Aar,iv Aao,iv Aa5,slW Abu Aag Abx] 54 :: bk b0 #[slW Aas Aac Aau,slW t.2.2.2.1 t.1 t.2.2.2.2.1,pt Aci] 75 :: Adb :: bk Aci #[sv Acp,iv Acs,iv Acu,iv Adv,slW t.2.2.2.2.2.2.1 t.2.1 t.2.2.2.2.2.2.2,slW Afo Adf Afv,iv Adx,slW Ad5 Ab1 Ad7] 73 :: Ahe :: t.2.2.1 :: t.2.2.2.2.2.1 :: X) (fun t=>J12 t.1 t.2.1=some r∧Aaf encS 9 1 t.2.2.1 (slW t.2.2.2.1 t.1 t.2.2.2.2.1) t.1∧Aaf e78 78 3 t.2.2.2.2.2.1 (slW t.2.2.2.2.2.2.1 t.2.1 t.2.2.2.2.2.2.2) t.2.1) ?_ ?_
 ·rintro ⟨l2,l7,h3,A4,k5,h8,A9,k10⟩ ⟨h,o6,o11⟩
  subst Btm
  refine Ab6 (kx 2 (kld 0 4 rfl (K.drop (K.mv3 (K.mv5 (K.mv4 (K.mv5 (K.mv5 (K.mv5 (kcp h (fun _ A7b=>(hR.Aj4 A7b Abe o6 o11 Ai6 Ajj Ado hG)) rfl ⟨Alb,Adg,Ad1,trivial⟩ (fun _ e=>kpn 0 e rfl) fun r13 h=>?_))))))))))
  rintro _ _ ⟨h15,A16,k17,h19,A20,k21,h23,A24,k25,h27,A28,k29,o18,o22,o26,o30,rfl,rfl⟩
  refine Ajr (knl (Afg ?_))
  obtain rfl:=Aam h
  exact kdv (.tuple #[]) [bk b0 #[slW A16 r13.1 k17,slW A20 r13.2.1 k21,pt Aci] 75,h15,h19,bk Aci #[sv Acp,iv Acs,iv Acu,iv r13.2.2.1,slW A24 r13.2.2.2.1 k25,slW A28 r13.2.2.2.2.1 k29,iv r13.2.2.2.2.2,slW Ad5 Ab1 Ad7] 73,h23,h27] (Adq (PR.okI ⟨h15,A16,k17,h19,A20,k21,h23,A24,k25,h27,A28,k29,o18,o22,o26,o30,rfl,rfl⟩))
 ·skip
  refine ksr (kx 1 (kld 0 0 rfl (knt (Aez (ksr (kx 2 (knt ?_)))))))
  refine kcn h (fun h=>?_) fun h=>?_
  ·refine Ab6 (kla 0 0 5 rfl (kx 1 (kld 0 4 rfl (kx 2 (kcp h (fun _ A7i=>(Akz.ok A7i Ado)) rfl ⟨(t7 Adg),trivial⟩ (fun _ e=>Ad4 (Ab5 (kpn 7 e rfl))) fun r32 h=>?_)))))
   rintro _ _ ⟨rfl,rfl⟩
   refine Apk (knl (Ade (Abi (K.mv5 (K.mv4 (K.mv6 (K.mv6 (K.mv6 (K.mv6 (K.mv6 ?_))))))))))
   exact Ac1 (Aad,Acv,Afs,Aer,Aew,Agv,Afb,Afc) ⟨h,Ah0,Aib⟩ sb rfl
  ·refine ksr (kx 2 (knt ?_))
   refine kcn h (fun h=>?_) fun h=>?_
   ·refine Ab6 (kla 0 0 5 rfl (kx 1 (kld 0 4 rfl (kx 1 (kcp h (fun _ A7j=>(Akz.ok A7j Ado)) rfl ⟨(t7 Adg),trivial⟩ (fun _ e=>Ad4 (Ab5 (kpn 7 e rfl))) fun r35 h=>?_)))))
    rintro _ _ ⟨rfl,rfl⟩
    refine Apk (knl (Ade (Abi (K.mv5 (K.mv4 (K.mv6 (K.mv6 (K.mv6 (K.mv6 (K.mv6 ?_))))))))))
    exact Ac1 (Aad,Acv,Afs,Aer,Aew,Agv,Afb,Afc) ⟨h,Ah0,Aib⟩ sb rfl
   ·refine ksr (kx 2 (knt ?_))
    refine kcn h (fun h=>?_) fun h=>?_
    ·refine Ab6 (kla 0 0 5 rfl (kx 1 (kld 0 4 rfl (kx 1 (kcp h (fun _ A7l=>(Akz.ok A7l Ado)) rfl ⟨(t7 Adg),trivial⟩ (fun _ e=>Ad4 (Ab5 (kpn 7 e rfl))) fun r38 h=>?_)))))
     rintro _ _ ⟨rfl,rfl⟩
     refine Apk (knl (Ade (Abi (K.mv5 (K.mv4 (K.mv6 (K.mv6 (K.mv6 (K.mv6 (K.mv6 ?_))))))))))
     exact Ac1 (Aad,Acv,Afs,Aer,Aew,Agv,Afb,Afc) ⟨h,Ah0,Aib⟩ sb rfl
    ·refine ksr (kx 2 (knt ?_))
     refine kcn h (fun h=>?_) fun h=>?_
     ·refine Ab6 (kx 1 (kla 0 0 5 rfl (kx 1 (kld 0 2 rfl (kx 1 (K.mv5 (K.mv5 (K.mv3 (kcp h (fun _ A7m=>(A08.ok A7m (Abf.rd Abe) (Aaf.rd Ah0) Aib (Aaf.rd Ai6) Ajj Ado)) rfl ⟨(.tail _ (.head _)),(.tail _ (.tail _ (.head _))),(.tail _ (.tail _ (.tail _ (.head _)))),(t4 Alb),(t4 Adg),trivial⟩ (fun _ e=>Ad4 (Ab5 (kpn 4 e rfl))) fun r41 h=>?_)))))))))
      rintro _ _ ⟨h43,A44,k45,o46,rfl,rfl⟩
      refine A4o (knl (Ade (Abi (K.mv2 (K.mv5 (K.mv6 (K.mv4 (K.mv6 (K.mv5 (K.mv6 ?_))))))))))
      exact Ac1 (Aad,r41,Afs,Aer,Aew,h43,A44,k45) ⟨h,Ah0,o46⟩ sb rfl
     ·refine ksr (kx 2 (knt ?_))
      refine kcn h (fun h=>?_) fun h=>?_
      ·refine Ab6 (kx 1 (kla 0 0 5 rfl (kx 1 (kld 0 1 rfl (kx 1 (K.mv5 (K.mv5 (K.mv3 (kcp h (fun _ Bve=>(A08.ok Bve (Abf.rd Abe) (Aaf.rd Ah0) Aib (Aaf.rd Ai6) Ajj Ado)) rfl ⟨(.tail _ (.head _)),(.tail _ (.tail _ (.head _))),(.tail _ (.tail _ (.tail _ (.head _)))),(t4 Alb),(t4 Adg),trivial⟩ (fun _ e=>Ad4 (Ab5 (kpn 4 e rfl))) fun r48 h=>?_)))))))))
       rintro _ _ ⟨h50,A51,k52,o53,rfl,rfl⟩
       refine A4o (knl (Ade (Abi (K.mv2 (K.mv5 (K.mv6 (K.mv4 (K.mv6 (K.mv5 (K.mv6 ?_))))))))))
       exact Ac1 (Aad,r48,Afs,Aer,Aew,h50,A51,k52) ⟨h,Ah0,o53⟩ sb rfl
      ·refine ksr (kx 2 (knt ?_))
       refine kcn h (fun h=>?_) fun h=>?_
       ·refine Ab6 (kx 1 (kla 0 0 5 rfl (K.mv4 (K.mv4 (K.mv3 (kcp h (fun _ Bf2=>(A6c.ok Bf2 (Abf.rd Abe) Ah0 (Aaf.rd Aib) (Aaf.rd Ai6) Ajj Ado)) rfl ⟨(.tail _ (.head _)),(.tail _ (.tail _ (.head _))),(.tail _ (.tail _ (.tail _ (.head _)))),(t4 Alb),(t4 Adg),trivial⟩ (fun _ e=>Ad4 (Ab5 (kpn 4 e rfl))) fun r55 h=>?_))))))
        rintro _ _ ⟨h57,A58,k59,o60,rfl,rfl⟩
        refine A4o (knl (Ade (Abi (K.mv5 (K.mv2 (K.mv6 (K.mv4 (K.mv6 (K.mv5 (K.mv6 ?_))))))))))
        exact Ac1 (r55,Acv,h57,A58,k59,Agv,Afb,Afc) ⟨h,o60,Aib⟩ sb rfl
       ·refine ksr (kx 2 (knt ?_))
        refine kcn h (fun h=>?_) fun h=>?_
        ·refine ksr (kx 1 (kld 0 4 rfl (bnd h fun x62 Bv8 h=>(Ail (T:=54) (kd:=.i64) (R:=(Abt 54)) rfl Bv8 Ado fun p63 u66 q67 e64 y65=>?_))))
         obtain ⟨A68,k69,rfl,o70⟩:=Aig 54 q67
         refine keN rfl e64 (t7 Adg) (knp #[iv 0,sv noS,iv 0,iv 0,nS] 54 fun b71=>(kst 0 5 #[iv x62.kind,sv x62.text,iv x62.n,iv x62.at_,slW A68 x62.kids k69] (knt (bnd h fun q72 Bur h=>?_))))
         refine Ak3 [(0,pt b0),(2,bv a2),(4,pt b1),(6,pt b71),(66,bv q72)] (bk b71 #[iv x62.kind,sv x62.text,iv x62.n,iv x62.at_,slW A68 x62.kids k69] 54 :: bk b1 #[iv Aan,sv Aar,iv Aao,iv Aa5,slW Abu Aag Abx] 54 :: bk b0 #[slW Aas Aac Aau,slW Aer Aad Aew,pt Aci] 75 :: Adb :: Afs :: bk Aci #[sv Acp,iv Acs,iv Acu,iv Adv,slW Afb Acv Afc,slW Afo Adf Afv,iv Adx,slW Ad5 Ab1 Ad7] 73 :: Agv :: Ahe :: X) ?_ ?_
         ·clear Bur
          refine kcn h (fun h=>?_) fun h=>?_
          ·obtain ⟨J74,Cvw,h⟩:=Ags h
           refine Agt (τ:=Unit) (fun t=>[]) (fun t=>bk b0 #[slW Aas Aac Aau,slW Aer Aad Aew,pt Aci] 75 :: Adb :: Afs :: bk Aci #[sv Acp,iv Acs,iv Acu,iv Adv,slW Afb Acv Afc,slW Afo Adf Afv,iv Adx,slW Ad5 Ab1 Ad7] 73 :: Agv :: Ahe :: X) (fun t=>J74 ()=some r) ?_ ?_
           ·rintro ⟨⟩ h
            subst Cvw
            refine Aem (Ahj (Afx ?_))
            obtain rfl:=Aam h
            exact kdv (.tuple #[]) [bk b0 #[slW Aas Aac Aau,slW Aer Aad Aew,pt Aci] 75,Adb,Afs,bk Aci #[sv Acp,iv Acs,iv Acu,iv Adv,slW Afb Acv Afc,slW Afo Adf Afv,iv Adx,slW Ad5 Ab1 Ad7] 73,Agv,Ahe] (Adq (PR.okI ⟨Adb,Aas,Aau,Afs,Aer,Aew,Agv,Afb,Afc,Ahe,Afo,Afv,Abe,Ah0,Aib,Ai6,rfl,rfl⟩))
           ·skip
            refine ksr (kx 1 (kld 1 4 rfl (bnd h fun x75 Bwc h=>(Ail (T:=54) (kd:=.i64) (R:=(Abt 54)) rfl Bwc Ado fun p76 u79 q80 e77 y78=>?_))))
            obtain ⟨A81,k82,rfl,o83⟩:=Aig 54 q80
            refine keN rfl e77 (t8 Adg) (knp #[iv 0,sv noS,iv 0,iv 0,nS] 54 fun b84=>(kst 0 5 #[iv x75.kind,sv x75.text,iv x75.n,iv x75.at_,slW A81 x75.kids k82] (knt (bnd h fun q85 Buu h=>?_))))
            refine Ak3 [(4,pt b1),(86,bv q85)] (bk b1 #[iv Aan,sv Aar,iv Aao,iv Aa5,slW Abu Aag Abx] 54 :: bk b0 #[slW Aas Aac Aau,slW Aer Aad Aew,pt Aci] 75 :: Adb :: Afs :: bk Aci #[sv Acp,iv Acs,iv Acu,iv Adv,slW Afb Acv Afc,slW Afo Adf Afv,iv Adx,slW Ad5 Ab1 Ad7] 73 :: Agv :: Ahe :: X) ?_ ?_
            ·clear Buu
             refine kcn h (fun h=>?_) fun h=>?_
             ·refine Ab6 (kx 1 (kld 0 3 rfl (K.drop (kcp h (fun _ Bvz=>(Apv.ok Bvz)) rfl trivial (fun _ e=>Ab5 (Ad4 (Ab5 (kpn 6 e rfl)))) fun r87 h=>?_))))
              rintro _ _ ⟨rfl,rfl⟩
              exact Apk (knt (Ac1 () h trivial rfl))
             ·exact Adl (Abi (K.drop (Ac1 () h trivial rfl)))
            ·have h:=Buu
             clear Buu
             refine Ab6 (kx 2 ?_)
             refine kcs 72 h (fun h=>?_) fun h=>?_
             ·exact kx 14 (knt (K.drop (K.drop (Afa ⟨gr,gb (Aam h),trivial⟩))))
             ·refine kx 1 (kld 0 0 rfl (kx 3 ?_))
              refine kcs 77 h (fun h=>?_) fun h=>?_
              ·exact kx 9 (knt (K.drop (K.drop (Afa ⟨gr,gb (Aam h),trivial⟩))))
              ·refine kx 1 (kld 1 1 rfl (K.mv1 (K.drop (bnd h fun s91 C01 h=>(Bxd rfl (by kernel_rfl) (by kernel_rfl) (by kernel_rfl) (by kernel_rfl) C01 (kx 1 (kld 0 1 rfl (K.drop (bnd h fun s92 C02 h=>(Bxd rfl (by kernel_rfl) (by kernel_rfl) (by kernel_rfl) (by kernel_rfl) C02 ?_))))))))))
               exact bnd h fun r93 Bf7 h=>(kcv (A06.ok Bf7 hG) ⟨(t7 Ad1),trivial⟩ (kx 2 (knt (Afa ⟨gr,gb (Aam h),trivial⟩))))
          ·refine Adl (Ade (Abi (K.drop (K.mv5 (K.mv4 (K.mv6 (K.mv6 (K.mv6 (K.mv6 (K.mv6 ?_))))))))))
           exact Ac1 (Aad,Acv,Afs,Aer,Aew,Agv,Afb,Afc) ⟨h,Ah0,Aib⟩ sb rfl
         ·have h:=Bur
          clear Bur
          refine Ab6 (kx 1 (kld 0 0 rfl (kx 2 ?_)))
          refine kcs 62 h (fun h=>?_) fun h=>?_
          ·exact kx 1 (kld 0 1 rfl (bnd h fun r95 A1s h=>(kcv (Avh.ok A1s) trivial (kx 1 (knt (Afa ⟨gr,gr,gr,gr,gb (Aam h),trivial⟩))))))
          ·exact kx 4 (knt (Afa ⟨gr,gr,gr,gr,gb (Aam h),trivial⟩))
        ·exact Adl (Ade (Abi (K.mv5 (K.mv4 (K.mv6 (K.mv6 (K.mv6 (K.mv6 (K.mv6 (Ac1 (Aad,Acv,Afs,Aer,Aew,Agv,Afb,Afc) ⟨h,Ah0,Aib⟩ sb rfl))))))))))
def Aow.g (Rc:CK) (k:Nat) (Aac:TyF) (Aad:TyC) (Acp:ByteArray) (Acs:Int) (Acu:Int) (Adv:Int) (Acv:TyB) (Adf:TyC) (Adx:Int) (Ab1:TyC) (Aan:Int) (Aar:ByteArray) (Aao:Int) (Aa5:Int) (Aag:List Tree) (a2:List Tree) (A0o:Int) (A0p:ByteArray) (A0q:Int) (A0s:Int) (Axm:List Tree) (a4:Int):Option (PR (TyF×TyC×Int×TyB×TyC×Int) (Int×Int)):=(A5w 16 Adf (⟨#[]⟩:ByteArray) a4).bind fun l3=>Adj (fun (x8:Int) (l9:TyC)=>PR.bind (Rc.Ah1 Aac Aad Acp Acs Acu x8 Acv l9 (IntKind.i64.wrap (Adx+1)) Ab1 A0o A0p A0q A0s Axm false) fun r15=>(Aiq r15.2.2.2.2.1 0 ((Adf.length:Nat):Int)).bind fun l33=>some (PR.ok (r15.1,r15.2.1,r15.2.2.1,r15.2.2.2.1,l33,IntKind.i64.wrap (r15.2.2.2.2.2 - 1)))) (fun J14=>cond (decide (a4 > 0)) (PR.bind (Apu.f k Aac Aad Acp Acs Acu Adv Acv l3 Adx Ab1 Aan Aar Aao Aa5 Aag a2) fun r36=>J14 r36.1 r36.2) (J14 Adv l3))
theorem Aow.okg {Rc:CK} (hR:Rc.Good) {k:Nat}:Aow.C (Aow.g Rc k):=by
 intro Aac Aad Adf Ab1 Acp Aar A0p Acs Acu Adv Adx Aan Aao Aa5 A0o A0q A0s a4 Acv Aag a2 Axm b0 Aau Aew Aci Afc Afv Ad7 Abx Anp A6b Adb Afs Agv Ahe Aky Ae4 Au4 Bqw G Aas Aer Afb Afo Ad5 Abu Ano A5o r h Abe Ah0 Aib Ai6 Ajj Ado A3o B5q hG
 refine Afi (args:=[pt b0,.agg #[iv Aan,sv Aar,iv Aao,iv Aa5,slW Abu Aag Abx],slW Ano a2 Anp,.agg #[iv A0o,sv A0p,iv A0q,iv A0s,slW A5o Axm A6b],iv a4]) Tryz.func35 rfl (Ac0 rfl) ?_
 intro A X hh_
 obtain ⟨Alb,Adg,A1h,Cxy,Ad1,_⟩:=hh_
 unfold Aow.g at h
 refine K.eq (env':=[(0,pt b0),(1,.agg #[iv Aan,sv Aar,iv Aao,iv Aa5,slW Abu Aag Abx]),(2,slW Ano a2 Anp),(3,.agg #[iv A0o,sv A0p,iv A0q,iv A0s,slW A5o Axm A6b]),(4,iv a4)]) (l':=bk b0 #[slW Aas Aac Aau,slW Aer Aad Aew,pt Aci] 75 :: Adb :: Afs :: bk Aci #[sv Acp,iv Acs,iv Acu,iv Adv,slW Afb Acv Afc,slW Afo Adf Afv,iv Adx,slW Ad5 Ab1 Ad7] 73 :: Agv :: Ahe :: X) rfl rfl (ksr (knp #[iv Aan,sv Aar,iv Aao,iv Aa5,slW Abu Aag Abx] 54 fun b1=>(knp #[iv A0o,sv A0p,iv A0q,iv A0s,slW A5o Axm A6b] 54 fun b2=>(Abz (kx 3 (kld 2 2 rfl (kx 2 (kld 5 5 rfl (kx 2 (knt ?_))))))))))
 refine Acx (kpr [(0,0),(1,0),(2,0),(3,3),(4,0),(5,0),(6,0),(7,3),(8,0),(9,0),(10,3),(11,0),(12,1)] [2,5] (kpx 3 (kpd 0 2 rfl (kpx 3 (kpd 0 2 rfl (kpx 2 (kpd 1 5 rfl (kpx 1 (kpt (K.mv7 ?_))))))))))
 refine bnd h fun l3 hl3 h=>(Cic (kz:=.i64) (z0:=(⟨#[]⟩:ByteArray)) .i64 Arv (by kernel_rfl) rfl Bez (by kernel_rfl) (by kernel_rfl) (by kernel_rfl) (by kernel_rfl) hl3 Ai6 fun h4 A5 k6 o7=>(kan [3,6] rfl (kpz (kx 2 (K.mv6 (kst 5 1 #[sv Acp,iv Acs,iv Acu,iv Adv,slW Afb Acv Afc,slW A5 l3 k6,iv Adx,slW Ad5 Ab1 Ad7] (knt ?_)))))))
 obtain ⟨J14,Ax5,h⟩:=Ags h
 refine Agt (τ:=Int×TyC×Aaa×TyO×Nat) (fun t=>[(0,pt b0),(8,pt b2),(10,iv ((Adf.length:Nat):Int))]) (fun t=>bk Aci #[sv Acp,iv Acs,iv Acu,iv t.1,slW Afb Acv Afc,slW t.2.2.2.1 t.2.1 t.2.2.2.2,iv Adx,slW Ad5 Ab1 Ad7] 73 :: bk b2 #[iv A0o,sv A0p,iv A0q,iv A0s,slW A5o Axm A6b] 54 :: bk b0 #[slW Aas Aac Aau,slW Aer Aad Aew,pt Aci] 75 :: Adb :: Afs :: Agv :: t.2.2.1 :: X) (fun t=>J14 t.1 t.2.1=some r∧Aaf encS 9 1 t.2.2.1 (slW t.2.2.2.1 t.2.1 t.2.2.2.2) t.2.1) ?_ ?_
 ·rintro ⟨x8,l9,h10,A11,k12⟩ ⟨h,o13⟩
  subst Ax5
  refine ksr (kx 3 (kld 2 2 rfl (kx 2 (kld 0 6 rfl (kx 3 (kst 6 1 #[sv Acp,iv Acs,iv Acu,iv x8,slW Afb Acv Afc,slW A11 l9 k12,iv (IntKind.i64.wrap (Adx+1)),slW Ad5 Ab1 Ad7] (Abz (kx 1 (kla 1 0 5 rfl (K.mv1 ?_))))))))))
  refine K.drop (K.mv5 (K.mv5 (K.mv2 (K.mv5 (K.mv5 (K.mv5 (kcp h (fun _ Ayb=>(hR.Ah1 Ayb Abe Ah0 Aib o13 Ajj B5q hG)) rfl ⟨Alb,Cxy,Ad1,trivial⟩ (fun _ e=>Ab5 (kpn 0 e rfl)) fun r15 h=>?_)))))))
  rintro _ _ ⟨h17,A18,k19,h21,A22,k23,h25,A26,k27,h29,A30,k31,o20,o24,o28,o32,rfl,rfl⟩
  refine Ajr (Abz (kx 3 (kld 0 2 rfl (kx 2 (kld 3 6 rfl (kx 3 (K.mv3 (kst 6 1 #[sv Acp,iv Acs,iv Acu,iv r15.2.2.1,slW A26 r15.2.2.2.1 k27,slW A30 r15.2.2.2.2.1 k31,iv (IntKind.i64.wrap (r15.2.2.2.2.2 - 1)),slW Ad5 Ab1 Ad7] (knt (kpr [(0,0),(1,0),(2,0),(3,3),(4,0),(5,0),(6,0),(7,3),(8,0),(9,0),(10,3),(11,0),(12,0)] [0,1] ?_))))))))))
  refine kpx 3 (kpd 1 2 rfl (kpx 3 (kpd 1 2 rfl (kpx 2 (kpd 0 5 rfl (kpx 1 (bnd h fun l33 Cxc h=>(Cfr (T:=9) (sz:=1) (k:=.i64) (xs:=r15.2.2.2.2.1) ((Adf.length:Nat):Int) Arv rfl (by kernel_rfl) (by kernel_rfl) (by kernel_rfl) (by kernel_rfl) (by kernel_rfl) (by kernel_rfl) Cxc o32 fun o34=>(kpz (kx 2 ?_))))))))))
  refine kst 5 1 #[sv Acp,iv Acs,iv Acu,iv r15.2.2.1,slW A26 r15.2.2.2.1 k27,slW A30 l33 k31,iv (IntKind.i64.wrap (r15.2.2.2.2.2 - 1)),slW Ad5 Ab1 Ad7] (knl (Afg ?_))
  obtain rfl:=Aam h
  exact kdv (.tuple #[]) [bk b0 #[slW A18 r15.1 k19,slW A22 r15.2.1 k23,pt Aci] 75,h17,h21,bk Aci #[sv Acp,iv Acs,iv Acu,iv r15.2.2.1,slW A26 r15.2.2.2.1 k27,slW A30 l33 k31,iv (IntKind.i64.wrap (r15.2.2.2.2.2 - 1)),slW Ad5 Ab1 Ad7] 73,h25,h29] (K.mv5 (K.mv5 (K.mv2 (K.mv5 (K.mv5 (K.mv5 (Adq (PR.okI ⟨h17,A18,k19,h21,A22,k23,h25,A26,k27,h29,A30,k31,o20,o24,o28,o34,rfl,rfl⟩))))))))
 ·skip
  refine ksr (kx 2 (knt ?_))
  refine kcn h (fun h=>?_) fun h=>?_
  ·refine Ab6 (kx 1 (kla 3 0 5 rfl (K.mv3 (K.drop (kx 1 (K.mv1 (K.mv1 (K.mv3 (kcp h (fun _ Ayc=>(Apu.ok Ayc (Abf.rd Abe) (Aaf.rd Ah0) (Aaf.rd Aib) o7 Ajj Ado A3o)) rfl ⟨(.tail _ (.head _)),(.tail _ (.tail _ (.head _))),(.tail _ (.tail _ (.tail _ (.head _)))),(t4 Alb),(t4 Adg),(t4 A1h),trivial⟩ (fun _ e=>Ab5 (kpn 4 e rfl)) fun r36 h=>?_)))))))))
   rintro _ _ ⟨h38,A39,k40,o41,rfl,rfl⟩
   exact A4o (knt (K.mv2 (K.mv6 (K.mv6 (K.mv6 (K.mv4 (K.mv6 (K.mv6 (Ac1 (r36.1,r36.2,h38,A39,k40) ⟨h,o41⟩ sb rfl)))))))))
  ·refine Adl (Abi (K.mv3 (K.drop (K.mv1 (K.mv6 (K.mv6 (K.mv6 (K.mv6 (K.mv6 (K.mv6 ?_))))))))))
   exact Ac1 (Adv,l3,h4,A5,k6) ⟨h,o7⟩ sb rfl
def Aru.g (Rc:CK) (k:Nat) (Aac:TyF) (Aad:TyC) (Acp:ByteArray) (Acs:Int) (Acu:Int) (Adv:Int) (Acv:TyB) (Adf:TyC) (Adx:Int) (Ab1:TyC) (Aan:Int) (Aar:ByteArray) (Aao:Int) (Aa5:Int) (Aag:List Tree):Option (PR (TyF×TyC×Int×TyB×TyC×Int) (Int×Int)):=PR.bind (Akz.f k Aan Aar Aao Aa5 Aag ((Aac.length:Nat):Int) 100) fun r2=>Adj (fun (_:Unit)=>PR.bind (Akz.f k Aan Aar Aao Aa5 Aag Aao 50) fun r5=>(A1a.f k Aac Aad Acp Acs Acu Adv Acv Adf Adx Ab1 Aar).bind fun r7=>(Aiq Aag 0 Aao).bind fun l13=>PR.bind (Apu.f k Aac r7 Aar Aa5 Aao 0 ([]) ([]) 0 Adf Aan Aar Aao Aa5 Aag l13) fun r17=>(Ack Aag Aao).bind fun x23=>PR.bind (Rc.Ah1 Aac r7 Aar Aa5 Aao r17.1 ([]) r17.2 0 Adf x23.kind x23.text x23.n x23.at_ x23.kids false) fun r32=>(apd 64 r32.1 [(Aar,Aa5,Aao,r32.2.2.1,r32.2.2.2.1)]).bind fun l53=>some (PR.ok (l53,r32.2.1,Adv,Acv,Adf,Adx))) (fun J4=>(Avh.f k Aar).bind fun r58=>cond r58 (PR.bind (Apv.f k 5 Aa5) fun r60=>J4 ()) (J4 ()))
theorem Aru.okg {Rc:CK} (hR:Rc.Good) {k:Nat}:Aru.C (Aru.g Rc k):=by
 intro Aac Aad Adf Ab1 Acp Aar Acs Acu Adv Adx Aan Aao Aa5 Acv Aag b0 Aau Aew Aci Afc Afv Ad7 Abx Adb Afs Agv Ahe Aky Ae4 G Aas Aer Afb Afo Ad5 Abu r h Abe Ah0 Aib Ai6 Ajj Ado hG
 refine Afi (args:=[pt b0,.agg #[iv Aan,sv Aar,iv Aao,iv Aa5,slW Abu Aag Abx]]) Tryz.func32 rfl (Ac0 rfl) ?_
 intro A X hh_
 obtain ⟨Alb,Adg,Ad1,_⟩:=hh_
 unfold Aru.g at h
 refine K.eq (env':=[(0,pt b0),(1,.agg #[iv Aan,sv Aar,iv Aao,iv Aa5,slW Abu Aag Abx])]) (l':=bk b0 #[slW Aas Aac Aau,slW Aer Aad Aew,pt Aci] 75 :: Adb :: Afs :: bk Aci #[sv Acp,iv Acs,iv Acu,iv Adv,slW Afb Acv Afc,slW Afo Adf Afv,iv Adx,slW Ad5 Ab1 Ad7] 73 :: Agv :: Ahe :: X) rfl rfl (ksr (knp #[iv Aan,sv Aar,iv Aao,iv Aa5,slW Abu Aag Abx] 54 fun b1=>(knt (Acx (kpr [(0,3),(1,0),(2,0),(3,0),(4,0),(5,3),(6,0)] [0,1] (kpa 0 0 5 rfl (kpx 4 (kpd 1 0 rfl (kpx 1 (kpz ?_))))))))))
 refine kcp h (fun _ hr2=>(Akz.ok hr2 Ado)) rfl ⟨(t7 Adg),trivial⟩ (fun _ e=>Ab5 (kpn 7 e rfl)) fun r2 h=>?_
 rintro _ _ ⟨rfl,rfl⟩
 refine Apk (knt ?_)
 obtain ⟨J4,hJ4,h⟩:=Ags h
 refine Agt (τ:=Unit) (fun t=>[(0,pt b0),(3,pt b1)]) (fun t=>bk b1 #[iv Aan,sv Aar,iv Aao,iv Aa5,slW Abu Aag Abx] 54 :: bk b0 #[slW Aas Aac Aau,slW Aer Aad Aew,pt Aci] 75 :: Adb :: Afs :: bk Aci #[sv Acp,iv Acs,iv Acu,iv Adv,slW Afb Acv Afc,slW Afo Adf Afv,iv Adx,slW Ad5 Ab1 Ad7] 73 :: Agv :: Ahe :: X) (fun t=>J4 ()=some r) ?_ ?_
 ·rintro ⟨⟩ h
  subst hJ4
  refine ksr (kla 0 0 5 rfl (kx 1 (kld 0 2 rfl (kcp h (fun _ hr5=>(Akz.ok hr5 Ado)) rfl ⟨(t7 Adg),trivial⟩ (fun _ e=>Ab5 (kpn 7 e rfl)) fun r5 h=>?_))))
  rintro _ _ ⟨rfl,rfl⟩
  refine Apk (Abz (kx 2 (kld 0 1 rfl (K.mv4 (K.mv4 (K.mv3 (bnd h fun r7 hr7 h=>(kcl (A1a.ok hr7 (Abf.rd Abe) Ah0 (Aaf.rd Aib) (Aaf.rd Ai6) Ajj) rfl ⟨(.tail _ (.head _)),(.tail _ (.tail _ (.head _))),(.tail _ (.tail _ (.tail _ (.head _)))),(t4 Alb),trivial⟩ ?_))))))))
  rintro _ _ ⟨h8,A9,k10,o11,rfl,rfl⟩
  refine A4o (Abz (kx 3 (kld 0 2 rfl (kx 1 (knt (Acx (kpr [(0,0),(1,0),(2,3),(3,0),(4,3),(5,0),(6,3),(7,0),(8,0),(9,0),(10,0),(11,3)] [2,3] (kpx 2 (kpd 1 1 rfl (kpx 1 ?_))))))))))
  refine kpd 1 3 rfl (kpx 1 (kpd 1 2 rfl (kpx 4 (kpd 0 5 rfl (kpz (kx 1 (knp #[sv Aar,iv Aa5,iv Aao,iv 0,nS,nS,iv 0,slW Afo Adf Afv] 73 fun b12=>(kx 2 (K.mv1 (kst 2 1 #[slW Aas Aac Aau,slW A9 r7 k10,pt b12] ?_))))))))))
  refine knt (Acx (kpr [(0,0),(1,3),(2,0),(3,3),(4,0),(5,3),(6,0)] [4] (kpx 1 (kpa 0 0 5 rfl (kpx 1 (kpd 0 4 rfl (kpx 1 (kpd 0 2 rfl (bnd h fun l13 Bt0 h=>(Awx (T:=54) (R:=(Abt 54)) (xs:=Aag) 0 Aao rfl (by kernel_rfl) (by kernel_rfl) (by kernel_rfl) (.inl ⟨rfl,rfl⟩) (.inr ⟨_,.i64,rfl,(by kernel_rfl)⟩) (by kernel_rfl) (by kernel_rfl) Bt0 Ado fun A14 k15 o16=>?_))))))))))
  refine kpz (Ag6 (Ag6 (K.mv3 (K.mv3 (kcp h (fun _ Avv=>(Apu.ok Avv (Abf.rd Abe) (Aaf.rd o11) (RdT.nil e78 3 none_) (Aaf.nil encS 9 1 none_) (Aaf.rd Ai6) Ado o16)) rfl ⟨(.tail _ (.tail _ (.tail _ (.tail _ (.head _))))),(.tail _ (.head _)),(.head _),(.tail _ (.tail _ (.tail _ (.tail _ (.tail _ (.tail _ (.head _))))))),(t7 Adg),(t7 Adg),trivial⟩ (fun _ e=>Ab5 (kpn 7 e rfl)) fun r17 h=>?_)))))
  rintro _ _ ⟨h19,A20,k21,o22,rfl,rfl⟩
  refine A4o (K.mv3 (K.drop (Abz (kx 2 (kld 5 4 rfl (kx 1 (kld 5 2 rfl (K.mv5 (K.drop (bnd h fun x23 C2b h=>?_))))))))))
  refine Ail (T:=54) (kd:=.i64) (R:=(Abt 54)) rfl C2b Ado fun p24 u27 q28 e25 y26=>?_
  obtain ⟨A29,k30,rfl,o31⟩:=Aig 54 q28
  refine keN rfl e25 (t8 Adg) (Ag6 (K.mv3 (K.mv1 (K.mv3 (K.mv4 (K.mv6 (K.mv5 (kcp h (fun _ A7i=>(hR.Ah1 A7i Abe o11 (Aaf.nil e78 78 3 none_) o22 (Aaf.rd Ai6) o31 hG)) rfl ⟨(.tail _ (.tail _ (.head _))),(t3 Adg),(t3 Ad1),trivial⟩ (fun _ e=>Ab5 (kpn 3 e rfl)) fun r32 h=>?_))))))))
  rintro _ _ ⟨h34,A35,k36,h38,A39,k40,h42,A43,k44,h46,A47,k48,o37,o41,o45,o49,rfl,rfl⟩
  refine Ajr (knt (Acx (kpr [(0,0),(1,0),(2,0),(3,0),(4,0),(5,3),(6,0),(7,0),(8,0),(9,3),(10,0),(11,0),(12,3),(13,1)] [0,3] (kpx 5 (kpd 0 0 rfl (kpx 3 (kpd 0 2 rfl (kpx 2 (kpa 1 0 5 rfl (kpt ?_))))))))))
  refine ons #[sv Aar,iv Aa5,iv Aao,iv r32.2.2.1,slW A43 r32.2.2.2.1 k44] 43 1 fun b50=>(kan [1,4] rfl (kpz (K.mv5 (K.mv1 (Aip (T:=43) (n:=1) (xs:=[(Aar,Aa5,Aao,r32.2.2.1,r32.2.2.2.1)]) (Ael.one (Bo0 (x:=(Aar,Aa5,Aao,r32.2.2.1,r32.2.2.2.1)) o45)) rfl rfl (Ac0 rfl) fun h51 o52=>(K.mv2 (bnd h fun l53 Cxm h=>(Amd rfl Cso rfl Cxm o37 o52 fun h54 A55 k56 o57=>(kx 3 (K.mv1 ?_))))))))))
  refine kst 0 1 #[slW A55 l53 k56,slW A39 r32.2.1 k40,pt b12] (knr (kx 4 (kst 2 1 #[slW A55 l53 k56,slW A39 r32.2.1 k40,pt Aci] (K.mv3 (K.drop (K.mv3 (K.drop (knl (Afg ?_)))))))))
  obtain rfl:=Aam h
  exact kdv (.tuple #[]) [bk b0 #[slW A55 l53 k56,slW A39 r32.2.1 k40,pt Aci] 75,h54,h38,bk Aci #[sv Acp,iv Acs,iv Acu,iv Adv,slW Afb Acv Afc,slW Afo Adf Afv,iv Adx,slW Ad5 Ab1 Ad7] 73,Agv,Ahe] (Adq (PR.okI ⟨h54,A55,k56,h38,A39,k40,Agv,Afb,Afc,Ahe,Afo,Afv,o57,o41,Aib,Ai6,rfl,rfl⟩))
 ·skip
  refine ksr (kx 1 (kld 0 1 rfl (bnd h fun r58 Bf4 h=>(kcv (Avh.ok Bf4) trivial (knt ?_)))))
  refine kcn h (fun h=>?_) fun h=>?_
  ·refine Ab6 (kx 1 (kld 0 3 rfl (kcp h (fun _ A7p=>(Apv.ok A7p)) rfl trivial (fun _ e=>Ab5 (kpn 7 e rfl)) fun r60 h=>?_)))
   rintro _ _ ⟨rfl,rfl⟩
   exact Apk (knt (Ac1 () h sb rfl))
  ·exact Adl (Abi (Ac1 () h sb rfl))
def CK.at:Nat→CK
 | 0=>⟨fun _ _ _ _ _ _ _ _ _ _ _ _ _ _ _ _=>none,fun _ _ _ _ _ _ _ _ _ _ _=>none,fun _ _ _ _ _ _ _ _ _ _ _ _ _ _ _ _=>none,fun _ _ _ _ _ _ _ _ _ _ _ _ _ _ _ _ _ _ _ _ _ _=>none,fun _ _ _ _ _ _ _ _ _ _ _ _ _ _ _=>none⟩
 | k+1=>⟨Ah1.g (CK.at k) k,Aj4.g (CK.at k) k,Art.g (CK.at k) k,Aow.g (CK.at k) k,Aru.g (CK.at k) k⟩
theorem CK.good:∀ k,(CK.at k).Good
 | 0=>⟨(by unfold Ah1.C;intros;rename_i h _ _ _ _ _ _ _;cases (show (none:Option _)=some _ from h)),(by unfold Aj4.C;intros;rename_i h _ _ _ _ _ _ _;cases (show (none:Option _)=some _ from h)),(by unfold Art.C;intros;rename_i h _ _ _ _ _ _ _;cases (show (none:Option _)=some _ from h)),(by unfold Aow.C;intros;rename_i h _ _ _ _ _ _ _ _ _;cases (show (none:Option _)=some _ from h)),(by unfold Aru.C;intros;rename_i h _ _ _ _ _ _ _;cases (show (none:Option _)=some _ from h))⟩
 | k+1=>⟨Ah1.okg (k:=k) (CK.good k),Aj4.okg (k:=k) (CK.good k),Art.okg (k:=k) (CK.good k),Aow.okg (k:=k) (CK.good k),Aru.okg (k:=k) (CK.good k)⟩
def Ah1.f (k:Nat):=Ah1.g (CK.at k) k
theorem Ah1.ok {k:Nat}:Ah1.C (Ah1.f k):=Ah1.okg (k:=k) (CK.good k)
section
variable {A:World} {ds:List Deferred} {n0:Nat} {env env':Env} {l l' X:List Aaa} {q:Act→World→Prop} {P:Program} {Q:Exit→Act→World→Prop} {ops:Array Oper} {os rest:List Oper} {o:Oper} {α:Type} {R:Amy α}
theorem C5a {x0 x':α} {t:List α} {h Hn:Aaa} {A':Option Addr} {c:Nat} {T T1:TypeId} {p v:Value} {s y:Operand} (ho:o.op=.store T1 s y) (hg:Afh ops env o=some true) (hd:inB n0 o.dst=true)
  (hs:Aeb env s=some p) (hy:Aeb env y=some v) (hsz:(P.info? T1).map (·.size)=some v.cells.size) (hp:Place A' 0 p) (hO:Abf R T h (.slice A' (x0 :: t).length c) (x0 :: t)) (hx:R.own x' Hn v.cells.toList)
  (hk:∀ h',Abf R T h' (.slice A' (x' :: t).length c) (x' :: t)→K ds A n0 (Acz env o.dst undef) (h' :: l) (wpList P ops Q rest)):K ds A n0 env (h :: Hn :: l) (wpList P ops Q (o :: rest)):=by
 obtain ⟨Ho,Hi,cs,rfl,hab,Btt,H1,H2,c1,c2,rfl,hbc,rfl,h1,h2⟩:=hO
 refine A4e hab (K.mv1 (A4e hbc (K.drop (K.mv1 ?_))))
 obtain ⟨hl1,ho1⟩:=R.len h1
 obtain ⟨hlx,hox⟩:=R.len hx
 refine Ami hg fun a w ha hw=>?_
 cases hif:P.info? T1 with
 | none=>rw [hif] at hsz;cases hsz
 | some i =>
  rw [hif] at hsz
  have hsize:i.size=v.cells.size:=Aam hsz
  obtain ⟨hlen,Atl,hc⟩:=Btt
  rcases hc with ⟨he,h0⟩ | ⟨g,cap,cur,he,rfl,h4,h5,h6,h7⟩
  ·simp at h0
  ·cases he
   obtain ⟨b,of_,he,rfl⟩:=hp
   cases he
   have hgc:w.heap[g]? = some (.cells cur T (0,0)):=hw.sat.1 g _ (by simp [blk])
   have hge:R.sz≤cur.toList.length:=by
    have e:c1.length+c2.length≤cur.toList.length:=by
     rw [← Abj,← h7,List.length_take];omega
    omega
   have hst:=run_storeCells_at P g 0 T v.cells.toList 0 cur w hgc (by rw [hlx];simpa using hge) hox
   simp only [Nat.add_zero,Nat.zero_add,List.take_zero,List.nil_append] at hst
   have hr:(Instr.storeAt T1 (.pointer (some ⟨g,0+0,none⟩)) v).run P w=.ok () (w.setRow g (v.cells.toList++cur.toList.drop v.cells.toList.length).toArray):=by
    simp [Instr.storeAt,Instr.sureAddr,storeVar,sizeOf,typeInfo,hif,hsize]
    simpa using hst
   have Btu:Own T R.sz (blk g (.cells (v.cells.toList++cur.toList.drop v.cells.toList.length).toArray T (0,0))) (.slice (some ⟨g,0,none⟩) (x' :: t).length c) (x' :: t).length (v.cells.toList++c2):=by
    refine ⟨by rw [Abj,hl1] at hlen;rw [Abj,hlx];exact hlen,fun u hu=>?_,.inr ⟨g,c,_,rfl,rfl,h4,h5,?_,?_⟩⟩
    ·rcases Agb.1 hu with hu | hu
     ·exact hox u hu
     ·exact Atl u (List.mem_append_right _ hu)
    ·have h6':cur.toList.length=c * R.sz:=by rw [Array.length_toList];exact h6
     rw [List.size_toArray,Abj,Afe,hlx,← h6']
     omega
    ·have e1:((x' :: t).length * R.sz)=R.sz+t.length * R.sz:=by rw [Aa4,Nat.add_mul,Nat.one_mul,Nat.add_comm]
     have e2:(x0 :: t).length * R.sz=R.sz+t.length * R.sz:=by rw [Aa4,Nat.add_mul,Nat.one_mul,Nat.add_comm]
     rw [e2] at h7
     show (v.cells.toList++cur.toList.drop v.cells.toList.length).take _=_
     rw [e1,← hlx,List.take_length_add_append]
     congr 1
     have h8:=congrArg (List.drop R.sz) h7
     rw [List.drop_take,Nat.add_sub_cancel_left,← hl1,List.drop_left,hl1] at h8
     rw [hlx]
     exact h8
   unfold Oper.wp execOp
   simp only [ho,ha.eval hs,ha.eval hy,Sem.run_bind,hr,Result.andThen_ok,Sem.run_pure]
   have hk':K ds A n0 (Acz env o.dst undef) (blk g (.cells (v.cells.toList++cur.toList.drop v.cells.toList.length).toArray T (0,0)) :: H2 :: Hn :: l) (wpList P ops Q rest) :=
    K.mv2 (K.mv2 (K.mv1 (Av0 fun hap=>K.mv1 (Av0 fun Cv8=>hk _ ⟨_,_,_,rfl,Cv8,Btu,Hn,H2,_,c2,rfl,hap,rfl,hx,h2⟩))))
   exact hk' _ _ (ha.Acz _ hd) (hw.setRow _)
def Bxr {α:Type} (l:List α) (x:α):Option (List α):=match l with | []=>none | _ :: t=>some (x :: t)
theorem C6c {α:Type} {l l':List α} {x:α} (h:Bxr l x=some l'):l'.length=l.length:=by
 cases l with
 | nil=>cases h
 | cons y t=>cases h;rfl
theorem C46 {x':α} {xs xs':List α} {h Hn:Aaa} {A':Option Addr} {c:Nat} {T T1:TypeId} {p v:Value} {s y:Operand} (ho:o.op=.store T1 s y) (hg:Afh ops env o=some true) (hd:inB n0 o.dst=true)
  (hs:Aeb env s=some p) (hy:Aeb env y=some v) (hsz:(P.info? T1).map (·.size)=some v.cells.size) (hp:Place A' 0 p) (hO:Abf R T h (.slice A' xs.length c) xs) (hx:R.own x' Hn v.cells.toList) (hset:Bxr xs x'=some xs')
  (hk:∀ h',Abf R T h' (.slice A' xs'.length c) xs'→K ds A n0 (Acz env o.dst undef) (h' :: l) (wpList P ops Q rest)):K ds A n0 env (h :: Hn :: l) (wpList P ops Q (o :: rest)):=by
 cases xs with
 | nil=>cases hset
 | cons x0 t=>cases hset;exact C5a ho hg hd hs hy hsz hp hO hx hk
end
def A01.f (k:Nat) (a0:ByteArray):Option (TyF×TyC×Int×Int):=(A2s.f k a0).bind fun r3=>cond (r3.2.2.2.2.2.1 != 0) (some ([],[],r3.2.2.2.2.2.1,r3.2.2.2.2.2.2)) (Adj (fun (_:Unit)=>PR.elim (Ah1.f k ([((⟨#[]⟩:ByteArray),0,0,0,[])]) ([]) (⟨#[]⟩:ByteArray) r3.2.2.2.1 0 0 ([]) ([]) 0 ([]) r3.1 r3.2.1 r3.2.2.1 r3.2.2.2.1 r3.2.2.2.2.1 false) (fun i17=>some ([],[],i17.1,i17.2)) fun r16=>(Ack r16.1 0).bind fun x34=>(Bxr r16.1 ((⟨#[]⟩:ByteArray),r3.2.2.2.1,0,r16.2.2.1,r16.2.2.2.1)).bind fun l43=>some (l43,r16.2.1,0,0)) (fun J10=>(Ajt.f k r3.1 r3.2.1 r3.2.2.1 r3.2.2.2.1 r3.2.2.2.2.1).bind fun r47=>cond (decide (r47 > 100)) (PR.elim (Apv.f k 6 r3.2.2.2.1) (fun i50=>some ([],[],i50.1,i50.2)) fun r49=>J10 ()) (J10 ())))
theorem A01.ok {k:Nat} {a0:ByteArray} {G:Aaa} {r:TyF×TyC×Int×Int} (h:A01.f k a0=some r) (hG:GlP G): Ct Tryz.prog 8 #[sv a0] [] [G] (fun e l1=>∃ (H0_:Aaa) (A0_:TyO) (c0_:Nat) (H1_:Aaa) (A1_:TyO) (c1_:Nat),Abf Ak8 43 H0_ (slW A0_ r.1 c0_) r.1∧Aaf encS 9 1 H1_ (slW A1_ r.2.1 c1_) r.2.1∧e=.returned (.tuple #[.agg #[slW A0_ r.1 c0_,slW A1_ r.2.1 c1_],.agg #[iv r.2.2.1,iv r.2.2.2]])∧l1=[H0_,H1_]):=by
 refine B7o (args:=[sv a0]) Tryz.func8 rfl (Ac0 rfl) ?_
 intro A X hh_
 obtain ⟨Ad1,_⟩:=hh_
 unfold A01.f at h
 refine ksr (knp #[nS,nS] 33 fun b1=>(knp #[iv 0,iv 0] 28 fun b2=>(Abz (kx 1 (bnd h fun r3 hr3 h=>(kcl (A2s.ok hr3 hG) rfl ⟨(t2 Ad1),trivial⟩ ?_))))))
 rintro _ _ ⟨h4,A5,k6,o7,rfl,rfl⟩
 refine Alj (kx 3 (knp #[iv 0,sv noS,iv 0,iv 0,nS] 54 fun b8=>(kst 0 5 #[iv r3.1,sv r3.2.1,iv r3.2.2.1,iv r3.2.2.2.1,slW A5 r3.2.2.2.2.1 k6] (K.mv2 (kst 0 2 #[iv r3.2.2.2.2.2.1,iv r3.2.2.2.2.2.2] (knt (Acx (ksr (kx 1 (kld 0 0 rfl ?_))))))))))
 refine kx 1 (knt ?_)
 refine kcn h (fun h=>?_) fun h=>?_
 ·refine Acx (Bw8 (kpr [(0,0),(1,3),(2,1)] [0] (kpx 1 (kpa 0 0 2 rfl (kpt (K.mv3 (ost 0 2 #[nS,nS] (kan [1] rfl (kpz (K.mv1 ?_))))))))))
  refine kst 0 2 #[iv r3.2.2.2.2.2.1,iv r3.2.2.2.2.2.2] (K.mv2 (K.drop (K.mv2 (K.drop (knl (Bw9 (Abi (Aem (Afx ?_)))))))))
  obtain rfl:=Aam h
  exact Cfd (v:=.tuple #[.agg #[nS,nS],.agg #[iv r3.2.2.2.2.2.1,iv r3.2.2.2.2.2.2]]) [.val (nS),.val (nS),.val (iv r3.2.2.2.2.2.1),.val (iv r3.2.2.2.2.2.2)] [.ld ⟨b1,0,none⟩ (nS),.ld ⟨b1,1,none⟩ (nS),.ld ⟨b2,0,none⟩ (iv r3.2.2.2.2.2.1),.ld ⟨b2,1,none⟩ (iv r3.2.2.2.2.2.2)] [none_,none_] (by kernel_rfl) (by kernel_rfl) ⟨⟨1,_,_,_,rfl,rfl,rfl⟩,⟨1,_,_,_,rfl,rfl,rfl⟩,⟨0,_,_,_,rfl,rfl,rfl⟩,⟨0,_,_,_,rfl,rfl,rfl⟩,trivial⟩ (Ag6 (Ag6 (K.mv2 (K.drop (K.mv2 (K.drop (Adq ⟨none_,none,0,none_,none,0,(Abf.nil Ak8 43 none_),(Aaf.nil encS 9 1 none_),rfl,rfl⟩)))))))
 ·refine Adl (Abi (ksr (kx 1 (Cfo { target:=.fn (.func 19) #[pt b1,pt b2],args:=#[] } (by kernel_rfl) (by kernel_rfl) (by kernel_rfl) (knt ?_)))))
  obtain ⟨J10,Cu2,h⟩:=Ags h
  refine Agt (τ:=Unit) (fun t=>[(2,pt b1),(3,pt b2),(4,pt b8)]) (fun t=>bk b2 #[iv r3.2.2.2.2.2.1,iv r3.2.2.2.2.2.2] 28 :: bk b8 #[iv r3.1,sv r3.2.1,iv r3.2.2.1,iv r3.2.2.2.1,slW A5 r3.2.2.2.2.1 k6] 54 :: h4 :: bk b1 #[nS,nS] 33 :: X) (fun t=>J10 ()=some r) ?_ ?_
  ·rintro ⟨⟩ h
   subst Cu2
   refine ksr (kx 1 (kld 1 3 rfl (kx 2 (knp #[sv noS,iv r3.2.2.2.1,iv 0,iv 0,nS,nS,iv 0,nS] 73 fun b11=>(kx 1 (knp #[nS,nS,pt b11] 75 fun b12=>(kx 1 (Abz (kx 2 (kns #[sv noS,iv 0,iv 0,iv 0,nS] 43 1 fun b13=>?_))))))))))
   refine kx 3 (K.mv1 (kst 0 1 #[.slice (some ⟨b13,0,none⟩) 1 1,nS,pt b11] (Abz (kx 1 (kla 4 0 5 rfl (K.mv4 (K.drop (Ag6 (K.mv2 (Aip (T:=43) (n:=1) (xs:=[((⟨#[]⟩:ByteArray),0,0,0,[])]) (Ael.one (Bo0 (x:=((⟨#[]⟩:ByteArray),0,0,0,[])) (Aaf.nil e78 78 3 none_))) rfl rfl (Ac0 rfl) fun h14 o15=>?_))))))))))
   refine Ag6 (Ag6 (Ag6 (Ag6 (K.mv1 (K.mv6 (K.mv3 (K.mv5 (K.mv6 ?_))))))))
   rcases Bol h with ⟨i17,Avu,h⟩ | ⟨r16,Avu,h⟩
   ·refine kcl (Ah1.ok Avu o15 (Aaf.nil encS 9 1 none_) (Aaf.nil e78 78 3 none_) (Aaf.nil encS 9 1 none_) (RdT.nil encS 1 none_) (Abf.rd o7) hG) rfl ⟨(.head _),(.tail _ (.tail _ (.head _))),(t4 Ad1),trivial⟩ ?_
    rintro _ _ ⟨rfl,rfl⟩
    refine Bnv (Ab5 (K.drop (K.mv1 (K.drop (K.mv1 ?_)))))
    obtain rfl:=Aam h
    exact Bmt (v:=.tuple #[.agg #[nS,nS],.agg #[iv i17.1,iv i17.2]]) (bk b1 #[nS,nS] 33 :: bk b2 #[iv i17.1,iv i17.2] 28 :: X) (fun _=>by kernel_rfl) (fun w_ hw_=>B7i hw_) [.val (nS),.val (nS),.val (iv i17.1),.val (iv i17.2)] [.ld ⟨b1,0,none⟩ (nS),.ld ⟨b1,1,none⟩ (nS),.ld ⟨b2,0,none⟩ (iv i17.1),.ld ⟨b2,1,none⟩ (iv i17.2)] [none_,none_] (by kernel_rfl) (by kernel_rfl) ⟨⟨0,_,_,_,rfl,rfl,rfl⟩,⟨0,_,_,_,rfl,rfl,rfl⟩,⟨1,_,_,_,rfl,rfl,rfl⟩,⟨1,_,_,_,rfl,rfl,rfl⟩,trivial⟩ fun w_ hw_=>(⟨⟨none_,none,0,none_,none,0,(Abf.nil Ak8 43 none_),(Aaf.nil encS 9 1 none_),rfl,rfl⟩,St.Bho 2 hw_.tail.tail⟩)
   refine kcl (Ah1.ok Avu o15 (Aaf.nil encS 9 1 none_) (Aaf.nil e78 78 3 none_) (Aaf.nil encS 9 1 none_) (RdT.nil encS 1 none_) (Abf.rd o7) hG) rfl ⟨(.head _),(.tail _ (.tail _ (.head _))),(t4 Ad1),trivial⟩ ?_
   rintro _ _ ⟨h18,A19,k20,h22,A23,k24,h26,A27,k28,h30,A31,k32,o21,o25,o29,o33,rfl,rfl⟩
   refine Ajr (K.mv6 (K.drop (K.mv7 (K.drop (knt (Acx (Bw8 (kpr [(0,0),(1,0),(2,0),(3,0),(4,3),(5,0),(6,0),(7,0),(8,3),(9,0),(10,0),(11,3)] [0,3] (kpx 4 (kpd 0 0 rfl ?_))))))))))
   refine kpx 3 (kpd 0 2 rfl (kpx 2 (kpa 1 0 5 rfl (kpz (bnd h fun x34 hx34 h=>(Ail (T:=43) (kd:=.i64) (R:=Ak8) rfl hx34 (Abf.rd o21) fun p35 u38 q39 e36 y37=>?_))))))
   obtain ⟨A40,k41,rfl,o42⟩:=Bii q39
   refine K.mv4 (K.mv2 (bnd h fun l43 Bfn h=>(C46 (v:=.agg #[sv noS,iv r3.2.2.2.1,iv 0,iv r16.2.2.1,slW A27 r16.2.2.2.1 k28]) (x':=((⟨#[]⟩:ByteArray),r3.2.2.2.1,0,r16.2.2.1,r16.2.2.2.1)) rfl (by kernel_rfl) (by kernel_rfl) (by kernel_rfl) (by kernel_rfl) (by kernel_rfl) y37 o21 (Bo0 (x:=((⟨#[]⟩:ByteArray),r3.2.2.2.1,0,r16.2.2.1,r16.2.2.2.1)) o29) Bfn fun h44 o45=>?_)))
   have g46:=C6c Bfn
   refine K.weak (env':=[(2,pt b1),(3,pt b2),(5,pt b12),(50,.agg #[sv noS,iv r3.2.2.2.1,iv 0,iv r16.2.2.1,slW A27 r16.2.2.2.1 k28])]) ?_ ⟨gr,gr,gr,(by first | rfl | (unfold slW;rw [g46];rfl)),trivial⟩
   refine K.eq (l':=h44 :: bk b12 #[slW A19 l43 k20,slW A23 r16.2.1 k24,pt b11] 75 :: h22 :: bk b11 #[sv noS,iv r3.2.2.2.1,iv 0,iv r16.2.2.1,slW A27 r16.2.2.2.1 k28,slW A31 r16.2.2.2.2.1 k32,iv r16.2.2.2.2.2,nS] 73 :: h30 :: bk b2 #[iv r3.2.2.2.2.2.1,iv r3.2.2.2.2.2.2] 28 :: bk b1 #[nS,nS] 33 :: X) rfl (by first | rfl | (unfold slW;rw [g46];first | done | rfl)) (knl (Bw9 (Abi (ksr (kx 3 (kla 1 0 2 rfl (K.mv1 (K.drop (K.mv2 (K.drop ?_))))))))))
   refine K.mv2 (K.drop (kx 1 (K.mv3 (kst 0 2 #[slW A19 l43 k20,slW A23 r16.2.1 k24] (K.mv3 (kst 0 2 #[iv 0,iv 0] (knt (Aem ?_))))))))
   obtain rfl:=Aam h
   exact Ce8 (fun _=>by kernel_rfl) (Cql (pt b1) (pt b2)) (v:=.tuple #[.agg #[slW A19 l43 k20,slW A23 r16.2.1 k24],.agg #[iv 0,iv 0]]) [.val (slW A19 l43 k20),.val (slW A23 r16.2.1 k24),.val (iv 0),.val (iv 0)] [.ld ⟨b1,0,none⟩ (slW A19 l43 k20),.ld ⟨b1,1,none⟩ (slW A23 r16.2.1 k24),.ld ⟨b2,0,none⟩ (iv 0),.ld ⟨b2,1,none⟩ (iv 0)] [h44,h22] (by kernel_rfl) (by kernel_rfl) ⟨⟨1,_,_,_,rfl,rfl,rfl⟩,⟨1,_,_,_,rfl,rfl,rfl⟩,⟨0,_,_,_,rfl,rfl,rfl⟩,⟨0,_,_,_,rfl,rfl,rfl⟩,trivial⟩ (K.drop (K.drop (Cfe ⟨h44,A19,k20,h22,A23,k24,o45,o25,rfl,rfl⟩)))
  ·skip
   refine ksr (kla 1 0 5 rfl (bnd h fun r47 hr47 h=>(kcv (Ajt.ok hr47 (Abf.rd o7)) ⟨(.tail _ (.tail _ (.head _))),trivial⟩ (kx 1 (knt ?_)))))
   refine kcn h (fun h=>?_) fun h=>?_
   ·refine Ab6 (kx 1 (kld 1 3 rfl ?_))
    rcases Bol h with ⟨i50,Bvg,h⟩ | ⟨r49,Bvg,h⟩
    ·refine kcl (Apv.ok Bvg) rfl trivial ?_
     rintro _ _ ⟨rfl,rfl⟩
     refine Bnv (Ab5 (K.mv1 (K.drop (K.mv1 (K.drop (K.mv1 ?_))))))
     obtain rfl:=Aam h
     exact Bmt (v:=.tuple #[.agg #[nS,nS],.agg #[iv i50.1,iv i50.2]]) (bk b1 #[nS,nS] 33 :: bk b2 #[iv i50.1,iv i50.2] 28 :: X) (fun _=>by kernel_rfl) (fun w_ hw_=>B7i hw_) [.val (nS),.val (nS),.val (iv i50.1),.val (iv i50.2)] [.ld ⟨b1,0,none⟩ (nS),.ld ⟨b1,1,none⟩ (nS),.ld ⟨b2,0,none⟩ (iv i50.1),.ld ⟨b2,1,none⟩ (iv i50.2)] [none_,none_] (by kernel_rfl) (by kernel_rfl) ⟨⟨0,_,_,_,rfl,rfl,rfl⟩,⟨0,_,_,_,rfl,rfl,rfl⟩,⟨1,_,_,_,rfl,rfl,rfl⟩,⟨1,_,_,_,rfl,rfl,rfl⟩,trivial⟩ fun w_ hw_=>(⟨⟨none_,none,0,none_,none,0,(Abf.nil Ak8 43 none_),(Aaf.nil encS 9 1 none_),rfl,rfl⟩,St.Bho 2 hw_.tail.tail⟩)
    refine kcl (Apv.ok Bvg) rfl trivial ?_
    rintro _ _ ⟨rfl,rfl⟩
    exact Apk (knt (Ac1 () h sb rfl))
   ·exact Adl (Abi (Ac1 () h sb rfl))
end
section
open Go Go.RowKit Lx
theorem wiC (x:Int) (h0:-9223372036854775808≤x) (h1:x≤9223372036854775807):IntKind.i64.wrap x=x:=by unfold IntKind.wrap;simp [IntKind.bits,IntKind.signed];omega
theorem Bxq {α:Type} {l:List α} {i:Nat} (h:i < l.length):Ack l (i:Int)=some l[i]:=by
 unfold Ack
 rw [if_pos (by omega),Int.toNat_natCast,List.getElem?_eq_getElem h]
def Awb (X:Bs):List Bs→Int→Int
 | [],_=>-1
 | y :: l,i=>if X == y then i else Awb X l (i+1)
theorem Ccj (L:List ByteArray) (hL:L.length≤1000) (s:ByteArray):∀ (d i k:Nat),L.length - i≤d→i≤L.length→d < k →
  Akt.l0 k L s (fun _=>some (-1)) (i:Int)=some (Awb s.toList ((L.drop i).map (·.toList)) i)
 | d,i,k,hd,hi,hk=>by
  obtain ⟨k,rfl⟩:∃ m,k=m+1:=⟨k - 1,by omega⟩
  simp only [Akt.l0]
  rcases Nat.lt_or_ge i L.length with h | h
  ·obtain ⟨d,rfl⟩:∃ m,d=m+1:=⟨d - 1,by omega⟩
   rw [decide_eq_true (p:=(i:Int) < L.length) (by omega),Bxq h,wiC ((i:Int)+1) (by omega) (by omega),show (i:Int)+1=((i+1:Nat):Int) by omega,List.drop_eq_getElem_cons h,List.map_cons]
   simp only [cond_true,Aai]
   unfold Awb
   cases hq:s.toList == L[i].toList with
   | true=>rfl
   | false =>
    rw [cond_false,Ccj L hL s d (i+1) k (by omega) (by omega) (by omega)]
    rfl
  ·rw [decide_eq_false (p:=(i:Int) < L.length) (by omega),List.drop_of_length_le h]
   rfl
def Bou:TyC:=[(⟨#[112,114,105,110,116]⟩:ByteArray),(⟨#[116,121,112,101]⟩:ByteArray),(⟨#[116,111,115,116,114,105,110,103]⟩:ByteArray),(⟨#[116,111,110,117,109,98,101,114]⟩:ByteArray),(⟨#[110,101,120,116]⟩:ByteArray),(⟨#[112,97,105,114,115]⟩:ByteArray),(⟨#[105,112,97,105,114,115]⟩:ByteArray),(⟨#[114,97,119,108,101,110]⟩:ByteArray),(⟨#[115,116,97,116,115]⟩:ByteArray),(⟨#[112,114,111,98,101,115]⟩:ByteArray),(⟨#[]⟩:ByteArray),(⟨#[116,97,98,108,101,46,105,110,115,101,114,116]⟩:ByteArray),(⟨#[116,97,98,108,101,46,114,101,109,111,118,101]⟩:ByteArray),(⟨#[116,97,98,108,101,46,99,111,110,99,97,116]⟩:ByteArray),(⟨#[116,97,98,108,101,46,117,110,112,97,99,107]⟩:ByteArray),(⟨#[116,97,98,108,101,46,109,111,118,101]⟩:ByteArray),(⟨#[116,97,98,108,101,46,115,111,114,116]⟩:ByteArray),(⟨#[117,116,102,56,46,108,101,110]⟩:ByteArray),(⟨#[117,116,102,56,46,99,104,97,114]⟩:ByteArray),(⟨#[117,116,102,56,46,99,111,100,101,112,111,105,110,116]⟩:ByteArray),(⟨#[117,116,102,56,46,111,102,102,115,101,116]⟩:ByteArray),(⟨#[117,116,102,56,46,99,111,100,101,115]⟩:ByteArray)]
def A9d:List Bs:=Lib.fields (⟨#[112,114,105,110,116,32,116,121,112,101,32,116,111,115,116,114,105,110,103,32,116,111,110,117,109,98,101,114,32,110,101,120,116,32,112,97,105,114,115,32,105,112,97,105,114,115,32,114,97,119,108,101,110,32,115,116,97,116,115,32,112,114,111,98,101,115,32,45,32,116,97,98,108,101,46,105,110,115,101,114,116,32,116,97,98,108,101,46,114,101,109,111,118,101,32,116,97,98,108,101,46,99,111,110,99,97,116,32,116,97,98,108,101,46,117,110,112,97,99,107,32,116,97,98,108,101,46,109,111,118,101,32,116,97,98,108,101,46,115,111,114,116,32,117,116,102,56,46,108,101,110,32,117,116,102,56,46,99,104,97,114,32,117,116,102,56,46,99,111,100,101,112,111,105,110,116,32,117,116,102,56,46,111,102,102,115,101,116,32,117,116,102,56,46,99,111,100,101,115,32,45]⟩:ByteArray).data.toList
def Bjy (X:Bs):List Bs→Int→Int
 | [],_=>0
 | y :: l,i=>if (!(X == [])) && y == X then i+1 else Bjy X l (i+1)
theorem Cmo (X:Bs):∀ (l:List Bs) (i:Int),X ∉ l→Awb X l i=-1
 | [],_,_=>rfl
 | y :: l,i,h=>by
  unfold Awb
  rw [if_neg (by simp only [beq_iff_eq];rintro rfl;exact h (Af5 ..))]
  exact Cmo X l _ fun h'=>h (Ahb _ h')
theorem Cmr (X:Bs):∀ (l:List Bs) (i:Int),X ∉ l→Bjy X l i=0
 | [],_,_=>rfl
 | y :: l,i,h=>by
  unfold Bjy
  rw [if_neg (by simp only [Bool.and_eq_true,beq_iff_eq];rintro ⟨_,rfl⟩;exact h (Af5 ..))]
  exact Cmr X l _ fun h'=>h (Ahb _ h')
def Apa (X:Bs):Int:=if X == [45] then 0 else Awb X A9d 0+1
theorem C63 (X:Bs):Apa X=Bjy X (Bou.map (·.toList)) 0∧0≤Apa X∧Apa X≤22:=by
 by_cases h:X ∈ [45] :: (A9d++Bou.map (·.toList))
 ·revert h
  have key:∀ x ∈ [45] :: (A9d++Bou.map (·.toList)),Apa x=Bjy x (Bou.map (·.toList)) 0∧0≤Apa x∧Apa x≤22:=by decide +kernel
  exact key X
 ·simp only [List.mem_cons,Agb,not_or] at h
  obtain ⟨h1,h2,h3⟩:=h
  have e:Apa X=0:=by
   unfold Apa
   rw [if_neg (by simpa using h1),Cmo X _ _ h2]
   rfl
  rw [e,Cmr X _ _ h3]
  decide
def Bom:TyC:=(Lib.fields (⟨#[112,114,105,110,116,32,116,121,112,101,32,116,111,115,116,114,105,110,103,32,116,111,110,117,109,98,101,114,32,110,101,120,116,32,112,97,105,114,115,32,105,112,97,105,114,115,32,114,97,119,108,101,110,32,115,116,97,116,115,32,112,114,111,98,101,115,32,45,32,116,97,98,108,101,46,105,110,115,101,114,116,32,116,97,98,108,101,46,114,101,109,111,118,101,32,116,97,98,108,101,46,99,111,110,99,97,116,32,116,97,98,108,101,46,117,110,112,97,99,107,32,116,97,98,108,101,46,109,111,118,101,32,116,97,98,108,101,46,115,111,114,116,32,117,116,102,56,46,108,101,110,32,117,116,102,56,46,99,104,97,114,32,117,116,102,56,46,99,111,100,101,112,111,105,110,116,32,117,116,102,56,46,111,102,102,115,101,116,32,117,116,102,56,46,99,111,100,101,115,32,45]⟩:ByteArray).data.toList).map fun l=>⟨l.toArray⟩
theorem Cte (k:Nat):strings_Fields.f k (⟨#[112,114,105,110,116,32,116,121,112,101,32,116,111,115,116,114,105,110,103,32,116,111,110,117,109,98,101,114,32,110,101,120,116,32,112,97,105,114,115,32,105,112,97,105,114,115,32,114,97,119,108,101,110,32,115,116,97,116,115,32,112,114,111,98,101,115,32,45,32,116,97,98,108,101,46,105,110,115,101,114,116,32,116,97,98,108,101,46,114,101,109,111,118,101,32,116,97,98,108,101,46,99,111,110,99,97,116,32,116,97,98,108,101,46,117,110,112,97,99,107,32,116,97,98,108,101,46,109,111,118,101,32,116,97,98,108,101,46,115,111,114,116,32,117,116,102,56,46,108,101,110,32,117,116,102,56,46,99,104,97,114,32,117,116,102,56,46,99,111,100,101,112,111,105,110,116,32,117,116,102,56,46,111,102,102,115,101,116,32,117,116,102,56,46,99,111,100,101,115,32,45]⟩:ByteArray)=some Bom:=by
 have h:(decide ((⟨#[112,114,105,110,116,32,116,121,112,101,32,116,111,115,116,114,105,110,103,32,116,111,110,117,109,98,101,114,32,110,101,120,116,32,112,97,105,114,115,32,105,112,97,105,114,115,32,114,97,119,108,101,110,32,115,116,97,116,115,32,112,114,111,98,101,115,32,45,32,116,97,98,108,101,46,105,110,115,101,114,116,32,116,97,98,108,101,46,114,101,109,111,118,101,32,116,97,98,108,101,46,99,111,110,99,97,116,32,116,97,98,108,101,46,117,110,112,97,99,107,32,116,97,98,108,101,46,109,111,118,101,32,116,97,98,108,101,46,115,111,114,116,32,117,116,102,56,46,108,101,110,32,117,116,102,56,46,99,104,97,114,32,117,116,102,56,46,99,111,100,101,112,111,105,110,116,32,117,116,102,56,46,111,102,102,115,101,116,32,117,116,102,56,46,99,111,100,101,115,32,45]⟩:ByteArray).size < 4294967281∧(Lib.fields (⟨#[112,114,105,110,116,32,116,121,112,101,32,116,111,115,116,114,105,110,103,32,116,111,110,117,109,98,101,114,32,110,101,120,116,32,112,97,105,114,115,32,105,112,97,105,114,115,32,114,97,119,108,101,110,32,115,116,97,116,115,32,112,114,111,98,101,115,32,45,32,116,97,98,108,101,46,105,110,115,101,114,116,32,116,97,98,108,101,46,114,101,109,111,118,101,32,116,97,98,108,101,46,99,111,110,99,97,116,32,116,97,98,108,101,46,117,110,112,97,99,107,32,116,97,98,108,101,46,109,111,118,101,32,116,97,98,108,101,46,115,111,114,116,32,117,116,102,56,46,108,101,110,32,117,116,102,56,46,99,104,97,114,32,117,116,102,56,46,99,111,100,101,112,111,105,110,116,32,117,116,102,56,46,111,102,102,115,101,116,32,117,116,102,56,46,99,111,100,101,115,32,45]⟩:ByteArray).data.toList).length≤1000000) && (⟨#[112,114,105,110,116,32,116,121,112,101,32,116,111,115,116,114,105,110,103,32,116,111,110,117,109,98,101,114,32,110,101,120,116,32,112,97,105,114,115,32,105,112,97,105,114,115,32,114,97,119,108,101,110,32,115,116,97,116,115,32,112,114,111,98,101,115,32,45,32,116,97,98,108,101,46,105,110,115,101,114,116,32,116,97,98,108,101,46,114,101,109,111,118,101,32,116,97,98,108,101,46,99,111,110,99,97,116,32,116,97,98,108,101,46,117,110,112,97,99,107,32,116,97,98,108,101,46,109,111,118,101,32,116,97,98,108,101,46,115,111,114,116,32,117,116,102,56,46,108,101,110,32,117,116,102,56,46,99,104,97,114,32,117,116,102,56,46,99,111,100,101,112,111,105,110,116,32,117,116,102,56,46,111,102,102,115,101,116,32,117,116,102,56,46,99,111,100,101,115,32,45]⟩:ByteArray).data.toList.all fun b=>decide (b.toNat < 128))=true:=by decide +kernel
 unfold strings_Fields.f
 rw [h]
 rfl
theorem Db7:Bom.length=23:=by decide +kernel
theorem Db9:Bom.map (·.toList)=A9d:=by decide +kernel
theorem Cgo (k:Nat) (hk:30≤k) (a0:ByteArray):A06.f k a0=some (Apa a0.toList):=by
 have h1:=Cte k
 obtain ⟨L,hL⟩:∃ L,L=Bom:=⟨_,rfl⟩
 have h2:=Db7
 have h3:=Db9
 rw [← hL] at h1 h2 h3
 have hd:(⟨#[45]⟩:ByteArray).toList=[45]:=by kernel_rfl
 unfold A06.f
 rw [hd,h1]
 unfold Apa
 cases hq:a0.toList == [45] with
 | true=>rfl
 | false =>
  simp only [cond_false,Aai,Bool.false_eq_true,if_false]
  unfold Akt.f Adj
  have hl:=Ccj L (by omega) a0 L.length 0 k (by omega) (by omega) (by omega)
  rw [List.drop_zero,h3,Int.ofNat_zero] at hl
  change ((Akt.l0 k L a0 (fun _=>some (-1)) 0).bind _)=_
  rw [hl]
  have hb:=(C63 a0.toList).2
  unfold Apa at hb
  rw [hq] at hb
  simp only [Bool.false_eq_true,if_false] at hb
  simp only [Aai]
  rw [wiC _ (by omega) (by omega)]
theorem Ah5 {α:Type} (pre:List α) (x:α) (t:List α):Ack (pre++x :: t) (pre.length:Int)=some x:=by
 unfold Ack
 rw [if_pos (by omega)]
 simp
theorem ltT {a b:Int} (h:a < b):decide (a < b)=true:=decide_eq_true h
theorem ltF {a b:Int} (h:¬ a < b):decide (a < b)=false:=decide_eq_false h
abbrev V3:=Int×Int×ByteArray
abbrev Arj:=ByteArray×Int×Int×Int×List V3
abbrev CT:=List Arj×List ByteArray×Int×List V3×List ByteArray×Int
structure CSt where
 fs:List Arj
 gl:List ByteArray
 sl:Int
 cs:List V3
 lo:List ByteArray
 lp:Int
def CSt.tup (s:CSt):CT:=(s.fs,s.gl,s.sl,s.cs,s.lo,s.lp)
abbrev PC (α:Type):=PR α (Int×Int)
def PR.th {α β ε:Type} (x:PR α ε) (f:α→PR β ε):PR β ε:=match x with | .ok a=>f a | .bad e=>.bad e
def PR.mp {α β ε:Type} (f:α→β) (x:PR α ε):PR β ε:=match x with | .ok a=>.ok (f a) | .bad e=>.bad e
def Aox (l:List ByteArray) (a:ByteArray):Bool:=l.any fun x=>a.toList == x.toList
def Avr (l:List V3) (v:V3):Bool:=l.any fun x=>(v.1 == x.1) && ((v.2.1 == x.2.1) && ((v.2.2.toList == x.2.2.toList) && true))
abbrev Brk:ByteArray:=⟨#[116,97,98,108,101]⟩
abbrev Cph:ByteArray:=⟨#[117,116,102,56]⟩
abbrev Ati:ByteArray:=⟨#[46]⟩
def Ary (t:ByteArray):Bool:=t.toList == Brk.toList || t.toList == Cph.toList
def Ap7 (a:Int) (count most:Int):PC Unit:=if count > most then .bad (6,a) else .ok ()
def Ava (gl:List ByteArray) (t:ByteArray):List ByteArray:=if Aox gl t then gl else gl++[t]
def Avj (a:Int) (cs:List V3) (v:V3):PC (List V3):=if Avr cs v then .ok cs else (Ap7 a (cs.length+1:Nat) 250).th fun _=>.ok (cs++[v])
def Aym (a:Int) (t:ByteArray) (gl lo ab:List ByteArray):PC (List ByteArray) :=
 if Ary t then .bad (5,a) else if Aox lo t then .ok gl else if Aox ab t then .bad (5,a) else .ok (Ava gl t)
def Azw:List ByteArray→List Tree→PC (List ByteArray)
 | lo,[]=>.ok lo
 | lo,x :: l=>if Ary x.text then .bad (5,x.at_) else Azw (lo++[x.text]) l
def A0y (a:Int) (sl:Int) (lo:List ByteArray) (l:List Tree):PC (Int×List ByteArray) :=
 (Azw lo l).th fun lo=>(Ap7 a (lo.length:Nat) 60).th fun _=>.ok (if ((lo.length:Nat):Int) > sl then ((lo.length:Nat):Int) else sl,lo)
def Agg (f:CSt→Tree→PC CSt):CSt→List Tree→PC CSt
 | s,[]=>.ok s
 | s,x :: l=>(f s x).th fun s=>Agg f s l
def Aos (f:CSt→Tree→Bool→PC CSt) (n:Int):Nat→CSt→List Tree→PC CSt
 | _,s,[]=>.ok s
 | i,s,x :: l=>(f s x (decide ((i:Int) < n))).th fun s=>Aos f n (i+1) s l
def tNo:Tree:=.mk 0 ⟨#[]⟩ 0 0 []
def Adu (l:List Tree) (i:Nat):Tree:=(l[i]?).getD tNo
def Apy (f:CSt→Tree→PC CSt) (a:Int) (s:CSt) (names:List Tree) (b:Tree) (more:Nat):PC CSt :=
 (if more > 0 then A0y a s.sl (s.lo++List.replicate more ⟨#[]⟩) names else .ok (s.sl,s.lo)).th fun r =>
  (f { s with sl:=r.1,lo:=r.2,lp:=s.lp+1 } b).th fun s'=>.ok { s' with lo:=s'.lo.take s.lo.length,lp:=s'.lp - 1 }
def Bkw (tg:Bool) (x y:Tree):Bool:=tg || (y.kind != 5 || Apa (x.text++Ati++y.text).toList == 0)
def Ali (f:CSt→List Tree→PC CSt) (ab:List ByteArray) (s:CSt) (k:Int) (t:ByteArray) (n a:Int) (l:List Tree) (tg:Bool):PC CSt :=
 if k=8 then (Ap7 a ((l.length:Nat) - 1:Int) 50).th fun _=>f s l
 else if k=30 then (Ap7 a (l.length:Nat) 50).th fun _=>f s l
 else if k=12 then (Ap7 a (l.length:Nat) 200).th fun _=>f s l
 else if k=4 then (Avj a s.cs (2,n,⟨#[]⟩)).th fun cs=>f { s with cs:=cs } l
 else if k=5 then (Avj a s.cs (3,0,t)).th fun cs=>f { s with cs:=cs } l
 else if k=6 then (Aym a t s.gl s.lo ab).th fun gl=>f { s with gl:=gl } l
 else if k=7∧(Adu l 0).kind=6∧Ary (Adu l 0).text=true then
  if Bkw tg (Adu l 0) (Adu l 1) then .bad (5,a) else .ok s
 else f s l
def Adm:Nat→List ByteArray→CSt→Tree→Bool→PC CSt
 | 0,_,_,_,_=>.bad (0,0)
 | d+1,ab,s,.mk k t n a l,tg =>
  if k=20 then (Agg (fun s x=>Adm d ab s x false) s l).th fun s'=>.ok { s' with lo:=s'.lo.take s.lo.length }
  else if k=31 then
   (Ap7 a (s.fs.length:Nat) 100).th fun _=>if Ary t then .bad (5,a) else
    (Ap7 a n 50).th fun _=>(A0y a 0 [] (l.take n.toNat)).th fun r =>
     (Adm d s.lo ⟨s.fs,Ava s.gl t,r.1,[],r.2,0⟩ (Adu l n.toNat) false).th fun s' =>
      .ok { s with fs:=s'.fs++[(t,a,n,s'.sl,s'.cs)],gl:=s'.gl }
  else if k=21 then
   (Ap7 a n 50).th fun _=>(Ap7 a (l.length - n) 50).th fun _=>(Agg (fun s x=>Adm d ab s x false) s (l.drop n.toNat)).th fun s =>
    (A0y a s.sl s.lo (l.take n.toNat)).th fun r=>.ok { s with sl:=r.1,lo:=r.2 }
  else if k=22 then
   (Ap7 a n 50).th fun _=>(Ap7 a (l.length - n) 50).th fun _=>Aos (fun s x b=>Adm d ab s x b) n 0 s l
  else if k=25 then (Adm d ab s (Adu l 0) false).th fun s=>Apy (fun s x=>Adm d ab s x false) a s [] (Adu l 1) 0
  else if k=26 then (Agg (fun s x=>Adm d ab s x false) s ((l.drop 1).take (l.length - 2))).th fun s=>Apy (fun s x=>Adm d ab s x false) a s (l.take 1) (Adu l (l.length - 1)) 3
  else if k=27 then
   (Ap7 a n 50).th fun _=>(Ap7 a (l.length - 1 - n) 50).th fun _=>(Agg (fun s x=>Adm d ab s x false) s ((l.drop n.toNat).take (l.length - 1 - n.toNat))).th fun s =>
    Apy (fun s x=>Adm d ab s x false) a s (l.take n.toNat) (Adu l (l.length - 1)) 3
  else if k=29 then if s.lp=0 then .bad (5,a) else .ok s
  else Ali (fun s l=>Agg (fun s x=>Adm d ab s x false) s l) ab s k t n a l tg
theorem B6s {α β ε:Type} (x:PR α ε) (f:α→PR β ε) (F:α→Option (PR β ε)) (h:∀ a,x=.ok a→F a=some (f a)):PR.bind (some x) F=some (x.th f):=by
 cases x with
 | ok a=>exact h a rfl
 | bad e=>rfl
theorem Ba3 (k:Nat) (a0:Int) (a1:ByteArray) (a2 a3:Int) (a4:List Tree) (c m:Int):Akz.f k a0 a1 a2 a3 a4 c m=some (Ap7 a3 c m):=by
 unfold Akz.f Ap7
 by_cases h:c > m
 ·rw [decide_eq_true h,if_pos h];rfl
 ·rw [decide_eq_false h,if_neg h];rfl
theorem Bmw (k:Nat) (t:ByteArray):Avh.f k t=some (Ary t):=by
 unfold Avh.f Ary
 cases t.toList == Brk.toList <;> rfl
theorem Ccd:∀ (t pre:List ByteArray) (a:ByteArray) (m:Nat),pre.length+t.length≤1000000→t.length+1≤m →
  ∃ v,Akt.l0 m (pre++t) a (fun _=>some (-1)) (pre.length:Int)=some v∧decide (v ≥ 0)=Aox t a
 | [],pre,a,m,hl,hm=>by
  obtain ⟨m,rfl⟩:∃ m',m=m'+1:=⟨m - 1,by omega⟩
  simp only [Akt.l0]
  rw [ltF (by simp)]
  exact ⟨-1,rfl,rfl⟩
 | x :: t,pre,a,m,hl,hm=>by
  obtain ⟨m,rfl⟩:∃ m',m=m'+1:=⟨m - 1,by omega⟩
  simp only [Aa4] at hl hm
  simp only [Akt.l0]
  rw [ltT (by simp;omega),Ah5]
  simp only [cond_true,Aai]
  unfold Aox
  rw [List.any_cons]
  cases hq:a.toList == x.toList with
  | true=>exact ⟨_,rfl,decide_eq_true (by omega)⟩
  | false =>
   rw [cond_false,Bool.false_or,wiC _ (by omega) (by omega)]
   have ih:=Ccd t (pre++[x]) a m (by simp;omega) (by omega)
   rw [Aep,Abj] at ih
   exact ih
theorem containsS (k:Nat) (l:List ByteArray) (a:ByteArray) (hl:l.length≤1000000) (hk:l.length+1≤k):Ay5.f k l a=some (Aox l a):=by
 unfold Ay5.f Akt.f Adj
 obtain ⟨v,hv,hd⟩:=Ccd l [] a k (by simpa using hl) hk
 have hv:Akt.l0 k l a (fun _=>some (-1)) (0:Int)=some v:=hv
 simp only [hv,Aai,hd]
theorem Cci:∀ (t pre:List V3) (a0 a1:Int) (a2:ByteArray) (m:Nat),pre.length+t.length≤1000000→t.length+1≤m →
  ∃ v,Ao3.l0 m (pre++t) a0 a1 a2 (fun _=>some (-1)) (pre.length:Int)=some v∧decide (v ≥ 0)=Avr t (a0,a1,a2)
 | [],pre,a0,a1,a2,m,hl,hm=>by
  obtain ⟨m,rfl⟩:∃ m',m=m'+1:=⟨m - 1,by omega⟩
  simp only [Ao3.l0]
  rw [ltF (by simp)]
  exact ⟨-1,rfl,rfl⟩
 | x :: t,pre,a0,a1,a2,m,hl,hm=>by
  obtain ⟨m,rfl⟩:∃ m',m=m'+1:=⟨m - 1,by omega⟩
  simp only [Aa4] at hl hm
  simp only [Ao3.l0]
  rw [ltT (by simp;omega),Ah5]
  simp only [cond_true,Aai]
  unfold Avr
  rw [List.any_cons]
  simp only
  cases hq:(a0 == x.1) && ((a1 == x.2.1) && ((a2.toList == x.2.2.toList) && true)) with
  | true=>exact ⟨_,rfl,decide_eq_true (by omega)⟩
  | false =>
   rw [cond_false,Bool.false_or,wiC _ (by omega) (by omega)]
   have ih:=Cci t (pre++[x]) a0 a1 a2 m (by simp;omega) (by omega)
   rw [Aep,Abj] at ih
   exact ih
theorem Cqy (k:Nat) (l:List V3) (a0 a1:Int) (a2:ByteArray) (hl:l.length≤1000000) (hk:l.length+1≤k):A9s.f k l a0 a1 a2=some (Avr l (a0,a1,a2)):=by
 unfold A9s.f Ao3.f Adj
 obtain ⟨v,hv,hd⟩:=Cci l [] a0 a1 a2 k (by simpa using hl) hk
 have hv:Ao3.l0 k l a0 a1 a2 (fun _=>some (-1)) (0:Int)=some v:=hv
 simp only [hv,Aai,hd]
theorem Awj {α:Type} {b:Nat} {l ys:List α} (h:(l.length+ys.length) * b≤140737488355328):apd b l ys=some (l++ys):=by
 unfold apd
 rw [decide_eq_true h]
 rfl
section
variable {k:Nat} {f0:List Arj} {gl:List ByteArray} {nm:ByteArray} {at_ pc sl:Int} {cs:List V3} {lo:List ByteArray} {lp:Int} {ab:List ByteArray}
theorem B9o (t:ByteArray) (hg:gl.length≤400000) (hk:500000≤k):A1a.f k f0 gl nm at_ pc sl cs lo lp ab t=some (Ava gl t):=by
 unfold A1a.f Ava
 rw [containsS k gl t (by omega) (by omega)]
 simp only [Aai]
 cases Aox gl t with
 | true=>rfl
 | false =>
  rw [Awj (by simp;omega)]
  rfl
theorem C7q (x0:Int) (t:ByteArray) (x2 a:Int) (x4:List Tree) (hg:gl.length≤400000) (ho:lo.length≤400000) (ha:ab.length≤400000) (hk:500000≤k) :
  A6c.f k f0 gl nm at_ pc sl cs lo lp ab x0 t x2 a x4=some (Aym a t gl lo ab):=by
 unfold A6c.f Aym
 rw [Bmw,containsS k lo t (by omega) (by omega),containsS k ab t (by omega) (by omega),B9o t hg hk]
 simp only [Aai]
 cases Ary t with
 | true=>rfl
 | false =>
  cases Aox lo t with
  | true=>rfl
  | false=>cases Aox ab t <;> rfl
theorem const_eq (x0:Int) (x1:ByteArray) (x2 a:Int) (x4:List Tree) (v0 v1:Int) (v2:ByteArray) (hc:cs.length≤400000) (hk:500000≤k) :
  A08.f k f0 gl nm at_ pc sl cs lo lp ab x0 x1 x2 a x4 v0 v1 v2=some (Avj a cs (v0,v1,v2)):=by
 unfold A08.f Avj
 rw [Cqy k cs v0 v1 v2 (by omega) (by omega)]
 simp only [Aai]
 cases Avr cs (v0,v1,v2) with
 | true=>rfl
 | false =>
  simp only [Bool.not_false,cond_true,Bool.false_eq_true,if_false]
  rw [Ba3,wiC _ (by omega) (by omega)]
  refine B6s _ _ _ fun u _=>?_
  rw [Awj (by simp;omega)]
  rfl
theorem B67:∀ (t pre:List Tree) (lo:TyC) (m:Nat) (J:TyC→Option (PC (Int×TyC))) (j:TyC→PC (Int×TyC)),pre.length+t.length≤400000→lo.length+t.length≤900000→t.length+1≤m →
  (∀ lo',Azw lo t=.ok lo'→J lo'=some (j lo'))→Apu.l0 m (pre++t) J (pre.length:Int) lo=some ((Azw lo t).th j)
 | [],pre,lo,m,J,j,hl,ho,hm,hJ=>by
  obtain ⟨m,rfl⟩:∃ m',m=m'+1:=⟨m - 1,by omega⟩
  simp only [Apu.l0]
  rw [ltF (by simp)]
  exact hJ lo rfl
 | x :: t,pre,lo,m,J,j,hl,ho,hm,hJ=>by
  obtain ⟨m,rfl⟩:∃ m',m=m'+1:=⟨m - 1,by omega⟩
  simp only [Aa4] at hl ho hm
  simp only [Apu.l0]
  rw [ltT (by simp;omega),Ah5]
  simp only [cond_true,Aai,Adj,Bmw]
  unfold Azw
  cases hq:Ary x.text with
  | true=>rfl
  | false =>
   simp only [cond_false,Bool.false_eq_true,if_false]
   rw [Awj (by simp;omega),wiC _ (by omega) (by omega)]
   have ih:=B67 t (pre++[x]) (lo++[x.text]) m J j (by simp;omega) (by simp;omega) (by omega) fun lo' h=>hJ lo' (by unfold Azw;rw [hq];exact h)
   rw [Aep,Abj] at ih
   exact ih
theorem Bry (x0:Int) (x1:ByteArray) (x2 a:Int) (x4:List Tree) (l:List Tree) (hl:l.length≤400000) (ho:lo.length≤400000) (hk:500000≤k) :
  Apu.f k f0 gl nm at_ pc sl cs lo lp ab x0 x1 x2 a x4 l=some (A0y a sl lo l):=by
 unfold Apu.f Adj A0y
 refine B67 l [] lo k _ _ (by simpa using hl) (by omega) (by omega) fun lo' _=>?_
 rw [Ba3]
 exact B6s _ _ _ fun _ _=>rfl
end
def Ct4 (k n:Int) (t:ByteArray) (l:List Tree):Prop :=
 t.size≤30000∧(k=7→l.length=2)∧(k=25→l.length=2)∧(k=26→4≤l.length)∧(k=21∨k=22→∃ m:Nat,n=m∧m≤l.length)∧(k=27→∃ m:Nat,n=m∧m+1≤l.length)∧(k=31→∃ m:Nat,n=m∧l.length=m+1)
mutual
def gw:Tree→Prop
 | .mk k t n _ l=>Ct4 k n t l∧gws l
def gws:List Tree→Prop
 | []=>True
 | x :: l=>gw x∧gws l
end
theorem Ba6:∀ {l:List Tree},gws l ↔ ∀ x ∈ l,gw x
 | []=>by simp [gws]
 | x :: l=>by simp [gws,Ba6 (l:=l)]
mutual
theorem Azc:∀ {t:Tree},wfT t→gw t
 | .mk k t n a l,⟨⟨h1,h2,h3,h4,h5,h6,h7⟩,hl⟩=>⟨⟨h1,h3,h4,h5,h6,h7,fun h=>absurd h h2⟩,B3c hl⟩
theorem B3c:∀ {l:List Tree},Akw l→gws l
 | [],_=>trivial
 | _ :: _,h=>⟨Azc h.1,B3c h.2⟩
end
theorem B9a {t:Tree} (h:fnT t):gw t:=by
 cases t with
 | mk k t n a l =>
  obtain ⟨h1,h2,h3,h4⟩:=h
  subst h2
  exact ⟨⟨h1,nx rfl,nx rfl,nx rfl,nx rfl,nx rfl,fun _=>h3⟩,B3c h4⟩
theorem Asu (t:Tree):1≤sz t:=by cases t;simp only [sz];omega
theorem A94 {x:Tree}:∀ {l:List Tree},x ∈ l→sz x≤szs l
 | y :: l,h=>by
  simp only [szs]
  rcases List.mem_cons.1 h with rfl | h
  ·omega
  ·have:=A94 h;omega
theorem A2y (l:List Tree) (i:Nat):szs (l.take i)+szs (l.drop i)=szs l:=by rw [← Ah6,List.take_append_drop]
theorem Amh {l:List Tree} {i:Nat} (h:i < l.length):Adu l i=l[i]∧Adu l i ∈ l:=by
 unfold Adu
 rw [List.getElem?_eq_getElem h]
 exact ⟨rfl,List.getElem_mem h⟩
theorem Crj {l:List Tree} {i:Nat} (h:i < l.length):l.drop i=Adu l i :: l.drop (i+1):=by
 rw [(Amh h).1]
 exact List.drop_eq_getElem_cons h
theorem Az8 {l:List Tree} {i:Nat} (h:i < l.length):szs (l.take i)+sz (Adu l i)+szs (l.drop (i+1))=szs l:=by
 have:=A2y l i
 rw [Crj h] at this
 simp only [szs] at this
 omega
def pot (s:CSt):Nat:=s.fs.length+s.gl.length+s.cs.length+s.lo.length
structure Post (s s':CSt) (n:Nat):Prop where
 pre:s.lo <+: s'.lo
 lp:s'.lp=s.lp
 pot:pot s'≤pot s+n
theorem Post.refl (s:CSt):Post s s 0:=⟨List.prefix_refl _,rfl,Nat.le_refl _⟩
theorem Post.trans {s s1 s2:CSt} {n m:Nat} (h:Post s s1 n) (h':Post s1 s2 m):Post s s2 (n+m):=⟨h.pre.trans h'.pre,h'.lp.trans h.lp,by have:=h.pot;have:=h'.pot;omega⟩
theorem Post.weak {s s':CSt} {n m:Nat} (h:Post s s' n) (hm:n≤m):Post s s' m:=⟨h.pre,h.lp,by have:=h.pot;omega⟩
theorem A4w {α:Type} {a b:List α} (h:a <+: b):b.take a.length=a:=by obtain ⟨t,rfl⟩:=h;simp
theorem Ci1 {α:Type} {a b:List α} (h:a <+: b):a.length≤b.length:=by obtain ⟨t,rfl⟩:=h;simp
theorem Acf {α β ε:Type} {x:PR α ε} {f:α→PR β ε} {b:β} (h:x.th f=.ok b):∃ a,x=.ok a∧f a=.ok b:=by
 cases x with
 | ok a=>exact ⟨a,rfl,h⟩
 | bad e=>cases h
theorem Als {α β ε:Type} {x:PR α ε} {f:α→PR β ε} {e:ε} (h:x.th f=.bad e):x=.bad e∨∃ a,x=.ok a∧f a=.bad e:=by
 cases x with
 | ok a=>exact .inr ⟨a,rfl,h⟩
 | bad e=>cases h;exact .inl rfl
theorem Cg4:∀ {l:List Tree} {lo lo':List ByteArray},Azw lo l=.ok lo'→lo'=lo++l.map Tree.text
 | [],lo,lo',h=>by cases h;simp
 | x :: l,lo,lo',h=>by
  unfold Azw at h
  split at h
  ·cases h
  ·rw [Cg4 h];simp
theorem Azi {a sl:Int} {lo:List ByteArray} {l:List Tree} {r:Int×List ByteArray} (h:A0y a sl lo l=.ok r):r.2=lo++l.map Tree.text∧r.2.length≤60∧r.1=max sl (r.2.length:Int):=by
 unfold A0y at h
 obtain ⟨lo',h1,h⟩:=Acf h
 obtain ⟨_,h2,h⟩:=Acf h
 unfold Ap7 at h2
 split at h2
 ·cases h2
 ·cases h
  refine ⟨Cg4 h1,by show lo'.length≤60;omega,?_⟩
  show (if ((lo'.length:Nat):Int) > sl then ((lo'.length:Nat):Int) else sl)=max sl (lo'.length:Int)
  split <;> omega
theorem Bek (gl:List ByteArray) (t:ByteArray):(Ava gl t).length≤gl.length+1:=by unfold Ava;split <;> simp
theorem Br1 {a:Int} {cs cs':List V3} {v:V3} (h:Avj a cs v=.ok cs'):cs'.length≤cs.length+1:=by
 unfold Avj at h
 split at h
 ·cases h;omega
 ·obtain ⟨_,_,h⟩:=Acf h
  cases h;simp
theorem Cg0 {a:Int} {t:ByteArray} {gl lo ab gl':List ByteArray} (h:Aym a t gl lo ab=.ok gl'):gl'.length≤gl.length+1:=by
 unfold Aym at h
 split at h
 ·cases h
 split at h
 ·cases h;omega
 split at h
 ·cases h
 ·cases h;exact Bek _ _
theorem Bhm {f:CSt→Tree→PC CSt}:∀ {l:List Tree} {s s':CSt},(∀ s x s',x ∈ l→f s x=.ok s'→Post s s' (4 * sz x))→Agg f s l=.ok s'→Post s s' (4 * szs l)
 | [],s,s',_,h=>by cases h;exact Post.refl _
 | x :: l,s,s',hf,h=>by
  unfold Agg at h
  obtain ⟨s1,h1,h⟩:=Acf h
  have:=(hf _ _ _ (Af5 ..) h1).trans (Bhm (fun s y s' hy=>hf s y s' (Ahb _ hy)) h)
  exact this.weak (by simp only [szs];omega)
theorem B6j {f:CSt→Tree→Bool→PC CSt} {n:Int}:∀ {l:List Tree} {i:Nat} {s s':CSt},(∀ s x b s',x ∈ l→f s x b=.ok s'→Post s s' (4 * sz x))→Aos f n i s l=.ok s'→Post s s' (4 * szs l)
 | [],_,s,s',_,h=>by cases h;exact Post.refl _
 | x :: l,i,s,s',hf,h=>by
  unfold Aos at h
  obtain ⟨s1,h1,h⟩:=Acf h
  have:=(hf _ _ _ _ (Af5 ..) h1).trans (B6j (fun s y b s' hy=>hf s y b s' (Ahb _ hy)) h)
  exact this.weak (by simp only [szs];omega)
theorem Bxx {f:CSt→Tree→PC CSt} {a:Int} {s s':CSt} {names:List Tree} {b:Tree} {more:Nat} (hm:more=0∨more=3) (hf:∀ s s',f s b=.ok s'→Post s s' (4 * sz b)) (h:Apy f a s names b more=.ok s'):Post s s' (4 * sz b+names.length+3)∧s'.lo=s.lo:=by
 unfold Apy at h
 obtain ⟨r,h1,h⟩:=Acf h
 obtain ⟨s1,h2,h⟩:=Acf h
 cases h
 have hp:=hf _ _ h2
 have hr:s.lo <+: r.2∧r.2.length≤s.lo.length+names.length+3:=by
  split at h1
  ·have:=(Azi h1).1
   rw [this]
   refine ⟨⟨_,by rw [Aep]⟩,?_⟩
   simp
   omega
  ·cases h1
   exact ⟨List.prefix_refl _,by show s.lo.length≤_;omega⟩
 have h3:=A4w (hr.1.trans hp.pre)
 refine ⟨⟨by show s.lo <+: s1.lo.take s.lo.length;rw [h3];exact List.prefix_refl _,by show s1.lp - 1=s.lp;have:=hp.lp;simp only at this;omega,?_⟩,h3⟩
 have hq:=hp.pot
 have:=Ci1 hp.pre
 simp only [pot] at hq this ⊢
 rw [List.length_take]
 omega
theorem Csz {f:CSt→List Tree→PC CSt} {ab:TyC} {s s':CSt} {k n a:Int} {t:ByteArray} {l:List Tree} {tg:Bool} (hf:∀ s s',f s l=.ok s'→Post s s' (4 * szs l)) (h:Ali f ab s k t n a l tg=.ok s'):Post s s' (4 * szs l+1):=by
 unfold Ali at h
 split at h
 ·obtain ⟨_,_,h⟩:=Acf h;exact (hf _ _ h).weak (by omega)
 split at h
 ·obtain ⟨_,_,h⟩:=Acf h;exact (hf _ _ h).weak (by omega)
 split at h
 ·obtain ⟨_,_,h⟩:=Acf h;exact (hf _ _ h).weak (by omega)
 split at h
 ·obtain ⟨cs,h1,h⟩:=Acf h
  have hp:=hf _ _ h
  have:=Br1 h1
  exact ⟨hp.pre,hp.lp,by have:=hp.pot;simp only [pot] at this ⊢;omega⟩
 split at h
 ·obtain ⟨cs,h1,h⟩:=Acf h
  have hp:=hf _ _ h
  have:=Br1 h1
  exact ⟨hp.pre,hp.lp,by have:=hp.pot;simp only [pot] at this ⊢;omega⟩
 split at h
 ·obtain ⟨gl,h1,h⟩:=Acf h
  have hp:=hf _ _ h
  have:=Cg0 h1
  exact ⟨hp.pre,hp.lp,by have:=hp.pot;simp only [pot] at this ⊢;omega⟩
 split at h
 ·split at h
  ·cases h
  ·cases h;exact (Post.refl _).weak (by omega)
 ·exact (hf _ _ h).weak (by omega)
theorem Aml:∀ {d:Nat} {ab:List ByteArray} {s s':CSt} {t:Tree} {tg:Bool},gw t→Adm d ab s t tg=.ok s'→Post s s' (4 * sz t)
 | 0,_,_,_,_,_,_,h=>by unfold Adm at h;cases h
 | d+1,ab,s,s',.mk k t n a l,tg,hw,h=>by
  obtain ⟨⟨hs1,hs7,A1v,A1w,A7s,A1x,Bf8⟩,hw⟩:=hw
  rw [Ba6] at hw
  have hN:∀ (m:List Tree),(∀ x ∈ m,x ∈ l)→∀ ab s s',Agg (fun s x=>Adm d ab s x false) s m=.ok s'→Post s s' (4 * szs m):=fun m hm ab s s' h=>Bhm (fun s x s' hx h=>Aml (hw x (hm x hx)) h) h
  have hlen:=Akl l
  simp only [sz]
  unfold Adm at h
  split at h
  ·obtain ⟨s1,h1,h⟩:=Acf h
   cases h
   have hp:=hN l (fun _ h=>h) _ _ _ h1
   refine ⟨by rw [A4w hp.pre];exact List.prefix_refl _,hp.lp,?_⟩
   have:=hp.pot
   simp only [pot] at this ⊢
   rw [List.length_take];omega
  split at h
  ·rename_i hk
   obtain ⟨m,rfl,hm⟩:=Bf8 hk
   obtain ⟨_,_,h⟩:=Acf h
   split at h
   ·cases h
   obtain ⟨_,_,h⟩:=Acf h
   obtain ⟨r,h1,h⟩:=Acf h
   obtain ⟨s1,h2,h⟩:=Acf h
   cases h
   simp only [Int.toNat_natCast] at h1 h2
   have hk:=Amh (l:=l) (i:=m) (by omega)
   have hp:=Aml (hw _ hk.2) h2
   have hb:=Azi h1
   have:=Az8 (l:=l) (i:=m) (by omega)
   have h3:=hp.pot
   have h4:=Bek s.gl t
   have h5:r.2.length≤m:=by rw [hb.1];simp;omega
   refine ⟨List.prefix_refl _,rfl,?_⟩
   have:=Akl (l.take m)
   rw [List.length_take] at this
   simp only [pot,Abj,Aa4,Acg] at h3 ⊢
   omega
  split at h
  ·rename_i hk
   obtain ⟨m,rfl,hm⟩:=A7s (.inl hk)
   obtain ⟨_,_,h⟩:=Acf h
   obtain ⟨_,_,h⟩:=Acf h
   obtain ⟨s1,h1,h⟩:=Acf h
   obtain ⟨r,h2,h⟩:=Acf h
   cases h
   simp only [Int.toNat_natCast] at h1 h2
   have hp:=hN _ (fun x hx=>List.mem_of_mem_drop hx) _ _ _ h1
   have hb:=Azi h2
   have:=A2y l m
   have:=Akl (l.take m)
   refine ⟨hp.pre.trans ⟨_,hb.1.symm⟩,hp.lp,?_⟩
   have h3:=hp.pot
   simp only [pot] at h3 ⊢
   rw [hb.1]
   simp only [Abj,List.length_map]
   omega
  split at h
  ·obtain ⟨_,_,h⟩:=Acf h
   obtain ⟨_,_,h⟩:=Acf h
   exact (B6j (fun s x b s' hx h=>Aml (hw x hx) h) h).weak (by omega)
  split at h
  ·rename_i hk
   have h2:=A1v hk
   obtain ⟨s1,h1,h⟩:=Acf h
   have k0:=Amh (l:=l) (i:=0) (by omega)
   have k1:=Amh (l:=l) (i:=1) (by omega)
   have hp:=Aml (hw _ k0.2) h1
   have hq:=(Bxx (.inl rfl) (fun s s' h=>Aml (hw _ k1.2) h) h).1
   have e1:=Az8 (l:=l) (i:=1) (by omega)
   have e2:szs (l.take 1)=sz (Adu l 0):=by
    have:=Az8 (l:=l) (i:=0) (by omega)
    have:=A2y l 1
    simp only [List.take_zero,szs,Nat.zero_add] at *
    omega
   exact (hp.trans hq).weak (by simp only [Acg];omega)
  split at h
  ·rename_i hk
   have h2:=A1w hk
   obtain ⟨s1,h1,h⟩:=Acf h
   have kl:=Amh (l:=l) (i:=l.length - 1) (by omega)
   have hp:=hN _ (fun x hx=>List.mem_of_mem_drop (List.mem_of_mem_take hx)) _ _ _ h1
   have hq:=(Bxx (.inr rfl) (fun s s' h=>Aml (hw _ kl.2) h) h).1
   have e1:=Az8 (l:=l) (i:=l.length - 1) (by omega)
   have e2:szs ((l.drop 1).take (l.length - 2))+szs (l.take 1)≤szs (l.take (l.length - 1)):=by
    have:=A2y (l.take (l.length - 1)) 1
    rw [List.drop_take,List.take_take,Nat.min_eq_left (by omega),show l.length - 1 - 1=l.length - 2 by omega] at this
    omega
   have e3:=Akl (l.take 1)
   exact (hp.trans hq).weak (by omega)
  split at h
  ·rename_i hk
   obtain ⟨m,rfl,hm⟩:=A1x hk
   obtain ⟨_,_,h⟩:=Acf h
   obtain ⟨_,_,h⟩:=Acf h
   obtain ⟨s1,h1,h⟩:=Acf h
   simp only [Int.toNat_natCast] at h1 h
   have kl:=Amh (l:=l) (i:=l.length - 1) (by omega)
   have hp:=hN _ (fun x hx=>List.mem_of_mem_drop (List.mem_of_mem_take hx)) _ _ _ h1
   have hq:=(Bxx (.inr rfl) (fun s s' h=>Aml (hw _ kl.2) h) h).1
   have e1:=Az8 (l:=l) (i:=l.length - 1) (by omega)
   have e2:szs ((l.drop m).take (l.length - 1 - m))+szs (l.take m)≤szs (l.take (l.length - 1)):=by
    have:=A2y (l.take (l.length - 1)) m
    rw [List.drop_take,List.take_take,Nat.min_eq_left (by omega)] at this
    omega
   have e3:=Akl (l.take m)
   exact (hp.trans hq).weak (by omega)
  split at h
  ·split at h
   ·cases h
   ·cases h;exact (Post.refl _).weak (by omega)
  ·exact (Csz (fun s s' h=>hN l (fun _ h=>h) _ _ _ h) h).weak (by omega)
structure BdC (s:CSt) (ab:List ByteArray) (n:Nat):Prop where
 pot:pot s+4 * n≤400000
 ab:ab.length≤400000
 lp0:0≤s.lp
 lp:s.lp+n≤400000
theorem BdC.weak {s:CSt} {ab:List ByteArray} {n m:Nat} (h:BdC s ab n) (hm:m≤n):BdC s ab m:=⟨by have:=h.pot;omega,h.ab,h.lp0,by have:=h.lp;omega⟩
theorem BdC.step {s s':CSt} {ab:List ByteArray} {n m:Nat} (h:BdC s ab (n+m)) (hp:Post s s' (4 * n)):BdC s' ab m:=⟨by have:=h.pot;have:=hp.pot;omega,h.ab,by rw [hp.lp];exact h.lp0,by rw [hp.lp];have:=h.lp;omega⟩
section
variable {α β γ δ ε:Type}
theorem bindM {x:PR α ε} {g:α→β} {F:β→Option (PR γ ε)} {f:α→PR δ ε} {h:δ→γ} (H:∀ a,x=.ok a→F (g a)=some (PR.mp h (f a))):PR.bind (some (PR.mp g x)) F=some (PR.mp h (x.th f)):=by
 cases x with
 | ok a=>exact H a rfl
 | bad e=>rfl
theorem Arp {x:PR α ε} {F:α→Option (PR γ ε)} {f:α→PR δ ε} {h:δ→γ} (H:∀ a,x=.ok a→F a=some (PR.mp h (f a))):PR.bind (some x) F=some (PR.mp h (x.th f)):=by
 cases x with
 | ok a=>exact H a rfl
 | bad e=>rfl
end
theorem eqC {a b:Int} (h:a=b):(a == b)=true:=beq_iff_eq.2 h
theorem neC {a b:Int} (h:a≠b):(a == b)=false:=beq_eq_false_iff_ne.2 h
theorem Ao5 {α:Type} {l:List α} {lo hi:Int} (a b:Nat) (ha:lo=a) (hb:hi=b) (h1:a≤b) (h2:b≤l.length):Aiq l lo hi=some ((l.drop a).take (b - a)):=by
 subst ha hb
 unfold Aiq
 rw [decide_eq_true (by omega)]
 rfl
theorem Bi9 {α:Type} {l m:List α} (h:m <+: l):Aiq l (0:Int) ((m.length:Nat):Int)=some (l.take m.length):=by
 rw [Ao5 0 m.length (by omega) (by omega) (Nat.zero_le _) (Ci1 h)]
 rfl
theorem A7u {l:List Tree} {i:Int} (m:Nat) (h:i=m) (hm:m < l.length):Ack l i=some (Adu l m):=by
 rw [h,Bxq hm,(Amh hm).1]
theorem Bk8 {a b:ByteArray} (h:a.size+b.size≤9223372036854775807):A2v a b=some (a++b):=by
 unfold A2v
 rw [decide_eq_true h]
 rfl
def RcN (R:CK) (d:Nat):Prop:=∀ (nm:ByteArray) (at_ pc:Int) (ab:List ByteArray) (s:CSt) (t:Tree) (tg:Bool),sz t≤d→gw t→BdC s ab (sz t) →
 R.Ah1 s.fs s.gl nm at_ pc s.sl s.cs s.lo s.lp ab t.kind t.text t.n t.at_ t.kids tg=some (PR.mp CSt.tup (Adm d ab s t tg))
abbrev nsC (d:Nat) (ab:List ByteArray) (s:CSt) (l:List Tree):PC CSt:=Agg (fun s x=>Adm d ab s x false) s l
def RcL (R:CK) (d:Nat):Prop:=∀ (nm:ByteArray) (at_ pc:Int) (ab:List ByteArray) (s:CSt) (l:List Tree),(∀ x ∈ l,sz x≤d∧gw x)→BdC s ab (szs l) →
 R.Aj4 s.fs s.gl nm at_ pc s.sl s.cs s.lo s.lp ab l=some (PR.mp CSt.tup (nsC d ab s l))
def RcX (R:CK) (d:Nat):Prop:=∀ (nm:ByteArray) (at_ pc:Int) (ab:List ByteArray) (s:CSt) (k:Int) (t:ByteArray) (n a:Int) (l:List Tree) (tg:Bool),(∀ x ∈ l,sz x≤d∧gw x)→(k=7→l.length=2)→BdC s ab (szs l+1) →
 R.Art s.fs s.gl nm at_ pc s.sl s.cs s.lo s.lp ab k t n a l tg=some (PR.mp CSt.tup (Ali (fun s l=>nsC d ab s l) ab s k t n a l tg))
def RcP (R:CK) (d:Nat):Prop:=∀ (nm:ByteArray) (at_ pc:Int) (ab:TyC) (s:CSt) (k:Int) (t:ByteArray) (n a:Int) (l names:List Tree) (b:Tree) (more:Nat),more=0∨more=3→sz b≤d→gw b→BdC s ab (sz b+names.length+1) →
 R.Aow s.fs s.gl nm at_ pc s.sl s.cs s.lo s.lp ab k t n a l names b.kind b.text b.n b.at_ b.kids (more:Int)=some (PR.mp CSt.tup (Apy (fun s x=>Adm d ab s x false) a s names b more))
def RcF (R:CK) (d:Nat):Prop:=∀ (nm:ByteArray) (at_ pc:Int) (ab:List ByteArray) (s:CSt) (t:ByteArray) (m:Nat) (a:Int) (l:List Tree),(∀ x ∈ l,sz x≤d∧gw x)→l.length=m+1→BdC s ab (szs l+1) →
 R.Aru s.fs s.gl nm at_ pc s.sl s.cs s.lo s.lp ab 31 t (m:Int) a l=some (PR.mp CSt.tup (Adm (d+1) ab s (.mk 31 t (m:Int) a l) false))
theorem Chd {R:CK} {d:Nat} (hR:RcN R d) (nm:ByteArray) (at_ pc:Int) (ab:TyC):∀ (t pre:List Tree) (s:CSt) (m:Nat),pre.length+t.length≤400000→t.length+1≤m→(∀ x ∈ t,sz x≤d∧gw x)→BdC s ab (szs t) →
  Aj4.l0 m R nm at_ pc ab (pre++t) (pre.length:Int) s.fs s.gl s.sl s.cs s.lo s.lp=some (PR.mp CSt.tup (nsC d ab s t))
 | [],pre,s,m,hl,hm,hw,hb=>by
  obtain ⟨m,rfl⟩:∃ m',m=m'+1:=⟨m - 1,by omega⟩
  simp only [Aj4.l0]
  rw [ltF (by simp)]
  rfl
 | x :: t,pre,s,m,hl,hm,hw,hb=>by
  obtain ⟨m,rfl⟩:∃ m',m=m'+1:=⟨m - 1,by omega⟩
  simp only [Aa4] at hl hm
  simp only [szs] at hb
  simp only [Aj4.l0]
  rw [ltT (by simp;omega),Ah5]
  simp only [cond_true,Aai]
  have hx:=hw x (Af5 ..)
  rw [hR nm at_ pc ab s x false hx.1 hx.2 (hb.weak (by omega))]
  unfold nsC Agg
  refine bindM fun s' hs'=>?_
  have ih:=Chd hR nm at_ pc ab t (pre++[x]) s' m (by simp;omega) (by omega) (fun y hy=>hw y (Ahb _ hy)) (hb.step (Aml hx.2 hs'))
  rw [wiC _ (by omega) (by omega)]
  rw [Aep,Abj] at ih
  exact ih
theorem B6h {R:CK} {d:Nat} (hR:RcN R d) (nm:ByteArray) (at_ pc:Int) (ab:TyC) (n:Int):∀ (t pre:List Tree) (s:CSt) (m:Nat),pre.length+t.length≤400000→t.length+1≤m→(∀ x ∈ t,sz x≤d∧gw x)→BdC s ab (szs t) →
  Ah1.l0 m R nm at_ pc ab n (pre++t) (pre.length:Int) s.fs s.gl s.sl s.cs s.lo s.lp=some (PR.mp CSt.tup (Aos (fun s x b=>Adm d ab s x b) n pre.length s t))
 | [],pre,s,m,hl,hm,hw,hb=>by
  obtain ⟨m,rfl⟩:∃ m',m=m'+1:=⟨m - 1,by omega⟩
  simp only [Ah1.l0]
  rw [ltF (by simp)]
  rfl
 | x :: t,pre,s,m,hl,hm,hw,hb=>by
  obtain ⟨m,rfl⟩:∃ m',m=m'+1:=⟨m - 1,by omega⟩
  simp only [Aa4] at hl hm
  simp only [szs] at hb
  simp only [Ah1.l0]
  rw [ltT (by simp;omega),Ah5]
  simp only [cond_true,Aai]
  have hx:=hw x (Af5 ..)
  rw [hR nm at_ pc ab s x _ hx.1 hx.2 (hb.weak (by omega))]
  unfold Aos
  refine bindM fun s' hs'=>?_
  have ih:=B6h hR nm at_ pc ab n t (pre++[x]) s' m (by simp;omega) (by omega) (fun y hy=>hw y (Ahb _ hy)) (hb.step (Aml hx.2 hs'))
  rw [wiC _ (by omega) (by omega)]
  rw [Aep,Abj] at ih
  exact ih
theorem Chg {k d:Nat} (hk:500000≤k) (hR:RcN (CK.at k) d):RcL (CK.at (k+1)) d:=fun nm at_ pc ab s l hw hb=>by
 have:=Akl l
 have:=hb.pot
 exact Chd hR nm at_ pc ab l [] s k (by simp only [Acg];omega) (by omega) hw hb
theorem Csy {k d:Nat} (hk:500000≤k) (hR:RcL (CK.at k) d):RcX (CK.at (k+1)) d:=fun nm at_ pc ab s k0 t n a l tg hw h7 hb=>by
 have hp:=hb.pot
 have hlen:=Akl l
 have hL:∀ s',BdC s' ab (szs l)→PR.bind ((CK.at k).Aj4 s'.fs s'.gl nm at_ pc s'.sl s'.cs s'.lo s'.lp ab l) (fun r13=>some (PR.ok (r13.1,r13.2.1,r13.2.2.1,r13.2.2.2.1,r13.2.2.2.2.1,r13.2.2.2.2.2)))=some (PR.mp CSt.tup (nsC d ab s' l)):=fun s' hb=>by
  rw [hR nm at_ pc ab s' l hw hb]
  cases nsC d ab s' l <;> rfl
 have hcs:∀ v cs,Avj a s.cs v=.ok cs→BdC { s with cs:=cs } ab (szs l):=fun v cs h=>⟨by have:=Br1 h;simp only [pot] at hp ⊢;omega,hb.ab,hb.lp0,by have:=hb.lp;show s.lp+_≤_;omega⟩
 show Art.g (CK.at k) k s.fs s.gl nm at_ pc s.sl s.cs s.lo s.lp ab k0 t n a l tg=_
 unfold Art.g Ali Adj
 simp only [Ba3]
 have Bok:s.gl.length≤400000∧s.lo.length≤400000∧s.cs.length≤400000:=by simp only [pot] at hp;omega
 by_cases h:k0=8
 ·rw [eqC h,if_pos h,cond_true,wiC _ (by omega) (by omega)]
  exact Arp fun _ _=>hL s (hb.weak (by omega))
 rw [neC h,if_neg h,cond_false]
 by_cases h:k0=30
 ·rw [eqC h,if_pos h,cond_true]
  exact Arp fun _ _=>hL s (hb.weak (by omega))
 rw [neC h,if_neg h,cond_false]
 by_cases h:k0=12
 ·rw [eqC h,if_pos h,cond_true]
  exact Arp fun _ _=>hL s (hb.weak (by omega))
 rw [neC h,if_neg h,cond_false]
 by_cases h:k0=4
 ·rw [eqC h,if_pos h,cond_true,const_eq _ _ _ _ _ _ _ _ Bok.2.2 hk]
  exact Arp fun cs hcs'=>hL { s with cs:=cs } (hcs _ _ hcs')
 rw [neC h,if_neg h,cond_false]
 by_cases h:k0=5
 ·rw [eqC h,if_pos h,cond_true,const_eq _ _ _ _ _ _ _ _ Bok.2.2 hk]
  exact Arp fun cs hcs'=>hL { s with cs:=cs } (hcs _ _ hcs')
 rw [neC h,if_neg h,cond_false]
 by_cases h:k0=6
 ·rw [eqC h,if_pos h,cond_true,C7q _ _ _ _ _ Bok.1 Bok.2.1 hb.ab hk]
  exact Arp fun gl hgl=>hL { s with gl:=gl } ⟨by have:=Cg0 hgl;simp only [pot] at hp ⊢;omega,hb.ab,hb.lp0,by have:=hb.lp;show s.lp+_≤_;omega⟩
 rw [neC h,if_neg h,cond_false]
 by_cases h:k0=7
 ·rw [eqC h,cond_true]
  have h2:=h7 h
  rw [A7u 0 (by omega) (by omega)]
  simp only [Aai]
  by_cases h6:(Adu l 0).kind=6
  ·rw [eqC h6,cond_true,Bmw]
   simp only [Aai]
   cases hq:Ary (Adu l 0).text with
   | false =>
    rw [cond_false,if_neg (fun e=>by cases e.2.2)]
    exact hL s (hb.weak (by omega))
   | true =>
    rw [cond_true,if_pos ⟨h,h6,rfl⟩,A7u 1 (by omega) (by omega)]
    simp only [Aai]
    unfold Bkw
    cases tg with
    | true=>rfl
    | false =>
     simp only [cond_false,Bool.false_or]
     by_cases h5:(Adu l 1).kind=5
     ·have e5:((Adu l 1).kind != 5)=false:=by simp [h5]
      have w0:=(hw _ (Amh (l:=l) (i:=0) (by omega)).2).2
      have w1:=(hw _ (Amh (l:=l) (i:=1) (by omega)).2).2
      have z0:(Adu l 0).text.size≤30000:=by
       cases hx:Adu l 0 with
       | mk k1 t1 n1 a1 l1=>rw [hx] at w0;exact w0.1.1
      have z1:(Adu l 1).text.size≤30000:=by
       cases hx:Adu l 1 with
       | mk k1 t1 n1 a1 l1=>rw [hx] at w1;exact w1.1.1
      have zd:(⟨#[46]⟩:ByteArray).size=1:=rfl
      rw [e5,Bk8 (by omega)]
      simp only [cond_false,Bool.false_or,Aai]
      rw [Bk8 (by rw [ByteArray.size_append];omega)]
      simp only [Aai]
      rw [Cgo k (by omega)]
      simp only [Aai]
      cases Apa (((Adu l 0).text++Ati++(Adu l 1).text).toList) == 0 <;> rfl
     ·have e5:((Adu l 1).kind != 5)=true:=by simp [h5]
      rw [e5]
      rfl
  ·rw [neC h6,if_neg (fun e=>h6 e.2.1)]
   exact hL s (hb.weak (by omega))
 rw [neC h,if_neg (fun e=>h e.1),cond_false]
 exact hL s (hb.weak (by omega))
theorem C7h {k d:Nat} (hk:500000≤k) (hR:RcN (CK.at k) d):RcP (CK.at (k+1)) d:=fun nm at_ pc ab s k0 t n a l names b more hm hd hw hb=>by
 have hp:=hb.pot
 have hlp:=hb.lp
 have Dj0:=hb.lp0
 show Aow.g (CK.at k) k s.fs s.gl nm at_ pc s.sl s.cs s.lo s.lp ab k0 t n a l names b.kind b.text b.n b.at_ b.kids (more:Int)=_
 unfold Aow.g Apy Adj A5w
 have hlo:s.lo.length+4≤400000:=by simp only [pot] at hp;omega
 rw [decide_eq_true (by rw [Int.toNat_natCast];omega)]
 simp only [cond_true,Aai,Int.toNat_natCast]
 have tail:∀ r:Int×List ByteArray,s.lo <+: r.2→r.2.length≤s.lo.length+names.length+3 →
   PR.bind ((CK.at k).Ah1 s.fs s.gl nm at_ pc r.1 s.cs r.2 (IntKind.i64.wrap (s.lp+1)) ab b.kind b.text b.n b.at_ b.kids false) (fun r15=>(Aiq r15.2.2.2.2.1 (0:Int) ((s.lo.length:Nat):Int)).bind fun l33=>some (PR.ok (r15.1,r15.2.1,r15.2.2.1,r15.2.2.2.1,l33,IntKind.i64.wrap (r15.2.2.2.2.2 - 1))))
   =some (PR.mp CSt.tup ((Adm d ab { s with sl:=r.1,lo:=r.2,lp:=s.lp+1 } b false).th fun s'=>.ok { s' with lo:=s'.lo.take s.lo.length,lp:=s'.lp - 1 })):=fun r h1 h2=>by
  rw [wiC _ (by omega) (by omega)]
  have hb':BdC { s with sl:=r.1,lo:=r.2,lp:=s.lp+1 } ab (sz b):=⟨by simp only [pot] at hp ⊢;omega,hb.ab,by show 0≤s.lp+1;omega,by show s.lp+1+_≤_;omega⟩
  have:=hR nm at_ pc ab { s with sl:=r.1,lo:=r.2,lp:=s.lp+1 } b false hd hw hb'
  simp only at this
  rw [this]
  refine bindM fun s' hs'=>?_
  have hq:=Aml hw hs'
  have hl':s'.lp=s.lp+1:=hq.lp
  show (Aiq s'.lo (0:Int) ((s.lo.length:Nat):Int)).bind _=_
  rw [Bi9 (h1.trans hq.pre),Aai,show s'.tup.2.2.2.2.2=s'.lp from rfl,wiC _ (by omega) (by omega)]
  rfl
 rcases hm with rfl | rfl
 ·simp only [List.replicate_zero,List.append_nil]
  rw [decide_eq_false (p:=((0:Nat):Int) > 0) (by omega),cond_false,if_neg (by omega)]
  have:=tail (s.sl,s.lo) (List.prefix_refl _) (by show s.lo.length≤_;omega)
  exact this
 ·rw [decide_eq_true (p:=((3:Nat):Int) > 0) (by omega),cond_true]
  rw [Bry _ _ _ _ _ _ (by omega) (by simp;omega) hk,if_pos (by omega)]
  refine Arp fun r hr=>?_
  have hr':=Azi hr
  refine tail r ?_ ?_
  ·rw [hr'.1];exact ⟨_,by rw [Aep]⟩
  ·rw [hr'.1];simp;omega
theorem Ctj {k d:Nat} (hk:500000≤k) (hR:RcN (CK.at k) d):RcF (CK.at (k+1)) d:=fun nm at_ pc ab s t m a l hw hm hb=>by
 have hp:=hb.pot
 have hlen:=Akl l
 have Cwh:=Amh (l:=l) (i:=m) (by omega)
 have hks:=Az8 (l:=l) (i:=m) (by omega)
 have hts:=Akl (l.take m)
 rw [List.length_take] at hts
 have Djx:=Bek s.gl t
 have hpp:s.fs.length≤400000∧s.gl.length≤399999∧s.lo.length≤400000:=by simp only [pot] at hp;omega
 show Aru.g (CK.at k) k s.fs s.gl nm at_ pc s.sl s.cs s.lo s.lp ab 31 t (m:Int) a l=_
 unfold Aru.g Adj Adm
 rw [if_neg (by decide),if_pos rfl,Ba3]
 refine Arp fun _ _=>?_
 rw [Bmw]
 simp only [Aai]
 cases hq:Ary t with
 | true=>rfl
 | false =>
  simp only [cond_false,Bool.false_eq_true,if_false]
  rw [Ba3]
  refine Arp fun _ _=>?_
  rw [B9o t (by omega) hk,Aai,Ao5 0 m (by omega) (by omega) (Nat.zero_le _) (by omega),Aai]
  simp only [List.drop_zero,Nat.sub_zero,Int.toNat_natCast]
  rw [Bry _ _ _ _ _ _ (by rw [List.length_take];omega) (by simp) hk]
  refine Arp fun r hr=>?_
  have hr':=Azi hr
  have hrl:r.2.length≤m:=by rw [hr'.1];simp;omega
  rw [A7u m (by omega) (by omega),Aai]
  have hw':=hw _ Cwh.2
  have hb':BdC ⟨s.fs,Ava s.gl t,r.1,[],r.2,0⟩ s.lo (sz (Adu l m)):=⟨by simp only [pot,Acg] at hp ⊢;omega,hpp.2.2,Int.le_refl _,by show (0:Int)+_≤_;omega⟩
  have:=hR t a m s.lo ⟨s.fs,Ava s.gl t,r.1,[],r.2,0⟩ (Adu l m) false hw'.1 hw'.2 hb'
  simp only at this
  rw [this]
  refine bindM fun s' hs'=>?_
  have hq':=(Aml hw'.2 hs').pot
  show (apd 64 s'.fs [(t,a,(m:Int),s'.sl,s'.cs)]).bind _=_
  rw [Awj (by simp only [pot,Acg] at hp hq';simp;omega)]
  rfl
theorem C7y {k d:Nat} (hk:500000≤k) (hR:RcN (CK.at k) d) (hL:RcL (CK.at k) d) (hX:RcX (CK.at k) d) (hP:RcP (CK.at k) d) (hF:RcF (CK.at k) d):RcN (CK.at (k+1)) (d+1):=fun nm at_ pc ab s x tg hd hw hb=>by
 cases x with
 | mk k0 t n a l =>
  obtain ⟨⟨hs1,hs7,A1v,A1w,A7s,A1x,Bf8⟩,hw⟩:=hw
  rw [Ba6] at hw
  simp only [sz] at hd hb
  have hlen:=Akl l
  have hp:=hb.pot
  have hwd:∀ x ∈ l,sz x≤d∧gw x:=fun x hx=>⟨by have:=A94 hx;omega,hw x hx⟩
  have id':∀ (x:PC CSt) ,PR.bind (some (PR.mp CSt.tup x)) (fun r=>some (PR.ok (r.1,r.2.1,r.2.2.1,r.2.2.2.1,r.2.2.2.2.1,r.2.2.2.2.2)))=some (PR.mp CSt.tup x):=fun x=>by cases x <;> rfl
  have nP:∀ {m:List Tree},(∀ x ∈ m,x ∈ l)→∀ {s s'},nsC d ab s m=.ok s'→Post s s' (4 * szs m):=fun hm _ _ h=>Bhm (fun s x s' hx h=>Aml (hw x (hm x hx)) h) h
  show Ah1.g (CK.at k) k s.fs s.gl nm at_ pc s.sl s.cs s.lo s.lp ab k0 t n a l tg=some (PR.mp CSt.tup (Adm (d+1) ab s (.mk k0 t n a l) tg))
  unfold Ah1.g
  by_cases h31:k0=31
  ·obtain ⟨m,rfl,hm⟩:=Bf8 h31
   subst h31
   rw [neC (by decide),cond_false,eqC rfl,cond_true,hF nm at_ pc ab s t m a l hwd hm (hb.weak (by omega)),id']
   rfl
  unfold Adm
  by_cases h:k0=20
  ·rw [eqC h,if_pos h,cond_true,hL nm at_ pc ab s l hwd (hb.weak (by omega))]
   refine bindM fun s' hs'=>?_
   show (Aiq s'.lo (0:Int) ((s.lo.length:Nat):Int)).bind _=_
   rw [Bi9 (nP (fun _ h=>h) hs').pre]
   rfl
  rw [neC h,if_neg h,cond_false,neC h31,if_neg h31,cond_false]
  simp only [Ba3]
  by_cases h:k0=21
  ·obtain ⟨m,rfl,hm⟩:=A7s (.inl h)
   rw [eqC h,if_pos h,cond_true,wiC _ (by omega) (by omega)]
   refine Arp fun _ _=>Arp fun _ _=>?_
   have hsp:=A2y l m
   have hlt:=Akl (l.take m)
   rw [Ao5 m l.length (by omega) (by omega) hm (Nat.le_refl _),Aai,List.take_of_length_le (by rw [Afe];omega)]
   rw [hL nm at_ pc ab s _ (fun x hx=>hwd x (List.mem_of_mem_drop hx)) (hb.weak (by omega))]
   simp only [Int.toNat_natCast]
   refine bindM fun s' hs'=>?_
   have hq:=(nP (fun _ h=>List.mem_of_mem_drop h) hs').pot
   rw [Ao5 0 m (by omega) (by omega) (Nat.zero_le _) hm,Aai]
   simp only [List.drop_zero,Nat.sub_zero,CSt.tup]
   rw [Bry _ _ _ _ _ _ (by rw [List.length_take];omega) (by simp only [pot] at hp hq;omega) hk]
   exact Arp fun r hr=>rfl
  rw [neC h,if_neg h,cond_false]
  by_cases h:k0=22
  ·obtain ⟨m,rfl,hm⟩:=A7s (.inr h)
   rw [eqC h,if_pos h,cond_true,wiC _ (by omega) (by omega)]
   refine Arp fun _ _=>Arp fun _ _=>?_
   exact B6h hR nm at_ pc ab _ l [] s k (by simp only [Acg];omega) (by omega) hwd (hb.weak (by omega))
  rw [neC h,if_neg h,cond_false]
  by_cases h:k0=25
  ·have h2:=A1v h
   have k0:=Amh (l:=l) (i:=0) (by omega)
   have k1:=Amh (l:=l) (i:=1) (by omega)
   have e1:=Az8 (l:=l) (i:=1) (by omega)
   have e2:szs (l.take 1)=sz (Adu l 0):=by
    have:=Az8 (l:=l) (i:=0) (by omega)
    have:=A2y l 1
    simp only [List.take_zero,szs,Nat.zero_add] at *
    omega
   rw [eqC h,if_pos h,cond_true,A7u 0 (by omega) (by omega),Aai,hR nm at_ pc ab s (Adu l 0) false (hwd _ k0.2).1 (hwd _ k0.2).2 (hb.weak (by omega))]
   refine bindM fun s' hs'=>?_
   have hb':BdC s' ab (sz (Adu l 1)+0+1):=(hb.weak (m:=sz (Adu l 0)+(sz (Adu l 1)+0+1)) (by omega)).step (Aml (hwd _ k0.2).2 hs')
   rw [A7u 1 (by omega) (by omega),Aai]
   have:=hP nm at_ pc ab s' 25 t n a l [] (Adu l 1) 0 (.inl rfl) (hwd _ k1.2).1 (hwd _ k1.2).2 hb'
   simp only [CSt.tup]
   rw [h]
   have this:=this
   simp only [Int.ofNat_zero,Int.natCast_zero] at this
   rw [this]
   exact id' _
  rw [neC h,if_neg h,cond_false]
  by_cases h:k0=26
  ·have h2:=A1w h
   have kl:=Amh (l:=l) (i:=l.length - 1) (by omega)
   have e1:=Az8 (l:=l) (i:=l.length - 1) (by omega)
   have e2:szs ((l.drop 1).take (l.length - 2))+szs (l.take 1)≤szs (l.take (l.length - 1)):=by
    have:=A2y (l.take (l.length - 1)) 1
    rw [List.drop_take,List.take_take,Nat.min_eq_left (by omega),show l.length - 1 - 1=l.length - 2 by omega] at this
    omega
   have e3:=Akl (l.take 1)
   rw [eqC h,if_pos h,cond_true,wiC _ (by omega) (by omega),Ao5 1 (l.length - 1) (by omega) (by omega) (by omega) (by omega),Aai,show l.length - 1 - 1=l.length - 2 by omega]
   rw [hL nm at_ pc ab s _ (fun x hx=>hwd x (List.mem_of_mem_drop (List.mem_of_mem_take hx))) (hb.weak (by omega))]
   refine bindM fun s' hs'=>?_
   have hb':=(hb.weak (m:=szs ((l.drop 1).take (l.length - 2))+(sz (Adu l (l.length - 1))+(l.take 1).length+1)) (by omega)).step (nP (fun x hx=>List.mem_of_mem_drop (List.mem_of_mem_take hx)) hs')
   rw [Ao5 0 1 (by omega) (by omega) (Nat.zero_le _) (by omega),Aai,A7u (l.length - 1) (by omega) (by omega),Aai]
   simp only [List.drop_zero,Nat.sub_zero,CSt.tup]
   have:=hP nm at_ pc ab s' k0 t n a l (l.take 1) (Adu l (l.length - 1)) 3 (.inr rfl) (hwd _ kl.2).1 (hwd _ kl.2).2 hb'
   have this:(CK.at k).Aow s'.fs s'.gl nm at_ pc s'.sl s'.cs s'.lo s'.lp ab k0 t n a l (l.take 1) (Adu l (l.length - 1)).kind (Adu l (l.length - 1)).text (Adu l (l.length - 1)).n (Adu l (l.length - 1)).at_ (Adu l (l.length - 1)).kids (3:Int)=_:=this
   rw [this]
   exact id' _
  rw [neC h,if_neg h,cond_false]
  by_cases h:k0=27
  ·obtain ⟨m,rfl,hm⟩:=A1x h
   have kl:=Amh (l:=l) (i:=l.length - 1) (by omega)
   have e1:=Az8 (l:=l) (i:=l.length - 1) (by omega)
   have e2:szs ((l.drop m).take (l.length - 1 - m))+szs (l.take m)≤szs (l.take (l.length - 1)):=by
    have:=A2y (l.take (l.length - 1)) m
    rw [List.drop_take,List.take_take,Nat.min_eq_left (by omega)] at this
    omega
   have e3:=Akl (l.take m)
   rw [eqC h,if_pos h,cond_true,wiC ((l.length:Int) - 1) (by omega) (by omega),wiC _ (by omega) (by omega)]
   refine Arp fun _ _=>Arp fun _ _=>?_
   rw [Ao5 m (l.length - 1) (by omega) (by omega) (by omega) (by omega),Aai]
   rw [hL nm at_ pc ab s _ (fun x hx=>hwd x (List.mem_of_mem_drop (List.mem_of_mem_take hx))) (hb.weak (by omega))]
   simp only [Int.toNat_natCast]
   refine bindM fun s' hs'=>?_
   have hb':=(hb.weak (m:=szs ((l.drop m).take (l.length - 1 - m))+(sz (Adu l (l.length - 1))+(l.take m).length+1)) (by omega)).step (nP (fun x hx=>List.mem_of_mem_drop (List.mem_of_mem_take hx)) hs')
   rw [Ao5 0 m (by omega) (by omega) (Nat.zero_le _) (by omega),Aai,A7u (l.length - 1) (by omega) (by omega),Aai]
   simp only [List.drop_zero,Nat.sub_zero,CSt.tup]
   have:=hP nm at_ pc ab s' k0 t m a l (l.take m) (Adu l (l.length - 1)) 3 (.inr rfl) (hwd _ kl.2).1 (hwd _ kl.2).2 hb'
   have this:(CK.at k).Aow s'.fs s'.gl nm at_ pc s'.sl s'.cs s'.lo s'.lp ab k0 t m a l (l.take m) (Adu l (l.length - 1)).kind (Adu l (l.length - 1)).text (Adu l (l.length - 1)).n (Adu l (l.length - 1)).at_ (Adu l (l.length - 1)).kids (3:Int)=_:=this
   rw [this]
   exact id' _
  rw [neC h,if_neg h,cond_false]
  by_cases h:k0=29
  ·rw [eqC h,if_pos h,cond_true]
   by_cases h0:s.lp=0
   ·rw [eqC h0,if_pos h0];rfl
   ·rw [neC h0,if_neg h0];rfl
  rw [neC h,if_neg h,cond_false,hX nm at_ pc ab s k0 t n a l tg hwd hs7 (hb.weak (by omega)),id']
theorem Bnm:∀ (d k:Nat),500003+3 * d≤k→RcN (CK.at k) d
 | 0,k,_=>fun nm at_ pc ab s t tg h=>by have:=Asu t;omega
 | d+1,k,hk=>by
  obtain ⟨k,rfl⟩:∃ m,k=m+3:=⟨k - 3,by omega⟩
  have h0:=Bnm d k (by omega)
  have h1:=Bnm d (k+1) (by omega)
  have h2:=Bnm d (k+2) (by omega)
  exact C7y (by omega) h2 (Chg (by omega) h1) (Csy (by omega) (Chg (by omega) h0)) (C7h (by omega) h1) (Ctj (by omega) h1)
mutual
def htT:Tree→Nat
 | .mk _ _ _ _ l=>A4d l+1
def A4d:List Tree→Nat
 | []=>0
 | x :: l=>max (htT x) (A4d l)
end
mutual
theorem C1h:∀ t:Tree,htT t≤sz t
 | .mk _ _ _ _ l=>by simp only [htT,sz];have:=Bv3 l;omega
theorem Bv3:∀ l:List Tree,A4d l≤szs l
 | []=>by simp [A4d,szs]
 | x :: l=>by simp only [A4d,szs];have:=C1h x;have:=Bv3 l;omega
end
theorem Cby (J:Int→Option Int) (R:H1):∀ (t pre:List Tree) (m a:Nat),pre.length+t.length≤10000000→t.length+1≤m →
  (∀ x ∈ t,R.Ajt x.kind x.text x.n x.at_ x.kids=some (htT x:Int))→Ajt.l0 m R (pre++t) J (a:Int) (pre.length:Int)=J ((max a (A4d t):Nat):Int)
 | [],pre,m,a,hl,hm,_=>by
  obtain ⟨m,rfl⟩:∃ m',m=m'+1:=⟨m - 1,by omega⟩
  simp only [Ajt.l0]
  rw [ltF (by simp)]
  simp [A4d]
 | x :: t,pre,m,a,hl,hm,hR=>by
  obtain ⟨m,rfl⟩:∃ m',m=m'+1:=⟨m - 1,by omega⟩
  simp only [Aa4] at hl hm
  have ih:=Cby J R t (pre++[x]) m (max a (htT x)) (by simp;omega) (by omega) (fun y hy=>hR y (Ahb _ hy))
  simp only [Ajt.l0]
  rw [ltT (by simp;omega),Ah5]
  simp only [cond_true,Aai]
  rw [hR x (Af5 ..)]
  simp only [Aai]
  rw [wiC _ (by omega) (by omega)]
  rw [Aep,Abj] at ih
  have e1:(if (htT x:Int) > (a:Int) then (htT x:Int) else (a:Int))=((max a (htT x):Nat):Int):=by split <;> omega
  rw [e1]
  refine ih.trans (congrArg J ?_)
  simp only [A4d]
  omega
theorem Cbx:∀ (k:Nat) (t:Tree),sz t≤k→sz t≤1000000→Ajt.g (H1.at k) k t.kind t.text t.n t.at_ t.kids=some (htT t:Int)
 | 0,t,h,_=>by have:=Asu t;omega
 | k+1,.mk kd tx n a l,h,h9=>by
  simp only [sz] at h h9
  have hl:=Akl l
  have hh:=Bv3 l
  unfold Ajt.g Adj
  have:=Cby (fun x2=>some (IntKind.i64.wrap (x2+(1:Int)))) (H1.at (k+1)) l [] (k+1) 0 (by simp only [Acg];omega) (by omega) fun x hx=>by
   have:=A94 hx
   exact Cbx k x (by omega) (by omega)
  refine this.trans ?_
  rw [wiC _ (by omega) (by omega)]
  simp [htT]
def st0:CSt:=⟨[(⟨#[]⟩,0,0,0,[])],[],0,[],[],0⟩
def A5a (d:Nat) (n:Tree):PC CSt:=if htT n > 100 then .bad (6,n.at_) else Adm d [] st0 n false
abbrev Rep:=List Arj×List ByteArray×Int×Int
def Boy (a:Int):PC CSt→Rep
 | .bad e=>([],[],e.1,e.2)
 | .ok s=>((⟨#[]⟩,a,0,s.sl,s.cs) :: s.fs.tail,s.gl,0,0)
theorem C7x:∀ {d:Nat} {ab:List ByteArray} {s s':CSt} {t:Tree} {tg:Bool},Adm d ab s t tg=.ok s'→s.fs <+: s'.fs:=by
 intro d
 induction d with
 | zero=>intro ab s s' t tg h;unfold Adm at h;cases h
 | succ d ih =>
  have hN:∀ {m:List Tree} {ab s s'},Agg (fun s x=>Adm d ab s x false) s m=.ok s'→s.fs <+: s'.fs:=by
   intro m
   induction m with
   | nil=>intro ab s s' h;cases h;exact List.prefix_refl _
   | cons x m ihm =>
    intro ab s s' h
    unfold Agg at h
    obtain ⟨s1,h1,h⟩:=Acf h
    exact (ih h1).trans (ihm h)
  have hA:∀ {m:List Tree} {n i ab s s'},Aos (fun s x b=>Adm d ab s x b) n i s m=.ok s'→s.fs <+: s'.fs:=by
   intro m
   induction m with
   | nil=>intro n i ab s s' h;cases h;exact List.prefix_refl _
   | cons x m ihm =>
    intro n i ab s s' h
    unfold Aos at h
    obtain ⟨s1,h1,h⟩:=Acf h
    exact (ih h1).trans (ihm h)
  have hP:∀ {a:Int} {names:List Tree} {b:Tree} {more:Nat} {ab s s'},Apy (fun s x=>Adm d ab s x false) a s names b more=.ok s'→s.fs <+: s'.fs:=by
   intro a names b more ab s s' h
   unfold Apy at h
   obtain ⟨r,_,h⟩:=Acf h
   obtain ⟨s1,h1,h⟩:=Acf h
   cases h
   have h2:=ih (show Adm d ab _ b false=_ from h1)
   exact h2
  intro ab s s' t tg h
  cases t with
  | mk k t n a l =>
   unfold Adm at h
   split at h
   ·obtain ⟨s1,h1,h⟩:=Acf h;cases h;have h2:=hN h1;exact h2
   split at h
   ·obtain ⟨_,_,h⟩:=Acf h
    split at h
    ·cases h
    obtain ⟨_,_,h⟩:=Acf h
    obtain ⟨r,_,h⟩:=Acf h
    obtain ⟨s1,h1,h⟩:=Acf h
    cases h
    exact (ih h1).trans (List.prefix_append _ _)
   split at h
   ·obtain ⟨_,_,h⟩:=Acf h
    obtain ⟨_,_,h⟩:=Acf h
    obtain ⟨s1,h1,h⟩:=Acf h
    obtain ⟨r,_,h⟩:=Acf h
    cases h;have h2:=hN h1;exact h2
   split at h
   ·obtain ⟨_,_,h⟩:=Acf h
    obtain ⟨_,_,h⟩:=Acf h
    exact hA h
   split at h
   ·obtain ⟨s1,h1,h⟩:=Acf h;exact (ih h1).trans (hP h)
   split at h
   ·obtain ⟨s1,h1,h⟩:=Acf h;exact (hN h1).trans (hP h)
   split at h
   ·obtain ⟨_,_,h⟩:=Acf h
    obtain ⟨_,_,h⟩:=Acf h
    obtain ⟨s1,h1,h⟩:=Acf h;exact (hN h1).trans (hP h)
   split at h
   ·split at h
    ·cases h
    ·cases h;exact List.prefix_refl _
   ·unfold Ali at h
    (repeat' split at h) <;> first
     | (cases h;done)
     | (cases h;exact List.prefix_refl _)
     | exact hN h
     | (obtain ⟨_,_,h⟩:=Acf h;have h2:=hN (show Agg (fun s x=>Adm d ab s x false) _ l=_ from h);exact h2)
theorem B3a {n:Tree} (h:wfC n):gw n∧n.kind=20:=by
 cases n with
 | mk k t n a l =>
  obtain ⟨h1,h0,h2⟩:=h
  subst h1
  exact ⟨⟨⟨h0,nx rfl,nx rfl,nx rfl,nx rfl,nx rfl,nx rfl⟩,Ba6.2 fun x hx=>(h2 x hx).elim Azc B9a⟩,rfl⟩
theorem check_eq (k:Nat) (hk:900000≤k) (s:ByteArray):A01.f k s=some (match At9 s with | (kd,tx,n,a,l,c,p)=>if c≠0 then ([],[],c,p) else Boy a (A5a 100000 (.mk kd tx n a l))):=by
 unfold A01.f
 rw [Ciz k (by omega),Aai]
 rcases Dbo s with ⟨c,p,hc,he⟩ | ⟨n,he,hw,hz⟩
 ·rw [he]
  unfold A2o
  simp only
  rw [show (c != 0)=true by rw [bne_iff_ne];exact hc,cond_true,if_pos hc]
 ·rw [he]
  unfold Bae
  obtain ⟨hg,_⟩:=B3a hw
  simp only [bne_self_eq_false,cond_false,Adj,ne_eq,not_true_eq_false,if_false]
  have e:Tree.mk n.kind n.text n.n n.at_ n.kids=n:=by cases n;rfl
  rw [e,show Ajt.f k n.kind n.text n.n n.at_ n.kids=some (htT n:Int) from Cbx k n (by omega) (by omega)]
  simp only [Aai]
  unfold A5a
  by_cases hh:htT n > 100
  ·rw [decide_eq_true (by omega),if_pos hh]
   rfl
  ·rw [decide_eq_false (by omega),if_neg hh,cond_false]
   have hb:BdC st0 [] (sz n):=⟨by simp only [pot,st0,Aa4,Acg];omega,by simp,Int.le_refl _,by show (0:Int)+_≤_;omega⟩
   have hk':=Bnm 100000 (k+1) (by omega) ⟨#[]⟩ n.at_ 0 [] st0 n false (by omega) hg hb
   have hk':Ah1.f k [(⟨#[]⟩,0,0,0,[])] [] ⟨#[]⟩ n.at_ 0 0 [] [] 0 [] n.kind n.text n.n n.at_ n.kids false=_:=hk'
   rw [hk']
   cases hn:Adm 100000 [] st0 n false with
   | bad e=>rfl
   | ok s' =>
    obtain ⟨t,ht⟩:=C7x hn
    cases s' with
    | mk fs gl sl cs lo lp =>
     have ht:(⟨#[]⟩,0,0,0,[]) :: t=fs:=ht
     subst ht
     rfl
mutual
inductive IsE:Tree→Prop
 | atom {k n a:Int} {t:ByteArray}:1≤k→k≤6→IsE (.mk k t n a [])
 | index {n a:Int} {t:ByteArray} {x y:Tree}:IsE x→IsE y→IsE (.mk 7 t n a [x,y])
 | call {n a:Int} {t:ByteArray} {x:Tree} {l:List Tree}:IsE x→(∀ y ∈ l,IsE y)→IsE (.mk 8 t n a (x :: l))
 | paren {n a:Int} {t:ByteArray} {x:Tree}:IsE x→IsE (.mk 9 t n a [x])
 | unary {n a:Int} {t:ByteArray} {x:Tree}:IsE x→IsE (.mk 10 t n a [x])
 | binary {n a:Int} {t:ByteArray} {x y:Tree}:IsE x→IsE y→IsE (.mk 11 t n a [x,y])
 | table {n a:Int} {t:ByteArray} {l:List Tree}:(∀ y ∈ l,IsF y)→IsE (.mk 12 t n a l)
inductive IsF:Tree→Prop
 | item {n a:Int} {t:ByteArray} {x:Tree}:IsE x→IsF (.mk 13 t n a [x])
 | field {n a:Int} {t:ByteArray} {x y:Tree}:IsE x→IsE y→IsF (.mk 14 t n a [x,y])
end
mutual
inductive IsB:Tree→Prop
 | block {n a:Int} {t:ByteArray} {l:List Tree}:(∀ x ∈ l,IsS x)→IsB (.mk 20 t n a l)
inductive IsS:Tree→Prop
 | loc {a:Int} {t:ByteArray} {l m:List Tree}:l≠[]→(∀ x ∈ m,IsE x)→IsS (.mk 21 t (l.length:Nat) a (l++m))
 | asg {a:Int} {t:ByteArray} {l m:List Tree}:l≠[]→(∀ x ∈ l,IsE x∧(x.kind=6∨x.kind=7))→m≠[]→(∀ x ∈ m,IsE x)→IsS (.mk 22 t (l.length:Nat) a (l++m))
 | run {n a:Int} {t:ByteArray} {x:Tree}:IsE x→x.kind=8→IsS (.mk 23 t n a [x])
 | if_ {n a:Int} {t:ByteArray} {l:List Tree}:IsR l→IsS (.mk 24 t n a l)
 | while_ {n a:Int} {t:ByteArray} {x b:Tree}:IsE x→IsB b→IsS (.mk 25 t n a [x,b])
 | for_ {n a:Int} {t:ByteArray} {x b:Tree} {l:List Tree}:l.length=2∨l.length=3→(∀ y ∈ l,IsE y)→IsB b→IsS (.mk 26 t n a (x :: l++[b]))
 | forIn {a:Int} {t:ByteArray} {b:Tree} {l m:List Tree}:l≠[]→m≠[]→(∀ y ∈ m,IsE y)→IsB b→IsS (.mk 27 t (l.length:Nat) a (l++m++[b]))
 | do_ {n a:Int} {t:ByteArray} {b:Tree}:IsB b→IsS (.mk 28 t n a [b])
 | break_ {n a:Int} {t:ByteArray}:IsS (.mk 29 t n a [])
 | ret {n a:Int} {t:ByteArray} {l:List Tree}:(∀ y ∈ l,IsE y)→IsS (.mk 30 t n a l)
/-- The branches of an if. -/
inductive IsR:List Tree→Prop
 | nil:IsR []
 | last {b:Tree}:IsB b→IsR [b]
 | more {e b:Tree} {l:List Tree}:IsE e→IsB b→IsR l→IsR (e :: b :: l)
end
inductive Au6:Tree→Prop
 | fn {a:Int} {t:ByteArray} {l:List Tree} {b:Tree}:IsB b→Au6 (.mk 31 t (l.length:Nat) a (l++[b]))
inductive IsC:Tree→Prop
 | chunk {n a:Int} {t:ByteArray} {l:List Tree}:(∀ x ∈ l,IsS x∨Au6 x)→IsC (.mk 20 t n a l)
abbrev Aj0 (l:List Tree):Prop:=∀ x ∈ l,IsE x
theorem Bxs {l:List Tree} {x:Tree} (h:Aj0 l) (hx:IsE x):Aj0 (l++[x]):=fun y hy=>by
 rcases Agb.1 hy with hy | hy
 ·exact h y hy
 ·obtain rfl:=Ag1.1 hy;exact hx
theorem le_nil:Aj0 []:=fun _ h=>nomatch h
structure XE (f:Nat):Prop where
 exp:∀ least ts,R (Aie f least ts) fun n _=>IsE n
 loop:∀ least n ts,IsE n→R (Anh f least n ts) fun n _=>IsE n
 operand:∀ ts,R (Amq f ts) fun n _=>IsE n
 fields:∀ acc ts,(∀ x ∈ acc,IsF x)→R (Amo f acc ts) fun l _=>∀ x ∈ l,IsF x
 field:∀ ts,R (Anx f ts) fun n _=>IsF n
 Akv:∀ ts,R (Alq f ts) fun n _=>IsE n
 Aiv:∀ at_ n ts,IsE n→R (Alp f at_ n ts) fun n _=>IsE n
 Ahv:∀ ts,R (Alm f ts) fun l _=>Aj0 l∧l≠[]
 Aph:∀ acc ts,Aj0 acc→acc≠[]→R (Anb f acc ts) fun l _=>Aj0 l∧l≠[]
theorem Bj9 (ts:List Tk):R (Atn 6 ts) fun n _=>IsE n∧n.kind=6:=R.ite (fun _=>R.ok ⟨.atom (by decide) (by decide),rfl⟩) fun _=>R.bad
theorem Dgi (ts:List Tk):R (Atn 5 ts) fun n _=>IsE n:=R.ite (fun _=>R.ok (.atom (by decide) (by decide))) fun _=>R.bad
theorem As4 (w:ByteArray) (ts:List Tk):R (Aoe w ts) fun _ _=>True:=R.ite (fun _=>R.ok trivial) fun _=>R.bad
theorem B3l:∀ (f:Nat) (acc:List Tree) (ts:List Tk),acc≠[]→R (Apm f acc ts) fun l _=>l≠[]
 | 0,_,_,_=>R.none
 | f+1,acc,ts,h=>by
  unfold Apm
  exact R.ite (fun _=>R.bind (Bj9 ts.tail) fun n r _=>B3l f _ r (by simp)) fun _=>R.ok h
theorem Cmw (f:Nat) (ts:List Tk):R (A2r f ts) fun l _=>l≠[]:=R.bind (Bj9 ts) fun n r _=>B3l f _ r (by simp)
theorem xE:∀ f,XE f
 | 0=>by constructor <;> intros <;> (first | rw [Aie] | rw [Anh] | rw [Amq] | rw [Amo] | rw [Anx] | rw [Alq] | rw [Alp] | rw [Alm] | rw [Anb]) <;> exact R.none
 | f+1=>by
  have ih:=xE f
  constructor
  ·intro least ts;unfold Aie
   exact R.bind (ih.operand ts) fun n r hn=>ih.loop _ _ _ hn
  ·intro least n ts hw;unfold Anh
   refine R.ite (fun _=>R.ok hw) fun _=>R.bind (ih.exp _ _) fun m r hm=>ih.loop _ _ _ (.binary hw hm)
  ·intro ts;unfold Amq
   refine R.ite (fun _=>R.ok (.atom (by decide) (by decide))) fun _=>?_
   refine R.ite (fun _=>R.ok (.atom (by decide) (by decide))) fun _=>?_
   refine R.ite (fun _=>R.ok (.atom (by decide) (by decide))) fun _=>?_
   refine R.ite (fun _=>R.ok (.atom (by decide) (by decide))) fun _=>?_
   refine R.ite (fun _=>R.ok (.atom (by decide) (by decide))) fun _=>?_
   refine R.ite (fun _=>R.bind (ih.exp _ _) fun m r hm=>R.ok (.unary hm)) fun _=>?_
   refine R.ite (fun _=>R.bind (ih.fields _ _ (fun _ h=>nomatch h)) fun l r hl=>R.ok (.table hl)) fun _=>?_
   exact ih.Akv _
  ·intro acc ts ha;unfold Amo
   refine R.ite (fun _=>R.ok ha) fun _=>R.bind (ih.field ts) fun x r hx=>?_
   have hs:∀ y ∈ acc++[x],IsF y:=fun y hy=>by
    rcases Agb.1 hy with hy | hy
    ·exact ha y hy
    ·obtain rfl:=Ag1.1 hy;exact hx
   refine R.ite (fun _=>ih.fields _ _ hs) fun _=>R.ite (fun _=>ih.fields _ _ hs) fun _=>?_
   exact R.bind (As4 _ _) fun _ s hr=>R.ok hs
  ·intro ts;unfold Anx
   refine R.ite (fun _=>?_) fun _=>R.ite (fun _=>?_) fun _=>?_
   ·exact R.bind (ih.exp _ _) fun k r hk=>R.bind (As4 _ _) fun _ r hr=>R.bind (As4 _ _) fun _ r hr=>R.bind (ih.exp _ _) fun v r hv=>R.ok (.field hk hv)
   ·exact R.bind (ih.exp _ _) fun v r hv=>R.ok (.field (.atom (by decide) (by decide)) hv)
   ·exact R.bind (ih.exp _ _) fun v r hv=>R.ok (.item hv)
  ·intro ts;unfold Alq
   refine R.ite (fun _=>?_) fun _=>?_
   ·exact R.bind (ih.exp _ _) fun e r he=>R.bind (As4 _ _) fun _ r hr=>ih.Aiv _ _ _ (.paren he)
   ·exact R.bind (Bj9 _) fun n r hn=>ih.Aiv _ _ _ hn.1
  ·intro at_ n ts hw;unfold Alp
   refine R.ite (fun _=>?_) fun _=>R.ite (fun _=>?_) fun _=>R.ite (fun _=>?_) fun _=>R.ok hw
   ·exact R.bind (ih.exp _ _) fun e r he=>R.bind (As4 _ _) fun _ r hr=>ih.Aiv _ _ _ (.index hw he)
   ·exact R.bind (Dgi _) fun e r he=>ih.Aiv _ _ _ (.index hw he)
   ·exact R.bind (Q1:=fun l _=>Aj0 l) (R.ite (fun _=>R.ok le_nil) fun _=>R.weak (ih.Ahv _) fun l _ h=>h.1) fun l r hl=>R.bind (As4 _ _) fun _ r hr=>ih.Aiv _ _ _ (.call hw hl)
  ·intro ts;unfold Alm
   exact R.bind (ih.exp _ _) fun e r he=>ih.Aph _ _ (Bxs le_nil he) (by simp)
  ·intro acc ts ha hn;unfold Anb
   exact R.ite (fun _=>R.bind (ih.exp _ _) fun e r he=>ih.Aph _ _ (Bxs ha he) (by simp)) fun _=>R.ok ⟨ha,hn⟩
def Bbf (c:Bool) (x:Tree):Prop:=IsS x∨(c=true∧Au6 x)
theorem Bwj {c:Bool} {acc:List Tree} {x:Tree} (h:∀ y ∈ acc,Bbf c y) (hx:Bbf c x):∀ y ∈ acc++[x],Bbf c y:=fun y hy=>by
 rcases Agb.1 hy with hy | hy
 ·exact h y hy
 ·obtain rfl:=Ag1.1 hy;exact hx
theorem IsR.B6c:∀ {acc:List Tree} {e b:Tree},IsR acc→(∃ m,acc.length=2 * m)→IsE e→IsB b→IsR (acc++[e]++[b])∧(∃ m,(acc++[e]++[b]).length=2 * m)
 | [],e,b,_,_,he,hb=>⟨.more he hb .nil,1,rfl⟩
 | [_],e,b,_,⟨m,hm⟩,_,_=>by simp at hm;omega
 | x :: y :: l,e,b,h,⟨m,hm⟩,he,hb=>by
  cases h with
  | more h1 h2 h3 =>
   obtain ⟨h4,m',h5⟩:=IsR.B6c h3 ⟨m - 1,by simp at hm;omega⟩ he hb
   exact ⟨.more h1 h2 h4,m'+1,by simp at h5 ⊢;omega⟩
theorem IsR.app1:∀ {acc:List Tree} {b:Tree},IsR acc→(∃ m,acc.length=2 * m)→IsB b→IsR (acc++[b])
 | [],b,_,_,hb=>.last hb
 | [_],b,_,⟨m,hm⟩,_=>by simp at hm;omega
 | x :: y :: l,b,h,⟨m,hm⟩,hb=>by
  cases h with
  | more h1 h2 h3=>exact .more h1 h2 (IsR.app1 h3 ⟨m - 1,by simp at hm;omega⟩ hb)
structure XS (f:Nat):Prop where
 block:∀ c ts,R (Ald f c ts) fun n _=>∃ a l,n=.mk 20 noB 0 a l∧∀ x ∈ l,Bbf c x
 Akn:∀ c at_ acc ts,(∀ x ∈ acc,Bbf c x)→R (Alk f c at_ acc ts) fun n _=>∃ a l,n=.mk 20 noB 0 a l∧∀ x ∈ l,Bbf c x
 function:∀ ts,R (An1 f ts) fun n _=>Au6 n
 body:∀ ts,R (Alv f ts) fun n _=>IsB n
 stat:∀ ts,R (An4 f ts) fun n _=>IsS n
 branches:∀ acc ts,IsR acc→(∃ m,acc.length=2 * m)→R (Ana f acc ts) fun l _=>IsR l
 for_:∀ at_ ts,R (An0 f at_ ts) fun n _=>IsS n
 plain:∀ ts,R (An2 f ts) fun n _=>IsS n
 targets:∀ acc e ts,(∀ x ∈ acc,IsE x∧(x.kind=6∨x.kind=7))→IsE e→R (Anj f acc e ts) fun l _=>l≠[]∧∀ x ∈ l,IsE x∧(x.kind=6∨x.kind=7)
theorem xS:∀ f,XS f
 | 0=>by constructor <;> intros <;> (first | unfold Ald | unfold Alk | unfold An1 | unfold Alv | unfold An4 | unfold Ana | unfold An0 | unfold An2 | unfold Anj) <;> exact R.none
 | f+1=>by
  have ih:=xS f
  have ie:=xE f
  have blk:∀ ts,R (Ald f false ts) fun n _=>IsB n:=fun ts=>R.weak (ih.block false ts) fun n r ⟨a,l,e,hl⟩=>by
   rw [e];exact .block fun x hx=>(hl x hx).elim id fun h=>nomatch h.1
  constructor
  ·intro c ts;unfold Ald
   exact ih.Akn _ _ _ _ (fun _ hx=>nomatch hx)
  ·intro c at_ acc ts ha;unfold Alk
   refine R.ite (fun _=>ih.Akn _ _ _ _ ha) fun _=>R.ite (fun _=>?_) fun _=>R.ite (fun hc=>?_) fun _=>R.ite (fun _=>R.ok ⟨_,_,rfl,ha⟩) fun _=>?_
   ·exact R.bind (Q1:=fun l _=>Aj0 l) (R.ite (fun _=>R.ok le_nil) fun _=>R.weak (ie.Ahv _) fun l _ h=>h.1) fun l r hl=>R.ok ⟨_,_,rfl,Bwj ha (.inl (.ret hl))⟩
   ·have hc':c=true:=by simp only [Bool.and_eq_true] at hc;exact hc.1
    exact R.bind (ih.function ts) fun x r hx=>ih.Akn _ _ _ _ (Bwj ha (.inr ⟨hc',hx⟩))
   ·exact R.bind (ih.stat ts) fun x r hx=>ih.Akn _ _ _ _ (Bwj ha (.inl hx))
  ·intro ts;unfold An1
   exact R.bind (Bj9 _) fun nm r hn=>R.bind (As4 _ _) fun _ r hr=>R.bind (Q1:=fun _ _=>True) (R.ite (fun _=>R.ok trivial) fun _=>R.weak (Cmw f _) fun _ _ _=>trivial) fun ps r hp=>R.bind (As4 _ _) fun _ r hr=>R.bind (blk _) fun b r hb=>R.bind (As4 _ _) fun _ r hr=>R.ok (.fn hb)
  ·intro ts;unfold Alv
   exact R.bind (As4 _ _) fun _ r hr=>R.bind (blk _) fun b r hb=>R.bind (As4 _ _) fun _ r hr=>R.ok hb
  ·intro ts;unfold An4
   refine R.ite (fun _=>?_) fun _=>R.ite (fun _=>?_) fun _=>R.ite (fun _=>?_) fun _=>R.ite (fun _=>ih.for_ _ _) fun _=>R.ite (fun _=>?_) fun _=>R.ite (fun _=>R.ok .break_) fun _=>ih.plain _
   ·exact R.bind (ih.body ts) fun b r hb=>R.ok (.do_ hb)
   ·exact R.bind (ie.exp _ _) fun e r he=>R.bind (ih.body _) fun b r hb=>R.ok (.while_ he hb)
   ·exact R.bind (ih.branches _ _ .nil ⟨0,rfl⟩) fun l r hl=>R.ok (.if_ hl)
   ·exact R.bind (Cmw f _) fun l r hl=>R.bind (Q1:=fun l _=>Aj0 l) (R.ite (fun _=>R.weak (ie.Ahv _) fun l _ h=>h.1) fun _=>R.ok le_nil) fun es r he=>R.ok (.loc hl he)
  ·intro acc ts ha hm;unfold Ana
   refine R.bind (ie.exp _ _) fun e r he=>R.bind (As4 _ _) fun _ r hr=>R.bind (blk _) fun b r hb=>?_
   obtain ⟨h2,h3⟩:=IsR.B6c ha hm he hb
   refine R.ite (fun _=>ih.branches _ _ h2 h3) fun _=>R.ite (fun _=>?_) fun _=>?_
   ·exact R.bind (blk _) fun c r hc=>R.bind (As4 _ _) fun _ r hr=>R.ok (IsR.app1 h2 h3 hc)
   ·exact R.bind (As4 _ _) fun _ r hr=>R.ok h2
  ·intro at_ ts;unfold An0
   refine R.bind (Bj9 _) fun n r hn=>R.ite (fun _=>?_) fun _=>?_
   ·refine R.bind (ie.exp _ _) fun a r ha=>R.bind (As4 _ _) fun _ r hr=>R.bind (ie.exp _ _) fun b r hb=>R.bind (Q1:=fun l _=>Aj0 l∧l.length≤1) (R.ite (fun _=>R.bind (ie.exp _ _) fun c r hc=>R.ok ⟨Bxs le_nil hc,Nat.le_refl _⟩) fun _=>R.ok ⟨le_nil,Nat.zero_le _⟩) fun cs r hcs=>R.bind (ih.body _) fun bd r hbd=>R.ok ?_
    have hl:Aj0 ([a]++[b]++cs):=fun y hy=>by
     simp only [Agb,Ag1] at hy
     rcases hy with (rfl | rfl) | hy
     ·exact ha
     ·exact hb
     ·exact hcs.1 y hy
    exact IsS.for_ (x:=n) (l:=[a]++[b]++cs) (by have:=hcs.2;simp only [Abj,Aa4,Acg];omega) hl hbd
   ·exact R.bind (B3l f _ _ (by simp)) fun l r hl=>R.bind (As4 _ _) fun _ r hr=>R.bind (ie.Ahv _) fun es r he=>R.bind (ih.body _) fun bd r hbd=>R.ok (.forIn hl he.2 he.1 hbd)
  ·intro ts;unfold An2
   refine R.bind (ie.Akv ts) fun e r he=>R.ite (fun _=>?_) fun _=>R.ite (fun hk=>R.ok (.run he hk)) fun _=>R.bad
   exact R.bind (ih.targets _ _ _ (fun _ h=>nomatch h) he) fun l r hl=>R.bind (As4 _ _) fun _ r hr=>R.bind (ie.Ahv _) fun es r hes=>R.ok (.asg hl.1 hl.2 hes.2 hes.1)
  ·intro acc e ts ha hw;unfold Anj
   refine R.ite (fun hk=>?_) fun _=>R.bad
   have h2:∀ x ∈ acc++[e],IsE x∧(x.kind=6∨x.kind=7):=fun y hy=>by
    rcases Agb.1 hy with hy | hy
    ·exact ha y hy
    ·obtain rfl:=Ag1.1 hy;exact ⟨hw,hk⟩
   exact R.ite (fun _=>R.bind (ie.Akv _) fun e' r he=>ih.targets _ _ _ h2 he) fun _=>R.ok ⟨by simp,h2⟩
theorem De7 {ts:List Tk} {n:Tree} {r:List Tk} (h:Aqj true ts=.ok n r):IsC n:=by
 obtain ⟨a,l,rfl,hl⟩:=(xS (fu _)).block true ts n r (val_ok h)
 exact .chunk fun x hx=>(hl x hx).elim .inl fun h=>.inr h.2
end
section
open Go Go.RowKit
section
variable {A:World} {ds:List Deferred} {n0:Nat} {env env':Env} {l l' X:List Aaa} {q:Act→World→Prop} {P:Program} {Q:Exit→Act→World→Prop} {ops:Array Oper} {os rest:List Oper} {o:Oper}
theorem C4q {E T TS U:TypeId} {b n m:Nat} {cs news:List Value} {h:Aaa} {y:Value} {s x:Operand} (ho:o.op=.call { callee:=.builtin .copy,args:=#[s,x],argTypes:=#[TS,U] })
  (hT:P.underlying TS=some (.slice E)) (hsz:(P.info? E).map (·.size)=some 1) (hg:Afh ops env o=some true) (hd:inB n0 o.dst=true) (hs:Aeb env s=some (.slice (some ⟨b,0,none⟩) n n)) (hx:Aeb env x=some y)
  (hR:Rd 1 h y m news) (hm:h ∈ l) (hmn:m≤n) (hcs:cs.length=n) (hone:∀ u ∈ news,u.oneCell'=true)
  (hk:K ds A n0 (Acz env o.dst (goInt m)) (blk b (.cells (news++cs.drop m).toArray T (0,0)) :: l) (wpList P ops Q rest)):K ds A n0 env (blk b (.cells cs.toArray T (0,0)) :: l) (wpList P ops Q (o :: rest)):=by
 refine Ami hg fun a w ha hw=>?_
 have hsr:Src P 1 w y m news:=hR.src hw.sat (.tail _ hm)
 have hl:news.length=m:=by have:=hR.1;omega
 cases hif:P.info? E with
 | none=>rw [hif] at hsz;cases hsz
 | some i =>
  rw [hif] at hsz
  have hsize:i.size=1:=Aam hsz
  have hgc:w.heap[b]? = some (.cells cs.toArray T (0,0)):=hw.sat.1 b _ (by simp [blk])
  have hst:=run_storeCells_at P b 0 T news 0 cs.toArray w hgc (by simp;omega) hone
  simp only [Nat.add_zero,Nat.zero_add,List.take_zero,List.nil_append] at hst
  have hmin:Nat.min m n=m:=Nat.min_eq_left hmn
  have hr:(Builtin.copy_ #[TS,U] o.type #[.slice (some ⟨b,0,none⟩) n n,y]).run P w=.ok (goInt m) (w.setRow b (news++cs.drop m).toArray):=by
   have h1:=hsr.now
   rw [hl] at hst
   simp [Builtin.copy_,run_underlying hT,hsr.len,hmin,sizeOf,typeInfo,hif,hsize,h1]
   rw [hst]
   rfl
  unfold Oper.wp execOp
  simp only [ho,resolve,invoke,builtin,Sem.run_bind,Sem.run_pure,Result.andThen_ok,List.map_toArray,List.map_cons,List.map_nil,ha.eval hs,ha.eval hx,hr]
  exact hk _ _ (ha.Acz _ hd) (hw.setRow _)
def cp3 (l:List Int) (i:Nat):Int:=(l[i]?).getD 0
theorem C4u {E T TS U:TypeId} {b:Nat} {xs:List Int} {h:Aaa} {A':Option Addr} {c:Nat} {s x:Operand} (ho:o.op=.call { callee:=.builtin .copy,args:=#[s,x],argTypes:=#[TS,U] })
  (hT:P.underlying TS=some (.slice E)) (hsz:(P.info? E).map (·.size)=some 1) (hg:Afh ops env o=some true) (hd:inB n0 o.dst=true) (hs:Aeb env s=some (.slice (some ⟨b,0,none⟩) 3 3)) (hx:Aeb env x=some (.slice A' xs.length c))
  (hR:RdT (encI .i64) 1 h (.slice A' xs.length c) xs) (hm:h ∈ l) (hle:decide (xs.length≤3)=true)
  (hk:K ds A n0 (Acz env o.dst (.int .i64 ((xs.length:Nat):Int))) (blk b (.cells #[.int .i64 (cp3 xs 0),.int .i64 (cp3 xs 1),.int .i64 (cp3 xs 2)] T (0,0)) :: l) (wpList P ops Q rest)):K ds A n0 env (blk b (.cells #[.int .i64 0,.int .i64 0,.int .i64 0] T (0,0)) :: l) (wpList P ops Q (o :: rest)):=by
 have hle:=of_decide_eq_true hle
 refine C4q (n:=3) (m:=xs.length) (cs:=[.int .i64 0,.int .i64 0,.int .i64 0]) (news:=xs.flatMap (encI .i64)) ho hT hsz hg hd hs hx hR hm hle rfl hR.2.1 ?_
 have e:(xs.flatMap (encI .i64)++([.int .i64 0,.int .i64 0,.int .i64 0]:List Value).drop xs.length).toArray=#[.int .i64 (cp3 xs 0),.int .i64 (cp3 xs 1),.int .i64 (cp3 xs 2)]:=by
  match xs,hle with
  | [],_=>rfl
  | [_],_=>rfl
  | [_,_],_=>rfl
  | [_,_,_],_=>rfl
  | _ :: _ :: _ :: _ :: _,h=>simp at h
 rw [e]
 exact hk
end
def e48 (x:Int×Int×Int×Int):List Value:=[.int .i64 x.1,.int .i64 x.2.1,.int .i64 x.2.2.1,.int .i64 x.2.2.2]
theorem Aj5:Akx e48 4:=⟨fun _=>rfl,fun _=>rfl⟩
theorem Csu:An8 Tryz.prog 39 48 4 32 Tryz.t48 (.agg #[iv 0,iv 0,iv 0,iv 0]):=⟨by kernel_rfl,by kernel_rfl,by kernel_rfl,by kernel_rfl,by kernel_rfl,by kernel_rfl,by decide⟩
def Adi.f (_k:Nat) (Aax:TyA) (a1:Int) (a2:List Int):Option (Int×TyA):=cond (decide (a2.length≤3)) ((apd 32 Aax [(a1,cp3 a2 0,cp3 a2 1,cp3 a2 2)]).bind fun l4=>some (IntKind.i64.wrap (((l4.length:Nat):Int) - 1),l4)) none
theorem Adi.ok {k b0 Ac3 Anp:Nat} {Aax:TyA} {a1:Int} {a2:List Int} {Aay Aaz Aa0 Ah2 Ac5 Ajb Aa3 Ac7 Ada Amw Acn:Value} {Adk Au4:Aaa} {Ac2 Ano:TyO} {r:Int×TyA} (h:Adi.f k Aax a1 a2=some r) (Aeo:Aaf e48 48 4 Adk (slW Ac2 Aax Ac3) Aax) (A3o:RdT (encI .i64) 1 Au4 (slW Ano a2 Anp) a2): Ct Tryz.prog 30 #[pt b0,iv a1,slW Ano a2 Anp] [bk b0 #[Aay,Aaz,Aa0,Ah2,slW Ac2 Aax Ac3,Ac5,Ajb,Aa3,Ac7,Ada,Amw,Acn] 66,Adk] [Au4] (fun e l1=>∃ (H0_:Aaa) (A0_:TyO) (c0_:Nat),Aaf e48 48 4 H0_ (slW A0_ r.2 c0_) r.2∧e=.returned (iv r.1)∧l1=[bk b0 #[Aay,Aaz,Aa0,Ah2,slW A0_ r.2 c0_,Ac5,Ajb,Aa3,Ac7,Ada,Amw,Acn] 66,H0_]):=by
 refine Afi (args:=[pt b0,iv a1,slW Ano a2 Anp]) Tryz.func30 rfl (Ac0 rfl) ?_
 intro A X hh_
 obtain ⟨A1h,_⟩:=hh_
 unfold Adi.f at h
 refine K.eq (env':=[(0,pt b0),(1,iv a1),(2,slW Ano a2 Anp)]) (l':=bk b0 #[Aay,Aaz,Aa0,Ah2,slW Ac2 Aax Ac3,Ac5,Ajb,Aa3,Ac7,Ada,Amw,Acn] 66 :: Adk :: X) rfl rfl (ksr (kx 1 (Abz (knp #[iv 0,iv 0,iv 0] 113 fun b1=>(Abz (kx 2 ?_))))))
 obtain ⟨tq2,h⟩:=Avi h
 refine C4u (E:=3) (xs:=a2) rfl (by kernel_rfl) (by kernel_rfl) (by kernel_rfl) (by kernel_rfl) (by kernel_rfl) (by kernel_rfl) A3o (t2 A1h) tq2 (knt (Acx (Arz [(0,0),(1,0),(2,0),(3,0),(4,0),(5,3),(6,0),(7,0),(8,3),(9,0),(10,3),(11,0),(12,3),(13,0),(14,1)] [bk b1 #[iv (cp3 a2 0),iv (cp3 a2 1),iv (cp3 a2 2)] 113,bk b0 #[Aay,Aaz,Aa0,Ah2,slW Ac2 Aax Ac3,Ac5,Ajb,Aa3,Ac7,Ada,Amw,Acn] 66,Adk,Au4] (fun w h_=>⟨h_.sat.on _ (.head _),h_.sat.on _ (.tail _ (.head _)),h_.sat.on _ (.tail _ (.tail _ (.head _))),h_.sat.on _ (t3 A1h),trivial⟩) (kpx 5 (kpd 1 4 rfl (kpx 2 (kpd 0 0 rfl (kpx 1 (kpd 0 1 rfl (kpx 1 ?_))))))))))
 refine kpd 0 2 rfl (kpx 1 (kpt (ons #[iv a1,iv (cp3 a2 0),iv (cp3 a2 1),iv (cp3 a2 2)] 48 1 fun b3=>(A8f (fun w h_=>⟨h_.sat.on _ (.tail _ (.head _)),h_.sat.on _ (.tail _ (.tail _ (.head _))),h_.sat.on _ (.tail _ (.tail _ (.tail _ (.head _)))),h_.sat.on _ (t4 A1h),trivial⟩) (kpz (K.mv3 (bnd h fun l4 hl4 h=>(kap (ys:=[(a1,cp3 a2 0,cp3 a2 1,cp3 a2 2)]) Aj5 rfl Csu hl4 Aeo (A93 (n:=1) Aj5 [(a1,cp3 a2 0,cp3 a2 1,cp3 a2 2)] (by kernel_rfl) rfl (by decide) 1 rfl) fun h5 A6 k7 o8=>(K.mv1 (K.drop ?_))))))))))
 refine K.mv1 (K.drop (kx 3 (K.mv1 (kst 4 1 #[Aay,Aaz,Aa0,Ah2,slW A6 l4 k7,Ac5,Ajb,Aa3,Ac7,Ada,Amw,Acn] (Abz (kx 4 (kld 0 4 rfl (kx 3 (knt (Aem ?_))))))))))
 obtain rfl:=Aam h
 exact kdv (iv (IntKind.i64.wrap (((l4.length:Nat):Int) - 1))) [bk b0 #[Aay,Aaz,Aa0,Ah2,slW A6 l4 k7,Ac5,Ajb,Aa3,Ac7,Ada,Amw,Acn] 66,h5] (Adq ⟨h5,A6,k7,o8,rfl,rfl⟩)
def Akp.f (_k:Nat) (Aax:List (Int×Int×Int×Int)):Option (Int):=some (((Aax.length:Nat):Int))
theorem Akp.ok {k b0 Ac3:Nat} {Aax:TyA} {Aay Aaz Aa0 Ah2 Ac5 Ajb Aa3 Ac7 Ada Amw Acn:Value} {Adk:Aaa} {Ac2:TyO} {r:Int} (h:Akp.f k Aax=some r) (Aeo:RdT e48 4 Adk (slW Ac2 Aax Ac3) Aax): Ct Tryz.prog 76 #[pt b0] [bk b0 #[Aay,Aaz,Aa0,Ah2,slW Ac2 Aax Ac3,Ac5,Ajb,Aa3,Ac7,Ada,Amw,Acn] 66] [Adk] (fun e l1=>e=.returned (iv r)∧l1=[bk b0 #[Aay,Aaz,Aa0,Ah2,slW Ac2 Aax Ac3,Ac5,Ajb,Aa3,Ac7,Ada,Amw,Acn] 66]):=by
 refine Afi (args:=[pt b0]) Tryz.func76 rfl (Ac0 rfl) ?_
 intro A X hh_
 obtain ⟨Bfo,_⟩:=hh_
 unfold Akp.f at h
 refine K.eq (env':=[(0,pt b0)]) (l':=bk b0 #[Aay,Aaz,Aa0,Ah2,slW Ac2 Aax Ac3,Ac5,Ajb,Aa3,Ac7,Ada,Amw,Acn] 66 :: X) rfl rfl (ksr (kx 1 (Abz (kx 4 (kld 0 4 rfl (kx 2 (knt (Aem ?_))))))))
 obtain rfl:=Aam h
 exact kdn rfl
def Ap8.l0:Nat→(a1:List Tree)→(x1:Int)→(l2:List ByteArray)→Option (List ByteArray)
 | 0,_,_,_=>none
 | m7+1,a1,x1,l2=>cond (decide (x1 < ((a1.length:Nat):Int))) ((Ack a1 x1).bind fun x9=>(apd 16 l2 [x9.text]).bind fun l20=>Ap8.l0 m7 a1 (IntKind.i64.wrap (x1+1)) l20) (some (l2))
def Ap8.f (k:Nat) (Aal:List ByteArray) (a1:List Tree):Option (List ByteArray):=Ap8.l0 k a1 0 Aal
theorem Ap8.ok {k b0 Abp Ae6:Nat} {Aal r:TyC} {a1:List Tree} {Aay Aaz Aa0 Ah2 Akm Ac5 Ajb Aa3 Ac7 Ada Acn:Value} {Adz Ahz:Aaa} {Abn Ae2:TyO} (h:Ap8.f k Aal a1=some r) (Aek:Aaf encS 9 1 Adz (slW Abn Aal Abp) Aal) (Ajh:RdR (Abt 54) Ahz (slW Ae2 a1 Ae6) a1): Ct Tryz.prog 72 #[pt b0,slW Ae2 a1 Ae6] [bk b0 #[Aay,Aaz,Aa0,Ah2,Akm,Ac5,Ajb,Aa3,Ac7,Ada,slW Abn Aal Abp,Acn] 66,Adz] [Ahz] (fun e l1=>∃ (H0_:Aaa) (A0_:TyO) (c0_:Nat),Aaf encS 9 1 H0_ (slW A0_ r c0_) r∧e=.returned (.tuple #[])∧l1=[bk b0 #[Aay,Aaz,Aa0,Ah2,Akm,Ac5,Ajb,Aa3,Ac7,Ada,slW A0_ r c0_,Acn] 66,H0_]):=by
 refine Afi (args:=[pt b0,slW Ae2 a1 Ae6]) Tryz.func72 rfl (Ac0 rfl) ?_
 intro A X hh_
 obtain ⟨Ah4,_⟩:=hh_
 unfold Ap8.f at h
 refine K.eq (env':=[(0,pt b0),(1,slW Ae2 a1 Ae6)]) (l':=bk b0 #[Aay,Aaz,Aa0,Ah2,Akm,Ac5,Ajb,Aa3,Ac7,Ada,slW Abn Aal Abp,Acn] 66 :: Adz :: X) rfl rfl (ksr (kx 3 (knt (Aez (Akb (τ:=Int×TyC×Aaa×TyO×Nat) (fun t=>[(0,pt b0),(6,slW Ae2 a1 Ae6),(7,iv ((a1.length:Nat):Int)),(8,iv t.1)]) (fun t=>bk b0 #[Aay,Aaz,Aa0,Ah2,Akm,Ac5,Ajb,Aa3,Ac7,Ada,slW t.2.2.2.1 t.2.1 t.2.2.2.2,Acn] 66 :: t.2.2.1 :: X) (fun m t=>Ap8.l0 m a1 t.1 t.2.1=some r∧Aaf encS 9 1 t.2.2.1 (slW t.2.2.2.1 t.2.1 t.2.2.2.2) t.2.1) k (0,Aal,Adz,Abn,Abp) ⟨h,Aek⟩ sb rfl ?_)))))
 clear h
 rintro m7 ⟨x1,l2,h3,A4,k5⟩ ⟨h,o6⟩
 cases m7 with
 | zero=>simp [Ap8.l0] at h
 | succ m7 =>
  simp only [Ap8.l0] at h
  refine ksr (kx 1 (knt (Acx ?_)))
  refine kcn h (fun h=>?_) fun h=>?_
  ·refine Adl (Abi (Acx (Aez (ksr (bnd h fun x9 hx9 h=>(Ail (T:=54) (kd:=.i64) (R:=(Abt 54)) rfl hx9 Ajh fun p10 u13 q14 e11 y12=>?_))))))
   obtain ⟨A15,k16,rfl,o17⟩:=Aig 54 q14
   refine keN rfl e11 (t2 Ah4) (knp #[iv 0,sv noS,iv 0,iv 0,nS] 54 fun b18=>(kst 0 5 #[iv x9.kind,sv x9.text,iv x9.n,iv x9.at_,slW A15 x9.kids k16] (knt (kpr [(0,0),(1,0),(2,0),(3,0),(4,3),(5,0),(6,3),(7,1)] [0,1] (kpx 4 (kpd 1 10 rfl (kpx 1 (kpd 0 1 rfl (kpt (ons #[sv x9.text] 9 1 fun b19=>?_))))))))))
   refine kan [1,2] rfl (kpz (K.mv3 (bnd h fun l20 Cwt h=>(kap (ys:=[x9.text]) Arv rfl Bez Cwt o6 (A93 (n:=1) Arv [x9.text] (by kernel_rfl) rfl (by decide) 1 rfl) fun h21 A22 k23 o24=>(K.mv1 (K.drop (K.mv1 (K.drop (kx 2 (K.mv1 ?_))))))))))
   exact kst 10 1 #[Aay,Aaz,Aa0,Ah2,Akm,Ac5,Ajb,Aa3,Ac7,Ada,slW A22 l20 k23,Acn] (knl (Ade (Abi (Ab6 (kx 2 (knt (Ai4 m7 (IntKind.i64.wrap (x1+1),l20,h21,A22,k23) (Nat.lt_succ_self _) ⟨h,o24⟩ sb rfl)))))))
  ·refine Aj9 (Agh (Agh (Aka (Afg ?_))))
   obtain rfl:=Aam h
   exact kdv (.tuple #[]) [bk b0 #[Aay,Aaz,Aa0,Ah2,Akm,Ac5,Ajb,Aa3,Ac7,Ada,slW A4 l2 k5,Acn] 66,h3] (Adq ⟨h3,A4,k5,o6,rfl,rfl⟩)
def Azq.f (k:Nat) (Aal:TyC) (a1:List Tree):Option (Int×TyC):=(A5w 16 Aal (⟨#[]⟩:ByteArray) 3).bind fun l1=>(Ap8.f k l1 a1).bind fun r6=>some (IntKind.i64.wrap (((Aal.length:Nat):Int)+1),r6)
theorem Azq.ok {k b0 Abp Ae6:Nat} {Aal:TyC} {a1:List Tree} {Aay Aaz Aa0 Ah2 Akm Ac5 Ajb Aa3 Ac7 Ada Acn:Value} {Adz Ahz:Aaa} {Abn Ae2:TyO} {r:Int×TyC} (h:Azq.f k Aal a1=some r) (Aek:Aaf encS 9 1 Adz (slW Abn Aal Abp) Aal) (Ajh:RdR (Abt 54) Ahz (slW Ae2 a1 Ae6) a1): Ct Tryz.prog 81 #[pt b0,slW Ae2 a1 Ae6] [bk b0 #[Aay,Aaz,Aa0,Ah2,Akm,Ac5,Ajb,Aa3,Ac7,Ada,slW Abn Aal Abp,Acn] 66,Adz] [Ahz] (fun e l1=>∃ (H0_:Aaa) (A0_:TyO) (c0_:Nat),Aaf encS 9 1 H0_ (slW A0_ r.2 c0_) r.2∧e=.returned (iv r.1)∧l1=[bk b0 #[Aay,Aaz,Aa0,Ah2,Akm,Ac5,Ajb,Aa3,Ac7,Ada,slW A0_ r.2 c0_,Acn] 66,H0_]):=by
 refine Afi (args:=[pt b0,slW Ae2 a1 Ae6]) Tryz.func81 rfl (Ac0 rfl) ?_
 intro A X hh_
 obtain ⟨Ah4,_⟩:=hh_
 unfold Azq.f at h
 refine K.eq (env':=[(0,pt b0),(1,slW Ae2 a1 Ae6)]) (l':=bk b0 #[Aay,Aaz,Aa0,Ah2,Akm,Ac5,Ajb,Aa3,Ac7,Ada,slW Abn Aal Abp,Acn] 66 :: Adz :: X) rfl rfl (ksr (kx 1 (Abz (kx 3 (kld 0 10 rfl (kx 3 (Abz (kx 4 (kld 0 10 rfl (K.mv1 ?_))))))))))
 refine bnd h fun l1 hl1 h=>(C4m (kz:=.i64) (z0:=(⟨#[]⟩:ByteArray)) .i64 Arv (by kernel_rfl) rfl Bez (by kernel_rfl) (by kernel_rfl) (by kernel_rfl) (by kernel_rfl) (by kernel_rfl) hl1 Aek fun h2 A3 k4 o5=>(kx 2 (K.mv1 (kst 10 1 #[Aay,Aaz,Aa0,Ah2,Akm,Ac5,Ajb,Aa3,Ac7,Ada,slW A3 l1 k4,Acn] (Abz (kx 2 (K.mv1 (K.mv1 (bnd h fun r6 hr6 h=>(kcl (Ap8.ok hr6 o5 Ajh) rfl ⟨Ah4,trivial⟩ ?_))))))))))
 rintro _ _ ⟨h7,A8,k9,o10,rfl,rfl⟩
 refine Ach (Abz (kx 2 (knt (Aem ?_))))
 obtain rfl:=Aam h
 exact kdv (iv (IntKind.i64.wrap (((Aal.length:Nat):Int)+1))) [bk b0 #[Aay,Aaz,Aa0,Ah2,Akm,Ac5,Ajb,Aa3,Ac7,Ada,slW A8 r6 k9,Acn] 66,h7] (Adq ⟨h7,A8,k9,o10,rfl,rfl⟩)
def A1d.f (_k:Nat) (Aal:List ByteArray) (a1:Int):Option (List ByteArray):=(Aiq Aal 0 (IntKind.i64.wrap (a1 - 1))).bind fun l1=>some (l1)
theorem A1d.ok {k b0 Abp:Nat} {Aal r:TyC} {a1:Int} {Aay Aaz Aa0 Ah2 Akm Ac5 Ajb Aa3 Ac7 Ada Acn:Value} {Adz:Aaa} {Abn:TyO} (h:A1d.f k Aal a1=some r) (Aek:Aaf encS 9 1 Adz (slW Abn Aal Abp) Aal): Ct Tryz.prog 83 #[pt b0,iv a1] [bk b0 #[Aay,Aaz,Aa0,Ah2,Akm,Ac5,Ajb,Aa3,Ac7,Ada,slW Abn Aal Abp,Acn] 66,Adz] [] (fun e l1=>∃ (H0_:Aaa) (A0_:TyO) (c0_:Nat),Aaf encS 9 1 H0_ (slW A0_ r c0_) r∧e=.returned (.tuple #[])∧l1=[bk b0 #[Aay,Aaz,Aa0,Ah2,Akm,Ac5,Ajb,Aa3,Ac7,Ada,slW A0_ r c0_,Acn] 66,H0_]):=by
 refine Afi (args:=[pt b0,iv a1]) Tryz.func83 rfl (Ac0 rfl) ?_
 intro A X hh_
 unfold A1d.f at h
 refine K.eq (env':=[(0,pt b0),(1,iv a1)]) (l':=bk b0 #[Aay,Aaz,Aa0,Ah2,Akm,Ac5,Ajb,Aa3,Ac7,Ada,slW Abn Aal Abp,Acn] 66 :: Adz :: X) rfl rfl (Ab6 (kx 4 (kld 0 10 rfl (kx 2 (bnd h fun l1 hl1 h=>(Cfm (T:=9) (sz:=1) (k:=.i64) (xs:=Aal) (IntKind.i64.wrap (a1 - 1)) Arv rfl (by kernel_rfl) (by kernel_rfl) (by kernel_rfl) (by kernel_rfl) (by kernel_rfl) (by kernel_rfl) hl1 Aek fun o2=>(kx 2 (kst 10 1 #[Aay,Aaz,Aa0,Ah2,Akm,Ac5,Ajb,Aa3,Ac7,Ada,slW Abn l1 Abp,Acn] (knl (Afg ?_))))))))))
 obtain rfl:=Aam h
 exact kdv (.tuple #[]) [bk b0 #[Aay,Aaz,Aa0,Ah2,Akm,Ac5,Ajb,Aa3,Ac7,Ada,slW Abn l1 Abp,Acn] 66,Adz] (Adq ⟨Adz,Abn,Abp,o2,rfl,rfl⟩)
def Ax4.f (k:Nat) (Aah:List ByteArray) (a1:ByteArray):Option (Int):=(Akt.f k Aah a1).bind fun r1=>some (IntKind.i64.wrap (r1+1))
theorem Ax4.ok {k b0 Aa8:Nat} {Aah:TyC} {a1:ByteArray} {Aay Aaz Aa0 Ah2 Akm Ac5 Aa3 Ac7 Ada Amw Acn:Value} {Afk:Aaa} {Aa7:TyO} {r:Int} (h:Ax4.f k Aah a1=some r) (Aev:RdT encS 1 Afk (slW Aa7 Aah Aa8) Aah): Ct Tryz.prog 86 #[pt b0,sv a1] [bk b0 #[Aay,Aaz,Aa0,Ah2,Akm,Ac5,slW Aa7 Aah Aa8,Aa3,Ac7,Ada,Amw,Acn] 66] [Afk] (fun e l1=>e=.returned (iv r)∧l1=[bk b0 #[Aay,Aaz,Aa0,Ah2,Akm,Ac5,slW Aa7 Aah Aa8,Aa3,Ac7,Ada,Amw,Acn] 66]):=by
 refine Afi (args:=[pt b0,sv a1]) Tryz.func86 rfl (Ac0 rfl) ?_
 intro A X hh_
 obtain ⟨Af2,_⟩:=hh_
 unfold Ax4.f at h
 refine K.eq (env':=[(0,pt b0),(1,sv a1)]) (l':=bk b0 #[Aay,Aaz,Aa0,Ah2,Akm,Ac5,slW Aa7 Aah Aa8,Aa3,Ac7,Ada,Amw,Acn] 66 :: X) rfl rfl (ksr (kx 1 (Abz (kx 3 (kld 0 6 rfl (kx 1 (bnd h fun r1 hr1 h=>(kcv (Akt.ok hr1 Aev) ⟨(.tail _ Af2),trivial⟩ (kx 2 (knt ?_))))))))))
 refine Aem ?_
 obtain rfl:=Aam h
 exact kdn rfl
def Ax2.f (k:Nat) (Aae:TyB) (Aax:TyA) (Aan:Int) (Aar:Int) (Aao:ByteArray):Option TyA:=(Ao3.f k Aae Aan Aar Aao).bind fun r2=>(Adi.f k Aax 2 ([IntKind.i64.wrap (r2+1)])).bind fun r4=>some (r4.2)
theorem Ax2.ok {k b0 Abb Ac3:Nat} {Aae:TyB} {Aax r:TyA} {Aan Aar:Int} {Aao:ByteArray} {Aay Aaz Aa0 Ac5 Ajb Aa3 Ac7 Ada Amw Acn:Value} {Afz Adk:Aaa} {Aa9 Ac2:TyO} (h:Ax2.f k Aae Aax Aan Aar Aao=some r) (Afd:RdT e78 3 Afz (slW Aa9 Aae Abb) Aae) (Aeo:Aaf e48 48 4 Adk (slW Ac2 Aax Ac3) Aax): Ct Tryz.prog 109 #[pt b0,.agg #[iv Aan,iv Aar,sv Aao]] [bk b0 #[Aay,Aaz,Aa0,slW Aa9 Aae Abb,slW Ac2 Aax Ac3,Ac5,Ajb,Aa3,Ac7,Ada,Amw,Acn] 66,Adk] [Afz] (fun e l1=>∃ (H0_:Aaa) (A0_:TyO) (c0_:Nat),Aaf e48 48 4 H0_ (slW A0_ r c0_) r∧e=.returned (.tuple #[])∧l1=[bk b0 #[Aay,Aaz,Aa0,slW Aa9 Aae Abb,slW A0_ r c0_,Ac5,Ajb,Aa3,Ac7,Ada,Amw,Acn] 66,H0_]):=by
 refine Afi (args:=[pt b0,.agg #[iv Aan,iv Aar,sv Aao]]) Tryz.func109 rfl (Ac0 rfl) ?_
 intro A X hh_
 obtain ⟨Agn,_⟩:=hh_
 unfold Ax2.f at h
 refine K.eq (env':=[(0,pt b0),(1,.agg #[iv Aan,iv Aar,sv Aao])]) (l':=bk b0 #[Aay,Aaz,Aa0,slW Aa9 Aae Abb,slW Ac2 Aax Ac3,Ac5,Ajb,Aa3,Ac7,Ada,Amw,Acn] 66 :: Adk :: X) rfl rfl (ksr (knp #[iv Aan,iv Aar,sv Aao] 78 fun b1=>(knt (kpr [(0,0),(1,0),(2,0),(3,0),(4,0),(5,3),(6,3)] [0,1] (kpx 5 (kpd 1 3 rfl (kpa 0 0 3 rfl (kpz (bnd h fun r2 hr2 h=>(kcv (Ao3.ok hr2 Afd) ⟨(t3 Agn),trivial⟩ ?_))))))))))
 refine K.drop (kx 1 (kns #[iv (IntKind.i64.wrap (r2+1))] 3 1 fun b3=>(K.mv2 (K.mv2 (bnd h fun r4 hr4 h=>(kcl (Adi.ok hr4 Aeo (Aaf.rd (Aaf.blk 3 (Ai1 .i64) b3 [IntKind.i64.wrap (r2+1)] #[iv (IntKind.i64.wrap (r2+1))] 1 (by kernel_rfl) rfl (by decide)))) rfl ⟨(.head _),trivial⟩ ?_))))))
 rintro _ _ ⟨h5,A6,k7,o8,rfl,rfl⟩
 refine Ach (K.mv2 (K.drop (knl (Afg ?_))))
 obtain rfl:=Aam h
 exact kdv (.tuple #[]) [bk b0 #[Aay,Aaz,Aa0,slW Aa9 Aae Abb,slW A6 r4.2 k7,Ac5,Ajb,Aa3,Ac7,Ada,Amw,Acn] 66,h5] (Adq ⟨h5,A6,k7,o8,rfl,rfl⟩)
end
end Go.Proofs.YtkdjiehclahliaaGreatDoor
