/- Texts of mine for genBatches_card, part 5. -/
import Derived.Test.YtkdjiehclahliaaGreatDoorGbD
set_option linter.unusedSimpArgs false
set_option linter.unusedVariables false
set_option linter.unusedSectionVars false
namespace Go.Proofs.YtkdjiehclahliaaGreatDoor
set_option maxRecDepth 100000
section
open Go Go.RowKit
theorem Cpu:Am2 Tryz.prog 31 43 5 64 Tryz.t43 (.agg #[sv noS,iv 0,iv 0,iv 0,nS]):=⟨by kernel_rfl,by kernel_rfl,by kernel_rfl,by kernel_rfl,by kernel_rfl,by kernel_rfl,by decide⟩
structure CK where
 Ahi:TyF→TyC→ByteArray→Int→Int→Int→TyB→TyC→Int→TyC→Int→ByteArray→Int→Int→List Tree→Bool→Option (PR (TyF×TyC×Int×TyB×TyC×Int) (Int×Int))
 Ajl:TyF→TyC→ByteArray→Int→Int→Int→TyB→TyC→Int→TyC→List Tree→Option (PR (TyF×TyC×Int×TyB×TyC×Int) (Int×Int))
 Aqy:TyF→TyC→ByteArray→Int→Int→Int→TyB→TyC→Int→TyC→Int→ByteArray→Int→Int→List Tree→Bool→Option (PR (TyF×TyC×Int×TyB×TyC×Int) (Int×Int))
 Anl:TyF→TyC→ByteArray→Int→Int→Int→TyB→TyC→Int→TyC→Int→ByteArray→Int→Int→List Tree→List Tree→Int→ByteArray→Int→Int→List Tree→Int→Option (PR (TyF×TyC×Int×TyB×TyC×Int) (Int×Int))
 Aq3:TyF→TyC→ByteArray→Int→Int→Int→TyB→TyC→Int→TyC→Int→ByteArray→Int→Int→List Tree→Option (PR (TyF×TyC×Int×TyB×TyC×Int) (Int×Int))
def Ahi.C (fC:TyF→TyC→ByteArray→Int→Int→Int→TyB→TyC→Int→TyC→Int→ByteArray→Int→Int→List Tree→Bool→Option (PR (TyF×TyC×Int×TyB×TyC×Int) (Int×Int))):Prop:=∀ {Aac:TyF} {Aam Ac2 Abz:TyC} {Aci Abb:ByteArray} {Ack Acn Adl Adm Aas Aa3 Abk:Int} {Acp:TyB} {Aao:List Tree} {a2:Bool} {b0 Abf Afa Abq Aem Afi Ad4 Ab4:Nat} {Ac0 Afm Af4 Ags Akl Aev G:Aaa} {Abe Ae6 Ael Afh Ad2 Ab1:TyO} {r:PR (TyF×TyC×Int×TyB×TyC×Int) (Int×Int)} (h:fC Aac Aam Aci Ack Acn Adl Acp Ac2 Adm Abz Aas Abb Aa3 Abk Aao a2=some r) (Abm:Abp Alv 43 Ac0 (.slice Abe Aac.length Abf) Aac) (Ahg:Aan encS 9 1 Afm (.slice Ae6 Aam.length Afa) Aam) (Ahv:Aan e78 78 3 Af4 (.slice Ael Acp.length Aem) Acp) (Aip:Aan encS 9 1 Ags (.slice Afh Ac2.length Afi) Ac2) (Ai6:RdT encS 1 Akl (.slice Ad2 Abz.length Ad4) Abz) (Adf:RdR (Abx 54) Aev (.slice Ab1 Aao.length Ab4) Aao) (hG:GlP G),Ct Tryz.prog 21 #[pt b0,.agg #[iv Aas,sv Abb,iv Aa3,iv Abk,.slice Ab1 Aao.length Ab4],bv a2] [bk b0 #[.slice Abe Aac.length Abf,.slice Ae6 Aam.length Afa,pt Abq] 75,Ac0,Afm,bk Abq #[sv Aci,iv Ack,iv Acn,iv Adl,.slice Ael Acp.length Aem,.slice Afh Ac2.length Afi,iv Adm,.slice Ad2 Abz.length Ad4] 73,Af4,Ags] [Akl,Aev,G] (PR.Post Avi (fun (r:TyF×TyC×Int×TyB×TyC×Int) e l1=>∃ (H0_:Aaa) (A0_:TyO) (c0_:Nat) (H1_:Aaa) (A1_:TyO) (c1_:Nat) (H2_:Aaa) (A2_:TyO) (c2_:Nat) (H3_:Aaa) (A3_:TyO) (c3_:Nat),Abp Alv 43 H0_ (.slice A0_ r.1.length c0_) r.1∧Aan encS 9 1 H1_ (.slice A1_ r.2.1.length c1_) r.2.1∧Aan e78 78 3 H2_ (.slice A2_ r.2.2.2.1.length c2_) r.2.2.2.1∧Aan encS 9 1 H3_ (.slice A3_ r.2.2.2.2.1.length c3_) r.2.2.2.2.1∧e=.returned (.tuple #[])∧l1=[bk b0 #[.slice A0_ r.1.length c0_,.slice A1_ r.2.1.length c1_,pt Abq] 75,H0_,H1_,bk Abq #[sv Aci,iv Ack,iv Acn,iv r.2.2.1,.slice A2_ r.2.2.2.1.length c2_,.slice A3_ r.2.2.2.2.1.length c3_,iv r.2.2.2.2.2,.slice Ad2 Abz.length Ad4] 73,H2_,H3_]) r)
def Ajl.C (fC:TyF→TyC→ByteArray→Int→Int→Int→TyB→TyC→Int→TyC→List Tree→Option (PR (TyF×TyC×Int×TyB×TyC×Int) (Int×Int))):Prop:=∀ {Aac:TyF} {Aam Ac2 Abz:TyC} {Aci:ByteArray} {Ack Acn Adl Adm:Int} {Acp:TyB} {a1:List Tree} {b0 Abf Afa Abq Aem Afi Ad4 Afe:Nat} {Ac0 Afm Af4 Ags Akl Ail G:Aaa} {Abe Ae6 Ael Afh Ad2 Afc:TyO} {r:PR (TyF×TyC×Int×TyB×TyC×Int) (Int×Int)} (h:fC Aac Aam Aci Ack Acn Adl Acp Ac2 Adm Abz a1=some r) (Abm:Abp Alv 43 Ac0 (.slice Abe Aac.length Abf) Aac) (Ahg:Aan encS 9 1 Afm (.slice Ae6 Aam.length Afa) Aam) (Ahv:Aan e78 78 3 Af4 (.slice Ael Acp.length Aem) Acp) (Aip:Aan encS 9 1 Ags (.slice Afh Ac2.length Afi) Ac2) (Ai6:RdT encS 1 Akl (.slice Ad2 Abz.length Ad4) Abz) (Akm:RdR (Abx 54) Ail (.slice Afc a1.length Afe) a1) (hG:GlP G),Ct Tryz.prog 31 #[pt b0,.slice Afc a1.length Afe] [bk b0 #[.slice Abe Aac.length Abf,.slice Ae6 Aam.length Afa,pt Abq] 75,Ac0,Afm,bk Abq #[sv Aci,iv Ack,iv Acn,iv Adl,.slice Ael Acp.length Aem,.slice Afh Ac2.length Afi,iv Adm,.slice Ad2 Abz.length Ad4] 73,Af4,Ags] [Akl,Ail,G] (PR.Post Avi (fun (r:TyF×TyC×Int×TyB×TyC×Int) e l1=>∃ (H0_:Aaa) (A0_:TyO) (c0_:Nat) (H1_:Aaa) (A1_:TyO) (c1_:Nat) (H2_:Aaa) (A2_:TyO) (c2_:Nat) (H3_:Aaa) (A3_:TyO) (c3_:Nat),Abp Alv 43 H0_ (.slice A0_ r.1.length c0_) r.1∧Aan encS 9 1 H1_ (.slice A1_ r.2.1.length c1_) r.2.1∧Aan e78 78 3 H2_ (.slice A2_ r.2.2.2.1.length c2_) r.2.2.2.1∧Aan encS 9 1 H3_ (.slice A3_ r.2.2.2.2.1.length c3_) r.2.2.2.2.1∧e=.returned (.tuple #[])∧l1=[bk b0 #[.slice A0_ r.1.length c0_,.slice A1_ r.2.1.length c1_,pt Abq] 75,H0_,H1_,bk Abq #[sv Aci,iv Ack,iv Acn,iv r.2.2.1,.slice A2_ r.2.2.2.1.length c2_,.slice A3_ r.2.2.2.2.1.length c3_,iv r.2.2.2.2.2,.slice Ad2 Abz.length Ad4] 73,H2_,H3_]) r)
def Aqy.C (fC:TyF→TyC→ByteArray→Int→Int→Int→TyB→TyC→Int→TyC→Int→ByteArray→Int→Int→List Tree→Bool→Option (PR (TyF×TyC×Int×TyB×TyC×Int) (Int×Int))):Prop:=∀ {Aac:TyF} {Aam Ac2 Abz:TyC} {Aci Abb:ByteArray} {Ack Acn Adl Adm Aas Aa3 Abk:Int} {Acp:TyB} {Aao:List Tree} {a2:Bool} {b0 Abf Afa Abq Aem Afi Ad4 Ab4:Nat} {Ac0 Afm Af4 Ags Akl Aev G:Aaa} {Abe Ae6 Ael Afh Ad2 Ab1:TyO} {r:PR (TyF×TyC×Int×TyB×TyC×Int) (Int×Int)} (h:fC Aac Aam Aci Ack Acn Adl Acp Ac2 Adm Abz Aas Abb Aa3 Abk Aao a2=some r) (Abm:Abp Alv 43 Ac0 (.slice Abe Aac.length Abf) Aac) (Ahg:Aan encS 9 1 Afm (.slice Ae6 Aam.length Afa) Aam) (Ahv:Aan e78 78 3 Af4 (.slice Ael Acp.length Aem) Acp) (Aip:Aan encS 9 1 Ags (.slice Afh Ac2.length Afi) Ac2) (Ai6:RdT encS 1 Akl (.slice Ad2 Abz.length Ad4) Abz) (Adf:RdR (Abx 54) Aev (.slice Ab1 Aao.length Ab4) Aao) (hG:GlP G),Ct Tryz.prog 36 #[pt b0,.agg #[iv Aas,sv Abb,iv Aa3,iv Abk,.slice Ab1 Aao.length Ab4],bv a2] [bk b0 #[.slice Abe Aac.length Abf,.slice Ae6 Aam.length Afa,pt Abq] 75,Ac0,Afm,bk Abq #[sv Aci,iv Ack,iv Acn,iv Adl,.slice Ael Acp.length Aem,.slice Afh Ac2.length Afi,iv Adm,.slice Ad2 Abz.length Ad4] 73,Af4,Ags] [Akl,Aev,G] (PR.Post Avi (fun (r:TyF×TyC×Int×TyB×TyC×Int) e l1=>∃ (H0_:Aaa) (A0_:TyO) (c0_:Nat) (H1_:Aaa) (A1_:TyO) (c1_:Nat) (H2_:Aaa) (A2_:TyO) (c2_:Nat) (H3_:Aaa) (A3_:TyO) (c3_:Nat),Abp Alv 43 H0_ (.slice A0_ r.1.length c0_) r.1∧Aan encS 9 1 H1_ (.slice A1_ r.2.1.length c1_) r.2.1∧Aan e78 78 3 H2_ (.slice A2_ r.2.2.2.1.length c2_) r.2.2.2.1∧Aan encS 9 1 H3_ (.slice A3_ r.2.2.2.2.1.length c3_) r.2.2.2.2.1∧e=.returned (.tuple #[])∧l1=[bk b0 #[.slice A0_ r.1.length c0_,.slice A1_ r.2.1.length c1_,pt Abq] 75,H0_,H1_,bk Abq #[sv Aci,iv Ack,iv Acn,iv r.2.2.1,.slice A2_ r.2.2.2.1.length c2_,.slice A3_ r.2.2.2.2.1.length c3_,iv r.2.2.2.2.2,.slice Ad2 Abz.length Ad4] 73,H2_,H3_]) r)
def Anl.C (fC:TyF→TyC→ByteArray→Int→Int→Int→TyB→TyC→Int→TyC→Int→ByteArray→Int→Int→List Tree→List Tree→Int→ByteArray→Int→Int→List Tree→Int→Option (PR (TyF×TyC×Int×TyB×TyC×Int) (Int×Int))):Prop:=∀ {Aac:TyF} {Aam Ac2 Abz:TyC} {Aci Abb Azc:ByteArray} {Ack Acn Adl Adm Aas Aa3 Abk Aza Aze Azh a4:Int} {Acp:TyB} {Aao a2 Awi:List Tree} {b0 Abf Afa Abq Aem Afi Ad4 Ab4 Aml A4s:Nat} {Ac0 Afm Af4 Ags Akl Aev Aty Boy G:Aaa} {Abe Ae6 Ael Afh Ad2 Ab1 Ami A4c:TyO} {r:PR (TyF×TyC×Int×TyB×TyC×Int) (Int×Int)} (h:fC Aac Aam Aci Ack Acn Adl Acp Ac2 Adm Abz Aas Abb Aa3 Abk Aao a2 Aza Azc Aze Azh Awi a4=some r) (Abm:Abp Alv 43 Ac0 (.slice Abe Aac.length Abf) Aac) (Ahg:Aan encS 9 1 Afm (.slice Ae6 Aam.length Afa) Aam) (Ahv:Aan e78 78 3 Af4 (.slice Ael Acp.length Aem) Acp) (Aip:Aan encS 9 1 Ags (.slice Afh Ac2.length Afi) Ac2) (Ai6:RdT encS 1 Akl (.slice Ad2 Abz.length Ad4) Abz) (Adf:RdR (Abx 54) Aev (.slice Ab1 Aao.length Ab4) Aao) (A2f:RdR (Abx 54) Aty (.slice Ami a2.length Aml) a2) (B2w:RdR (Abx 54) Boy (.slice A4c Awi.length A4s) Awi) (hG:GlP G),Ct Tryz.prog 35 #[pt b0,.agg #[iv Aas,sv Abb,iv Aa3,iv Abk,.slice Ab1 Aao.length Ab4],.slice Ami a2.length Aml,.agg #[iv Aza,sv Azc,iv Aze,iv Azh,.slice A4c Awi.length A4s],iv a4] [bk b0 #[.slice Abe Aac.length Abf,.slice Ae6 Aam.length Afa,pt Abq] 75,Ac0,Afm,bk Abq #[sv Aci,iv Ack,iv Acn,iv Adl,.slice Ael Acp.length Aem,.slice Afh Ac2.length Afi,iv Adm,.slice Ad2 Abz.length Ad4] 73,Af4,Ags] [Akl,Aev,Aty,Boy,G] (PR.Post Avi (fun (r:TyF×TyC×Int×TyB×TyC×Int) e l1=>∃ (H0_:Aaa) (A0_:TyO) (c0_:Nat) (H1_:Aaa) (A1_:TyO) (c1_:Nat) (H2_:Aaa) (A2_:TyO) (c2_:Nat) (H3_:Aaa) (A3_:TyO) (c3_:Nat),Abp Alv 43 H0_ (.slice A0_ r.1.length c0_) r.1∧Aan encS 9 1 H1_ (.slice A1_ r.2.1.length c1_) r.2.1∧Aan e78 78 3 H2_ (.slice A2_ r.2.2.2.1.length c2_) r.2.2.2.1∧Aan encS 9 1 H3_ (.slice A3_ r.2.2.2.2.1.length c3_) r.2.2.2.2.1∧e=.returned (.tuple #[])∧l1=[bk b0 #[.slice A0_ r.1.length c0_,.slice A1_ r.2.1.length c1_,pt Abq] 75,H0_,H1_,bk Abq #[sv Aci,iv Ack,iv Acn,iv r.2.2.1,.slice A2_ r.2.2.2.1.length c2_,.slice A3_ r.2.2.2.2.1.length c3_,iv r.2.2.2.2.2,.slice Ad2 Abz.length Ad4] 73,H2_,H3_]) r)
def Aq3.C (fC:TyF→TyC→ByteArray→Int→Int→Int→TyB→TyC→Int→TyC→Int→ByteArray→Int→Int→List Tree→Option (PR (TyF×TyC×Int×TyB×TyC×Int) (Int×Int))):Prop:=∀ {Aac:TyF} {Aam Ac2 Abz:TyC} {Aci Abb:ByteArray} {Ack Acn Adl Adm Aas Aa3 Abk:Int} {Acp:TyB} {Aao:List Tree} {b0 Abf Afa Abq Aem Afi Ad4 Ab4:Nat} {Ac0 Afm Af4 Ags Akl Aev G:Aaa} {Abe Ae6 Ael Afh Ad2 Ab1:TyO} {r:PR (TyF×TyC×Int×TyB×TyC×Int) (Int×Int)} (h:fC Aac Aam Aci Ack Acn Adl Acp Ac2 Adm Abz Aas Abb Aa3 Abk Aao=some r) (Abm:Abp Alv 43 Ac0 (.slice Abe Aac.length Abf) Aac) (Ahg:Aan encS 9 1 Afm (.slice Ae6 Aam.length Afa) Aam) (Ahv:Aan e78 78 3 Af4 (.slice Ael Acp.length Aem) Acp) (Aip:Aan encS 9 1 Ags (.slice Afh Ac2.length Afi) Ac2) (Ai6:RdT encS 1 Akl (.slice Ad2 Abz.length Ad4) Abz) (Adf:RdR (Abx 54) Aev (.slice Ab1 Aao.length Ab4) Aao) (hG:GlP G),Ct Tryz.prog 32 #[pt b0,.agg #[iv Aas,sv Abb,iv Aa3,iv Abk,.slice Ab1 Aao.length Ab4]] [bk b0 #[.slice Abe Aac.length Abf,.slice Ae6 Aam.length Afa,pt Abq] 75,Ac0,Afm,bk Abq #[sv Aci,iv Ack,iv Acn,iv Adl,.slice Ael Acp.length Aem,.slice Afh Ac2.length Afi,iv Adm,.slice Ad2 Abz.length Ad4] 73,Af4,Ags] [Akl,Aev,G] (PR.Post Avi (fun (r:TyF×TyC×Int×TyB×TyC×Int) e l1=>∃ (H0_:Aaa) (A0_:TyO) (c0_:Nat) (H1_:Aaa) (A1_:TyO) (c1_:Nat) (H2_:Aaa) (A2_:TyO) (c2_:Nat) (H3_:Aaa) (A3_:TyO) (c3_:Nat),Abp Alv 43 H0_ (.slice A0_ r.1.length c0_) r.1∧Aan encS 9 1 H1_ (.slice A1_ r.2.1.length c1_) r.2.1∧Aan e78 78 3 H2_ (.slice A2_ r.2.2.2.1.length c2_) r.2.2.2.1∧Aan encS 9 1 H3_ (.slice A3_ r.2.2.2.2.1.length c3_) r.2.2.2.2.1∧e=.returned (.tuple #[])∧l1=[bk b0 #[.slice A0_ r.1.length c0_,.slice A1_ r.2.1.length c1_,pt Abq] 75,H0_,H1_,bk Abq #[sv Aci,iv Ack,iv Acn,iv r.2.2.1,.slice A2_ r.2.2.2.1.length c2_,.slice A3_ r.2.2.2.2.1.length c3_,iv r.2.2.2.2.2,.slice Ad2 Abz.length Ad4] 73,H2_,H3_]) r)
structure CK.Good (R:CK):Prop where
 Ahi:Ahi.C R.Ahi
 Ajl:Ajl.C R.Ajl
 Aqy:Aqy.C R.Aqy
 Anl:Anl.C R.Anl
 Aq3:Aq3.C R.Aq3
def Ahi.l0:Nat→(Rc:CK)→(Aci:ByteArray)→(Ack:Int)→(Acn:Int)→(Abz:TyC)→(Aa3:Int)→(Aao:List Tree)→(x84:Int)→(l85:TyF)→(l90:TyC)→(x95:Int)→(l96:TyB)→(Bf6:TyC)→(Bh8:Int)→Option (PR (TyF×TyC×Int×TyB×TyC×Int) (Int×Int))
 | 0,_,_,_,_,_,_,_,_,_,_,_,_,_,_=>none
 | Bge+1,Rc,Aci,Ack,Acn,Abz,Aa3,Aao,x84,l85,l90,x95,l96,Bf6,Bh8=>cond (decide (x84 < ((Aao.length:Nat):Int))) ((Acz Aao x84).bind fun x109=>PR.bind (Rc.Ahi l85 l90 Aci Ack Acn x95 l96 Bf6 Bh8 Abz x109.kind x109.text x109.n x109.at_ x109.kids (decide (x84 < Aa3))) fun Akb=>Ahi.l0 Bge Rc Aci Ack Acn Abz Aa3 Aao (IntKind.i64.wrap (x84+1)) Akb.1 Akb.2.1 Akb.2.2.1 Akb.2.2.2.1 Akb.2.2.2.2.1 Akb.2.2.2.2.2) (some (PR.ok (l85,l90,x95,l96,Bf6,Bh8)))
def Ahi.g (Rc:CK) (k:Nat) (Aac:TyF) (Aam:TyC) (Aci:ByteArray) (Ack:Int) (Acn:Int) (Adl:Int) (Acp:TyB) (Ac2:TyC) (Adm:Int) (Abz:TyC) (Aas:Int) (Abb:ByteArray) (Aa3:Int) (Abk:Int) (Aao:List Tree) (a2:Bool):Option (PR (TyF×TyC×Int×TyB×TyC×Int) (Int×Int)):=cond (Aas == 20) (PR.bind (Rc.Ajl Aac Aam Aci Ack Acn Adl Acp Ac2 Adm Abz Aao) fun r3=>(Ah4 r3.2.2.2.2.1 0 ((Ac2.length:Nat):Int)).bind fun l21=>some (PR.ok (r3.1,r3.2.1,r3.2.2.1,r3.2.2.2.1,l21,r3.2.2.2.2.2))) (cond (Aas == 31) (PR.bind (Rc.Aq3 Aac Aam Aci Ack Acn Adl Acp Ac2 Adm Abz Aas Abb Aa3 Abk Aao) fun r24=>some (PR.ok (r24.1,r24.2.1,r24.2.2.1,r24.2.2.2.1,r24.2.2.2.2.1,r24.2.2.2.2.2))) (cond (Aas == 21) (PR.bind (Akn.f k Aas Abb Aa3 Abk Aao Aa3 50) fun r43=>PR.bind (Akn.f k Aas Abb Aa3 Abk Aao (IntKind.i64.wrap (((Aao.length:Nat):Int) - Aa3)) 50) fun r45=>(Ah4 Aao Aa3 ((Aao.length:Nat):Int)).bind fun l47=>PR.bind (Rc.Ajl Aac Aam Aci Ack Acn Adl Acp Ac2 Adm Abz l47) fun r51=>(Ah4 Aao 0 Aa3).bind fun l69=>PR.bind (Aot.f k r51.1 r51.2.1 Aci Ack Acn r51.2.2.1 r51.2.2.2.1 r51.2.2.2.2.1 r51.2.2.2.2.2 Abz Aas Abb Aa3 Abk Aao l69) fun r73=>some (PR.ok (r51.1,r51.2.1,r73.1,r51.2.2.2.1,r73.2,r51.2.2.2.2.2))) (cond (Aas == 22) (PR.bind (Akn.f k Aas Abb Aa3 Abk Aao Aa3 50) fun r80=>PR.bind (Akn.f k Aas Abb Aa3 Abk Aao (IntKind.i64.wrap (((Aao.length:Nat):Int) - Aa3)) 50) fun r82=>Ahi.l0 k Rc Aci Ack Acn Abz Aa3 Aao 0 Aac Aam Adl Acp Ac2 Adm) (cond (Aas == 25) ((Acz Aao 0).bind fun Bci=>PR.bind (Rc.Ahi Aac Aam Aci Ack Acn Adl Acp Ac2 Adm Abz Bci.kind Bci.text Bci.n Bci.at_ Bci.kids false) fun A8b=>(Acz Aao 1).bind fun Bcn=>PR.bind (Rc.Anl A8b.1 A8b.2.1 Aci Ack Acn A8b.2.2.1 A8b.2.2.2.1 A8b.2.2.2.2.1 A8b.2.2.2.2.2 Abz Aas Abb Aa3 Abk Aao ([]) Bcn.kind Bcn.text Bcn.n Bcn.at_ Bcn.kids 0) fun Aut=>some (PR.ok (Aut.1,Aut.2.1,Aut.2.2.1,Aut.2.2.2.1,Aut.2.2.2.2.1,Aut.2.2.2.2.2))) (cond (Aas == 26) ((Ah4 Aao 1 (IntKind.i64.wrap (((Aao.length:Nat):Int) - 1))).bind fun A7i=>PR.bind (Rc.Ajl Aac Aam Aci Ack Acn Adl Acp Ac2 Adm Abz A7i) fun A8c=>(Ah4 Aao 0 1).bind fun Ccs=>(Acz Aao (IntKind.i64.wrap (((Aao.length:Nat):Int) - 1))).bind fun Bcr=>PR.bind (Rc.Anl A8c.1 A8c.2.1 Aci Ack Acn A8c.2.2.1 A8c.2.2.2.1 A8c.2.2.2.2.1 A8c.2.2.2.2.2 Abz Aas Abb Aa3 Abk Aao Ccs Bcr.kind Bcr.text Bcr.n Bcr.at_ Bcr.kids 3) fun Auu=>some (PR.ok (Auu.1,Auu.2.1,Auu.2.2.1,Auu.2.2.2.1,Auu.2.2.2.2.1,Auu.2.2.2.2.2))) (cond (Aas == 27) (PR.bind (Akn.f k Aas Abb Aa3 Abk Aao Aa3 50) fun Dao=>PR.bind (Akn.f k Aas Abb Aa3 Abk Aao (IntKind.i64.wrap ((IntKind.i64.wrap (((Aao.length:Nat):Int) - 1)) - Aa3)) 50) fun Dap=>(Ah4 Aao Aa3 (IntKind.i64.wrap (((Aao.length:Nat):Int) - 1))).bind fun Ccu=>PR.bind (Rc.Ajl Aac Aam Aci Ack Acn Adl Acp Ac2 Adm Abz Ccu) fun A8h=>(Ah4 Aao 0 Aa3).bind fun Ccx=>(Acz Aao (IntKind.i64.wrap (((Aao.length:Nat):Int) - 1))).bind fun Bcv=>PR.bind (Rc.Anl A8h.1 A8h.2.1 Aci Ack Acn A8h.2.2.1 A8h.2.2.2.1 A8h.2.2.2.2.1 A8h.2.2.2.2.2 Abz Aas Abb Aa3 Abk Aao Ccx Bcv.kind Bcv.text Bcv.n Bcv.at_ Bcv.kids 3) fun Auv=>some (PR.ok (Auv.1,Auv.2.1,Auv.2.2.1,Auv.2.2.2.1,Auv.2.2.2.2.1,Auv.2.2.2.2.2))) (cond (Aas == 29) (cond (Adm == 0) (PR.bind (Aov.f k 5 Abk) fun Das=>some (PR.ok (Aac,Aam,Adl,Acp,Ac2,Adm))) (some (PR.ok (Aac,Aam,Adl,Acp,Ac2,Adm)))) (PR.bind (Rc.Aqy Aac Aam Aci Ack Acn Adl Acp Ac2 Adm Abz Aas Abb Aa3 Abk Aao a2) fun Auw=>some (PR.ok (Auw.1,Auw.2.1,Auw.2.2.1,Auw.2.2.2.1,Auw.2.2.2.2.1,Auw.2.2.2.2.2))))))))))
theorem Ahi.okg {Rc:CK} (hR:Rc.Good) {k:Nat}:Ahi.C (Ahi.g Rc k):=by
 intro Aac Aam Ac2 Abz Aci Abb Ack Acn Adl Adm Aas Aa3 Abk Acp Aao a2 b0 Abf Afa Abq Aem Afi Ad4 Ab4 Ac0 Afm Af4 Ags Akl Aev G Abe Ae6 Ael Afh Ad2 Ab1 r h Abm Ahg Ahv Aip Ai6 Adf hG
 refine Afb (args:=[pt b0,.agg #[iv Aas,sv Abb,iv Aa3,iv Abk,.slice Ab1 Aao.length Ab4],bv a2]) Tryz.func21 rfl (Nat.le_of_ble_eq_true rfl) ?_
 intro A X hh_
 obtain ⟨Akx,Ada,Adu,_⟩:=hh_
 unfold Ahi.g at h
 refine K.eq (env':=[(0,pt b0),(1,.agg #[iv Aas,sv Abb,iv Aa3,iv Abk,.slice Ab1 Aao.length Ab4]),(2,bv a2)]) (l':=bk b0 #[.slice Abe Aac.length Abf,.slice Ae6 Aam.length Afa,pt Abq] 75 :: Ac0 :: Afm :: bk Abq #[sv Aci,iv Ack,iv Acn,iv Adl,.slice Ael Acp.length Aem,.slice Afh Ac2.length Afi,iv Adm,.slice Ad2 Abz.length Ad4] 73 :: Af4 :: Ags :: X) rfl rfl (ksr (knp #[iv Aas,sv Abb,iv Aa3,iv Abk,.slice Ab1 Aao.length Ab4] 54 fun b1=>(Aby (kx 1 (kld 0 4 rfl (kx 3 (Aby (kx 1 (kld 0 0 rfl (knt ?_))))))))))
 refine Aez (ksr (kx 2 (knt ?_)))
 refine kcn h (fun h=>?_) fun h=>?_
 ·refine ksr (kx 3 (kld 1 2 rfl (kx 2 (kld 4 5 rfl (kx 2 (Aby (kx 2 (kld 0 4 rfl (K.drop (K.mv5 ?_))))))))))
  refine K.mv5 (K.mv5 (K.mv5 (K.mv5 (K.mv5 (kcp h (fun _ hr3=>(hR.Ajl (b0:=b0) (Abq:=Abq) hr3 Abm Ahg Ahv Aip Ai6 Adf hG)) rfl ⟨Akx,Ada,Adu,trivial⟩ (fun _ e=>Ab5 (Adz (kpn 0 e rfl))) fun r3 h=>?_)))))
  rintro _ _ ⟨h5,A6,k7,h9,A10,k11,h13,A14,k15,h17,A18,k19,o8,o12,o16,o20,rfl,rfl⟩
  refine Ajb (knt (kpr [(0,0),(1,0),(2,0),(3,3),(4,0),(5,0),(6,0),(7,3),(8,0),(9,0),(10,3),(11,0),(12,0)] [0,3] (kpx 3 (kpd 0 2 rfl (kpx 3 (kpd 0 2 rfl (kpx 2 (kpd 1 5 rfl (kpx 1 (bnd h fun l21 Brz h=>?_))))))))))
  refine Ccl (T:=9) (sz:=1) (k:=.i64) (xs:=r3.2.2.2.2.1) ((Ac2.length:Nat):Int) Asj rfl (by kernel_rfl) (by kernel_rfl) (by kernel_rfl) (by kernel_rfl) (by kernel_rfl) (by kernel_rfl) Brz o20 fun o22=>(kpz (kx 2 (K.mv3 (kst 5 1 #[sv Aci,iv Ack,iv Acn,iv r3.2.2.1,.slice A14 r3.2.2.2.1.length k15,.slice A18 l21.length k19,iv r3.2.2.2.2.2,.slice Ad2 Abz.length Ad4] (knl (Acx (Ae2 ?_)))))))
  obtain rfl:=Option.some.inj h
  exact kdv (.tuple #[]) [bk b0 #[.slice A6 r3.1.length k7,.slice A10 r3.2.1.length k11,pt Abq] 75,h5,h9,bk Abq #[sv Aci,iv Ack,iv Acn,iv r3.2.2.1,.slice A14 r3.2.2.2.1.length k15,.slice A18 l21.length k19,iv r3.2.2.2.2.2,.slice Ad2 Abz.length Ad4] 73,h13,h17] (K.mv5 (K.mv5 (K.mv2 (K.mv5 (K.mv5 (K.mv5 (Adj (PR.okI ⟨h5,A6,k7,h9,A10,k11,h13,A14,k15,h17,A18,k19,o8,o12,o16,o22,rfl,rfl⟩))))))))
 ·refine ksr (kx 2 (knt ?_))
  refine kcn h (fun h=>?_) fun h=>?_
  ·refine Ach (kx 1 (kla 0 0 5 rfl (K.drop (K.mv5 (K.mv5 (K.mv5 (K.mv5 (K.mv5 (K.mv5 (kcp h (fun _ A5j=>(hR.Aq3 (b0:=b0) (Abq:=Abq) A5j Abm Ahg Ahv Aip Ai6 Adf hG)) rfl ⟨Akx,Ada,Adu,trivial⟩ (fun _ e=>Adz (kpn 0 e rfl)) fun r24 h=>?_))))))))))
   rintro _ _ ⟨h26,A27,k28,h30,A31,k32,h34,A35,k36,h38,A39,k40,o29,o33,o37,o41,rfl,rfl⟩
   refine Ajb (knl (Acx (Ae2 ?_)))
   obtain rfl:=Option.some.inj h
   exact kdv (.tuple #[]) [bk b0 #[.slice A27 r24.1.length k28,.slice A31 r24.2.1.length k32,pt Abq] 75,h26,h30,bk Abq #[sv Aci,iv Ack,iv Acn,iv r24.2.2.1,.slice A35 r24.2.2.2.1.length k36,.slice A39 r24.2.2.2.2.1.length k40,iv r24.2.2.2.2.2,.slice Ad2 Abz.length Ad4] 73,h34,h38] (Adj (PR.okI ⟨h26,A27,k28,h30,A31,k32,h34,A35,k36,h38,A39,k40,o29,o33,o37,o41,rfl,rfl⟩))
  ·refine ksr (kx 2 (knt ?_))
   refine kcn h (fun h=>?_) fun h=>?_
   ·refine ksr (kla 0 0 5 rfl (kx 1 (kld 0 2 rfl (kcp h (fun _ Bte=>(Akn.ok Bte Adf)) rfl ⟨(t7 Ada),trivial⟩ (fun _ e=>Ab5 (Adz (kpn 7 e rfl))) fun r43 h=>?_))))
    rintro _ _ ⟨rfl,rfl⟩
    refine Aoj (Aby (kla 0 0 5 rfl (kx 1 (kld 0 4 rfl (kx 2 (kld 0 2 rfl (kx 1 (kcp h (fun _ Bti=>(Akn.ok Bti Adf)) rfl ⟨(t7 Ada),trivial⟩ (fun _ e=>Ab5 (Adz (kpn 7 e rfl))) fun r45 h=>?_))))))))
    rintro _ _ ⟨rfl,rfl⟩
    refine Aoj (Aby (kx 2 (kld 0 4 rfl (kx 1 (kld 0 2 rfl (bnd h fun l47 Cu2 h=>(A6x (T:=54) (R:=(Abx 54)) (xs:=Aao) Aa3 ((Aao.length:Nat):Int) rfl (by kernel_rfl) (by kernel_rfl) (by kernel_rfl) (.inr ⟨_,.i64,rfl,(by kernel_rfl)⟩) (.inl ⟨rfl,rfl⟩) (by kernel_rfl) (by kernel_rfl) Cu2 Adf fun A48 k49 o50=>(K.mv6 (K.mv6 (K.mv6 ?_))))))))))
    refine K.mv6 (K.mv6 (K.mv6 (kcp h (fun _ Cx1=>(hR.Ajl (b0:=b0) (Abq:=Abq) Cx1 Abm Ahg Ahv Aip Ai6 o50 hG)) rfl ⟨(.tail _ Akx),(.tail _ Ada),(.tail _ Adu),trivial⟩ (fun _ e=>Ab5 (Adz (kpn 1 e rfl))) fun r51 h=>?_)))
    rintro _ _ ⟨h53,A54,k55,h57,A58,k59,h61,A62,k63,h65,A66,k67,o56,o60,o64,o68,rfl,rfl⟩
    refine Ajb (knt (kpr [(0,0),(1,3),(2,0),(3,3),(4,0),(5,3),(6,0)] [6] (kpx 1 (kpa 0 0 5 rfl (kpx 1 (kpd 0 4 rfl (kpx 1 (kpd 0 2 rfl (bnd h fun l69 Cvg h=>(Avq (T:=54) (R:=(Abx 54)) (xs:=Aao) 0 Aa3 rfl (by kernel_rfl) (by kernel_rfl) (by kernel_rfl) (.inl ⟨rfl,rfl⟩) (.inr ⟨_,.i64,rfl,(by kernel_rfl)⟩) (by kernel_rfl) (by kernel_rfl) Cvg Adf fun A70 k71 o72=>?_))))))))))
    refine kpz (K.mv5 (K.mv4 (K.mv2 (kcp h (fun _ Btu=>(Aot.ok (b0:=b0) (Abq:=Abq) Btu (Abp.rd o56) (Aan.rd o60) (Aan.rd o64) o68 Ai6 Adf o72)) rfl ⟨(.head _),(.tail _ (.head _)),(.tail _ (.tail _ (.head _))),(t4 Akx),(t4 Ada),(t4 Ada),trivial⟩ (fun _ e=>Adz (kpn 4 e rfl)) fun r73 h=>?_))))
    rintro _ _ ⟨h75,A76,k77,o78,rfl,rfl⟩
    refine A3h (K.mv6 (K.drop (knl (Acx (Ae2 ?_)))))
    obtain rfl:=Option.some.inj h
    exact kdv (.tuple #[]) [bk b0 #[.slice A54 r51.1.length k55,.slice A58 r51.2.1.length k59,pt Abq] 75,h53,h57,bk Abq #[sv Aci,iv Ack,iv Acn,iv r73.1,.slice A62 r51.2.2.2.1.length k63,.slice A76 r73.2.length k77,iv r51.2.2.2.2.2,.slice Ad2 Abz.length Ad4] 73,h61,h75] (K.mv2 (K.mv5 (K.mv3 (K.mv5 (K.mv5 (K.mv5 (Adj (PR.okI ⟨h53,A54,k55,h57,A58,k59,h61,A62,k63,h75,A76,k77,o56,o60,o64,o78,rfl,rfl⟩))))))))
   ·refine ksr (kx 2 (knt ?_))
    refine kcn h (fun h=>?_) fun h=>?_
    ·refine ksr (kla 0 0 5 rfl (kx 1 (kld 0 2 rfl (kcp h (fun _ A5z=>(Akn.ok A5z Adf)) rfl ⟨(t7 Ada),trivial⟩ (fun _ e=>Ab5 (Adz (kpn 7 e rfl))) fun r80 h=>?_))))
     rintro _ _ ⟨rfl,rfl⟩
     refine Aoj (Aby (kla 0 0 5 rfl (kx 1 (kld 0 4 rfl (kx 2 (kld 0 2 rfl (kx 1 (kcp h (fun _ Az0=>(Akn.ok Az0 Adf)) rfl ⟨(t7 Ada),trivial⟩ (fun _ e=>Ab5 (Adz (kpn 7 e rfl))) fun r82 h=>?_))))))))
     rintro _ _ ⟨rfl,rfl⟩
     refine Aoj (Aby (kx 1 (kld 0 4 rfl (kx 2 (knt (Aez (K.mv6 (K.mv6 (K.mv5 (K.mv5 ?_))))))))))
     refine K.mv6 (K.mv6 (K.mv6 (Akr (τ:=Int×TyF×TyC×Int×TyB×TyC×Int×Aaa×TyO×Nat×Aaa×TyO×Nat×Aaa×TyO×Nat×Aaa×TyO×Nat) (fun t=>[(0,pt b0),(4,pt b1),(98,.slice Ab1 Aao.length Ab4),(99,iv ((Aao.length:Nat):Int)),(100,iv t.1)]) (fun t=>bk b1 #[iv Aas,sv Abb,iv Aa3,iv Abk,.slice Ab1 Aao.length Ab4] 54 :: bk b0 #[.slice t.2.2.2.2.2.2.2.2.1 t.2.1.length t.2.2.2.2.2.2.2.2.2.1,.slice t.2.2.2.2.2.2.2.2.2.2.2.1 t.2.2.1.length t.2.2.2.2.2.2.2.2.2.2.2.2.1,pt Abq] 75 :: bk Abq #[sv Aci,iv Ack,iv Acn,iv t.2.2.2.1,.slice t.2.2.2.2.2.2.2.2.2.2.2.2.2.2.1 t.2.2.2.2.1.length t.2.2.2.2.2.2.2.2.2.2.2.2.2.2.2.1,.slice t.2.2.2.2.2.2.2.2.2.2.2.2.2.2.2.2.2.1 t.2.2.2.2.2.1.length t.2.2.2.2.2.2.2.2.2.2.2.2.2.2.2.2.2.2,iv t.2.2.2.2.2.2.1,.slice Ad2 Abz.length Ad4] 73 :: t.2.2.2.2.2.2.2.1 :: t.2.2.2.2.2.2.2.2.2.2.1 :: t.2.2.2.2.2.2.2.2.2.2.2.2.2.1 :: t.2.2.2.2.2.2.2.2.2.2.2.2.2.2.2.2.1 :: X) (fun m t=>Ahi.l0 m Rc Aci Ack Acn Abz Aa3 Aao t.1 t.2.1 t.2.2.1 t.2.2.2.1 t.2.2.2.2.1 t.2.2.2.2.2.1 t.2.2.2.2.2.2.1=some r∧Abp Alv 43 t.2.2.2.2.2.2.2.1 (.slice t.2.2.2.2.2.2.2.2.1 t.2.1.length t.2.2.2.2.2.2.2.2.2.1) t.2.1∧Aan encS 9 1 t.2.2.2.2.2.2.2.2.2.2.1 (.slice t.2.2.2.2.2.2.2.2.2.2.2.1 t.2.2.1.length t.2.2.2.2.2.2.2.2.2.2.2.2.1) t.2.2.1∧Aan e78 78 3 t.2.2.2.2.2.2.2.2.2.2.2.2.2.1 (.slice t.2.2.2.2.2.2.2.2.2.2.2.2.2.2.1 t.2.2.2.2.1.length t.2.2.2.2.2.2.2.2.2.2.2.2.2.2.2.1) t.2.2.2.2.1∧Aan encS 9 1 t.2.2.2.2.2.2.2.2.2.2.2.2.2.2.2.2.1 (.slice t.2.2.2.2.2.2.2.2.2.2.2.2.2.2.2.2.2.1 t.2.2.2.2.2.1.length t.2.2.2.2.2.2.2.2.2.2.2.2.2.2.2.2.2.2) t.2.2.2.2.2.1) k (0,Aac,Aam,Adl,Acp,Ac2,Adm,Ac0,Abe,Abf,Afm,Ae6,Afa,Af4,Ael,Aem,Ags,Afh,Afi) ⟨h,Abm,Ahg,Ahv,Aip⟩ sb rfl ?_)))
     clear h
     rintro Bge ⟨x84,l85,l90,x95,l96,Bf6,Bh8,h86,A87,k88,h91,A92,k93,h97,A98,k99,A5b,A4b,A6t⟩ ⟨h,o89,o94,Bl2,Bbd⟩
     cases Bge with
     | zero=>simp [Ahi.l0] at h
     | succ Bge =>
      simp only [Ahi.l0] at h
      refine ksr (kx 1 (knt (Ac1 ?_)))
      refine kcn h (fun h=>?_) fun h=>?_
      ·refine Adv (Abr (Ac1 (Aez (ksr (kx 1 (bnd h fun x109 Cy2 h=>(Aht (T:=54) (kd:=.i64) (R:=(Abx 54)) rfl Cy2 Adf fun Dii Di8 C9z Coq y112=>?_)))))))
       obtain ⟨Cju,C1i,rfl,C5e⟩:=Ahx 54 C9z
       refine keN rfl Coq (t7 Ada) (knp #[iv 0,sv noS,iv 0,iv 0,nS] 54 fun De6=>(kx 1 (kst 0 5 #[iv x109.kind,sv x109.text,iv x109.n,iv x109.at_,.slice Cju x109.kids.length C1i] (knr (kx 1 (kla 0 0 5 rfl (K.drop (kx 2 (kld 0 2 rfl (kx 1 ?_))))))))))
       refine K.mv6 (K.mv6 (K.mv4 (K.mv6 (K.mv6 (K.mv6 (kcp h (fun _ Bsv=>(hR.Ahi (b0:=b0) (Abq:=Abq) Bsv o89 o94 Bl2 Bbd Ai6 C5e hG)) rfl ⟨(.tail _ Akx),(.tail _ Ada),(.tail _ Adu),trivial⟩ (fun _ e=>Adz (Ab5 (Ab5 (Adz (Adz (kpn 1 e rfl)))))) fun Akb h=>?_))))))
       rintro _ _ ⟨Cry,B0t,B9n,Bqk,Bii,Bkl,Cr6,Cjy,C1m,Bea,Bcz,Bfl,Bv9,Bwd,C5r,A7q,rfl,rfl⟩
       refine Ajb (knl (Acx (Abr (Ach (kx 2 (knt (K.mv5 (K.mv5 (K.mv4 (K.mv4 ?_))))))))))
       exact K.mv5 (K.mv5 (K.mv6 (Aiw Bge (IntKind.i64.wrap (x84+1),Akb.1,Akb.2.1,Akb.2.2.1,Akb.2.2.2.1,Akb.2.2.2.2.1,Akb.2.2.2.2.2,Cry,B0t,B9n,Bqk,Bii,Bkl,Cr6,Cjy,C1m,Bea,Bcz,Bfl) (Nat.lt_succ_self _) ⟨h,Bv9,Bwd,C5r,A7q⟩ sb rfl)))
      ·refine Akp (Af5 (Af5 (Akq (Acx (Ae2 ?_)))))
       obtain rfl:=Option.some.inj h
       exact kdv (.tuple #[]) [bk b0 #[.slice A87 l85.length k88,.slice A92 l90.length k93,pt Abq] 75,h86,h91,bk Abq #[sv Aci,iv Ack,iv Acn,iv x95,.slice A98 l96.length k99,.slice A4b Bf6.length A6t,iv Bh8,.slice Ad2 Abz.length Ad4] 73,h97,A5b] (K.drop (K.mv5 (K.mv5 (K.mv3 (K.mv5 (K.mv5 (K.mv5 (Adj (PR.okI ⟨h86,A87,k88,h91,A92,k93,h97,A98,k99,A5b,A4b,A6t,o89,o94,Bl2,Bbd,rfl,rfl⟩)))))))))
    ·refine ksr (kx 2 (knt ?_))
     refine kcn h (fun h=>?_) fun h=>?_
     ·refine ksr (kx 2 (kld 0 4 rfl (bnd h fun Bci Cy7 h=>(Aht (T:=54) (kd:=.i64) (R:=(Abx 54)) rfl Cy7 Adf fun Dio Djd C98 Cos Dj7=>?_))))
      obtain ⟨Dd8,Dhc,rfl,Bwh⟩:=Ahx 54 C98
      refine keN rfl Cos (t7 Ada) (K.mv6 (K.mv6 (K.mv6 (K.mv6 (K.mv6 (K.mv6 (kcp h (fun _ Cwo=>(hR.Ahi (b0:=b0) (Abq:=Abq) Cwo Abm Ahg Ahv Aip Ai6 Bwh hG)) rfl ⟨(.tail _ Akx),(.tail _ Ada),(.tail _ Adu),trivial⟩ (fun _ e=>Ab5 (Adz (kpn 1 e rfl))) fun A8b h=>?_)))))))
      rintro _ _ ⟨Cr9,B05,B9u,Dfq,Dec,Dhe,Dfr,Dee,Dhg,Csa,B1b,B9v,Bgj,C6b,C6c,Bwj,rfl,rfl⟩
      refine Ajb (knt (Asu [(0,0),(1,3),(2,0),(3,3),(4,0),(5,3)] [bk b1 #[iv Aas,sv Abb,iv Aa3,iv Abk,.slice Ab1 Aao.length Ab4] 54,Aev] (fun w h_=>⟨h_.sat.on _ (.tail _ (.tail _ (.tail _ (.tail _ (.tail _ (.tail _ (.head _))))))),h_.sat.on _ (t7 Ada),trivial⟩) (kpx 1 (kpa 0 0 5 rfl (kpx 1 (kpd 0 4 rfl (bnd h fun Bcn Czc h=>(Asr (T:=54) (kd:=.i64) (R:=(Abx 54)) rfl Czc Adf fun Diw Djo Dac e167 y168=>?_))))))))
      obtain ⟨Deg,Dhh,rfl,C6e⟩:=Ahx 54 Dac
      refine Atm rfl e167 (fun w h_=>h_.mem _ (.tail _ (.head _))) (kpz (Agh (K.mv6 (K.mv6 (K.mv6 (K.mv6 (K.mv6 (K.mv6 (kcp h (fun _ Cwq=>(hR.Anl (b0:=b0) (Abq:=Abq) Cwq Bgj C6b C6c Bwj Ai6 Adf (RdR.nil (Abx 54) none_) C6e hG)) rfl ⟨(t2 Akx),(t2 Ada),(.head _),(t2 Ada),(t2 Adu),trivial⟩ (fun _ e=>Adz (kpn 2 e rfl)) fun Aut h=>?_)))))))))
      rintro _ _ ⟨Bam,A1v,A3a,Ban,A8w,Ba0,B6x,A8x,Ba1,B6y,B1i,B99,Bwm,Bwp,Bwr,C6q,rfl,rfl⟩
      refine Ajb (K.mv6 (K.drop (K.mv6 (K.drop (knl (Acx (Ae2 ?_)))))))
      obtain rfl:=Option.some.inj h
      exact kdv (.tuple #[]) [bk b0 #[.slice A1v Aut.1.length A3a,.slice A8w Aut.2.1.length Ba0,pt Abq] 75,Bam,Ban,bk Abq #[sv Aci,iv Ack,iv Acn,iv Aut.2.2.1,.slice A8x Aut.2.2.2.1.length Ba1,.slice B1i Aut.2.2.2.2.1.length B99,iv Aut.2.2.2.2.2,.slice Ad2 Abz.length Ad4] 73,B6x,B6y] (Adj (PR.okI ⟨Bam,A1v,A3a,Ban,A8w,Ba0,B6x,A8x,Ba1,B6y,B1i,B99,Bwm,Bwp,Bwr,C6q,rfl,rfl⟩))
     ·refine ksr (kx 2 (knt ?_))
      refine kcn h (fun h=>?_) fun h=>?_
      ·refine ksr (kx 2 (kld 0 4 rfl (kx 1 (bnd h fun A7i Ct8 h=>(A6x (T:=54) (R:=(Abx 54)) (xs:=Aao) 1 (IntKind.i64.wrap (((Aao.length:Nat):Int) - 1)) rfl (by kernel_rfl) (by kernel_rfl) (by kernel_rfl) (.inr ⟨_,.i64,rfl,(by kernel_rfl)⟩) (.inr ⟨_,.i64,rfl,(by kernel_rfl)⟩) (by kernel_rfl) (by kernel_rfl) Ct8 Adf fun Dei Dhj C6w=>(K.mv6 (K.mv6 (K.mv6 (K.mv6 (K.mv6 ?_))))))))))
       refine K.mv6 (kcp h (fun _ Cwu=>(hR.Ajl (b0:=b0) (Abq:=Abq) Cwu Abm Ahg Ahv Aip Ai6 C6w hG)) rfl ⟨(.tail _ Akx),(.tail _ Ada),(.tail _ Adu),trivial⟩ (fun _ e=>Ab5 (Adz (kpn 1 e rfl))) fun A8c h=>?_)
       rintro _ _ ⟨Dfv,Dej,Dhm,Dfw,Dek,Dhn,Dfx,Dem,Dhq,Df0,Deq,Dhr,C6z,C62,C63,C66,rfl,rfl⟩
       refine Ajb (knt (Asu [(0,0),(1,3),(2,0),(3,3),(4,0),(5,0),(6,3),(7,0),(8,0),(9,3)] [bk b1 #[iv Aas,sv Abb,iv Aa3,iv Abk,.slice Ab1 Aao.length Ab4] 54,Aev] (fun w h_=>⟨h_.sat.on _ (.tail _ (.tail _ (.tail _ (.tail _ (.tail _ (.tail _ (.head _))))))),h_.sat.on _ (t7 Ada),trivial⟩) (kpx 1 (kpa 0 0 5 rfl (kpx 1 (kpd 0 4 rfl (bnd h fun Ccs Cub h=>(Avq (T:=54) (R:=(Abx 54)) (xs:=Aao) 0 1 rfl (by kernel_rfl) (by kernel_rfl) (by kernel_rfl) (.inl ⟨rfl,rfl⟩) (.inr ⟨_,.i64,rfl,(by kernel_rfl)⟩) (by kernel_rfl) (by kernel_rfl) Cub Adf fun Der Dhs C7d=>(kpx 1 (kpd 0 4 rfl ?_))))))))))
       refine kpx 1 (bnd h fun Bcr Czl h=>(Asr (T:=54) (kd:=.i64) (R:=(Abx 54)) rfl Czl Adf fun Di0 Djy Dak e221 Dkk=>?_))
       obtain ⟨Det,Dhv,rfl,C7h⟩:=Ahx 54 Dak
       refine Atm rfl e221 (fun w h_=>h_.mem _ (.tail _ (.head _))) (kpz (K.mv5 (K.mv5 (K.mv5 (K.mv5 (K.mv5 (K.mv5 (kcp h (fun _ Cw4=>(hR.Anl (b0:=b0) (Abq:=Abq) Cw4 C6z C62 C63 C66 Ai6 Adf C7d C7h hG)) rfl ⟨(.tail _ Akx),(.tail _ Ada),(.tail _ Ada),(.tail _ Ada),(.tail _ Adu),trivial⟩ (fun _ e=>Adz (kpn 1 e rfl)) fun Auu h=>?_))))))))
       rintro _ _ ⟨B63,B1q,Cai,Beb,Bc3,Bfo,Bec,Bc5,Bfq,Bed,Bc6,Bfr,C7l,Bwu,Bww,Bwy,rfl,rfl⟩
       refine Ajb (K.mv6 (K.drop (knl (Acx (Ae2 ?_)))))
       obtain rfl:=Option.some.inj h
       exact kdv (.tuple #[]) [bk b0 #[.slice B1q Auu.1.length Cai,.slice Bc3 Auu.2.1.length Bfo,pt Abq] 75,B63,Beb,bk Abq #[sv Aci,iv Ack,iv Acn,iv Auu.2.2.1,.slice Bc5 Auu.2.2.2.1.length Bfq,.slice Bc6 Auu.2.2.2.2.1.length Bfr,iv Auu.2.2.2.2.2,.slice Ad2 Abz.length Ad4] 73,Bec,Bed] (Adj (PR.okI ⟨B63,B1q,Cai,Beb,Bc3,Bfo,Bec,Bc5,Bfq,Bed,Bc6,Bfr,C7l,Bwu,Bww,Bwy,rfl,rfl⟩))
      ·refine ksr (kx 2 (knt ?_))
       refine kcn h (fun h=>?_) fun h=>?_
       ·refine ksr (kla 0 0 5 rfl (kx 1 (kld 0 2 rfl (kcp h (fun _ Cxa=>(Akn.ok Cxa Adf)) rfl ⟨(t7 Ada),trivial⟩ (fun _ e=>Ab5 (Adz (kpn 7 e rfl))) fun Dao h=>?_))))
        rintro _ _ ⟨rfl,rfl⟩
        refine Aoj (Aby (kla 0 0 5 rfl (kx 2 (kld 0 2 rfl (kx 1 (kcp h (fun _ Cxb=>(Akn.ok Cxb Adf)) rfl ⟨(t7 Ada),trivial⟩ (fun _ e=>Ab5 (Adz (kpn 7 e rfl))) fun Dap h=>?_))))))
        rintro _ _ ⟨rfl,rfl⟩
        refine Aoj (Aby (kx 2 (kld 0 4 rfl (kx 1 (kld 0 2 rfl (kx 1 (bnd h fun Ccu Cum h=>(A6x (T:=54) (R:=(Abx 54)) (xs:=Aao) Aa3 (IntKind.i64.wrap (((Aao.length:Nat):Int) - 1)) rfl (by kernel_rfl) (by kernel_rfl) (by kernel_rfl) (.inr ⟨_,.i64,rfl,(by kernel_rfl)⟩) (.inr ⟨_,.i64,rfl,(by kernel_rfl)⟩) (by kernel_rfl) (by kernel_rfl) Cum Adf fun Dew Dhx C7q=>(K.mv6 (K.mv6 ?_))))))))))
        refine K.mv6 (K.mv6 (K.mv6 (K.mv6 (kcp h (fun _ Cxc=>(hR.Ajl (b0:=b0) (Abq:=Abq) Cxc Abm Ahg Ahv Aip Ai6 C7q hG)) rfl ⟨(.tail _ Akx),(.tail _ Ada),(.tail _ Adu),trivial⟩ (fun _ e=>Ab5 (Adz (kpn 1 e rfl))) fun A8h h=>?_))))
        rintro _ _ ⟨Df2,Dey,Dhz,Bq1,Bol,Buu,Bq5,Bom,Buv,Bq6,Boo,Bux,C7t,Bwz,Bw1,Bw2,rfl,rfl⟩
        refine Ajb (knt (Asu [(0,0),(1,3),(2,0),(3,3),(4,0),(5,3),(6,0),(7,0),(8,3),(9,0),(10,0),(11,3)] [bk b1 #[iv Aas,sv Abb,iv Aa3,iv Abk,.slice Ab1 Aao.length Ab4] 54,Aev] (fun w h_=>⟨h_.sat.on _ (.tail _ (.tail _ (.tail _ (.tail _ (.tail _ (.tail _ (.head _))))))),h_.sat.on _ (t7 Ada),trivial⟩) (kpx 1 (kpa 0 0 5 rfl (kpx 1 (kpd 0 4 rfl (kpx 1 (kpd 0 2 rfl (bnd h fun Ccx Cuo h=>(Avq (T:=54) (R:=(Abx 54)) (xs:=Aao) 0 Aa3 rfl (by kernel_rfl) (by kernel_rfl) (by kernel_rfl) (.inl ⟨rfl,rfl⟩) (.inr ⟨_,.i64,rfl,(by kernel_rfl)⟩) (by kernel_rfl) (by kernel_rfl) Cuo Adf fun Bop Buy Bw4=>?_))))))))))
        refine kpx 1 (kpd 0 4 rfl (kpx 1 (bnd h fun Bcv Czw h=>(Asr (T:=54) (kd:=.i64) (R:=(Abx 54)) rfl Czw Adf fun Di6 Dj0 Dam e279 Dkp=>?_))))
        obtain ⟨De0,Dh0,rfl,C7v⟩:=Ahx 54 Dam
        refine Atm rfl e279 (fun w h_=>h_.mem _ (.tail _ (.head _))) (kpz (K.mv5 (K.mv5 (K.mv5 (K.mv5 (K.mv5 (K.mv5 (kcp h (fun _ Cxg=>(hR.Anl (b0:=b0) (Abq:=Abq) Cxg C7t Bwz Bw1 Bw2 Ai6 Adf Bw4 C7v hG)) rfl ⟨(.tail _ Akx),(.tail _ Ada),(.tail _ Ada),(.tail _ Ada),(.tail _ Adu),trivial⟩ (fun _ e=>Adz (kpn 1 e rfl)) fun Auv h=>?_))))))))
        rintro _ _ ⟨B67,B1w,Cao,Bap,Ay5,Az7,B68,B1x,Cau,B7e,B1z,Cax,C7y,Bw5,C70,C74,rfl,rfl⟩
        refine Ajb (K.mv6 (K.drop (knl (Acx (Ae2 ?_)))))
        obtain rfl:=Option.some.inj h
        exact kdv (.tuple #[]) [bk b0 #[.slice B1w Auv.1.length Cao,.slice Ay5 Auv.2.1.length Az7,pt Abq] 75,B67,Bap,bk Abq #[sv Aci,iv Ack,iv Acn,iv Auv.2.2.1,.slice B1x Auv.2.2.2.1.length Cau,.slice B1z Auv.2.2.2.2.1.length Cax,iv Auv.2.2.2.2.2,.slice Ad2 Abz.length Ad4] 73,B68,B7e] (Adj (PR.okI ⟨B67,B1w,Cao,Bap,Ay5,Az7,B68,B1x,Cau,B7e,B1z,Cax,C7y,Bw5,C70,C74,rfl,rfl⟩))
       ·refine ksr (kx 2 (knt ?_))
        refine kcn h (fun h=>?_) fun h=>?_
        ·refine ksr (kx 3 (kld 1 2 rfl (kx 2 (kld 4 6 rfl (kx 1 (knt ?_))))))
         refine kcn h (fun h=>?_) fun h=>?_
         ·refine Ach (kx 1 (kld 0 3 rfl (K.drop (kcp h (fun _ Cxj=>(Aov.ok Cxj)) rfl trivial (fun _ e=>Adz (kpn 6 e rfl)) fun Das h=>?_))))
          rintro _ _ ⟨rfl,rfl⟩
          refine Aoj (knl (Acx (Ae2 ?_)))
          obtain rfl:=Option.some.inj h
          exact kdv (.tuple #[]) [bk b0 #[.slice Abe Aac.length Abf,.slice Ae6 Aam.length Afa,pt Abq] 75,Ac0,Afm,bk Abq #[sv Aci,iv Ack,iv Acn,iv Adl,.slice Ael Acp.length Aem,.slice Afh Ac2.length Afi,iv Adm,.slice Ad2 Abz.length Ad4] 73,Af4,Ags] (Adj (PR.okI ⟨Ac0,Abe,Abf,Afm,Ae6,Afa,Af4,Ael,Aem,Ags,Afh,Afi,Abm,Ahg,Ahv,Aip,rfl,rfl⟩))
         ·refine Adv (Acx (Ae2 ?_))
          obtain rfl:=Option.some.inj h
          exact kdv (.tuple #[]) [bk b0 #[.slice Abe Aac.length Abf,.slice Ae6 Aam.length Afa,pt Abq] 75,Ac0,Afm,bk Abq #[sv Aci,iv Ack,iv Acn,iv Adl,.slice Ael Acp.length Aem,.slice Afh Ac2.length Afi,iv Adm,.slice Ad2 Abz.length Ad4] 73,Af4,Ags] (K.drop (Adj (PR.okI ⟨Ac0,Abe,Abf,Afm,Ae6,Afa,Af4,Ael,Aem,Ags,Afh,Afi,Abm,Ahg,Ahv,Aip,rfl,rfl⟩)))
        ·refine Ach (kx 1 (kla 0 0 5 rfl (K.drop (kx 1 (K.mv5 (K.mv5 (K.mv5 (K.mv5 (K.mv5 (K.mv5 ?_))))))))))
         refine kcp h (fun _ Cxm=>(hR.Aqy (b0:=b0) (Abq:=Abq) Cxm Abm Ahg Ahv Aip Ai6 Adf hG)) rfl ⟨Akx,Ada,Adu,trivial⟩ (fun _ e=>Adz (kpn 0 e rfl)) fun Auw h=>?_
         rintro _ _ ⟨B7f,B12,Cay,B7i,B13,Ca0,B7j,B16,Ca1,B7m,B2a,Ca5,C76,C79,C8d,C8i,rfl,rfl⟩
         refine Ajb (knl (Acx (Ae2 ?_)))
         obtain rfl:=Option.some.inj h
         exact kdv (.tuple #[]) [bk b0 #[.slice B12 Auw.1.length Cay,.slice B13 Auw.2.1.length Ca0,pt Abq] 75,B7f,B7i,bk Abq #[sv Aci,iv Ack,iv Acn,iv Auw.2.2.1,.slice B16 Auw.2.2.2.1.length Ca1,.slice B2a Auw.2.2.2.2.1.length Ca5,iv Auw.2.2.2.2.2,.slice Ad2 Abz.length Ad4] 73,B7j,B7m] (Adj (PR.okI ⟨B7f,B12,Cay,B7i,B13,Ca0,B7j,B16,Ca1,B7m,B2a,Ca5,C76,C79,C8d,C8i,rfl,rfl⟩))
def Ajl.l0:Nat→(Rc:CK)→(Aci:ByteArray)→(Ack:Int)→(Acn:Int)→(Abz:TyC)→(a1:List Tree)→(x1:Int)→(l2:TyF)→(l7:TyC)→(x12:Int)→(l13:TyB)→(l18:TyC)→(x23:Int)→Option (PR (TyF×TyC×Int×TyB×TyC×Int) (Int×Int))
 | 0,_,_,_,_,_,_,_,_,_,_,_,_,_=>none
 | m24+1,Rc,Aci,Ack,Acn,Abz,a1,x1,l2,l7,x12,l13,l18,x23=>cond (decide (x1 < ((a1.length:Nat):Int))) ((Acz a1 x1).bind fun x26=>PR.bind (Rc.Ahi l2 l7 Aci Ack Acn x12 l13 l18 x23 Abz x26.kind x26.text x26.n x26.at_ x26.kids false) fun r36=>Ajl.l0 m24 Rc Aci Ack Acn Abz a1 (IntKind.i64.wrap (x1+1)) r36.1 r36.2.1 r36.2.2.1 r36.2.2.2.1 r36.2.2.2.2.1 r36.2.2.2.2.2) (some (PR.ok (l2,l7,x12,l13,l18,x23)))
def Ajl.g (Rc:CK) (k:Nat) (Aac:TyF) (Aam:TyC) (Aci:ByteArray) (Ack:Int) (Acn:Int) (Adl:Int) (Acp:TyB) (Ac2:TyC) (Adm:Int) (Abz:TyC) (a1:List Tree):Option (PR (TyF×TyC×Int×TyB×TyC×Int) (Int×Int)):=Ajl.l0 k Rc Aci Ack Acn Abz a1 0 Aac Aam Adl Acp Ac2 Adm
theorem Ajl.okg {Rc:CK} (hR:Rc.Good) {k:Nat}:Ajl.C (Ajl.g Rc k):=by
 intro Aac Aam Ac2 Abz Aci Ack Acn Adl Adm Acp a1 b0 Abf Afa Abq Aem Afi Ad4 Afe Ac0 Afm Af4 Ags Akl Ail G Abe Ae6 Ael Afh Ad2 Afc r h Abm Ahg Ahv Aip Ai6 Akm hG
 refine Afb (args:=[pt b0,.slice Afc a1.length Afe]) Tryz.func31 rfl (Nat.le_of_ble_eq_true rfl) ?_
 intro A X hh_
 obtain ⟨Akx,Aie,Adu,_⟩:=hh_
 unfold Ajl.g at h
 refine K.eq (env':=[(0,pt b0),(1,.slice Afc a1.length Afe)]) (l':=bk b0 #[.slice Abe Aac.length Abf,.slice Ae6 Aam.length Afa,pt Abq] 75 :: Ac0 :: Afm :: bk Abq #[sv Aci,iv Ack,iv Acn,iv Adl,.slice Ael Acp.length Aem,.slice Afh Ac2.length Afi,iv Adm,.slice Ad2 Abz.length Ad4] 73 :: Af4 :: Ags :: X) rfl rfl (ksr (kx 3 (knt (Aez (K.mv5 (K.mv5 (K.mv4 (K.mv4 (K.mv5 (K.mv5 ?_))))))))))
 refine Akr (τ:=Int×TyF×TyC×Int×TyB×TyC×Int×Aaa×TyO×Nat×Aaa×TyO×Nat×Aaa×TyO×Nat×Aaa×TyO×Nat) (fun t=>[(0,pt b0),(6,.slice Afc a1.length Afe),(7,iv ((a1.length:Nat):Int)),(8,iv t.1)]) (fun t=>bk b0 #[.slice t.2.2.2.2.2.2.2.2.1 t.2.1.length t.2.2.2.2.2.2.2.2.2.1,.slice t.2.2.2.2.2.2.2.2.2.2.2.1 t.2.2.1.length t.2.2.2.2.2.2.2.2.2.2.2.2.1,pt Abq] 75 :: bk Abq #[sv Aci,iv Ack,iv Acn,iv t.2.2.2.1,.slice t.2.2.2.2.2.2.2.2.2.2.2.2.2.2.1 t.2.2.2.2.1.length t.2.2.2.2.2.2.2.2.2.2.2.2.2.2.2.1,.slice t.2.2.2.2.2.2.2.2.2.2.2.2.2.2.2.2.2.1 t.2.2.2.2.2.1.length t.2.2.2.2.2.2.2.2.2.2.2.2.2.2.2.2.2.2,iv t.2.2.2.2.2.2.1,.slice Ad2 Abz.length Ad4] 73 :: t.2.2.2.2.2.2.2.1 :: t.2.2.2.2.2.2.2.2.2.2.1 :: t.2.2.2.2.2.2.2.2.2.2.2.2.2.1 :: t.2.2.2.2.2.2.2.2.2.2.2.2.2.2.2.2.1 :: X) (fun m t=>Ajl.l0 m Rc Aci Ack Acn Abz a1 t.1 t.2.1 t.2.2.1 t.2.2.2.1 t.2.2.2.2.1 t.2.2.2.2.2.1 t.2.2.2.2.2.2.1=some r∧Abp Alv 43 t.2.2.2.2.2.2.2.1 (.slice t.2.2.2.2.2.2.2.2.1 t.2.1.length t.2.2.2.2.2.2.2.2.2.1) t.2.1∧Aan encS 9 1 t.2.2.2.2.2.2.2.2.2.2.1 (.slice t.2.2.2.2.2.2.2.2.2.2.2.1 t.2.2.1.length t.2.2.2.2.2.2.2.2.2.2.2.2.1) t.2.2.1∧Aan e78 78 3 t.2.2.2.2.2.2.2.2.2.2.2.2.2.1 (.slice t.2.2.2.2.2.2.2.2.2.2.2.2.2.2.1 t.2.2.2.2.1.length t.2.2.2.2.2.2.2.2.2.2.2.2.2.2.2.1) t.2.2.2.2.1∧Aan encS 9 1 t.2.2.2.2.2.2.2.2.2.2.2.2.2.2.2.2.1 (.slice t.2.2.2.2.2.2.2.2.2.2.2.2.2.2.2.2.2.1 t.2.2.2.2.2.1.length t.2.2.2.2.2.2.2.2.2.2.2.2.2.2.2.2.2.2) t.2.2.2.2.2.1) k (0,Aac,Aam,Adl,Acp,Ac2,Adm,Ac0,Abe,Abf,Afm,Ae6,Afa,Af4,Ael,Aem,Ags,Afh,Afi) ⟨h,Abm,Ahg,Ahv,Aip⟩ sb rfl ?_
 clear h
 rintro m24 ⟨x1,l2,l7,x12,l13,l18,x23,h3,A4,k5,h8,A9,k10,h14,A15,k16,h19,A20,k21⟩ ⟨h,o6,o11,o17,o22⟩
 cases m24 with
 | zero=>simp [Ajl.l0] at h
 | succ m24 =>
  simp only [Ajl.l0] at h
  refine ksr (kx 1 (knt (Ac1 ?_)))
  refine kcn h (fun h=>?_) fun h=>?_
  ·refine Adv (Abr (Ac1 (Aez (ksr (bnd h fun x26 Czr h=>(Aht (T:=54) (kd:=.i64) (R:=(Abx 54)) rfl Czr Akm fun p27 u30 q31 e28 y29=>?_))))))
   obtain ⟨A32,k33,rfl,o34⟩:=Ahx 54 q31
   refine keN rfl e28 (t6 Aie) (knp #[iv 0,sv noS,iv 0,iv 0,nS] 54 fun b35=>(kst 0 5 #[iv x26.kind,sv x26.text,iv x26.n,iv x26.at_,.slice A32 x26.kids.length k33] (knr (kx 1 (kla 0 0 5 rfl (K.drop (K.mv5 (K.mv5 (K.mv3 (K.mv5 ?_))))))))))
   refine K.mv5 (K.mv5 (kcp h (fun _ Aw3=>(hR.Ahi (b0:=b0) (Abq:=Abq) Aw3 o6 o11 o17 o22 Ai6 o34 hG)) rfl ⟨Akx,Aie,Adu,trivial⟩ (fun _ e=>Adz (Ab5 (Ab5 (Adz (kpn 0 e rfl))))) fun r36 h=>?_))
   rintro _ _ ⟨h38,A39,k40,h42,A43,k44,h46,A47,k48,h50,A51,k52,o41,o45,o49,o53,rfl,rfl⟩
   refine Ajb (knl (Acx (Abr (Ach (kx 2 (knt (K.mv5 (K.mv5 (K.mv4 (K.mv4 ?_))))))))))
   exact K.mv5 (K.mv5 (Aiw m24 (IntKind.i64.wrap (x1+1),r36.1,r36.2.1,r36.2.2.1,r36.2.2.2.1,r36.2.2.2.2.1,r36.2.2.2.2.2,h38,A39,k40,h42,A43,k44,h46,A47,k48,h50,A51,k52) (Nat.lt_succ_self _) ⟨h,o41,o45,o49,o53⟩ sb rfl))
  ·refine Akp (Af5 (Af5 (Akq (Ae2 ?_))))
   obtain rfl:=Option.some.inj h
   exact kdv (.tuple #[]) [bk b0 #[.slice A4 l2.length k5,.slice A9 l7.length k10,pt Abq] 75,h3,h8,bk Abq #[sv Aci,iv Ack,iv Acn,iv x12,.slice A15 l13.length k16,.slice A20 l18.length k21,iv x23,.slice Ad2 Abz.length Ad4] 73,h14,h19] (K.mv5 (K.mv5 (K.mv3 (K.mv5 (K.mv5 (K.mv5 (Adj (PR.okI ⟨h3,A4,k5,h8,A9,k10,h14,A15,k16,h19,A20,k21,o6,o11,o17,o22,rfl,rfl⟩))))))))
def Aqy.g (Rc:CK) (k:Nat) (Aac:TyF) (Aam:TyC) (Aci:ByteArray) (Ack:Int) (Acn:Int) (Adl:Int) (Acp:TyB) (Ac2:TyC) (Adm:Int) (Abz:TyC) (Aas:Int) (Abb:ByteArray) (Aa3:Int) (Abk:Int) (Aao:List Tree) (a2:Bool):Option (PR (TyF×TyC×Int×TyB×TyC×Int) (Int×Int)):=Adg (fun (l2:TyC) (l7:TyB)=>PR.bind (Rc.Ajl Aac l2 Aci Ack Acn Adl l7 Ac2 Adm Abz Aao) fun r13=>some (PR.ok (r13.1,r13.2.1,r13.2.2.1,r13.2.2.2.1,r13.2.2.2.2.1,r13.2.2.2.2.2))) (fun J12=>cond (Aas == 8) (PR.bind (Akn.f k Aas Abb Aa3 Abk Aao (IntKind.i64.wrap (((Aao.length:Nat):Int) - 1)) 50) fun r32=>J12 Aam Acp) (cond (Aas == 30) (PR.bind (Akn.f k Aas Abb Aa3 Abk Aao ((Aao.length:Nat):Int) 50) fun r35=>J12 Aam Acp) (cond (Aas == 12) (PR.bind (Akn.f k Aas Abb Aa3 Abk Aao ((Aao.length:Nat):Int) 200) fun r38=>J12 Aam Acp) (cond (Aas == 4) (PR.bind (Azo.f k Aac Aam Aci Ack Acn Adl Acp Ac2 Adm Abz Aas Abb Aa3 Abk Aao 2 Aa3 (⟨#[]⟩:ByteArray)) fun r41=>J12 Aam r41) (cond (Aas == 5) (PR.bind (Azo.f k Aac Aam Aci Ack Acn Adl Acp Ac2 Adm Abz Aas Abb Aa3 Abk Aao 3 0 Abb) fun r48=>J12 Aam r48) (cond (Aas == 6) (PR.bind (A4u.f k Aac Aam Aci Ack Acn Adl Acp Ac2 Adm Abz Aas Abb Aa3 Abk Aao) fun r55=>J12 r55 Acp) (cond (Aas == 7) ((Acz Aao 0).bind fun x62=>(cond (x62.kind == 6) ((At9.f k x62.text).bind fun r95=>some r95) (some false):Option Bool).bind fun q72=>cond q72 (Adg (fun (_:Unit)=>some (PR.ok (Aac,Aam,Adl,Acp,Ac2,Adm))) (fun J74=>(Acz Aao 1).bind fun x75=>(cond a2 (some true) (cond (x75.kind != 5) (some true) ((Auy x62.text (⟨#[46]⟩:ByteArray)).bind fun s91:ByteArray=>(Auy s91 x75.text).bind fun s92:ByteArray=>(Azm.f k s92).bind fun r93=>some (r93 == 0))):Option Bool).bind fun q85=>cond q85 (PR.bind (Aov.f k 5 Abk) fun r87=>J74 ()) (J74 ()))) (J12 Aam Acp)) (J12 Aam Acp))))))))
theorem Aqy.okg {Rc:CK} (hR:Rc.Good) {k:Nat}:Aqy.C (Aqy.g Rc k):=by
 intro Aac Aam Ac2 Abz Aci Abb Ack Acn Adl Adm Aas Aa3 Abk Acp Aao a2 b0 Abf Afa Abq Aem Afi Ad4 Ab4 Ac0 Afm Af4 Ags Akl Aev G Abe Ae6 Ael Afh Ad2 Ab1 r h Abm Ahg Ahv Aip Ai6 Adf hG
 refine Afb (args:=[pt b0,.agg #[iv Aas,sv Abb,iv Aa3,iv Abk,.slice Ab1 Aao.length Ab4],bv a2]) Tryz.func36 rfl (Nat.le_of_ble_eq_true rfl) ?_
 intro A X hh_
 obtain ⟨Akx,Ada,Adu,_⟩:=hh_
 unfold Aqy.g at h
 refine K.eq (env':=[(0,pt b0),(1,.agg #[iv Aas,sv Abb,iv Aa3,iv Abk,.slice Ab1 Aao.length Ab4]),(2,bv a2)]) (l':=bk b0 #[.slice Abe Aac.length Abf,.slice Ae6 Aam.length Afa,pt Abq] 75 :: Ac0 :: Afm :: bk Abq #[sv Aci,iv Ack,iv Acn,iv Adl,.slice Ael Acp.length Aem,.slice Afh Ac2.length Afi,iv Adm,.slice Ad2 Abz.length Ad4] 73 :: Af4 :: Ags :: X) rfl rfl (ksr (knp #[iv Aas,sv Abb,iv Aa3,iv Abk,.slice Ab1 Aao.length Ab4] 54 fun b1=>(knt ?_)))
 obtain ⟨J12,Brd,h⟩:=Agm h
 refine Agn (τ:=TyC×TyB×Aaa×TyO×Nat×Aaa×TyO×Nat) (fun t=>[(0,pt b0),(4,pt b1)]) (fun t=>bk b1 #[iv Aas,sv Abb,iv Aa3,iv Abk,.slice Ab1 Aao.length Ab4] 54 :: bk b0 #[.slice Abe Aac.length Abf,.slice t.2.2.2.1 t.1.length t.2.2.2.2.1,pt Abq] 75 :: Ac0 :: bk Abq #[sv Aci,iv Ack,iv Acn,iv Adl,.slice t.2.2.2.2.2.2.1 t.2.1.length t.2.2.2.2.2.2.2,.slice Afh Ac2.length Afi,iv Adm,.slice Ad2 Abz.length Ad4] 73 :: Ags :: t.2.2.1 :: t.2.2.2.2.2.1 :: X) (fun t=>J12 t.1 t.2.1=some r∧Aan encS 9 1 t.2.2.1 (.slice t.2.2.2.1 t.1.length t.2.2.2.2.1) t.1∧Aan e78 78 3 t.2.2.2.2.2.1 (.slice t.2.2.2.2.2.2.1 t.2.1.length t.2.2.2.2.2.2.2) t.2.1) ?_ ?_
 ·rintro ⟨l2,l7,h3,A4,k5,h8,A9,k10⟩ ⟨h,o6,o11⟩
  subst Brd
  refine Ach (kx 2 (kld 0 4 rfl (K.drop (K.mv3 (K.mv5 (K.mv4 (K.mv5 (K.mv5 (K.mv5 (kcp h (fun _ A5h=>(hR.Ajl (b0:=b0) (Abq:=Abq) A5h Abm o6 o11 Aip Ai6 Adf hG)) rfl ⟨Akx,Ada,Adu,trivial⟩ (fun _ e=>kpn 0 e rfl) fun r13 h=>?_))))))))))
  rintro _ _ ⟨h15,A16,k17,h19,A20,k21,h23,A24,k25,h27,A28,k29,o18,o22,o26,o30,rfl,rfl⟩
  refine Ajb (knl (Ae2 ?_))
  obtain rfl:=Option.some.inj h
  exact kdv (.tuple #[]) [bk b0 #[.slice A16 r13.1.length k17,.slice A20 r13.2.1.length k21,pt Abq] 75,h15,h19,bk Abq #[sv Aci,iv Ack,iv Acn,iv r13.2.2.1,.slice A24 r13.2.2.2.1.length k25,.slice A28 r13.2.2.2.2.1.length k29,iv r13.2.2.2.2.2,.slice Ad2 Abz.length Ad4] 73,h23,h27] (Adj (PR.okI ⟨h15,A16,k17,h19,A20,k21,h23,A24,k25,h27,A28,k29,o18,o22,o26,o30,rfl,rfl⟩))
 ·skip
  refine ksr (kx 1 (kld 0 0 rfl (knt (Aez (ksr (kx 2 (knt ?_)))))))
  refine kcn h (fun h=>?_) fun h=>?_
  ·refine Ach (kla 0 0 5 rfl (kx 1 (kld 0 4 rfl (kx 2 (kcp h (fun _ A5l=>(Akn.ok A5l Adf)) rfl ⟨(t7 Ada),trivial⟩ (fun _ e=>Adz (Ab5 (kpn 7 e rfl))) fun r32 h=>?_)))))
   rintro _ _ ⟨rfl,rfl⟩
   refine Aoj (knl (Acx (Abr (K.mv5 (K.mv4 (K.mv6 (K.mv6 (K.mv6 (K.mv6 (K.mv6 ?_))))))))))
   exact Adb (Aam,Acp,Afm,Ae6,Afa,Af4,Ael,Aem) ⟨h,Ahg,Ahv⟩ sb rfl
  ·refine ksr (kx 2 (knt ?_))
   refine kcn h (fun h=>?_) fun h=>?_
   ·refine Ach (kla 0 0 5 rfl (kx 1 (kld 0 4 rfl (kx 1 (kcp h (fun _ A5m=>(Akn.ok A5m Adf)) rfl ⟨(t7 Ada),trivial⟩ (fun _ e=>Adz (Ab5 (kpn 7 e rfl))) fun r35 h=>?_)))))
    rintro _ _ ⟨rfl,rfl⟩
    refine Aoj (knl (Acx (Abr (K.mv5 (K.mv4 (K.mv6 (K.mv6 (K.mv6 (K.mv6 (K.mv6 ?_))))))))))
    exact Adb (Aam,Acp,Afm,Ae6,Afa,Af4,Ael,Aem) ⟨h,Ahg,Ahv⟩ sb rfl
   ·refine ksr (kx 2 (knt ?_))
    refine kcn h (fun h=>?_) fun h=>?_
    ·refine Ach (kla 0 0 5 rfl (kx 1 (kld 0 4 rfl (kx 1 (kcp h (fun _ A5p=>(Akn.ok A5p Adf)) rfl ⟨(t7 Ada),trivial⟩ (fun _ e=>Adz (Ab5 (kpn 7 e rfl))) fun r38 h=>?_)))))
     rintro _ _ ⟨rfl,rfl⟩
     refine Aoj (knl (Acx (Abr (K.mv5 (K.mv4 (K.mv6 (K.mv6 (K.mv6 (K.mv6 (K.mv6 ?_))))))))))
     exact Adb (Aam,Acp,Afm,Ae6,Afa,Af4,Ael,Aem) ⟨h,Ahg,Ahv⟩ sb rfl
    ·refine ksr (kx 2 (knt ?_))
     refine kcn h (fun h=>?_) fun h=>?_
     ·refine Ach (kx 1 (kla 0 0 5 rfl (kx 1 (kld 0 2 rfl (kx 1 (K.mv5 (K.mv5 (K.mv3 (kcp h (fun _ A5r=>(Azo.ok (b0:=b0) (Abq:=Abq) A5r (Abp.rd Abm) (Aan.rd Ahg) Ahv (Aan.rd Aip) Ai6 Adf)) rfl ⟨(.tail _ (.head _)),(.tail _ (.tail _ (.head _))),(.tail _ (.tail _ (.tail _ (.head _)))),(t4 Akx),(t4 Ada),trivial⟩ (fun _ e=>Adz (Ab5 (kpn 4 e rfl))) fun r41 h=>?_)))))))))
      rintro _ _ ⟨h43,A44,k45,o46,rfl,rfl⟩
      refine A3h (knl (Acx (Abr (K.mv2 (K.mv5 (K.mv6 (K.mv4 (K.mv6 (K.mv5 (K.mv6 ?_))))))))))
      exact Adb (Aam,r41,Afm,Ae6,Afa,h43,A44,k45) ⟨h,Ahg,o46⟩ sb rfl
     ·refine ksr (kx 2 (knt ?_))
      refine kcn h (fun h=>?_) fun h=>?_
      ·refine Ach (kx 1 (kla 0 0 5 rfl (kx 1 (kld 0 1 rfl (kx 1 (K.mv5 (K.mv5 (K.mv3 (kcp h (fun _ Btk=>(Azo.ok (b0:=b0) (Abq:=Abq) Btk (Abp.rd Abm) (Aan.rd Ahg) Ahv (Aan.rd Aip) Ai6 Adf)) rfl ⟨(.tail _ (.head _)),(.tail _ (.tail _ (.head _))),(.tail _ (.tail _ (.tail _ (.head _)))),(t4 Akx),(t4 Ada),trivial⟩ (fun _ e=>Adz (Ab5 (kpn 4 e rfl))) fun r48 h=>?_)))))))))
       rintro _ _ ⟨h50,A51,k52,o53,rfl,rfl⟩
       refine A3h (knl (Acx (Abr (K.mv2 (K.mv5 (K.mv6 (K.mv4 (K.mv6 (K.mv5 (K.mv6 ?_))))))))))
       exact Adb (Aam,r48,Afm,Ae6,Afa,h50,A51,k52) ⟨h,Ahg,o53⟩ sb rfl
      ·refine ksr (kx 2 (knt ?_))
       refine kcn h (fun h=>?_) fun h=>?_
       ·refine Ach (kx 1 (kla 0 0 5 rfl (K.mv4 (K.mv4 (K.mv3 (kcp h (fun _ Be1=>(A4u.ok (b0:=b0) (Abq:=Abq) Be1 (Abp.rd Abm) Ahg (Aan.rd Ahv) (Aan.rd Aip) Ai6 Adf)) rfl ⟨(.tail _ (.head _)),(.tail _ (.tail _ (.head _))),(.tail _ (.tail _ (.tail _ (.head _)))),(t4 Akx),(t4 Ada),trivial⟩ (fun _ e=>Adz (Ab5 (kpn 4 e rfl))) fun r55 h=>?_))))))
        rintro _ _ ⟨h57,A58,k59,o60,rfl,rfl⟩
        refine A3h (knl (Acx (Abr (K.mv5 (K.mv2 (K.mv6 (K.mv4 (K.mv6 (K.mv5 (K.mv6 ?_))))))))))
        exact Adb (r55,Acp,h57,A58,k59,Af4,Ael,Aem) ⟨h,o60,Ahv⟩ sb rfl
       ·refine ksr (kx 2 (knt ?_))
        refine kcn h (fun h=>?_) fun h=>?_
        ·refine ksr (kx 1 (kld 0 4 rfl (bnd h fun x62 Bfe h=>(Aht (T:=54) (kd:=.i64) (R:=(Abx 54)) rfl Bfe Adf fun p63 u66 q67 e64 y65=>?_))))
         obtain ⟨A68,k69,rfl,o70⟩:=Ahx 54 q67
         refine keN rfl e64 (t7 Ada) (knp #[iv 0,sv noS,iv 0,iv 0,nS] 54 fun b71=>(kst 0 5 #[iv x62.kind,sv x62.text,iv x62.n,iv x62.at_,.slice A68 x62.kids.length k69] (knt (bnd h fun q72 Bsh h=>?_))))
         refine An7 [(0,pt b0),(2,bv a2),(4,pt b1),(6,pt b71),(66,bv q72)] (bk b71 #[iv x62.kind,sv x62.text,iv x62.n,iv x62.at_,.slice A68 x62.kids.length k69] 54 :: bk b1 #[iv Aas,sv Abb,iv Aa3,iv Abk,.slice Ab1 Aao.length Ab4] 54 :: bk b0 #[.slice Abe Aac.length Abf,.slice Ae6 Aam.length Afa,pt Abq] 75 :: Ac0 :: Afm :: bk Abq #[sv Aci,iv Ack,iv Acn,iv Adl,.slice Ael Acp.length Aem,.slice Afh Ac2.length Afi,iv Adm,.slice Ad2 Abz.length Ad4] 73 :: Af4 :: Ags :: X) ?_ ?_
         ·clear Bsh
          refine kcn h (fun h=>?_) fun h=>?_
          ·obtain ⟨J74,Cte,h⟩:=Agm h
           refine Agn (τ:=Unit) (fun t=>[]) (fun t=>bk b0 #[.slice Abe Aac.length Abf,.slice Ae6 Aam.length Afa,pt Abq] 75 :: Ac0 :: Afm :: bk Abq #[sv Aci,iv Ack,iv Acn,iv Adl,.slice Ael Acp.length Aem,.slice Afh Ac2.length Afi,iv Adm,.slice Ad2 Abz.length Ad4] 73 :: Af4 :: Ags :: X) (fun t=>J74 ()=some r) ?_ ?_
           ·rintro ⟨⟩ h
            subst Cte
            refine Afj (Ajk (Ahj ?_))
            obtain rfl:=Option.some.inj h
            exact kdv (.tuple #[]) [bk b0 #[.slice Abe Aac.length Abf,.slice Ae6 Aam.length Afa,pt Abq] 75,Ac0,Afm,bk Abq #[sv Aci,iv Ack,iv Acn,iv Adl,.slice Ael Acp.length Aem,.slice Afh Ac2.length Afi,iv Adm,.slice Ad2 Abz.length Ad4] 73,Af4,Ags] (Adj (PR.okI ⟨Ac0,Abe,Abf,Afm,Ae6,Afa,Af4,Ael,Aem,Ags,Afh,Afi,Abm,Ahg,Ahv,Aip,rfl,rfl⟩))
           ·skip
            refine ksr (kx 1 (kld 1 4 rfl (bnd h fun x75 C0f h=>(Aht (T:=54) (kd:=.i64) (R:=(Abx 54)) rfl C0f Adf fun p76 u79 q80 e77 y78=>?_))))
            obtain ⟨A81,k82,rfl,o83⟩:=Ahx 54 q80
            refine keN rfl e77 (t8 Ada) (knp #[iv 0,sv noS,iv 0,iv 0,nS] 54 fun b84=>(kst 0 5 #[iv x75.kind,sv x75.text,iv x75.n,iv x75.at_,.slice A81 x75.kids.length k82] (knt (bnd h fun q85 Bsl h=>?_))))
            refine An7 [(4,pt b1),(86,bv q85)] (bk b1 #[iv Aas,sv Abb,iv Aa3,iv Abk,.slice Ab1 Aao.length Ab4] 54 :: bk b0 #[.slice Abe Aac.length Abf,.slice Ae6 Aam.length Afa,pt Abq] 75 :: Ac0 :: Afm :: bk Abq #[sv Aci,iv Ack,iv Acn,iv Adl,.slice Ael Acp.length Aem,.slice Afh Ac2.length Afi,iv Adm,.slice Ad2 Abz.length Ad4] 73 :: Af4 :: Ags :: X) ?_ ?_
            ·clear Bsl
             refine kcn h (fun h=>?_) fun h=>?_
             ·refine Ach (kx 1 (kld 0 3 rfl (K.drop (kcp h (fun _ Bt0=>(Aov.ok Bt0)) rfl trivial (fun _ e=>Ab5 (Adz (Ab5 (kpn 6 e rfl)))) fun r87 h=>?_))))
              rintro _ _ ⟨rfl,rfl⟩
              exact Aoj (knt (Adb () h trivial rfl))
             ·exact Adv (Abr (K.drop (Adb () h trivial rfl)))
            ·have h:=Bsl
             clear Bsl
             refine Ach (kx 2 ?_)
             refine kcs 72 h (fun h=>?_) fun h=>?_
             ·exact kx 14 (knt (K.drop (K.drop (Agb ⟨gr,gb (Option.some.inj h),trivial⟩))))
             ·refine kx 1 (kld 0 0 rfl (kx 3 ?_))
              refine kcs 77 h (fun h=>?_) fun h=>?_
              ·exact kx 9 (knt (K.drop (K.drop (Agb ⟨gr,gb (Option.some.inj h),trivial⟩))))
              ·refine kx 1 (kld 1 1 rfl (K.mv1 (K.drop (bnd h fun s91 Cys h=>(Bf2 rfl (by kernel_rfl) (by kernel_rfl) (by kernel_rfl) (by kernel_rfl) Cys (kx 1 (kld 0 1 rfl (K.drop (bnd h fun s92 Cyt h=>(Bf2 rfl (by kernel_rfl) (by kernel_rfl) (by kernel_rfl) (by kernel_rfl) Cyt ?_))))))))))
               exact bnd h fun r93 Be7 h=>(kcv (Azm.ok Be7 hG) ⟨(t7 Adu),trivial⟩ (kx 2 (knt (Agb ⟨gr,gb (Option.some.inj h),trivial⟩))))
          ·refine Adv (Acx (Abr (K.drop (K.mv5 (K.mv4 (K.mv6 (K.mv6 (K.mv6 (K.mv6 (K.mv6 ?_))))))))))
           exact Adb (Aam,Acp,Afm,Ae6,Afa,Af4,Ael,Aem) ⟨h,Ahg,Ahv⟩ sb rfl
         ·have h:=Bsh
          clear Bsh
          refine Ach (kx 1 (kld 0 0 rfl (kx 2 ?_)))
          refine kcs 62 h (fun h=>?_) fun h=>?_
          ·exact kx 1 (kld 0 1 rfl (bnd h fun r95 Az1 h=>(kcv (At9.ok Az1) trivial (kx 1 (knt (Agb ⟨gr,gr,gr,gr,gb (Option.some.inj h),trivial⟩))))))
          ·exact kx 4 (knt (Agb ⟨gr,gr,gr,gr,gb (Option.some.inj h),trivial⟩))
        ·exact Adv (Acx (Abr (K.mv5 (K.mv4 (K.mv6 (K.mv6 (K.mv6 (K.mv6 (K.mv6 (Adb (Aam,Acp,Afm,Ae6,Afa,Af4,Ael,Aem) ⟨h,Ahg,Ahv⟩ sb rfl))))))))))
def Anl.g (Rc:CK) (k:Nat) (Aac:TyF) (Aam:TyC) (Aci:ByteArray) (Ack:Int) (Acn:Int) (Adl:Int) (Acp:TyB) (Ac2:TyC) (Adm:Int) (Abz:TyC) (Aas:Int) (Abb:ByteArray) (Aa3:Int) (Abk:Int) (Aao:List Tree) (a2:List Tree) (Aza:Int) (Azc:ByteArray) (Aze:Int) (Azh:Int) (Awi:List Tree) (a4:Int):Option (PR (TyF×TyC×Int×TyB×TyC×Int) (Int×Int)):=(A4k 16 Ac2 (⟨#[]⟩:ByteArray) a4).bind fun l3=>Adg (fun (x8:Int) (l9:TyC)=>PR.bind (Rc.Ahi Aac Aam Aci Ack Acn x8 Acp l9 (IntKind.i64.wrap (Adm+1)) Abz Aza Azc Aze Azh Awi false) fun r15=>(Ah4 r15.2.2.2.2.1 0 ((Ac2.length:Nat):Int)).bind fun l33=>some (PR.ok (r15.1,r15.2.1,r15.2.2.1,r15.2.2.2.1,l33,IntKind.i64.wrap (r15.2.2.2.2.2 - 1)))) (fun J14=>cond (decide (a4 > 0)) (PR.bind (Aot.f k Aac Aam Aci Ack Acn Adl Acp l3 Adm Abz Aas Abb Aa3 Abk Aao a2) fun r36=>J14 r36.1 r36.2) (J14 Adl l3))
theorem Anl.okg {Rc:CK} (hR:Rc.Good) {k:Nat}:Anl.C (Anl.g Rc k):=by
 intro Aac Aam Ac2 Abz Aci Abb Azc Ack Acn Adl Adm Aas Aa3 Abk Aza Aze Azh a4 Acp Aao a2 Awi b0 Abf Afa Abq Aem Afi Ad4 Ab4 Aml A4s Ac0 Afm Af4 Ags Akl Aev Aty Boy G Abe Ae6 Ael Afh Ad2 Ab1 Ami A4c r h Abm Ahg Ahv Aip Ai6 Adf A2f B2w hG
 refine Afb (args:=[pt b0,.agg #[iv Aas,sv Abb,iv Aa3,iv Abk,.slice Ab1 Aao.length Ab4],.slice Ami a2.length Aml,.agg #[iv Aza,sv Azc,iv Aze,iv Azh,.slice A4c Awi.length A4s],iv a4]) Tryz.func35 rfl (Nat.le_of_ble_eq_true rfl) ?_
 intro A X hh_
 obtain ⟨Akx,Ada,Azw,Cvo,Adu,_⟩:=hh_
 unfold Anl.g at h
 refine K.eq (env':=[(0,pt b0),(1,.agg #[iv Aas,sv Abb,iv Aa3,iv Abk,.slice Ab1 Aao.length Ab4]),(2,.slice Ami a2.length Aml),(3,.agg #[iv Aza,sv Azc,iv Aze,iv Azh,.slice A4c Awi.length A4s]),(4,iv a4)]) (l':=bk b0 #[.slice Abe Aac.length Abf,.slice Ae6 Aam.length Afa,pt Abq] 75 :: Ac0 :: Afm :: bk Abq #[sv Aci,iv Ack,iv Acn,iv Adl,.slice Ael Acp.length Aem,.slice Afh Ac2.length Afi,iv Adm,.slice Ad2 Abz.length Ad4] 73 :: Af4 :: Ags :: X) rfl rfl (ksr (knp #[iv Aas,sv Abb,iv Aa3,iv Abk,.slice Ab1 Aao.length Ab4] 54 fun b1=>(knp #[iv Aza,sv Azc,iv Aze,iv Azh,.slice A4c Awi.length A4s] 54 fun b2=>(Aby (kx 3 (kld 2 2 rfl (kx 2 (kld 5 5 rfl (kx 2 (knt ?_))))))))))
 refine Ac1 (kpr [(0,0),(1,0),(2,0),(3,3),(4,0),(5,0),(6,0),(7,3),(8,0),(9,0),(10,3),(11,0),(12,1)] [2,5] (kpx 3 (kpd 0 2 rfl (kpx 3 (kpd 0 2 rfl (kpx 2 (kpd 1 5 rfl (kpx 1 (kpt (K.mv7 ?_))))))))))
 refine bnd h fun l3 hl3 h=>(Cem (kz:=.i64) (z0:=(⟨#[]⟩:ByteArray)) .i64 Asj (by kernel_rfl) rfl Bdu (by kernel_rfl) (by kernel_rfl) (by kernel_rfl) (by kernel_rfl) hl3 Aip fun h4 A5 k6 o7=>(kan [3,6] rfl (kpz (kx 2 (K.mv6 (kst 5 1 #[sv Aci,iv Ack,iv Acn,iv Adl,.slice Ael Acp.length Aem,.slice A5 l3.length k6,iv Adm,.slice Ad2 Abz.length Ad4] (knt ?_)))))))
 obtain ⟨J14,Aw0,h⟩:=Agm h
 refine Agn (τ:=Int×TyC×Aaa×TyO×Nat) (fun t=>[(0,pt b0),(8,pt b2),(10,iv ((Ac2.length:Nat):Int))]) (fun t=>bk Abq #[sv Aci,iv Ack,iv Acn,iv t.1,.slice Ael Acp.length Aem,.slice t.2.2.2.1 t.2.1.length t.2.2.2.2,iv Adm,.slice Ad2 Abz.length Ad4] 73 :: bk b2 #[iv Aza,sv Azc,iv Aze,iv Azh,.slice A4c Awi.length A4s] 54 :: bk b0 #[.slice Abe Aac.length Abf,.slice Ae6 Aam.length Afa,pt Abq] 75 :: Ac0 :: Afm :: Af4 :: t.2.2.1 :: X) (fun t=>J14 t.1 t.2.1=some r∧Aan encS 9 1 t.2.2.1 (.slice t.2.2.2.1 t.2.1.length t.2.2.2.2) t.2.1) ?_ ?_
 ·rintro ⟨x8,l9,h10,A11,k12⟩ ⟨h,o13⟩
  subst Aw0
  refine ksr (kx 3 (kld 2 2 rfl (kx 2 (kld 0 6 rfl (kx 3 (kst 6 1 #[sv Aci,iv Ack,iv Acn,iv x8,.slice Ael Acp.length Aem,.slice A11 l9.length k12,iv (IntKind.i64.wrap (Adm+1)),.slice Ad2 Abz.length Ad4] (Aby (kx 1 (kla 1 0 5 rfl (K.mv1 ?_))))))))))
  refine K.drop (K.mv5 (K.mv5 (K.mv2 (K.mv5 (K.mv5 (K.mv5 (kcp h (fun _ Aw2=>(hR.Ahi (b0:=b0) (Abq:=Abq) Aw2 Abm Ahg Ahv o13 Ai6 B2w hG)) rfl ⟨Akx,Cvo,Adu,trivial⟩ (fun _ e=>Ab5 (kpn 0 e rfl)) fun r15 h=>?_)))))))
  rintro _ _ ⟨h17,A18,k19,h21,A22,k23,h25,A26,k27,h29,A30,k31,o20,o24,o28,o32,rfl,rfl⟩
  refine Ajb (Aby (kx 3 (kld 0 2 rfl (kx 2 (kld 3 6 rfl (kx 3 (K.mv3 (kst 6 1 #[sv Aci,iv Ack,iv Acn,iv r15.2.2.1,.slice A26 r15.2.2.2.1.length k27,.slice A30 r15.2.2.2.2.1.length k31,iv (IntKind.i64.wrap (r15.2.2.2.2.2 - 1)),.slice Ad2 Abz.length Ad4] (knt (kpr [(0,0),(1,0),(2,0),(3,3),(4,0),(5,0),(6,0),(7,3),(8,0),(9,0),(10,3),(11,0),(12,0)] [0,1] ?_))))))))))
  refine kpx 3 (kpd 1 2 rfl (kpx 3 (kpd 1 2 rfl (kpx 2 (kpd 0 5 rfl (kpx 1 (bnd h fun l33 Cuz h=>(Ccl (T:=9) (sz:=1) (k:=.i64) (xs:=r15.2.2.2.2.1) ((Ac2.length:Nat):Int) Asj rfl (by kernel_rfl) (by kernel_rfl) (by kernel_rfl) (by kernel_rfl) (by kernel_rfl) (by kernel_rfl) Cuz o32 fun o34=>(kpz (kx 2 ?_))))))))))
  refine kst 5 1 #[sv Aci,iv Ack,iv Acn,iv r15.2.2.1,.slice A26 r15.2.2.2.1.length k27,.slice A30 l33.length k31,iv (IntKind.i64.wrap (r15.2.2.2.2.2 - 1)),.slice Ad2 Abz.length Ad4] (knl (Ae2 ?_))
  obtain rfl:=Option.some.inj h
  exact kdv (.tuple #[]) [bk b0 #[.slice A18 r15.1.length k19,.slice A22 r15.2.1.length k23,pt Abq] 75,h17,h21,bk Abq #[sv Aci,iv Ack,iv Acn,iv r15.2.2.1,.slice A26 r15.2.2.2.1.length k27,.slice A30 l33.length k31,iv (IntKind.i64.wrap (r15.2.2.2.2.2 - 1)),.slice Ad2 Abz.length Ad4] 73,h25,h29] (K.mv5 (K.mv5 (K.mv2 (K.mv5 (K.mv5 (K.mv5 (Adj (PR.okI ⟨h17,A18,k19,h21,A22,k23,h25,A26,k27,h29,A30,k31,o20,o24,o28,o34,rfl,rfl⟩))))))))
 ·skip
  refine ksr (kx 2 (knt ?_))
  refine kcn h (fun h=>?_) fun h=>?_
  ·refine Ach (kx 1 (kla 3 0 5 rfl (K.mv3 (K.drop (kx 1 (K.mv1 (K.mv1 (K.mv3 (kcp h (fun _ Aw3=>(Aot.ok (b0:=b0) (Abq:=Abq) Aw3 (Abp.rd Abm) (Aan.rd Ahg) (Aan.rd Ahv) o7 Ai6 Adf A2f)) rfl ⟨(.tail _ (.head _)),(.tail _ (.tail _ (.head _))),(.tail _ (.tail _ (.tail _ (.head _)))),(t4 Akx),(t4 Ada),(t4 Azw),trivial⟩ (fun _ e=>Ab5 (kpn 4 e rfl)) fun r36 h=>?_)))))))))
   rintro _ _ ⟨h38,A39,k40,o41,rfl,rfl⟩
   exact A3h (knt (K.mv2 (K.mv6 (K.mv6 (K.mv6 (K.mv4 (K.mv6 (K.mv6 (Adb (r36.1,r36.2,h38,A39,k40) ⟨h,o41⟩ sb rfl)))))))))
  ·refine Adv (Abr (K.mv3 (K.drop (K.mv1 (K.mv6 (K.mv6 (K.mv6 (K.mv6 (K.mv6 (K.mv6 ?_))))))))))
   exact Adb (Adl,l3,h4,A5,k6) ⟨h,o7⟩ sb rfl
def Aq3.g (Rc:CK) (k:Nat) (Aac:TyF) (Aam:TyC) (Aci:ByteArray) (Ack:Int) (Acn:Int) (Adl:Int) (Acp:TyB) (Ac2:TyC) (Adm:Int) (Abz:TyC) (Aas:Int) (Abb:ByteArray) (Aa3:Int) (Abk:Int) (Aao:List Tree):Option (PR (TyF×TyC×Int×TyB×TyC×Int) (Int×Int)):=PR.bind (Akn.f k Aas Abb Aa3 Abk Aao ((Aac.length:Nat):Int) 100) fun r2=>Adg (fun (_:Unit)=>PR.bind (Akn.f k Aas Abb Aa3 Abk Aao Aa3 50) fun r5=>(Azq.f k Aac Aam Aci Ack Acn Adl Acp Ac2 Adm Abz Abb).bind fun r7=>(Ah4 Aao 0 Aa3).bind fun l13=>PR.bind (Aot.f k Aac r7 Abb Abk Aa3 0 ([]) ([]) 0 Ac2 Aas Abb Aa3 Abk Aao l13) fun r17=>(Acz Aao Aa3).bind fun x23=>PR.bind (Rc.Ahi Aac r7 Abb Abk Aa3 r17.1 ([]) r17.2 0 Ac2 x23.kind x23.text x23.n x23.at_ x23.kids false) fun r32=>(apd 64 r32.1 [(Abb,Abk,Aa3,r32.2.2.1,r32.2.2.2.1)]).bind fun l53=>some (PR.ok (l53,r32.2.1,Adl,Acp,Ac2,Adm))) (fun J4=>(At9.f k Abb).bind fun r58=>cond r58 (PR.bind (Aov.f k 5 Abk) fun r60=>J4 ()) (J4 ()))
theorem Aq3.okg {Rc:CK} (hR:Rc.Good) {k:Nat}:Aq3.C (Aq3.g Rc k):=by
 intro Aac Aam Ac2 Abz Aci Abb Ack Acn Adl Adm Aas Aa3 Abk Acp Aao b0 Abf Afa Abq Aem Afi Ad4 Ab4 Ac0 Afm Af4 Ags Akl Aev G Abe Ae6 Ael Afh Ad2 Ab1 r h Abm Ahg Ahv Aip Ai6 Adf hG
 refine Afb (args:=[pt b0,.agg #[iv Aas,sv Abb,iv Aa3,iv Abk,.slice Ab1 Aao.length Ab4]]) Tryz.func32 rfl (Nat.le_of_ble_eq_true rfl) ?_
 intro A X hh_
 obtain ⟨Akx,Ada,Adu,_⟩:=hh_
 unfold Aq3.g at h
 refine K.eq (env':=[(0,pt b0),(1,.agg #[iv Aas,sv Abb,iv Aa3,iv Abk,.slice Ab1 Aao.length Ab4])]) (l':=bk b0 #[.slice Abe Aac.length Abf,.slice Ae6 Aam.length Afa,pt Abq] 75 :: Ac0 :: Afm :: bk Abq #[sv Aci,iv Ack,iv Acn,iv Adl,.slice Ael Acp.length Aem,.slice Afh Ac2.length Afi,iv Adm,.slice Ad2 Abz.length Ad4] 73 :: Af4 :: Ags :: X) rfl rfl (ksr (knp #[iv Aas,sv Abb,iv Aa3,iv Abk,.slice Ab1 Aao.length Ab4] 54 fun b1=>(knt (Ac1 (kpr [(0,3),(1,0),(2,0),(3,0),(4,0),(5,3),(6,0)] [0,1] (kpa 0 0 5 rfl (kpx 4 (kpd 1 0 rfl (kpx 1 (kpz ?_))))))))))
 refine kcp h (fun _ hr2=>(Akn.ok hr2 Adf)) rfl ⟨(t7 Ada),trivial⟩ (fun _ e=>Ab5 (kpn 7 e rfl)) fun r2 h=>?_
 rintro _ _ ⟨rfl,rfl⟩
 refine Aoj (knt ?_)
 obtain ⟨J4,hJ4,h⟩:=Agm h
 refine Agn (τ:=Unit) (fun t=>[(0,pt b0),(3,pt b1)]) (fun t=>bk b1 #[iv Aas,sv Abb,iv Aa3,iv Abk,.slice Ab1 Aao.length Ab4] 54 :: bk b0 #[.slice Abe Aac.length Abf,.slice Ae6 Aam.length Afa,pt Abq] 75 :: Ac0 :: Afm :: bk Abq #[sv Aci,iv Ack,iv Acn,iv Adl,.slice Ael Acp.length Aem,.slice Afh Ac2.length Afi,iv Adm,.slice Ad2 Abz.length Ad4] 73 :: Af4 :: Ags :: X) (fun t=>J4 ()=some r) ?_ ?_
 ·rintro ⟨⟩ h
  subst hJ4
  refine ksr (kla 0 0 5 rfl (kx 1 (kld 0 2 rfl (kcp h (fun _ hr5=>(Akn.ok hr5 Adf)) rfl ⟨(t7 Ada),trivial⟩ (fun _ e=>Ab5 (kpn 7 e rfl)) fun r5 h=>?_))))
  rintro _ _ ⟨rfl,rfl⟩
  refine Aoj (Aby (kx 2 (kld 0 1 rfl (K.mv4 (K.mv4 (K.mv3 (bnd h fun r7 hr7 h=>(kcl (Azq.ok (b0:=b0) (Abq:=Abq) hr7 (Abp.rd Abm) Ahg (Aan.rd Ahv) (Aan.rd Aip) Ai6) rfl ⟨(.tail _ (.head _)),(.tail _ (.tail _ (.head _))),(.tail _ (.tail _ (.tail _ (.head _)))),(t4 Akx),trivial⟩ ?_))))))))
  rintro _ _ ⟨h8,A9,k10,o11,rfl,rfl⟩
  refine A3h (Aby (kx 3 (kld 0 2 rfl (kx 1 (knt (Ac1 (kpr [(0,0),(1,0),(2,3),(3,0),(4,3),(5,0),(6,3),(7,0),(8,0),(9,0),(10,0),(11,3)] [2,3] (kpx 2 (kpd 1 1 rfl (kpx 1 ?_))))))))))
  refine kpd 1 3 rfl (kpx 1 (kpd 1 2 rfl (kpx 4 (kpd 0 5 rfl (kpz (kx 1 (knp #[sv Abb,iv Abk,iv Aa3,iv 0,nS,nS,iv 0,.slice Afh Ac2.length Afi] 73 fun b12=>(kx 2 (K.mv1 (kst 2 1 #[.slice Abe Aac.length Abf,.slice A9 r7.length k10,pt b12] ?_))))))))))
  refine knt (Ac1 (kpr [(0,0),(1,3),(2,0),(3,3),(4,0),(5,3),(6,0)] [4] (kpx 1 (kpa 0 0 5 rfl (kpx 1 (kpd 0 4 rfl (kpx 1 (kpd 0 2 rfl (bnd h fun l13 Bry h=>(Avq (T:=54) (R:=(Abx 54)) (xs:=Aao) 0 Aa3 rfl (by kernel_rfl) (by kernel_rfl) (by kernel_rfl) (.inl ⟨rfl,rfl⟩) (.inr ⟨_,.i64,rfl,(by kernel_rfl)⟩) (by kernel_rfl) (by kernel_rfl) Bry Adf fun A14 k15 o16=>?_))))))))))
  refine kpz (Agh (Agh (K.mv3 (K.mv3 (kcp h (fun _ Aul=>(Aot.ok (b0:=b0) (Abq:=b12) Aul (Abp.rd Abm) (Aan.rd o11) (RdT.nil e78 3 none_) (Aan.nil encS 9 1 none_) (Aan.rd Aip) Adf o16)) rfl ⟨(.tail _ (.tail _ (.tail _ (.tail _ (.head _))))),(.tail _ (.head _)),(.head _),(.tail _ (.tail _ (.tail _ (.tail _ (.tail _ (.tail _ (.head _))))))),(t7 Ada),(t7 Ada),trivial⟩ (fun _ e=>Ab5 (kpn 7 e rfl)) fun r17 h=>?_)))))
  rintro _ _ ⟨h19,A20,k21,o22,rfl,rfl⟩
  refine A3h (K.mv3 (K.drop (Aby (kx 2 (kld 5 4 rfl (kx 1 (kld 5 2 rfl (K.mv5 (K.drop (bnd h fun x23 Czm h=>?_))))))))))
  refine Aht (T:=54) (kd:=.i64) (R:=(Abx 54)) rfl Czm Adf fun p24 u27 q28 e25 y26=>?_
  obtain ⟨A29,k30,rfl,o31⟩:=Ahx 54 q28
  refine keN rfl e25 (t8 Ada) (Agh (K.mv3 (K.mv1 (K.mv3 (K.mv4 (K.mv6 (K.mv5 (kcp h (fun _ A5l=>(hR.Ahi (b0:=b0) (Abq:=b12) A5l Abm o11 (Aan.nil e78 78 3 none_) o22 (Aan.rd Aip) o31 hG)) rfl ⟨(.tail _ (.tail _ (.head _))),(t3 Ada),(t3 Adu),trivial⟩ (fun _ e=>Ab5 (kpn 3 e rfl)) fun r32 h=>?_))))))))
  rintro _ _ ⟨h34,A35,k36,h38,A39,k40,h42,A43,k44,h46,A47,k48,o37,o41,o45,o49,rfl,rfl⟩
  refine Ajb (knt (Ac1 (kpr [(0,0),(1,0),(2,0),(3,0),(4,0),(5,3),(6,0),(7,0),(8,0),(9,3),(10,0),(11,0),(12,3),(13,1)] [0,3] (kpx 5 (kpd 0 0 rfl (kpx 3 (kpd 0 2 rfl (kpx 2 (kpa 1 0 5 rfl (kpt ?_))))))))))
  refine ons #[sv Abb,iv Abk,iv Aa3,iv r32.2.2.1,.slice A43 r32.2.2.2.1.length k44] 43 1 fun b50=>(kan [1,4] rfl (kpz (K.mv5 (K.mv1 (Ah3 (T:=43) (n:=1) (xs:=[(Abb,Abk,Aa3,r32.2.2.1,r32.2.2.2.1)]) (Aec.one (Bna (x:=(Abb,Abk,Aa3,r32.2.2.1,r32.2.2.2.1)) o45)) rfl rfl (Nat.le_of_ble_eq_true rfl) fun h51 o52=>(K.mv2 (bnd h fun l53 Cu4 h=>(Alq rfl Cpu rfl Cu4 o37 o52 fun h54 A55 k56 o57=>(kx 3 (K.mv1 ?_))))))))))
  refine kst 0 1 #[.slice A55 l53.length k56,.slice A39 r32.2.1.length k40,pt b12] (knr (kx 4 (kst 2 1 #[.slice A55 l53.length k56,.slice A39 r32.2.1.length k40,pt Abq] (K.mv3 (K.drop (K.mv3 (K.drop (knl (Ae2 ?_)))))))))
  obtain rfl:=Option.some.inj h
  exact kdv (.tuple #[]) [bk b0 #[.slice A55 l53.length k56,.slice A39 r32.2.1.length k40,pt Abq] 75,h54,h38,bk Abq #[sv Aci,iv Ack,iv Acn,iv Adl,.slice Ael Acp.length Aem,.slice Afh Ac2.length Afi,iv Adm,.slice Ad2 Abz.length Ad4] 73,Af4,Ags] (Adj (PR.okI ⟨h54,A55,k56,h38,A39,k40,Af4,Ael,Aem,Ags,Afh,Afi,o57,o41,Ahv,Aip,rfl,rfl⟩))
 ·skip
  refine ksr (kx 1 (kld 0 1 rfl (bnd h fun r58 Be4 h=>(kcv (At9.ok Be4) trivial (knt ?_)))))
  refine kcn h (fun h=>?_) fun h=>?_
  ·refine Ach (kx 1 (kld 0 3 rfl (kcp h (fun _ A5w=>(Aov.ok A5w)) rfl trivial (fun _ e=>Ab5 (kpn 7 e rfl)) fun r60 h=>?_)))
   rintro _ _ ⟨rfl,rfl⟩
   exact Aoj (knt (Adb () h sb rfl))
  ·exact Adv (Abr (Adb () h sb rfl))
def CK.at:Nat→CK
 | 0=>⟨fun _ _ _ _ _ _ _ _ _ _ _ _ _ _ _ _=>none,fun _ _ _ _ _ _ _ _ _ _ _=>none,fun _ _ _ _ _ _ _ _ _ _ _ _ _ _ _ _=>none,fun _ _ _ _ _ _ _ _ _ _ _ _ _ _ _ _ _ _ _ _ _ _=>none,fun _ _ _ _ _ _ _ _ _ _ _ _ _ _ _=>none⟩
 | k+1=>⟨Ahi.g (CK.at k) k,Ajl.g (CK.at k) k,Aqy.g (CK.at k) k,Anl.g (CK.at k) k,Aq3.g (CK.at k) k⟩
theorem CK.good:∀ k,(CK.at k).Good
 | 0=>⟨(by unfold Ahi.C;intros;rename_i h _ _ _ _ _ _ _;cases (show (none:Option _)=some _ from h)),(by unfold Ajl.C;intros;rename_i h _ _ _ _ _ _ _;cases (show (none:Option _)=some _ from h)),(by unfold Aqy.C;intros;rename_i h _ _ _ _ _ _ _;cases (show (none:Option _)=some _ from h)),(by unfold Anl.C;intros;rename_i h _ _ _ _ _ _ _ _ _;cases (show (none:Option _)=some _ from h)),(by unfold Aq3.C;intros;rename_i h _ _ _ _ _ _ _;cases (show (none:Option _)=some _ from h))⟩
 | k+1=>⟨Ahi.okg (k:=k) (CK.good k),Ajl.okg (k:=k) (CK.good k),Aqy.okg (k:=k) (CK.good k),Anl.okg (k:=k) (CK.good k),Aq3.okg (k:=k) (CK.good k)⟩
def Ahi.f (k:Nat):=Ahi.g (CK.at k) k
theorem Ahi.ok {k:Nat}:Ahi.C (Ahi.f k):=Ahi.okg (k:=k) (CK.good k)
section
variable {A:World} {ds:List Deferred} {n0:Nat} {env env':Env} {l l' X:List Aaa} {q:Act→World→Prop} {P:Program} {Q:Exit→Act→World→Prop} {ops:Array Oper} {os rest:List Oper} {o:Oper} {α:Type} {R:Al3 α}
theorem C2s {x0 x':α} {t:List α} {h Hn:Aaa} {A':Option Addr} {c:Nat} {T T1:TypeId} {p v:Value} {s y:Operand} (ho:o.op=.store T1 s y) (hg:Ae4 ops env o=some true) (hd:inB n0 o.dst=true)
  (hs:Ad5 env s=some p) (hy:Ad5 env y=some v) (hsz:(P.info? T1).map (·.size)=some v.cells.size) (hp:Place A' 0 p) (hO:Abp R T h (.slice A' (x0 :: t).length c) (x0 :: t)) (hx:R.own x' Hn v.cells.toList)
  (hk:∀ h',Abp R T h' (.slice A' (x' :: t).length c) (x' :: t)→K ds A n0 (Acs env o.dst undef) (h' :: l) (wpList P ops Q rest)):K ds A n0 env (h :: Hn :: l) (wpList P ops Q (o :: rest)):=by
 obtain ⟨Ho,Hi,cs,rfl,hab,Brs,H1,H2,c1,c2,rfl,hbc,rfl,h1,h2⟩:=hO
 refine A3d hab (K.mv1 (A3d hbc (K.drop (K.mv1 ?_))))
 obtain ⟨hl1,ho1⟩:=R.len h1
 obtain ⟨hlx,hox⟩:=R.len hx
 refine Als hg fun a w ha hw=>?_
 cases hif:P.info? T1 with
 | none=>rw [hif] at hsz;cases hsz
 | some i =>
  rw [hif] at hsz
  have hsize:i.size=v.cells.size:=Option.some.inj hsz
  obtain ⟨hlen,Asm,hc⟩:=Brs
  rcases hc with ⟨he,h0⟩ | ⟨g,cap,cur,he,rfl,h4,h5,h6,h7⟩
  ·simp at h0
  ·cases he
   obtain ⟨b,of_,he,rfl⟩:=hp
   cases he
   have hgc:w.heap[g]? = some (.cells cur T (0,0)):=hw.sat.1 g _ (by simp [blk])
   have hge:R.sz≤cur.toList.length:=by
    have e:c1.length+c2.length≤cur.toList.length:=by
     rw [← List.length_append,← h7,List.length_take];omega
    omega
   have hst:=run_storeCells_at P g 0 T v.cells.toList 0 cur w hgc (by rw [hlx];simpa using hge) hox
   simp only [Nat.add_zero,Nat.zero_add,List.take_zero,List.nil_append] at hst
   have hr:(Instr.storeAt T1 (.pointer (some ⟨g,0+0,none⟩)) v).run P w=.ok () (w.setRow g (v.cells.toList++cur.toList.drop v.cells.toList.length).toArray):=by
    simp [Instr.storeAt,Instr.sureAddr,storeVar,sizeOf,typeInfo,hif,hsize]
    simpa using hst
   have Brt:Own T R.sz (blk g (.cells (v.cells.toList++cur.toList.drop v.cells.toList.length).toArray T (0,0))) (.slice (some ⟨g,0,none⟩) (x' :: t).length c) (x' :: t).length (v.cells.toList++c2):=by
    refine ⟨by rw [List.length_append,hl1] at hlen;rw [List.length_append,hlx];exact hlen,fun u hu=>?_,.inr ⟨g,c,_,rfl,rfl,h4,h5,?_,?_⟩⟩
    ·rcases List.mem_append.1 hu with hu | hu
     ·exact hox u hu
     ·exact Asm u (List.mem_append_right _ hu)
    ·have h6':cur.toList.length=c * R.sz:=by rw [Array.length_toList];exact h6
     rw [List.size_toArray,List.length_append,List.length_drop,hlx,← h6']
     omega
    ·have e1:((x' :: t).length * R.sz)=R.sz+t.length * R.sz:=by rw [List.length_cons,Nat.add_mul,Nat.one_mul,Nat.add_comm]
     have e2:(x0 :: t).length * R.sz=R.sz+t.length * R.sz:=by rw [List.length_cons,Nat.add_mul,Nat.one_mul,Nat.add_comm]
     rw [e2] at h7
     show (v.cells.toList++cur.toList.drop v.cells.toList.length).take _=_
     rw [e1,← hlx,List.take_length_add_append]
     congr 1
     have h8:=congrArg (List.drop R.sz) h7
     rw [List.drop_take,Nat.add_sub_cancel_left,← hl1,List.drop_left,hl1] at h8
     rw [hlx]
     exact h8
   unfold Oper.wp execOp
   simp only [ho,ha.eval hs,ha.eval hy,Sem.run_bind,hr,Result.andThen_ok,Sem.run_pure]
   have hk':K ds A n0 (Acs env o.dst undef) (blk g (.cells (v.cells.toList++cur.toList.drop v.cells.toList.length).toArray T (0,0)) :: H2 :: Hn :: l) (wpList P ops Q rest) :=
    K.mv2 (K.mv2 (K.mv1 (Aup fun hap=>K.mv1 (Aup fun Ctr=>hk _ ⟨_,_,_,rfl,Ctr,Brt,Hn,H2,_,c2,rfl,hap,rfl,hx,h2⟩))))
   exact hk' _ _ (ha.Acs _ hd) (hw.setRow _)
def Bvh {α:Type} (l:List α) (x:α):Option (List α):=match l with | []=>none | _ :: t=>some (x :: t)
theorem C3k {α:Type} {l l':List α} {x:α} (h:Bvh l x=some l'):l'.length=l.length:=by
 cases l with
 | nil=>cases h
 | cons y t=>cases h;rfl
theorem C2q {x':α} {xs xs':List α} {h Hn:Aaa} {A':Option Addr} {c:Nat} {T T1:TypeId} {p v:Value} {s y:Operand} (ho:o.op=.store T1 s y) (hg:Ae4 ops env o=some true) (hd:inB n0 o.dst=true)
  (hs:Ad5 env s=some p) (hy:Ad5 env y=some v) (hsz:(P.info? T1).map (·.size)=some v.cells.size) (hp:Place A' 0 p) (hO:Abp R T h (.slice A' xs.length c) xs) (hx:R.own x' Hn v.cells.toList) (hset:Bvh xs x'=some xs')
  (hk:∀ h',Abp R T h' (.slice A' xs'.length c) xs'→K ds A n0 (Acs env o.dst undef) (h' :: l) (wpList P ops Q rest)):K ds A n0 env (h :: Hn :: l) (wpList P ops Q (o :: rest)):=by
 cases xs with
 | nil=>cases hset
 | cons x0 t=>cases hset;exact C2s ho hg hd hs hy hsz hp hO hx hk
end
def A4t.f (k:Nat) (a0:ByteArray):Option (TyF×TyC×Int×Int):=(A0i.f k a0).bind fun r3=>cond (r3.2.2.2.2.2.1 != 0) (some ([],[],r3.2.2.2.2.2.1,r3.2.2.2.2.2.2)) (Adg (fun (_:Unit)=>PR.elim (Ahi.f k ([((⟨#[]⟩:ByteArray),0,0,0,[])]) ([]) (⟨#[]⟩:ByteArray) r3.2.2.2.1 0 0 ([]) ([]) 0 ([]) r3.1 r3.2.1 r3.2.2.1 r3.2.2.2.1 r3.2.2.2.2.1 false) (fun i17=>some ([],[],i17.1,i17.2)) fun r16=>(Acz r16.1 0).bind fun x34=>(Bvh r16.1 ((⟨#[]⟩:ByteArray),r3.2.2.2.1,0,r16.2.2.1,r16.2.2.2.1)).bind fun l43=>some (l43,r16.2.1,0,0)) (fun J10=>(Ajc.f k r3.1 r3.2.1 r3.2.2.1 r3.2.2.2.1 r3.2.2.2.2.1).bind fun r47=>cond (decide (r47 > 100)) (PR.elim (Aov.f k 6 r3.2.2.2.1) (fun i50=>some ([],[],i50.1,i50.2)) fun r49=>J10 ()) (J10 ())))
theorem A4t.ok {k:Nat} {a0:ByteArray} {G:Aaa} {r:TyF×TyC×Int×Int} (h:A4t.f k a0=some r) (hG:GlP G): Ct Tryz.prog 8 #[sv a0] [] [G] (fun e l1=>∃ (H0_:Aaa) (A0_:TyO) (c0_:Nat) (H1_:Aaa) (A1_:TyO) (c1_:Nat),Abp Alv 43 H0_ (.slice A0_ r.1.length c0_) r.1∧Aan encS 9 1 H1_ (.slice A1_ r.2.1.length c1_) r.2.1∧e=.returned (.tuple #[.agg #[.slice A0_ r.1.length c0_,.slice A1_ r.2.1.length c1_],.agg #[iv r.2.2.1,iv r.2.2.2]])∧l1=[H0_,H1_]):=by
 refine B4r (args:=[sv a0]) Tryz.func8 rfl (Nat.le_of_ble_eq_true rfl) ?_
 intro A X hh_
 obtain ⟨Adu,_⟩:=hh_
 unfold A4t.f at h
 refine ksr (knp #[nS,nS] 33 fun b1=>(knp #[iv 0,iv 0] 28 fun b2=>(Aby (kx 1 (bnd h fun r3 hr3 h=>(kcl (A0i.ok hr3 hG) rfl ⟨(t2 Adu),trivial⟩ ?_))))))
 rintro _ _ ⟨h4,A5,k6,o7,rfl,rfl⟩
 refine Ak8 (kx 3 (knp #[iv 0,sv noS,iv 0,iv 0,nS] 54 fun b8=>(kst 0 5 #[iv r3.1,sv r3.2.1,iv r3.2.2.1,iv r3.2.2.2.1,.slice A5 r3.2.2.2.2.1.length k6] (K.mv2 (kst 0 2 #[iv r3.2.2.2.2.2.1,iv r3.2.2.2.2.2.2] (knt (Ac1 (ksr (kx 1 (kld 0 0 rfl ?_))))))))))
 refine kx 1 (knt ?_)
 refine kcn h (fun h=>?_) fun h=>?_
 ·refine Ac1 (Bu2 (kpr [(0,0),(1,3),(2,1)] [0] (kpx 1 (kpa 0 0 2 rfl (kpt (K.mv3 (ost 0 2 #[nS,nS] (kan [1] rfl (kpz (K.mv1 ?_))))))))))
  refine kst 0 2 #[iv r3.2.2.2.2.2.1,iv r3.2.2.2.2.2.2] (K.mv2 (K.drop (K.mv2 (K.drop (knl (Bu3 (Abr (Afj (Ahj ?_)))))))))
  obtain rfl:=Option.some.inj h
  exact Cb1 (v:=.tuple #[.agg #[nS,nS],.agg #[iv r3.2.2.2.2.2.1,iv r3.2.2.2.2.2.2]]) [.val (nS),.val (nS),.val (iv r3.2.2.2.2.2.1),.val (iv r3.2.2.2.2.2.2)] [.ld ⟨b1,0,none⟩ (nS),.ld ⟨b1,1,none⟩ (nS),.ld ⟨b2,0,none⟩ (iv r3.2.2.2.2.2.1),.ld ⟨b2,1,none⟩ (iv r3.2.2.2.2.2.2)] [none_,none_] (by kernel_rfl) (by kernel_rfl) ⟨⟨1,_,_,_,rfl,rfl,rfl⟩,⟨1,_,_,_,rfl,rfl,rfl⟩,⟨0,_,_,_,rfl,rfl,rfl⟩,⟨0,_,_,_,rfl,rfl,rfl⟩,trivial⟩ (Agh (Agh (K.mv2 (K.drop (K.mv2 (K.drop (Adj ⟨none_,none,0,none_,none,0,(Abp.nil Alv 43 none_),(Aan.nil encS 9 1 none_),rfl,rfl⟩)))))))
 ·refine Adv (Abr (ksr (kx 1 (Cci { target:=.fn (.func 19) #[pt b1,pt b2],args:=#[] } (by kernel_rfl) (by kernel_rfl) (by kernel_rfl) (knt ?_)))))
  obtain ⟨J10,Cso,h⟩:=Agm h
  refine Agn (τ:=Unit) (fun t=>[(2,pt b1),(3,pt b2),(4,pt b8)]) (fun t=>bk b2 #[iv r3.2.2.2.2.2.1,iv r3.2.2.2.2.2.2] 28 :: bk b8 #[iv r3.1,sv r3.2.1,iv r3.2.2.1,iv r3.2.2.2.1,.slice A5 r3.2.2.2.2.1.length k6] 54 :: h4 :: bk b1 #[nS,nS] 33 :: X) (fun t=>J10 ()=some r) ?_ ?_
  ·rintro ⟨⟩ h
   subst Cso
   refine ksr (kx 1 (kld 1 3 rfl (kx 2 (knp #[sv noS,iv r3.2.2.2.1,iv 0,iv 0,nS,nS,iv 0,nS] 73 fun b11=>(kx 1 (knp #[nS,nS,pt b11] 75 fun b12=>(kx 1 (Aby (kx 2 (kns #[sv noS,iv 0,iv 0,iv 0,nS] 43 1 fun b13=>?_))))))))))
   refine kx 3 (K.mv1 (kst 0 1 #[.slice (some ⟨b13,0,none⟩) 1 1,nS,pt b11] (Aby (kx 1 (kla 4 0 5 rfl (K.mv4 (K.drop (Agh (K.mv2 (Ah3 (T:=43) (n:=1) (xs:=[((⟨#[]⟩:ByteArray),0,0,0,[])]) (Aec.one (Bna (x:=((⟨#[]⟩:ByteArray),0,0,0,[])) (Aan.nil e78 78 3 none_))) rfl rfl (Nat.le_of_ble_eq_true rfl) fun h14 o15=>?_))))))))))
   refine Agh (Agh (Agh (Agh (K.mv1 (K.mv6 (K.mv3 (K.mv5 (K.mv6 ?_))))))))
   rcases Bmu h with ⟨i17,Auk,h⟩ | ⟨r16,Auk,h⟩
   ·refine kcl (Ahi.ok (b0:=b12) (Abq:=b11) Auk o15 (Aan.nil encS 9 1 none_) (Aan.nil e78 78 3 none_) (Aan.nil encS 9 1 none_) (RdT.nil encS 1 none_) (Abp.rd o7) hG) rfl ⟨(.head _),(.tail _ (.tail _ (.head _))),(t4 Adu),trivial⟩ ?_
    rintro _ _ ⟨rfl,rfl⟩
    refine Bl0 (Ab5 (K.drop (K.mv1 (K.drop (K.mv1 ?_)))))
    obtain rfl:=Option.some.inj h
    exact Bkw (v:=.tuple #[.agg #[nS,nS],.agg #[iv i17.1,iv i17.2]]) (bk b1 #[nS,nS] 33 :: bk b2 #[iv i17.1,iv i17.2] 28 :: X) (fun _=>by kernel_rfl) (fun w_ hw_=>B4m hw_) [.val (nS),.val (nS),.val (iv i17.1),.val (iv i17.2)] [.ld ⟨b1,0,none⟩ (nS),.ld ⟨b1,1,none⟩ (nS),.ld ⟨b2,0,none⟩ (iv i17.1),.ld ⟨b2,1,none⟩ (iv i17.2)] [none_,none_] (by kernel_rfl) (by kernel_rfl) ⟨⟨0,_,_,_,rfl,rfl,rfl⟩,⟨0,_,_,_,rfl,rfl,rfl⟩,⟨1,_,_,_,rfl,rfl,rfl⟩,⟨1,_,_,_,rfl,rfl,rfl⟩,trivial⟩ fun w_ hw_=>(⟨⟨none_,none,0,none_,none,0,(Abp.nil Alv 43 none_),(Aan.nil encS 9 1 none_),rfl,rfl⟩,St.Bgh 2 hw_.tail.tail⟩)
   refine kcl (Ahi.ok (b0:=b12) (Abq:=b11) Auk o15 (Aan.nil encS 9 1 none_) (Aan.nil e78 78 3 none_) (Aan.nil encS 9 1 none_) (RdT.nil encS 1 none_) (Abp.rd o7) hG) rfl ⟨(.head _),(.tail _ (.tail _ (.head _))),(t4 Adu),trivial⟩ ?_
   rintro _ _ ⟨h18,A19,k20,h22,A23,k24,h26,A27,k28,h30,A31,k32,o21,o25,o29,o33,rfl,rfl⟩
   refine Ajb (K.mv6 (K.drop (K.mv7 (K.drop (knt (Ac1 (Bu2 (kpr [(0,0),(1,0),(2,0),(3,0),(4,3),(5,0),(6,0),(7,0),(8,3),(9,0),(10,0),(11,3)] [0,3] (kpx 4 (kpd 0 0 rfl ?_))))))))))
   refine kpx 3 (kpd 0 2 rfl (kpx 2 (kpa 1 0 5 rfl (kpz (bnd h fun x34 hx34 h=>(Aht (T:=43) (kd:=.i64) (R:=Alv) rfl hx34 (Abp.rd o21) fun p35 u38 q39 e36 y37=>?_))))))
   obtain ⟨A40,k41,rfl,o42⟩:=Daz q39
   refine K.mv4 (K.mv2 (bnd h fun l43 Bep h=>(C2q (v:=.agg #[sv noS,iv r3.2.2.2.1,iv 0,iv r16.2.2.1,.slice A27 r16.2.2.2.1.length k28]) (x':=((⟨#[]⟩:ByteArray),r3.2.2.2.1,0,r16.2.2.1,r16.2.2.2.1)) rfl (by kernel_rfl) (by kernel_rfl) (by kernel_rfl) (by kernel_rfl) (by kernel_rfl) y37 o21 (Bna (x:=((⟨#[]⟩:ByteArray),r3.2.2.2.1,0,r16.2.2.1,r16.2.2.2.1)) o29) Bep fun h44 o45=>?_)))
   have g46:=C3k Bep
   refine K.weak (env':=[(2,pt b1),(3,pt b2),(5,pt b12),(50,.agg #[sv noS,iv r3.2.2.2.1,iv 0,iv r16.2.2.1,.slice A27 r16.2.2.2.1.length k28])]) ?_ ⟨gr,gr,gr,(by first | rfl | (rw [g46];rfl)),trivial⟩
   refine K.eq (l':=h44 :: bk b12 #[.slice A19 l43.length k20,.slice A23 r16.2.1.length k24,pt b11] 75 :: h22 :: bk b11 #[sv noS,iv r3.2.2.2.1,iv 0,iv r16.2.2.1,.slice A27 r16.2.2.2.1.length k28,.slice A31 r16.2.2.2.2.1.length k32,iv r16.2.2.2.2.2,nS] 73 :: h30 :: bk b2 #[iv r3.2.2.2.2.2.1,iv r3.2.2.2.2.2.2] 28 :: bk b1 #[nS,nS] 33 :: X) rfl (by first | rfl | (rw [g46];first | done | rfl)) (knl (Bu3 (Abr (ksr (kx 3 (kla 1 0 2 rfl (K.mv1 (K.drop (K.mv2 (K.drop ?_))))))))))
   refine K.mv2 (K.drop (kx 1 (K.mv3 (kst 0 2 #[.slice A19 l43.length k20,.slice A23 r16.2.1.length k24] (K.mv3 (kst 0 2 #[iv 0,iv 0] (knt (Afj ?_))))))))
   obtain rfl:=Option.some.inj h
   exact Cby (fun _=>by kernel_rfl) (Cni (pt b1) (pt b2)) (v:=.tuple #[.agg #[.slice A19 l43.length k20,.slice A23 r16.2.1.length k24],.agg #[iv 0,iv 0]]) [.val (.slice A19 l43.length k20),.val (.slice A23 r16.2.1.length k24),.val (iv 0),.val (iv 0)] [.ld ⟨b1,0,none⟩ (.slice A19 l43.length k20),.ld ⟨b1,1,none⟩ (.slice A23 r16.2.1.length k24),.ld ⟨b2,0,none⟩ (iv 0),.ld ⟨b2,1,none⟩ (iv 0)] [h44,h22] (by kernel_rfl) (by kernel_rfl) ⟨⟨1,_,_,_,rfl,rfl,rfl⟩,⟨1,_,_,_,rfl,rfl,rfl⟩,⟨0,_,_,_,rfl,rfl,rfl⟩,⟨0,_,_,_,rfl,rfl,rfl⟩,trivial⟩ (K.drop (K.drop (Cb3 ⟨h44,A19,k20,h22,A23,k24,o45,o25,rfl,rfl⟩)))
  ·skip
   refine ksr (kla 1 0 5 rfl (bnd h fun r47 hr47 h=>(kcv (Ajc.ok hr47 (Abp.rd o7)) ⟨(.tail _ (.tail _ (.head _))),trivial⟩ (kx 1 (knt ?_)))))
   refine kcn h (fun h=>?_) fun h=>?_
   ·refine Ach (kx 1 (kld 1 3 rfl ?_))
    rcases Bmu h with ⟨i50,Btl,h⟩ | ⟨r49,Btl,h⟩
    ·refine kcl (Aov.ok Btl) rfl trivial ?_
     rintro _ _ ⟨rfl,rfl⟩
     refine Bl0 (Ab5 (K.mv1 (K.drop (K.mv1 (K.drop (K.mv1 ?_))))))
     obtain rfl:=Option.some.inj h
     exact Bkw (v:=.tuple #[.agg #[nS,nS],.agg #[iv i50.1,iv i50.2]]) (bk b1 #[nS,nS] 33 :: bk b2 #[iv i50.1,iv i50.2] 28 :: X) (fun _=>by kernel_rfl) (fun w_ hw_=>B4m hw_) [.val (nS),.val (nS),.val (iv i50.1),.val (iv i50.2)] [.ld ⟨b1,0,none⟩ (nS),.ld ⟨b1,1,none⟩ (nS),.ld ⟨b2,0,none⟩ (iv i50.1),.ld ⟨b2,1,none⟩ (iv i50.2)] [none_,none_] (by kernel_rfl) (by kernel_rfl) ⟨⟨0,_,_,_,rfl,rfl,rfl⟩,⟨0,_,_,_,rfl,rfl,rfl⟩,⟨1,_,_,_,rfl,rfl,rfl⟩,⟨1,_,_,_,rfl,rfl,rfl⟩,trivial⟩ fun w_ hw_=>(⟨⟨none_,none,0,none_,none,0,(Abp.nil Alv 43 none_),(Aan.nil encS 9 1 none_),rfl,rfl⟩,St.Bgh 2 hw_.tail.tail⟩)
    refine kcl (Aov.ok Btl) rfl trivial ?_
    rintro _ _ ⟨rfl,rfl⟩
    exact Aoj (knt (Adb () h sb rfl))
   ·exact Adv (Abr (Adb () h sb rfl))
end
section
open Go Go.RowKit Lx
theorem wiC (x:Int) (h0:-9223372036854775808≤x) (h1:x≤9223372036854775807):IntKind.i64.wrap x=x:=by unfold IntKind.wrap;simp [IntKind.bits,IntKind.signed];omega
theorem Bvg {α:Type} {l:List α} {i:Nat} (h:i < l.length):Acz l (i:Int)=some l[i]:=by
 unfold Acz
 rw [if_pos (by omega),Int.toNat_natCast,List.getElem?_eq_getElem h]
def Au0 (X:Bs):List Bs→Int→Int
 | [],_=>-1
 | y :: l,i=>if X == y then i else Au0 X l (i+1)
theorem B8x (L:List ByteArray) (hL:L.length≤1000) (s:ByteArray):∀ (d i k:Nat),L.length - i≤d→i≤L.length→d < k →
  Akc.l0 k L s (fun _=>some (-1)) (i:Int)=some (Au0 s.toList ((L.drop i).map (·.toList)) i)
 | d,i,k,hd,hi,hk=>by
  obtain ⟨k,rfl⟩:∃ m,k=m+1:=⟨k - 1,by omega⟩
  simp only [Akc.l0]
  rcases Nat.lt_or_ge i L.length with h | h
  ·obtain ⟨d,rfl⟩:∃ m,d=m+1:=⟨d - 1,by omega⟩
   rw [decide_eq_true (p:=(i:Int) < L.length) (by omega),Bvg h,wiC ((i:Int)+1) (by omega) (by omega),show (i:Int)+1=((i+1:Nat):Int) by omega,List.drop_eq_getElem_cons h,List.map_cons]
   simp only [cond_true,Option.bind_some]
   unfold Au0
   cases hq:s.toList == L[i].toList with
   | true=>rfl
   | false =>
    rw [cond_false,B8x L hL s d (i+1) k (by omega) (by omega) (by omega)]
    rfl
  ·rw [decide_eq_false (p:=(i:Int) < L.length) (by omega),List.drop_of_length_le h]
   rfl
def Bm7:TyC:=[(⟨#[112,114,105,110,116]⟩:ByteArray),(⟨#[116,121,112,101]⟩:ByteArray),(⟨#[116,111,115,116,114,105,110,103]⟩:ByteArray),(⟨#[116,111,110,117,109,98,101,114]⟩:ByteArray),(⟨#[110,101,120,116]⟩:ByteArray),(⟨#[112,97,105,114,115]⟩:ByteArray),(⟨#[105,112,97,105,114,115]⟩:ByteArray),(⟨#[114,97,119,108,101,110]⟩:ByteArray),(⟨#[115,116,97,116,115]⟩:ByteArray),(⟨#[112,114,111,98,101,115]⟩:ByteArray),(⟨#[]⟩:ByteArray),(⟨#[116,97,98,108,101,46,105,110,115,101,114,116]⟩:ByteArray),(⟨#[116,97,98,108,101,46,114,101,109,111,118,101]⟩:ByteArray),(⟨#[116,97,98,108,101,46,99,111,110,99,97,116]⟩:ByteArray),(⟨#[116,97,98,108,101,46,117,110,112,97,99,107]⟩:ByteArray),(⟨#[116,97,98,108,101,46,109,111,118,101]⟩:ByteArray),(⟨#[116,97,98,108,101,46,115,111,114,116]⟩:ByteArray),(⟨#[117,116,102,56,46,108,101,110]⟩:ByteArray),(⟨#[117,116,102,56,46,99,104,97,114]⟩:ByteArray),(⟨#[117,116,102,56,46,99,111,100,101,112,111,105,110,116]⟩:ByteArray),(⟨#[117,116,102,56,46,111,102,102,115,101,116]⟩:ByteArray),(⟨#[117,116,102,56,46,99,111,100,101,115]⟩:ByteArray)]
def Bmw:List Bs:=Lib.fields (⟨#[112,114,105,110,116,32,116,121,112,101,32,116,111,115,116,114,105,110,103,32,116,111,110,117,109,98,101,114,32,110,101,120,116,32,112,97,105,114,115,32,105,112,97,105,114,115,32,114,97,119,108,101,110,32,115,116,97,116,115,32,112,114,111,98,101,115,32,45,32,116,97,98,108,101,46,105,110,115,101,114,116,32,116,97,98,108,101,46,114,101,109,111,118,101,32,116,97,98,108,101,46,99,111,110,99,97,116,32,116,97,98,108,101,46,117,110,112,97,99,107,32,116,97,98,108,101,46,109,111,118,101,32,116,97,98,108,101,46,115,111,114,116,32,117,116,102,56,46,108,101,110,32,117,116,102,56,46,99,104,97,114,32,117,116,102,56,46,99,111,100,101,112,111,105,110,116,32,117,116,102,56,46,111,102,102,115,101,116,32,117,116,102,56,46,99,111,100,101,115,32,45]⟩:ByteArray).data.toList
def Bh5 (X:Bs):List Bs→Int→Int
 | [],_=>0
 | y :: l,i=>if (!(X == [])) && y == X then i+1 else Bh5 X l (i+1)
theorem Ci9 (X:Bs):∀ (l:List Bs) (i:Int),X ∉ l→Au0 X l i=-1
 | [],_,_=>rfl
 | y :: l,i,h=>by
  unfold Au0
  rw [if_neg (by simp only [beq_iff_eq];rintro rfl;exact h (List.mem_cons_self ..))]
  exact Ci9 X l _ fun h'=>h (List.mem_cons_of_mem _ h')
theorem Cji (X:Bs):∀ (l:List Bs) (i:Int),X ∉ l→Bh5 X l i=0
 | [],_,_=>rfl
 | y :: l,i,h=>by
  unfold Bh5
  rw [if_neg (by simp only [Bool.and_eq_true,beq_iff_eq];rintro ⟨_,rfl⟩;exact h (List.mem_cons_self ..))]
  exact Cji X l _ fun h'=>h (List.mem_cons_of_mem _ h')
def Asw (X:Bs):Int:=if X == [45] then 0 else Au0 X Bmw 0+1
theorem C32 (X:Bs):Asw X=Bh5 X (Bm7.map (·.toList)) 0∧0≤Asw X∧Asw X≤22:=by
 by_cases h:X ∈ [45] :: (Bmw++Bm7.map (·.toList))
 ·revert h
  have key:∀ x ∈ [45] :: (Bmw++Bm7.map (·.toList)),Asw x=Bh5 x (Bm7.map (·.toList)) 0∧0≤Asw x∧Asw x≤22:=by decide +kernel
  exact key X
 ·simp only [List.mem_cons,List.mem_append,not_or] at h
  obtain ⟨h1,h2,h3⟩:=h
  have e:Asw X=0:=by
   unfold Asw
   rw [if_neg (by simpa using h1),Ci9 X _ _ h2]
   rfl
  rw [e,Cji X _ _ h3]
  decide
def Bmv:TyC:=(Lib.fields (⟨#[112,114,105,110,116,32,116,121,112,101,32,116,111,115,116,114,105,110,103,32,116,111,110,117,109,98,101,114,32,110,101,120,116,32,112,97,105,114,115,32,105,112,97,105,114,115,32,114,97,119,108,101,110,32,115,116,97,116,115,32,112,114,111,98,101,115,32,45,32,116,97,98,108,101,46,105,110,115,101,114,116,32,116,97,98,108,101,46,114,101,109,111,118,101,32,116,97,98,108,101,46,99,111,110,99,97,116,32,116,97,98,108,101,46,117,110,112,97,99,107,32,116,97,98,108,101,46,109,111,118,101,32,116,97,98,108,101,46,115,111,114,116,32,117,116,102,56,46,108,101,110,32,117,116,102,56,46,99,104,97,114,32,117,116,102,56,46,99,111,100,101,112,111,105,110,116,32,117,116,102,56,46,111,102,102,115,101,116,32,117,116,102,56,46,99,111,100,101,115,32,45]⟩:ByteArray).data.toList).map fun l=>⟨l.toArray⟩
theorem Cqz (k:Nat):strings_Fields.f k (⟨#[112,114,105,110,116,32,116,121,112,101,32,116,111,115,116,114,105,110,103,32,116,111,110,117,109,98,101,114,32,110,101,120,116,32,112,97,105,114,115,32,105,112,97,105,114,115,32,114,97,119,108,101,110,32,115,116,97,116,115,32,112,114,111,98,101,115,32,45,32,116,97,98,108,101,46,105,110,115,101,114,116,32,116,97,98,108,101,46,114,101,109,111,118,101,32,116,97,98,108,101,46,99,111,110,99,97,116,32,116,97,98,108,101,46,117,110,112,97,99,107,32,116,97,98,108,101,46,109,111,118,101,32,116,97,98,108,101,46,115,111,114,116,32,117,116,102,56,46,108,101,110,32,117,116,102,56,46,99,104,97,114,32,117,116,102,56,46,99,111,100,101,112,111,105,110,116,32,117,116,102,56,46,111,102,102,115,101,116,32,117,116,102,56,46,99,111,100,101,115,32,45]⟩:ByteArray)=some Bmv:=by
 have h:(decide ((⟨#[112,114,105,110,116,32,116,121,112,101,32,116,111,115,116,114,105,110,103,32,116,111,110,117,109,98,101,114,32,110,101,120,116,32,112,97,105,114,115,32,105,112,97,105,114,115,32,114,97,119,108,101,110,32,115,116,97,116,115,32,112,114,111,98,101,115,32,45,32,116,97,98,108,101,46,105,110,115,101,114,116,32,116,97,98,108,101,46,114,101,109,111,118,101,32,116,97,98,108,101,46,99,111,110,99,97,116,32,116,97,98,108,101,46,117,110,112,97,99,107,32,116,97,98,108,101,46,109,111,118,101,32,116,97,98,108,101,46,115,111,114,116,32,117,116,102,56,46,108,101,110,32,117,116,102,56,46,99,104,97,114,32,117,116,102,56,46,99,111,100,101,112,111,105,110,116,32,117,116,102,56,46,111,102,102,115,101,116,32,117,116,102,56,46,99,111,100,101,115,32,45]⟩:ByteArray).size < 4294967281∧(Lib.fields (⟨#[112,114,105,110,116,32,116,121,112,101,32,116,111,115,116,114,105,110,103,32,116,111,110,117,109,98,101,114,32,110,101,120,116,32,112,97,105,114,115,32,105,112,97,105,114,115,32,114,97,119,108,101,110,32,115,116,97,116,115,32,112,114,111,98,101,115,32,45,32,116,97,98,108,101,46,105,110,115,101,114,116,32,116,97,98,108,101,46,114,101,109,111,118,101,32,116,97,98,108,101,46,99,111,110,99,97,116,32,116,97,98,108,101,46,117,110,112,97,99,107,32,116,97,98,108,101,46,109,111,118,101,32,116,97,98,108,101,46,115,111,114,116,32,117,116,102,56,46,108,101,110,32,117,116,102,56,46,99,104,97,114,32,117,116,102,56,46,99,111,100,101,112,111,105,110,116,32,117,116,102,56,46,111,102,102,115,101,116,32,117,116,102,56,46,99,111,100,101,115,32,45]⟩:ByteArray).data.toList).length≤1000000) && (⟨#[112,114,105,110,116,32,116,121,112,101,32,116,111,115,116,114,105,110,103,32,116,111,110,117,109,98,101,114,32,110,101,120,116,32,112,97,105,114,115,32,105,112,97,105,114,115,32,114,97,119,108,101,110,32,115,116,97,116,115,32,112,114,111,98,101,115,32,45,32,116,97,98,108,101,46,105,110,115,101,114,116,32,116,97,98,108,101,46,114,101,109,111,118,101,32,116,97,98,108,101,46,99,111,110,99,97,116,32,116,97,98,108,101,46,117,110,112,97,99,107,32,116,97,98,108,101,46,109,111,118,101,32,116,97,98,108,101,46,115,111,114,116,32,117,116,102,56,46,108,101,110,32,117,116,102,56,46,99,104,97,114,32,117,116,102,56,46,99,111,100,101,112,111,105,110,116,32,117,116,102,56,46,111,102,102,115,101,116,32,117,116,102,56,46,99,111,100,101,115,32,45]⟩:ByteArray).data.toList.all fun b=>decide (b.toNat < 128))=true:=by decide +kernel
 unfold strings_Fields.f
 rw [h]
 rfl
theorem C9t:Bmv.length=23:=by decide +kernel
theorem C9u:Bmv.map (·.toList)=Bmw:=by decide +kernel
theorem Cdk (k:Nat) (hk:30≤k) (a0:ByteArray):Azm.f k a0=some (Asw a0.toList):=by
 have h1:=Cqz k
 obtain ⟨L,hL⟩:∃ L,L=Bmv:=⟨_,rfl⟩
 have h2:=C9t
 have h3:=C9u
 rw [← hL] at h1 h2 h3
 have hd:(⟨#[45]⟩:ByteArray).toList=[45]:=by kernel_rfl
 unfold Azm.f
 rw [hd,h1]
 unfold Asw
 cases hq:a0.toList == [45] with
 | true=>rfl
 | false =>
  simp only [cond_false,Option.bind_some,Bool.false_eq_true,if_false]
  unfold Akc.f Adg
  have hl:=B8x L (by omega) a0 L.length 0 k (by omega) (by omega) (by omega)
  rw [List.drop_zero,h3,Int.ofNat_zero] at hl
  change ((Akc.l0 k L a0 (fun _=>some (-1)) 0).bind _)=_
  rw [hl]
  have hb:=(C32 a0.toList).2
  unfold Asw at hb
  rw [hq] at hb
  simp only [Bool.false_eq_true,if_false] at hb
  simp only [Option.bind_some]
  rw [wiC _ (by omega) (by omega)]
theorem Ah5 {α:Type} (pre:List α) (x:α) (t:List α):Acz (pre++x :: t) (pre.length:Int)=some x:=by
 unfold Acz
 rw [if_pos (by omega)]
 simp
theorem ltT {a b:Int} (h:a < b):decide (a < b)=true:=decide_eq_true h
theorem ltF {a b:Int} (h:¬ a < b):decide (a < b)=false:=decide_eq_false h
abbrev V3:=Int×Int×ByteArray
abbrev Axx:=ByteArray×Int×Int×Int×List V3
abbrev CT:=List Axx×List ByteArray×Int×List V3×List ByteArray×Int
structure CSt where
 fs:List Axx
 gl:List ByteArray
 sl:Int
 cs:List V3
 lo:List ByteArray
 lp:Int
def CSt.tup (s:CSt):CT:=(s.fs,s.gl,s.sl,s.cs,s.lo,s.lp)
abbrev PC (α:Type):=PR α (Int×Int)
def PR.th {α β ε:Type} (x:PR α ε) (f:α→PR β ε):PR β ε:=match x with | .ok a=>f a | .bad e=>.bad e
def PR.mp {α β ε:Type} (f:α→β) (x:PR α ε):PR β ε:=match x with | .ok a=>.ok (f a) | .bad e=>.bad e
def Azv (l:List ByteArray) (a:ByteArray):Bool:=l.any fun x=>a.toList == x.toList
def A2x (l:List V3) (v:V3):Bool:=l.any fun x=>(v.1 == x.1) && ((v.2.1 == x.2.1) && ((v.2.2.toList == x.2.2.toList) && true))
abbrev Bpa:ByteArray:=⟨#[116,97,98,108,101]⟩
abbrev Clv:ByteArray:=⟨#[117,116,102,56]⟩
abbrev Bdl:ByteArray:=⟨#[46]⟩
def Ar9 (t:ByteArray):Bool:=t.toList == Bpa.toList || t.toList == Clv.toList
def Aoe (a:Int) (count most:Int):PC Unit:=if count > most then .bad (6,a) else .ok ()
def A2j (gl:List ByteArray) (t:ByteArray):List ByteArray:=if Azv gl t then gl else gl++[t]
def Ax5 (a:Int) (cs:List V3) (v:V3):PC (List V3):=if A2x cs v then .ok cs else (Aoe a (cs.length+1:Nat) 250).th fun _=>.ok (cs++[v])
def A7o (a:Int) (t:ByteArray) (gl lo ab:List ByteArray):PC (List ByteArray) :=
 if Ar9 t then .bad (5,a) else if Azv lo t then .ok gl else if Azv ab t then .bad (5,a) else .ok (A2j gl t)
def Ayl:List ByteArray→List Tree→PC (List ByteArray)
 | lo,[]=>.ok lo
 | lo,x :: l=>if Ar9 x.text then .bad (5,x.at_) else Ayl (lo++[x.text]) l
def Azk (a:Int) (sl:Int) (lo:List ByteArray) (l:List Tree):PC (Int×List ByteArray) :=
 (Ayl lo l).th fun lo=>(Aoe a (lo.length:Nat) 60).th fun _=>.ok (if ((lo.length:Nat):Int) > sl then ((lo.length:Nat):Int) else sl,lo)
def Ai1 (f:CSt→Tree→PC CSt):CSt→List Tree→PC CSt
 | s,[]=>.ok s
 | s,x :: l=>(f s x).th fun s=>Ai1 f s l
def Ar5 (f:CSt→Tree→Bool→PC CSt) (n:Int):Nat→CSt→List Tree→PC CSt
 | _,s,[]=>.ok s
 | i,s,x :: l=>(f s x (decide ((i:Int) < n))).th fun s=>Ar5 f n (i+1) s l
def tNo:Tree:=.mk 0 ⟨#[]⟩ 0 0 []
def Adx (l:List Tree) (i:Nat):Tree:=(l[i]?).getD tNo
def Ato (f:CSt→Tree→PC CSt) (a:Int) (s:CSt) (names:List Tree) (b:Tree) (more:Nat):PC CSt :=
 (if more > 0 then Azk a s.sl (s.lo++List.replicate more ⟨#[]⟩) names else .ok (s.sl,s.lo)).th fun r =>
  (f { s with sl:=r.1,lo:=r.2,lp:=s.lp+1 } b).th fun s'=>.ok { s' with lo:=s'.lo.take s.lo.length,lp:=s'.lp - 1 }
def B3i (tg:Bool) (x y:Tree):Bool:=tg || (y.kind != 5 || Asw (x.text++Bdl++y.text).toList == 0)
def Ath (f:CSt→List Tree→PC CSt) (ab:List ByteArray) (s:CSt) (k:Int) (t:ByteArray) (n a:Int) (l:List Tree) (tg:Bool):PC CSt :=
 if k=8 then (Aoe a ((l.length:Nat) - 1:Int) 50).th fun _=>f s l
 else if k=30 then (Aoe a (l.length:Nat) 50).th fun _=>f s l
 else if k=12 then (Aoe a (l.length:Nat) 200).th fun _=>f s l
 else if k=4 then (Ax5 a s.cs (2,n,⟨#[]⟩)).th fun cs=>f { s with cs:=cs } l
 else if k=5 then (Ax5 a s.cs (3,0,t)).th fun cs=>f { s with cs:=cs } l
 else if k=6 then (A7o a t s.gl s.lo ab).th fun gl=>f { s with gl:=gl } l
 else if k=7∧(Adx l 0).kind=6∧Ar9 (Adx l 0).text=true then
  if B3i tg (Adx l 0) (Adx l 1) then .bad (5,a) else .ok s
 else f s l
def Aeo:Nat→List ByteArray→CSt→Tree→Bool→PC CSt
 | 0,_,_,_,_=>.bad (0,0)
 | d+1,ab,s,.mk k t n a l,tg =>
  if k=20 then (Ai1 (fun s x=>Aeo d ab s x false) s l).th fun s'=>.ok { s' with lo:=s'.lo.take s.lo.length }
  else if k=31 then
   (Aoe a (s.fs.length:Nat) 100).th fun _=>if Ar9 t then .bad (5,a) else
    (Aoe a n 50).th fun _=>(Azk a 0 [] (l.take n.toNat)).th fun r =>
     (Aeo d s.lo ⟨s.fs,A2j s.gl t,r.1,[],r.2,0⟩ (Adx l n.toNat) false).th fun s' =>
      .ok { s with fs:=s'.fs++[(t,a,n,s'.sl,s'.cs)],gl:=s'.gl }
  else if k=21 then
   (Aoe a n 50).th fun _=>(Aoe a (l.length - n) 50).th fun _=>(Ai1 (fun s x=>Aeo d ab s x false) s (l.drop n.toNat)).th fun s =>
    (Azk a s.sl s.lo (l.take n.toNat)).th fun r=>.ok { s with sl:=r.1,lo:=r.2 }
  else if k=22 then
   (Aoe a n 50).th fun _=>(Aoe a (l.length - n) 50).th fun _=>Ar5 (fun s x b=>Aeo d ab s x b) n 0 s l
  else if k=25 then (Aeo d ab s (Adx l 0) false).th fun s=>Ato (fun s x=>Aeo d ab s x false) a s [] (Adx l 1) 0
  else if k=26 then (Ai1 (fun s x=>Aeo d ab s x false) s ((l.drop 1).take (l.length - 2))).th fun s=>Ato (fun s x=>Aeo d ab s x false) a s (l.take 1) (Adx l (l.length - 1)) 3
  else if k=27 then
   (Aoe a n 50).th fun _=>(Aoe a (l.length - 1 - n) 50).th fun _=>(Ai1 (fun s x=>Aeo d ab s x false) s ((l.drop n.toNat).take (l.length - 1 - n.toNat))).th fun s =>
    Ato (fun s x=>Aeo d ab s x false) a s (l.take n.toNat) (Adx l (l.length - 1)) 3
  else if k=29 then if s.lp=0 then .bad (5,a) else .ok s
  else Ath (fun s l=>Ai1 (fun s x=>Aeo d ab s x false) s l) ab s k t n a l tg
theorem B3u {α β ε:Type} (x:PR α ε) (f:α→PR β ε) (F:α→Option (PR β ε)) (h:∀ a,x=.ok a→F a=some (f a)):PR.bind (some x) F=some (x.th f):=by
 cases x with
 | ok a=>exact h a rfl
 | bad e=>rfl
theorem Baf (k:Nat) (a0:Int) (a1:ByteArray) (a2 a3:Int) (a4:List Tree) (c m:Int):Akn.f k a0 a1 a2 a3 a4 c m=some (Aoe a3 c m):=by
 unfold Akn.f Aoe
 by_cases h:c > m
 ·rw [decide_eq_true h,if_pos h];rfl
 ·rw [decide_eq_false h,if_neg h];rfl
theorem Bk0 (k:Nat) (t:ByteArray):At9.f k t=some (Ar9 t):=by
 unfold At9.f Ar9
 cases t.toList == Bpa.toList <;> rfl
theorem B8s:∀ (t pre:List ByteArray) (a:ByteArray) (m:Nat),pre.length+t.length≤1000000→t.length+1≤m →
  ∃ v,Akc.l0 m (pre++t) a (fun _=>some (-1)) (pre.length:Int)=some v∧decide (v ≥ 0)=Azv t a
 | [],pre,a,m,hl,hm=>by
  obtain ⟨m,rfl⟩:∃ m',m=m'+1:=⟨m - 1,by omega⟩
  simp only [Akc.l0]
  rw [ltF (by simp)]
  exact ⟨-1,rfl,rfl⟩
 | x :: t,pre,a,m,hl,hm=>by
  obtain ⟨m,rfl⟩:∃ m',m=m'+1:=⟨m - 1,by omega⟩
  simp only [List.length_cons] at hl hm
  simp only [Akc.l0]
  rw [ltT (by simp;omega),Ah5]
  simp only [cond_true,Option.bind_some]
  unfold Azv
  rw [List.any_cons]
  cases hq:a.toList == x.toList with
  | true=>exact ⟨_,rfl,decide_eq_true (by omega)⟩
  | false =>
   rw [cond_false,Bool.false_or,wiC _ (by omega) (by omega)]
   have ih:=B8s t (pre++[x]) a m (by simp;omega) (by omega)
   rw [List.append_assoc,List.length_append] at ih
   exact ih
theorem containsS (k:Nat) (l:List ByteArray) (a:ByteArray) (hl:l.length≤1000000) (hk:l.length+1≤k):Axr.f k l a=some (Azv l a):=by
 unfold Axr.f Akc.f Adg
 obtain ⟨v,hv,hd⟩:=B8s l [] a k (by simpa using hl) hk
 have hv:Akc.l0 k l a (fun _=>some (-1)) (0:Int)=some v:=hv
 simp only [hv,Option.bind_some,hd]
theorem B8t:∀ (t pre:List V3) (a0 a1:Int) (a2:ByteArray) (m:Nat),pre.length+t.length≤1000000→t.length+1≤m →
  ∃ v,Anw.l0 m (pre++t) a0 a1 a2 (fun _=>some (-1)) (pre.length:Int)=some v∧decide (v ≥ 0)=A2x t (a0,a1,a2)
 | [],pre,a0,a1,a2,m,hl,hm=>by
  obtain ⟨m,rfl⟩:∃ m',m=m'+1:=⟨m - 1,by omega⟩
  simp only [Anw.l0]
  rw [ltF (by simp)]
  exact ⟨-1,rfl,rfl⟩
 | x :: t,pre,a0,a1,a2,m,hl,hm=>by
  obtain ⟨m,rfl⟩:∃ m',m=m'+1:=⟨m - 1,by omega⟩
  simp only [List.length_cons] at hl hm
  simp only [Anw.l0]
  rw [ltT (by simp;omega),Ah5]
  simp only [cond_true,Option.bind_some]
  unfold A2x
  rw [List.any_cons]
  simp only
  cases hq:(a0 == x.1) && ((a1 == x.2.1) && ((a2.toList == x.2.2.toList) && true)) with
  | true=>exact ⟨_,rfl,decide_eq_true (by omega)⟩
  | false =>
   rw [cond_false,Bool.false_or,wiC _ (by omega) (by omega)]
   have ih:=B8t t (pre++[x]) a0 a1 a2 m (by simp;omega) (by omega)
   rw [List.append_assoc,List.length_append] at ih
   exact ih
theorem Cns (k:Nat) (l:List V3) (a0 a1:Int) (a2:ByteArray) (hl:l.length≤1000000) (hk:l.length+1≤k):A8l.f k l a0 a1 a2=some (A2x l (a0,a1,a2)):=by
 unfold A8l.f Anw.f Adg
 obtain ⟨v,hv,hd⟩:=B8t l [] a0 a1 a2 k (by simpa using hl) hk
 have hv:Anw.l0 k l a0 a1 a2 (fun _=>some (-1)) (0:Int)=some v:=hv
 simp only [hv,Option.bind_some,hd]
theorem Ava {α:Type} {b:Nat} {l ys:List α} (h:(l.length+ys.length) * b≤140737488355328):apd b l ys=some (l++ys):=by
 unfold apd
 rw [decide_eq_true h]
 rfl
section
variable {k:Nat} {f0:List Axx} {gl:List ByteArray} {nm:ByteArray} {at_ pc sl:Int} {cs:List V3} {lo:List ByteArray} {lp:Int} {ab:List ByteArray}
theorem B6p (t:ByteArray) (hg:gl.length≤400000) (hk:500000≤k):Azq.f k f0 gl nm at_ pc sl cs lo lp ab t=some (A2j gl t):=by
 unfold Azq.f A2j
 rw [containsS k gl t (by omega) (by omega)]
 simp only [Option.bind_some]
 cases Azv gl t with
 | true=>rfl
 | false =>
  rw [Ava (by simp;omega)]
  rfl
theorem C4e (x0:Int) (t:ByteArray) (x2 a:Int) (x4:List Tree) (hg:gl.length≤400000) (ho:lo.length≤400000) (ha:ab.length≤400000) (hk:500000≤k) :
  A4u.f k f0 gl nm at_ pc sl cs lo lp ab x0 t x2 a x4=some (A7o a t gl lo ab):=by
 unfold A4u.f A7o
 rw [Bk0,containsS k lo t (by omega) (by omega),containsS k ab t (by omega) (by omega),B6p t hg hk]
 simp only [Option.bind_some]
 cases Ar9 t with
 | true=>rfl
 | false =>
  cases Azv lo t with
  | true=>rfl
  | false=>cases Azv ab t <;> rfl
theorem const_eq (x0:Int) (x1:ByteArray) (x2 a:Int) (x4:List Tree) (v0 v1:Int) (v2:ByteArray) (hc:cs.length≤400000) (hk:500000≤k) :
  Azo.f k f0 gl nm at_ pc sl cs lo lp ab x0 x1 x2 a x4 v0 v1 v2=some (Ax5 a cs (v0,v1,v2)):=by
 unfold Azo.f Ax5
 rw [Cns k cs v0 v1 v2 (by omega) (by omega)]
 simp only [Option.bind_some]
 cases A2x cs (v0,v1,v2) with
 | true=>rfl
 | false =>
  simp only [Bool.not_false,cond_true,Bool.false_eq_true,if_false]
  rw [Baf,wiC _ (by omega) (by omega)]
  refine B3u _ _ _ fun u _=>?_
  rw [Ava (by simp;omega)]
  rfl
theorem B4d:∀ (t pre:List Tree) (lo:TyC) (m:Nat) (J:TyC→Option (PC (Int×TyC))) (j:TyC→PC (Int×TyC)),pre.length+t.length≤400000→lo.length+t.length≤900000→t.length+1≤m →
  (∀ lo',Ayl lo t=.ok lo'→J lo'=some (j lo'))→Aot.l0 m (pre++t) J (pre.length:Int) lo=some ((Ayl lo t).th j)
 | [],pre,lo,m,J,j,hl,ho,hm,hJ=>by
  obtain ⟨m,rfl⟩:∃ m',m=m'+1:=⟨m - 1,by omega⟩
  simp only [Aot.l0]
  rw [ltF (by simp)]
  exact hJ lo rfl
 | x :: t,pre,lo,m,J,j,hl,ho,hm,hJ=>by
  obtain ⟨m,rfl⟩:∃ m',m=m'+1:=⟨m - 1,by omega⟩
  simp only [List.length_cons] at hl ho hm
  simp only [Aot.l0]
  rw [ltT (by simp;omega),Ah5]
  simp only [cond_true,Option.bind_some,Adg,Bk0]
  unfold Ayl
  cases hq:Ar9 x.text with
  | true=>rfl
  | false =>
   simp only [cond_false,Bool.false_eq_true,if_false]
   rw [Ava (by simp;omega),wiC _ (by omega) (by omega)]
   have ih:=B4d t (pre++[x]) (lo++[x.text]) m J j (by simp;omega) (by simp;omega) (by omega) fun lo' h=>hJ lo' (by unfold Ayl;rw [hq];exact h)
   rw [List.append_assoc,List.length_append] at ih
   exact ih
theorem Bpp (x0:Int) (x1:ByteArray) (x2 a:Int) (x4:List Tree) (l:List Tree) (hl:l.length≤400000) (ho:lo.length≤400000) (hk:500000≤k) :
  Aot.f k f0 gl nm at_ pc sl cs lo lp ab x0 x1 x2 a x4 l=some (Azk a sl lo l):=by
 unfold Aot.f Adg Azk
 refine B4d l [] lo k _ _ (by simpa using hl) (by omega) (by omega) fun lo' _=>?_
 rw [Baf]
 exact B3u _ _ _ fun _ _=>rfl
end
def Crp (k n:Int) (t:ByteArray) (l:List Tree):Prop :=
 t.size≤30000∧(k=7→l.length=2)∧(k=25→l.length=2)∧(k=26→4≤l.length)∧(k=21∨k=22→∃ m:Nat,n=m∧m≤l.length)∧(k=27→∃ m:Nat,n=m∧m+1≤l.length)∧(k=31→∃ m:Nat,n=m∧l.length=m+1)
mutual
def gw:Tree→Prop
 | .mk k t n _ l=>Crp k n t l∧gws l
def gws:List Tree→Prop
 | []=>True
 | x :: l=>gw x∧gws l
end
theorem Bak:∀ {l:List Tree},gws l ↔ ∀ x ∈ l,gw x
 | []=>by simp [gws]
 | x :: l=>by simp [gws,Bak (l:=l)]
mutual
theorem Bz6:∀ {t:Tree},wfT t→gw t
 | .mk k t n a l,⟨⟨h1,h2,h3,h4,h5,h6,h7⟩,hl⟩=>⟨⟨h1,h3,h4,h5,h6,h7,fun h=>absurd h h2⟩,Bz7 hl⟩
theorem Bz7:∀ {l:List Tree},Ap0 l→gws l
 | [],_=>trivial
 | _ :: _,h=>⟨Bz6 h.1,Bz7 h.2⟩
end
theorem Cq6 {t:Tree} (h:fnT t):gw t:=by
 cases t with
 | mk k t n a l =>
  obtain ⟨h1,h2,h3,h4⟩:=h
  subst h2
  exact ⟨⟨h1,nx rfl,nx rfl,nx rfl,nx rfl,nx rfl,fun _=>h3⟩,Bz7 h4⟩
theorem Ase (t:Tree):1≤sz t:=by cases t;simp only [sz];omega
theorem Bn2 {x:Tree}:∀ {l:List Tree},x ∈ l→sz x≤szs l
 | y :: l,h=>by
  simp only [szs]
  rcases List.mem_cons.1 h with rfl | h
  ·omega
  ·have:=Bn2 h;omega
theorem A0o (l:List Tree) (i:Nat):szs (l.take i)+szs (l.drop i)=szs l:=by rw [← Aib,List.take_append_drop]
theorem Anp {l:List Tree} {i:Nat} (h:i < l.length):Adx l i=l[i]∧Adx l i ∈ l:=by
 unfold Adx
 rw [List.getElem?_eq_getElem h]
 exact ⟨rfl,List.getElem_mem h⟩
theorem Con {l:List Tree} {i:Nat} (h:i < l.length):l.drop i=Adx l i :: l.drop (i+1):=by
 rw [(Anp h).1]
 exact List.drop_eq_getElem_cons h
theorem Ay0 {l:List Tree} {i:Nat} (h:i < l.length):szs (l.take i)+sz (Adx l i)+szs (l.drop (i+1))=szs l:=by
 have:=A0o l i
 rw [Con h] at this
 simp only [szs] at this
 omega
def pot (s:CSt):Nat:=s.fs.length+s.gl.length+s.cs.length+s.lo.length
structure Post (s s':CSt) (n:Nat):Prop where
 pre:s.lo <+: s'.lo
 lp:s'.lp=s.lp
 pot:pot s'≤pot s+n
theorem Post.refl (s:CSt):Post s s 0:=⟨List.prefix_refl _,rfl,Nat.le_refl _⟩
theorem Post.trans {s s1 s2:CSt} {n m:Nat} (h:Post s s1 n) (h':Post s1 s2 m):Post s s2 (n+m):=⟨h.pre.trans h'.pre,h'.lp.trans h.lp,by have:=h.pot;have:=h'.pot;omega⟩
theorem Post.weak {s s':CSt} {n m:Nat} (h:Post s s' n) (hm:n≤m):Post s s' m:=⟨h.pre,h.lp,by have:=h.pot;omega⟩
theorem Bhx {α:Type} {a b:List α} (h:a <+: b):b.take a.length=a:=by obtain ⟨t,rfl⟩:=h;simp
theorem Cfj {α:Type} {a b:List α} (h:a <+: b):a.length≤b.length:=by obtain ⟨t,rfl⟩:=h;simp
theorem Aer {α β ε:Type} {x:PR α ε} {f:α→PR β ε} {b:β} (h:x.th f=.ok b):∃ a,x=.ok a∧f a=.ok b:=by
 cases x with
 | ok a=>exact ⟨a,rfl,h⟩
 | bad e=>cases h
theorem Alb {α β ε:Type} {x:PR α ε} {f:α→PR β ε} {e:ε} (h:x.th f=.bad e):x=.bad e∨∃ a,x=.ok a∧f a=.bad e:=by
 cases x with
 | ok a=>exact .inr ⟨a,rfl,h⟩
 | bad e=>cases h;exact .inl rfl
theorem Cdw:∀ {l:List Tree} {lo lo':List ByteArray},Ayl lo l=.ok lo'→lo'=lo++l.map Tree.text
 | [],lo,lo',h=>by cases h;simp
 | x :: l,lo,lo',h=>by
  unfold Ayl at h
  split at h
  ·cases h
  ·rw [Cdw h];simp
theorem A93 {a sl:Int} {lo:List ByteArray} {l:List Tree} {r:Int×List ByteArray} (h:Azk a sl lo l=.ok r):r.2=lo++l.map Tree.text∧r.2.length≤60∧r.1=max sl (r.2.length:Int):=by
 unfold Azk at h
 obtain ⟨lo',h1,h⟩:=Aer h
 obtain ⟨_,h2,h⟩:=Aer h
 unfold Aoe at h2
 split at h2
 ·cases h2
 ·cases h
  refine ⟨Cdw h1,by show lo'.length≤60;omega,?_⟩
  show (if ((lo'.length:Nat):Int) > sl then ((lo'.length:Nat):Int) else sl)=max sl (lo'.length:Int)
  split <;> omega
theorem Bix (gl:List ByteArray) (t:ByteArray):(A2j gl t).length≤gl.length+1:=by unfold A2j;split <;> simp
theorem Bpv {a:Int} {cs cs':List V3} {v:V3} (h:Ax5 a cs v=.ok cs'):cs'.length≤cs.length+1:=by
 unfold Ax5 at h
 split at h
 ·cases h;omega
 ·obtain ⟨_,_,h⟩:=Aer h
  cases h;simp
theorem Cds {a:Int} {t:ByteArray} {gl lo ab gl':List ByteArray} (h:A7o a t gl lo ab=.ok gl'):gl'.length≤gl.length+1:=by
 unfold A7o at h
 split at h
 ·cases h
 split at h
 ·cases h;omega
 split at h
 ·cases h
 ·cases h;exact Bix _ _
theorem Bv1 {f:CSt→Tree→PC CSt}:∀ {l:List Tree} {s s':CSt},(∀ s x s',x ∈ l→f s x=.ok s'→Post s s' (4 * sz x))→Ai1 f s l=.ok s'→Post s s' (4 * szs l)
 | [],s,s',_,h=>by cases h;exact Post.refl _
 | x :: l,s,s',hf,h=>by
  unfold Ai1 at h
  obtain ⟨s1,h1,h⟩:=Aer h
  have:=(hf _ _ _ (List.mem_cons_self ..) h1).trans (Bv1 (fun s y s' hy=>hf s y s' (List.mem_cons_of_mem _ hy)) h)
  exact this.weak (by simp only [szs];omega)
theorem B3d {f:CSt→Tree→Bool→PC CSt} {n:Int}:∀ {l:List Tree} {i:Nat} {s s':CSt},(∀ s x b s',x ∈ l→f s x b=.ok s'→Post s s' (4 * sz x))→Ar5 f n i s l=.ok s'→Post s s' (4 * szs l)
 | [],_,s,s',_,h=>by cases h;exact Post.refl _
 | x :: l,i,s,s',hf,h=>by
  unfold Ar5 at h
  obtain ⟨s1,h1,h⟩:=Aer h
  have:=(hf _ _ _ _ (List.mem_cons_self ..) h1).trans (B3d (fun s y b s' hy=>hf s y b s' (List.mem_cons_of_mem _ hy)) h)
  exact this.weak (by simp only [szs];omega)
theorem Bvs {f:CSt→Tree→PC CSt} {a:Int} {s s':CSt} {names:List Tree} {b:Tree} {more:Nat} (hm:more=0∨more=3) (hf:∀ s s',f s b=.ok s'→Post s s' (4 * sz b)) (h:Ato f a s names b more=.ok s'):Post s s' (4 * sz b+names.length+3)∧s'.lo=s.lo:=by
 unfold Ato at h
 obtain ⟨r,h1,h⟩:=Aer h
 obtain ⟨s1,h2,h⟩:=Aer h
 cases h
 have hp:=hf _ _ h2
 have hr:s.lo <+: r.2∧r.2.length≤s.lo.length+names.length+3:=by
  split at h1
  ·have:=(A93 h1).1
   rw [this]
   refine ⟨⟨_,by rw [List.append_assoc]⟩,?_⟩
   simp
   omega
  ·cases h1
   exact ⟨List.prefix_refl _,by show s.lo.length≤_;omega⟩
 have h3:=Bhx (hr.1.trans hp.pre)
 refine ⟨⟨by show s.lo <+: s1.lo.take s.lo.length;rw [h3];exact List.prefix_refl _,by show s1.lp - 1=s.lp;have:=hp.lp;simp only at this;omega,?_⟩,h3⟩
 have hq:=hp.pot
 have:=Cfj hp.pre
 simp only [pot] at hq this ⊢
 rw [List.length_take]
 omega
theorem Cqi {f:CSt→List Tree→PC CSt} {ab:TyC} {s s':CSt} {k n a:Int} {t:ByteArray} {l:List Tree} {tg:Bool} (hf:∀ s s',f s l=.ok s'→Post s s' (4 * szs l)) (h:Ath f ab s k t n a l tg=.ok s'):Post s s' (4 * szs l+1):=by
 unfold Ath at h
 split at h
 ·obtain ⟨_,_,h⟩:=Aer h;exact (hf _ _ h).weak (by omega)
 split at h
 ·obtain ⟨_,_,h⟩:=Aer h;exact (hf _ _ h).weak (by omega)
 split at h
 ·obtain ⟨_,_,h⟩:=Aer h;exact (hf _ _ h).weak (by omega)
 split at h
 ·obtain ⟨cs,h1,h⟩:=Aer h
  have hp:=hf _ _ h
  have:=Bpv h1
  exact ⟨hp.pre,hp.lp,by have:=hp.pot;simp only [pot] at this ⊢;omega⟩
 split at h
 ·obtain ⟨cs,h1,h⟩:=Aer h
  have hp:=hf _ _ h
  have:=Bpv h1
  exact ⟨hp.pre,hp.lp,by have:=hp.pot;simp only [pot] at this ⊢;omega⟩
 split at h
 ·obtain ⟨gl,h1,h⟩:=Aer h
  have hp:=hf _ _ h
  have:=Cds h1
  exact ⟨hp.pre,hp.lp,by have:=hp.pot;simp only [pot] at this ⊢;omega⟩
 split at h
 ·split at h
  ·cases h
  ·cases h;exact (Post.refl _).weak (by omega)
 ·exact (hf _ _ h).weak (by omega)
theorem Apr:∀ {d:Nat} {ab:List ByteArray} {s s':CSt} {t:Tree} {tg:Bool},gw t→Aeo d ab s t tg=.ok s'→Post s s' (4 * sz t)
 | 0,_,_,_,_,_,_,h=>by unfold Aeo at h;cases h
 | d+1,ab,s,s',.mk k t n a l,tg,hw,h=>by
  obtain ⟨⟨hs1,hs7,A6a,A6b,Bav,A6c,Be8⟩,hw⟩:=hw
  rw [Bak] at hw
  have hN:∀ (m:List Tree),(∀ x ∈ m,x ∈ l)→∀ ab s s',Ai1 (fun s x=>Aeo d ab s x false) s m=.ok s'→Post s s' (4 * szs m):=fun m hm ab s s' h=>Bv1 (fun s x s' hx h=>Apr (hw x (hm x hx)) h) h
  have hlen:=Aju l
  simp only [sz]
  unfold Aeo at h
  split at h
  ·obtain ⟨s1,h1,h⟩:=Aer h
   cases h
   have hp:=hN l (fun _ h=>h) _ _ _ h1
   refine ⟨by rw [Bhx hp.pre];exact List.prefix_refl _,hp.lp,?_⟩
   have:=hp.pot
   simp only [pot] at this ⊢
   rw [List.length_take];omega
  split at h
  ·rename_i hk
   obtain ⟨m,rfl,hm⟩:=Be8 hk
   obtain ⟨_,_,h⟩:=Aer h
   split at h
   ·cases h
   obtain ⟨_,_,h⟩:=Aer h
   obtain ⟨r,h1,h⟩:=Aer h
   obtain ⟨s1,h2,h⟩:=Aer h
   cases h
   simp only [Int.toNat_natCast] at h1 h2
   have hk:=Anp (l:=l) (i:=m) (by omega)
   have hp:=Apr (hw _ hk.2) h2
   have hb:=A93 h1
   have:=Ay0 (l:=l) (i:=m) (by omega)
   have h3:=hp.pot
   have h4:=Bix s.gl t
   have h5:r.2.length≤m:=by rw [hb.1];simp;omega
   refine ⟨List.prefix_refl _,rfl,?_⟩
   have:=Aju (l.take m)
   rw [List.length_take] at this
   simp only [pot,List.length_append,List.length_cons,List.length_nil] at h3 ⊢
   omega
  split at h
  ·rename_i hk
   obtain ⟨m,rfl,hm⟩:=Bav (.inl hk)
   obtain ⟨_,_,h⟩:=Aer h
   obtain ⟨_,_,h⟩:=Aer h
   obtain ⟨s1,h1,h⟩:=Aer h
   obtain ⟨r,h2,h⟩:=Aer h
   cases h
   simp only [Int.toNat_natCast] at h1 h2
   have hp:=hN _ (fun x hx=>List.mem_of_mem_drop hx) _ _ _ h1
   have hb:=A93 h2
   have:=A0o l m
   have:=Aju (l.take m)
   refine ⟨hp.pre.trans ⟨_,hb.1.symm⟩,hp.lp,?_⟩
   have h3:=hp.pot
   simp only [pot] at h3 ⊢
   rw [hb.1]
   simp only [List.length_append,List.length_map]
   omega
  split at h
  ·obtain ⟨_,_,h⟩:=Aer h
   obtain ⟨_,_,h⟩:=Aer h
   exact (B3d (fun s x b s' hx h=>Apr (hw x hx) h) h).weak (by omega)
  split at h
  ·rename_i hk
   have h2:=A6a hk
   obtain ⟨s1,h1,h⟩:=Aer h
   have k0:=Anp (l:=l) (i:=0) (by omega)
   have k1:=Anp (l:=l) (i:=1) (by omega)
   have hp:=Apr (hw _ k0.2) h1
   have hq:=(Bvs (.inl rfl) (fun s s' h=>Apr (hw _ k1.2) h) h).1
   have e1:=Ay0 (l:=l) (i:=1) (by omega)
   have e2:szs (l.take 1)=sz (Adx l 0):=by
    have:=Ay0 (l:=l) (i:=0) (by omega)
    have:=A0o l 1
    simp only [List.take_zero,szs,Nat.zero_add] at *
    omega
   exact (hp.trans hq).weak (by simp only [List.length_nil];omega)
  split at h
  ·rename_i hk
   have h2:=A6b hk
   obtain ⟨s1,h1,h⟩:=Aer h
   have kl:=Anp (l:=l) (i:=l.length - 1) (by omega)
   have hp:=hN _ (fun x hx=>List.mem_of_mem_drop (List.mem_of_mem_take hx)) _ _ _ h1
   have hq:=(Bvs (.inr rfl) (fun s s' h=>Apr (hw _ kl.2) h) h).1
   have e1:=Ay0 (l:=l) (i:=l.length - 1) (by omega)
   have e2:szs ((l.drop 1).take (l.length - 2))+szs (l.take 1)≤szs (l.take (l.length - 1)):=by
    have:=A0o (l.take (l.length - 1)) 1
    rw [List.drop_take,List.take_take,Nat.min_eq_left (by omega),show l.length - 1 - 1=l.length - 2 by omega] at this
    omega
   have e3:=Aju (l.take 1)
   exact (hp.trans hq).weak (by omega)
  split at h
  ·rename_i hk
   obtain ⟨m,rfl,hm⟩:=A6c hk
   obtain ⟨_,_,h⟩:=Aer h
   obtain ⟨_,_,h⟩:=Aer h
   obtain ⟨s1,h1,h⟩:=Aer h
   simp only [Int.toNat_natCast] at h1 h
   have kl:=Anp (l:=l) (i:=l.length - 1) (by omega)
   have hp:=hN _ (fun x hx=>List.mem_of_mem_drop (List.mem_of_mem_take hx)) _ _ _ h1
   have hq:=(Bvs (.inr rfl) (fun s s' h=>Apr (hw _ kl.2) h) h).1
   have e1:=Ay0 (l:=l) (i:=l.length - 1) (by omega)
   have e2:szs ((l.drop m).take (l.length - 1 - m))+szs (l.take m)≤szs (l.take (l.length - 1)):=by
    have:=A0o (l.take (l.length - 1)) m
    rw [List.drop_take,List.take_take,Nat.min_eq_left (by omega)] at this
    omega
   have e3:=Aju (l.take m)
   exact (hp.trans hq).weak (by omega)
  split at h
  ·split at h
   ·cases h
   ·cases h;exact (Post.refl _).weak (by omega)
  ·exact (Cqi (fun s s' h=>hN l (fun _ h=>h) _ _ _ h) h).weak (by omega)
structure BdC (s:CSt) (ab:List ByteArray) (n:Nat):Prop where
 pot:pot s+4 * n≤400000
 ab:ab.length≤400000
 lp0:0≤s.lp
 lp:s.lp+n≤400000
theorem BdC.weak {s:CSt} {ab:List ByteArray} {n m:Nat} (h:BdC s ab n) (hm:m≤n):BdC s ab m:=⟨by have:=h.pot;omega,h.ab,h.lp0,by have:=h.lp;omega⟩
theorem BdC.step {s s':CSt} {ab:List ByteArray} {n m:Nat} (h:BdC s ab (n+m)) (hp:Post s s' (4 * n)):BdC s' ab m:=⟨by have:=h.pot;have:=hp.pot;omega,h.ab,by rw [hp.lp];exact h.lp0,by rw [hp.lp];have:=h.lp;omega⟩
section
variable {α β γ δ ε:Type}
theorem bindM {x:PR α ε} {g:α→β} {F:β→Option (PR γ ε)} {f:α→PR δ ε} {h:δ→γ} (H:∀ a,x=.ok a→F (g a)=some (PR.mp h (f a))):PR.bind (some (PR.mp g x)) F=some (PR.mp h (x.th f)):=by
 cases x with
 | ok a=>exact H a rfl
 | bad e=>rfl
theorem Aqs {x:PR α ε} {F:α→Option (PR γ ε)} {f:α→PR δ ε} {h:δ→γ} (H:∀ a,x=.ok a→F a=some (PR.mp h (f a))):PR.bind (some x) F=some (PR.mp h (x.th f)):=by
 cases x with
 | ok a=>exact H a rfl
 | bad e=>rfl
end
theorem eqC {a b:Int} (h:a=b):(a == b)=true:=beq_iff_eq.2 h
theorem neC {a b:Int} (h:a≠b):(a == b)=false:=beq_eq_false_iff_ne.2 h
theorem Anx {α:Type} {l:List α} {lo hi:Int} (a b:Nat) (ha:lo=a) (hb:hi=b) (h1:a≤b) (h2:b≤l.length):Ah4 l lo hi=some ((l.drop a).take (b - a)):=by
 subst ha hb
 unfold Ah4
 rw [decide_eq_true (by omega)]
 rfl
theorem Bht {α:Type} {l m:List α} (h:m <+: l):Ah4 l (0:Int) ((m.length:Nat):Int)=some (l.take m.length):=by
 rw [Anx 0 m.length (by omega) (by omega) (Nat.zero_le _) (Cfj h)]
 rfl
theorem A6f {l:List Tree} {i:Int} (m:Nat) (h:i=m) (hm:m < l.length):Acz l i=some (Adx l m):=by
 rw [h,Bvg hm,(Anp hm).1]
theorem A94 {a b:ByteArray} (h:a.size+b.size≤9223372036854775807):Auy a b=some (a++b):=by
 unfold Auy
 rw [decide_eq_true h]
 rfl
def RcN (R:CK) (d:Nat):Prop:=∀ (nm:ByteArray) (at_ pc:Int) (ab:List ByteArray) (s:CSt) (t:Tree) (tg:Bool),sz t≤d→gw t→BdC s ab (sz t) →
 R.Ahi s.fs s.gl nm at_ pc s.sl s.cs s.lo s.lp ab t.kind t.text t.n t.at_ t.kids tg=some (PR.mp CSt.tup (Aeo d ab s t tg))
abbrev nsC (d:Nat) (ab:List ByteArray) (s:CSt) (l:List Tree):PC CSt:=Ai1 (fun s x=>Aeo d ab s x false) s l
def RcL (R:CK) (d:Nat):Prop:=∀ (nm:ByteArray) (at_ pc:Int) (ab:List ByteArray) (s:CSt) (l:List Tree),(∀ x ∈ l,sz x≤d∧gw x)→BdC s ab (szs l) →
 R.Ajl s.fs s.gl nm at_ pc s.sl s.cs s.lo s.lp ab l=some (PR.mp CSt.tup (nsC d ab s l))
def RcX (R:CK) (d:Nat):Prop:=∀ (nm:ByteArray) (at_ pc:Int) (ab:List ByteArray) (s:CSt) (k:Int) (t:ByteArray) (n a:Int) (l:List Tree) (tg:Bool),(∀ x ∈ l,sz x≤d∧gw x)→(k=7→l.length=2)→BdC s ab (szs l+1) →
 R.Aqy s.fs s.gl nm at_ pc s.sl s.cs s.lo s.lp ab k t n a l tg=some (PR.mp CSt.tup (Ath (fun s l=>nsC d ab s l) ab s k t n a l tg))
def RcP (R:CK) (d:Nat):Prop:=∀ (nm:ByteArray) (at_ pc:Int) (ab:TyC) (s:CSt) (k:Int) (t:ByteArray) (n a:Int) (l names:List Tree) (b:Tree) (more:Nat),more=0∨more=3→sz b≤d→gw b→BdC s ab (sz b+names.length+1) →
 R.Anl s.fs s.gl nm at_ pc s.sl s.cs s.lo s.lp ab k t n a l names b.kind b.text b.n b.at_ b.kids (more:Int)=some (PR.mp CSt.tup (Ato (fun s x=>Aeo d ab s x false) a s names b more))
def RcF (R:CK) (d:Nat):Prop:=∀ (nm:ByteArray) (at_ pc:Int) (ab:List ByteArray) (s:CSt) (t:ByteArray) (m:Nat) (a:Int) (l:List Tree),(∀ x ∈ l,sz x≤d∧gw x)→l.length=m+1→BdC s ab (szs l+1) →
 R.Aq3 s.fs s.gl nm at_ pc s.sl s.cs s.lo s.lp ab 31 t (m:Int) a l=some (PR.mp CSt.tup (Aeo (d+1) ab s (.mk 31 t (m:Int) a l) false))
theorem Cd2 {R:CK} {d:Nat} (hR:RcN R d) (nm:ByteArray) (at_ pc:Int) (ab:TyC):∀ (t pre:List Tree) (s:CSt) (m:Nat),pre.length+t.length≤400000→t.length+1≤m→(∀ x ∈ t,sz x≤d∧gw x)→BdC s ab (szs t) →
  Ajl.l0 m R nm at_ pc ab (pre++t) (pre.length:Int) s.fs s.gl s.sl s.cs s.lo s.lp=some (PR.mp CSt.tup (nsC d ab s t))
 | [],pre,s,m,hl,hm,hw,hb=>by
  obtain ⟨m,rfl⟩:∃ m',m=m'+1:=⟨m - 1,by omega⟩
  simp only [Ajl.l0]
  rw [ltF (by simp)]
  rfl
 | x :: t,pre,s,m,hl,hm,hw,hb=>by
  obtain ⟨m,rfl⟩:∃ m',m=m'+1:=⟨m - 1,by omega⟩
  simp only [List.length_cons] at hl hm
  simp only [szs] at hb
  simp only [Ajl.l0]
  rw [ltT (by simp;omega),Ah5]
  simp only [cond_true,Option.bind_some]
  have hx:=hw x (List.mem_cons_self ..)
  rw [hR nm at_ pc ab s x false hx.1 hx.2 (hb.weak (by omega))]
  unfold nsC Ai1
  refine bindM fun s' hs'=>?_
  have ih:=Cd2 hR nm at_ pc ab t (pre++[x]) s' m (by simp;omega) (by omega) (fun y hy=>hw y (List.mem_cons_of_mem _ hy)) (hb.step (Apr hx.2 hs'))
  rw [wiC _ (by omega) (by omega)]
  rw [List.append_assoc,List.length_append] at ih
  exact ih
theorem B3c {R:CK} {d:Nat} (hR:RcN R d) (nm:ByteArray) (at_ pc:Int) (ab:TyC) (n:Int):∀ (t pre:List Tree) (s:CSt) (m:Nat),pre.length+t.length≤400000→t.length+1≤m→(∀ x ∈ t,sz x≤d∧gw x)→BdC s ab (szs t) →
  Ahi.l0 m R nm at_ pc ab n (pre++t) (pre.length:Int) s.fs s.gl s.sl s.cs s.lo s.lp=some (PR.mp CSt.tup (Ar5 (fun s x b=>Aeo d ab s x b) n pre.length s t))
 | [],pre,s,m,hl,hm,hw,hb=>by
  obtain ⟨m,rfl⟩:∃ m',m=m'+1:=⟨m - 1,by omega⟩
  simp only [Ahi.l0]
  rw [ltF (by simp)]
  rfl
 | x :: t,pre,s,m,hl,hm,hw,hb=>by
  obtain ⟨m,rfl⟩:∃ m',m=m'+1:=⟨m - 1,by omega⟩
  simp only [List.length_cons] at hl hm
  simp only [szs] at hb
  simp only [Ahi.l0]
  rw [ltT (by simp;omega),Ah5]
  simp only [cond_true,Option.bind_some]
  have hx:=hw x (List.mem_cons_self ..)
  rw [hR nm at_ pc ab s x _ hx.1 hx.2 (hb.weak (by omega))]
  unfold Ar5
  refine bindM fun s' hs'=>?_
  have ih:=B3c hR nm at_ pc ab n t (pre++[x]) s' m (by simp;omega) (by omega) (fun y hy=>hw y (List.mem_cons_of_mem _ hy)) (hb.step (Apr hx.2 hs'))
  rw [wiC _ (by omega) (by omega)]
  rw [List.append_assoc,List.length_append] at ih
  exact ih
theorem Cd4 {k d:Nat} (hk:500000≤k) (hR:RcN (CK.at k) d):RcL (CK.at (k+1)) d:=fun nm at_ pc ab s l hw hb=>by
 have:=Aju l
 have:=hb.pot
 exact Cd2 hR nm at_ pc ab l [] s k (by simp only [List.length_nil];omega) (by omega) hw hb
theorem Cqc {k d:Nat} (hk:500000≤k) (hR:RcL (CK.at k) d):RcX (CK.at (k+1)) d:=fun nm at_ pc ab s k0 t n a l tg hw h7 hb=>by
 have hp:=hb.pot
 have hlen:=Aju l
 have hL:∀ s',BdC s' ab (szs l)→PR.bind ((CK.at k).Ajl s'.fs s'.gl nm at_ pc s'.sl s'.cs s'.lo s'.lp ab l) (fun r13=>some (PR.ok (r13.1,r13.2.1,r13.2.2.1,r13.2.2.2.1,r13.2.2.2.2.1,r13.2.2.2.2.2)))=some (PR.mp CSt.tup (nsC d ab s' l)):=fun s' hb=>by
  rw [hR nm at_ pc ab s' l hw hb]
  cases nsC d ab s' l <;> rfl
 have hcs:∀ v cs,Ax5 a s.cs v=.ok cs→BdC { s with cs:=cs } ab (szs l):=fun v cs h=>⟨by have:=Bpv h;simp only [pot] at hp ⊢;omega,hb.ab,hb.lp0,by have:=hb.lp;show s.lp+_≤_;omega⟩
 show Aqy.g (CK.at k) k s.fs s.gl nm at_ pc s.sl s.cs s.lo s.lp ab k0 t n a l tg=_
 unfold Aqy.g Ath Adg
 simp only [Baf]
 have Bmt:s.gl.length≤400000∧s.lo.length≤400000∧s.cs.length≤400000:=by simp only [pot] at hp;omega
 by_cases h:k0=8
 ·rw [eqC h,if_pos h,cond_true,wiC _ (by omega) (by omega)]
  exact Aqs fun _ _=>hL s (hb.weak (by omega))
 rw [neC h,if_neg h,cond_false]
 by_cases h:k0=30
 ·rw [eqC h,if_pos h,cond_true]
  exact Aqs fun _ _=>hL s (hb.weak (by omega))
 rw [neC h,if_neg h,cond_false]
 by_cases h:k0=12
 ·rw [eqC h,if_pos h,cond_true]
  exact Aqs fun _ _=>hL s (hb.weak (by omega))
 rw [neC h,if_neg h,cond_false]
 by_cases h:k0=4
 ·rw [eqC h,if_pos h,cond_true,const_eq _ _ _ _ _ _ _ _ Bmt.2.2 hk]
  exact Aqs fun cs hcs'=>hL { s with cs:=cs } (hcs _ _ hcs')
 rw [neC h,if_neg h,cond_false]
 by_cases h:k0=5
 ·rw [eqC h,if_pos h,cond_true,const_eq _ _ _ _ _ _ _ _ Bmt.2.2 hk]
  exact Aqs fun cs hcs'=>hL { s with cs:=cs } (hcs _ _ hcs')
 rw [neC h,if_neg h,cond_false]
 by_cases h:k0=6
 ·rw [eqC h,if_pos h,cond_true,C4e _ _ _ _ _ Bmt.1 Bmt.2.1 hb.ab hk]
  exact Aqs fun gl hgl=>hL { s with gl:=gl } ⟨by have:=Cds hgl;simp only [pot] at hp ⊢;omega,hb.ab,hb.lp0,by have:=hb.lp;show s.lp+_≤_;omega⟩
 rw [neC h,if_neg h,cond_false]
 by_cases h:k0=7
 ·rw [eqC h,cond_true]
  have h2:=h7 h
  rw [A6f 0 (by omega) (by omega)]
  simp only [Option.bind_some]
  by_cases h6:(Adx l 0).kind=6
  ·rw [eqC h6,cond_true,Bk0]
   simp only [Option.bind_some]
   cases hq:Ar9 (Adx l 0).text with
   | false =>
    rw [cond_false,if_neg (fun e=>by cases e.2.2)]
    exact hL s (hb.weak (by omega))
   | true =>
    rw [cond_true,if_pos ⟨h,h6,rfl⟩,A6f 1 (by omega) (by omega)]
    simp only [Option.bind_some]
    unfold B3i
    cases tg with
    | true=>rfl
    | false =>
     simp only [cond_false,Bool.false_or]
     by_cases h5:(Adx l 1).kind=5
     ·have e5:((Adx l 1).kind != 5)=false:=by simp [h5]
      have w0:=(hw _ (Anp (l:=l) (i:=0) (by omega)).2).2
      have w1:=(hw _ (Anp (l:=l) (i:=1) (by omega)).2).2
      have z0:(Adx l 0).text.size≤30000:=by
       cases hx:Adx l 0 with
       | mk k1 t1 n1 a1 l1=>rw [hx] at w0;exact w0.1.1
      have z1:(Adx l 1).text.size≤30000:=by
       cases hx:Adx l 1 with
       | mk k1 t1 n1 a1 l1=>rw [hx] at w1;exact w1.1.1
      have zd:(⟨#[46]⟩:ByteArray).size=1:=rfl
      rw [e5,A94 (by omega)]
      simp only [cond_false,Bool.false_or,Option.bind_some]
      rw [A94 (by rw [ByteArray.size_append];omega)]
      simp only [Option.bind_some]
      rw [Cdk k (by omega)]
      simp only [Option.bind_some]
      cases Asw (((Adx l 0).text++Bdl++(Adx l 1).text).toList) == 0 <;> rfl
     ·have e5:((Adx l 1).kind != 5)=true:=by simp [h5]
      rw [e5]
      rfl
  ·rw [neC h6,if_neg (fun e=>h6 e.2.1)]
   exact hL s (hb.weak (by omega))
 rw [neC h,if_neg (fun e=>h e.1),cond_false]
 exact hL s (hb.weak (by omega))
theorem C4a {k d:Nat} (hk:500000≤k) (hR:RcN (CK.at k) d):RcP (CK.at (k+1)) d:=fun nm at_ pc ab s k0 t n a l names b more hm hd hw hb=>by
 have hp:=hb.pot
 have hlp:=hb.lp
 have Dgl:=hb.lp0
 show Anl.g (CK.at k) k s.fs s.gl nm at_ pc s.sl s.cs s.lo s.lp ab k0 t n a l names b.kind b.text b.n b.at_ b.kids (more:Int)=_
 unfold Anl.g Ato Adg A4k
 have hlo:s.lo.length+4≤400000:=by simp only [pot] at hp;omega
 rw [decide_eq_true (by rw [Int.toNat_natCast];omega)]
 simp only [cond_true,Option.bind_some,Int.toNat_natCast]
 have tail:∀ r:Int×List ByteArray,s.lo <+: r.2→r.2.length≤s.lo.length+names.length+3 →
   PR.bind ((CK.at k).Ahi s.fs s.gl nm at_ pc r.1 s.cs r.2 (IntKind.i64.wrap (s.lp+1)) ab b.kind b.text b.n b.at_ b.kids false) (fun r15=>(Ah4 r15.2.2.2.2.1 (0:Int) ((s.lo.length:Nat):Int)).bind fun l33=>some (PR.ok (r15.1,r15.2.1,r15.2.2.1,r15.2.2.2.1,l33,IntKind.i64.wrap (r15.2.2.2.2.2 - 1))))
   =some (PR.mp CSt.tup ((Aeo d ab { s with sl:=r.1,lo:=r.2,lp:=s.lp+1 } b false).th fun s'=>.ok { s' with lo:=s'.lo.take s.lo.length,lp:=s'.lp - 1 })):=fun r h1 h2=>by
  rw [wiC _ (by omega) (by omega)]
  have hb':BdC { s with sl:=r.1,lo:=r.2,lp:=s.lp+1 } ab (sz b):=⟨by simp only [pot] at hp ⊢;omega,hb.ab,by show 0≤s.lp+1;omega,by show s.lp+1+_≤_;omega⟩
  have:=hR nm at_ pc ab { s with sl:=r.1,lo:=r.2,lp:=s.lp+1 } b false hd hw hb'
  simp only at this
  rw [this]
  refine bindM fun s' hs'=>?_
  have hq:=Apr hw hs'
  have hl':s'.lp=s.lp+1:=hq.lp
  show (Ah4 s'.lo (0:Int) ((s.lo.length:Nat):Int)).bind _=_
  rw [Bht (h1.trans hq.pre),Option.bind_some,show s'.tup.2.2.2.2.2=s'.lp from rfl,wiC _ (by omega) (by omega)]
  rfl
 rcases hm with rfl | rfl
 ·simp only [List.replicate_zero,List.append_nil]
  rw [decide_eq_false (p:=((0:Nat):Int) > 0) (by omega),cond_false,if_neg (by omega)]
  have:=tail (s.sl,s.lo) (List.prefix_refl _) (by show s.lo.length≤_;omega)
  exact this
 ·rw [decide_eq_true (p:=((3:Nat):Int) > 0) (by omega),cond_true]
  rw [Bpp _ _ _ _ _ _ (by omega) (by simp;omega) hk,if_pos (by omega)]
  refine Aqs fun r hr=>?_
  have hr':=A93 hr
  refine tail r ?_ ?_
  ·rw [hr'.1];exact ⟨_,by rw [List.append_assoc]⟩
  ·rw [hr'.1];simp;omega
theorem Cq7 {k d:Nat} (hk:500000≤k) (hR:RcN (CK.at k) d):RcF (CK.at (k+1)) d:=fun nm at_ pc ab s t m a l hw hm hb=>by
 have hp:=hb.pot
 have hlen:=Aju l
 have Ct0:=Anp (l:=l) (i:=m) (by omega)
 have hks:=Ay0 (l:=l) (i:=m) (by omega)
 have hts:=Aju (l.take m)
 rw [List.length_take] at hts
 have Dgi:=Bix s.gl t
 have hpp:s.fs.length≤400000∧s.gl.length≤399999∧s.lo.length≤400000:=by simp only [pot] at hp;omega
 show Aq3.g (CK.at k) k s.fs s.gl nm at_ pc s.sl s.cs s.lo s.lp ab 31 t (m:Int) a l=_
 unfold Aq3.g Adg Aeo
 rw [if_neg (by decide),if_pos rfl,Baf]
 refine Aqs fun _ _=>?_
 rw [Bk0]
 simp only [Option.bind_some]
 cases hq:Ar9 t with
 | true=>rfl
 | false =>
  simp only [cond_false,Bool.false_eq_true,if_false]
  rw [Baf]
  refine Aqs fun _ _=>?_
  rw [B6p t (by omega) hk,Option.bind_some,Anx 0 m (by omega) (by omega) (Nat.zero_le _) (by omega),Option.bind_some]
  simp only [List.drop_zero,Nat.sub_zero,Int.toNat_natCast]
  rw [Bpp _ _ _ _ _ _ (by rw [List.length_take];omega) (by simp) hk]
  refine Aqs fun r hr=>?_
  have hr':=A93 hr
  have hrl:r.2.length≤m:=by rw [hr'.1];simp;omega
  rw [A6f m (by omega) (by omega),Option.bind_some]
  have hw':=hw _ Ct0.2
  have hb':BdC ⟨s.fs,A2j s.gl t,r.1,[],r.2,0⟩ s.lo (sz (Adx l m)):=⟨by simp only [pot,List.length_nil] at hp ⊢;omega,hpp.2.2,Int.le_refl _,by show (0:Int)+_≤_;omega⟩
  have:=hR t a m s.lo ⟨s.fs,A2j s.gl t,r.1,[],r.2,0⟩ (Adx l m) false hw'.1 hw'.2 hb'
  simp only at this
  rw [this]
  refine bindM fun s' hs'=>?_
  have hq':=(Apr hw'.2 hs').pot
  show (apd 64 s'.fs [(t,a,(m:Int),s'.sl,s'.cs)]).bind _=_
  rw [Ava (by simp only [pot,List.length_nil] at hp hq';simp;omega)]
  rfl
theorem C4p {k d:Nat} (hk:500000≤k) (hR:RcN (CK.at k) d) (hL:RcL (CK.at k) d) (hX:RcX (CK.at k) d) (hP:RcP (CK.at k) d) (hF:RcF (CK.at k) d):RcN (CK.at (k+1)) (d+1):=fun nm at_ pc ab s x tg hd hw hb=>by
 cases x with
 | mk k0 t n a l =>
  obtain ⟨⟨hs1,hs7,A6a,A6b,Bav,A6c,Be8⟩,hw⟩:=hw
  rw [Bak] at hw
  simp only [sz] at hd hb
  have hlen:=Aju l
  have hp:=hb.pot
  have hwd:∀ x ∈ l,sz x≤d∧gw x:=fun x hx=>⟨by have:=Bn2 hx;omega,hw x hx⟩
  have id':∀ (x:PC CSt) ,PR.bind (some (PR.mp CSt.tup x)) (fun r=>some (PR.ok (r.1,r.2.1,r.2.2.1,r.2.2.2.1,r.2.2.2.2.1,r.2.2.2.2.2)))=some (PR.mp CSt.tup x):=fun x=>by cases x <;> rfl
  have nP:∀ {m:List Tree},(∀ x ∈ m,x ∈ l)→∀ {s s'},nsC d ab s m=.ok s'→Post s s' (4 * szs m):=fun hm _ _ h=>Bv1 (fun s x s' hx h=>Apr (hw x (hm x hx)) h) h
  show Ahi.g (CK.at k) k s.fs s.gl nm at_ pc s.sl s.cs s.lo s.lp ab k0 t n a l tg=some (PR.mp CSt.tup (Aeo (d+1) ab s (.mk k0 t n a l) tg))
  unfold Ahi.g
  by_cases h31:k0=31
  ·obtain ⟨m,rfl,hm⟩:=Be8 h31
   subst h31
   rw [neC (by decide),cond_false,eqC rfl,cond_true,hF nm at_ pc ab s t m a l hwd hm (hb.weak (by omega)),id']
   rfl
  unfold Aeo
  by_cases h:k0=20
  ·rw [eqC h,if_pos h,cond_true,hL nm at_ pc ab s l hwd (hb.weak (by omega))]
   refine bindM fun s' hs'=>?_
   show (Ah4 s'.lo (0:Int) ((s.lo.length:Nat):Int)).bind _=_
   rw [Bht (nP (fun _ h=>h) hs').pre]
   rfl
  rw [neC h,if_neg h,cond_false,neC h31,if_neg h31,cond_false]
  simp only [Baf]
  by_cases h:k0=21
  ·obtain ⟨m,rfl,hm⟩:=Bav (.inl h)
   rw [eqC h,if_pos h,cond_true,wiC _ (by omega) (by omega)]
   refine Aqs fun _ _=>Aqs fun _ _=>?_
   have hsp:=A0o l m
   have hlt:=Aju (l.take m)
   rw [Anx m l.length (by omega) (by omega) hm (Nat.le_refl _),Option.bind_some,List.take_of_length_le (by rw [List.length_drop];omega)]
   rw [hL nm at_ pc ab s _ (fun x hx=>hwd x (List.mem_of_mem_drop hx)) (hb.weak (by omega))]
   simp only [Int.toNat_natCast]
   refine bindM fun s' hs'=>?_
   have hq:=(nP (fun _ h=>List.mem_of_mem_drop h) hs').pot
   rw [Anx 0 m (by omega) (by omega) (Nat.zero_le _) hm,Option.bind_some]
   simp only [List.drop_zero,Nat.sub_zero,CSt.tup]
   rw [Bpp _ _ _ _ _ _ (by rw [List.length_take];omega) (by simp only [pot] at hp hq;omega) hk]
   exact Aqs fun r hr=>rfl
  rw [neC h,if_neg h,cond_false]
  by_cases h:k0=22
  ·obtain ⟨m,rfl,hm⟩:=Bav (.inr h)
   rw [eqC h,if_pos h,cond_true,wiC _ (by omega) (by omega)]
   refine Aqs fun _ _=>Aqs fun _ _=>?_
   exact B3c hR nm at_ pc ab _ l [] s k (by simp only [List.length_nil];omega) (by omega) hwd (hb.weak (by omega))
  rw [neC h,if_neg h,cond_false]
  by_cases h:k0=25
  ·have h2:=A6a h
   have k0:=Anp (l:=l) (i:=0) (by omega)
   have k1:=Anp (l:=l) (i:=1) (by omega)
   have e1:=Ay0 (l:=l) (i:=1) (by omega)
   have e2:szs (l.take 1)=sz (Adx l 0):=by
    have:=Ay0 (l:=l) (i:=0) (by omega)
    have:=A0o l 1
    simp only [List.take_zero,szs,Nat.zero_add] at *
    omega
   rw [eqC h,if_pos h,cond_true,A6f 0 (by omega) (by omega),Option.bind_some,hR nm at_ pc ab s (Adx l 0) false (hwd _ k0.2).1 (hwd _ k0.2).2 (hb.weak (by omega))]
   refine bindM fun s' hs'=>?_
   have hb':BdC s' ab (sz (Adx l 1)+0+1):=(hb.weak (m:=sz (Adx l 0)+(sz (Adx l 1)+0+1)) (by omega)).step (Apr (hwd _ k0.2).2 hs')
   rw [A6f 1 (by omega) (by omega),Option.bind_some]
   have:=hP nm at_ pc ab s' 25 t n a l [] (Adx l 1) 0 (.inl rfl) (hwd _ k1.2).1 (hwd _ k1.2).2 hb'
   simp only [CSt.tup]
   rw [h]
   have this:=this
   simp only [Int.ofNat_zero,Int.natCast_zero] at this
   rw [this]
   exact id' _
  rw [neC h,if_neg h,cond_false]
  by_cases h:k0=26
  ·have h2:=A6b h
   have kl:=Anp (l:=l) (i:=l.length - 1) (by omega)
   have e1:=Ay0 (l:=l) (i:=l.length - 1) (by omega)
   have e2:szs ((l.drop 1).take (l.length - 2))+szs (l.take 1)≤szs (l.take (l.length - 1)):=by
    have:=A0o (l.take (l.length - 1)) 1
    rw [List.drop_take,List.take_take,Nat.min_eq_left (by omega),show l.length - 1 - 1=l.length - 2 by omega] at this
    omega
   have e3:=Aju (l.take 1)
   rw [eqC h,if_pos h,cond_true,wiC _ (by omega) (by omega),Anx 1 (l.length - 1) (by omega) (by omega) (by omega) (by omega),Option.bind_some,show l.length - 1 - 1=l.length - 2 by omega]
   rw [hL nm at_ pc ab s _ (fun x hx=>hwd x (List.mem_of_mem_drop (List.mem_of_mem_take hx))) (hb.weak (by omega))]
   refine bindM fun s' hs'=>?_
   have hb':=(hb.weak (m:=szs ((l.drop 1).take (l.length - 2))+(sz (Adx l (l.length - 1))+(l.take 1).length+1)) (by omega)).step (nP (fun x hx=>List.mem_of_mem_drop (List.mem_of_mem_take hx)) hs')
   rw [Anx 0 1 (by omega) (by omega) (Nat.zero_le _) (by omega),Option.bind_some,A6f (l.length - 1) (by omega) (by omega),Option.bind_some]
   simp only [List.drop_zero,Nat.sub_zero,CSt.tup]
   have:=hP nm at_ pc ab s' k0 t n a l (l.take 1) (Adx l (l.length - 1)) 3 (.inr rfl) (hwd _ kl.2).1 (hwd _ kl.2).2 hb'
   have this:(CK.at k).Anl s'.fs s'.gl nm at_ pc s'.sl s'.cs s'.lo s'.lp ab k0 t n a l (l.take 1) (Adx l (l.length - 1)).kind (Adx l (l.length - 1)).text (Adx l (l.length - 1)).n (Adx l (l.length - 1)).at_ (Adx l (l.length - 1)).kids (3:Int)=_:=this
   rw [this]
   exact id' _
  rw [neC h,if_neg h,cond_false]
  by_cases h:k0=27
  ·obtain ⟨m,rfl,hm⟩:=A6c h
   have kl:=Anp (l:=l) (i:=l.length - 1) (by omega)
   have e1:=Ay0 (l:=l) (i:=l.length - 1) (by omega)
   have e2:szs ((l.drop m).take (l.length - 1 - m))+szs (l.take m)≤szs (l.take (l.length - 1)):=by
    have:=A0o (l.take (l.length - 1)) m
    rw [List.drop_take,List.take_take,Nat.min_eq_left (by omega)] at this
    omega
   have e3:=Aju (l.take m)
   rw [eqC h,if_pos h,cond_true,wiC ((l.length:Int) - 1) (by omega) (by omega),wiC _ (by omega) (by omega)]
   refine Aqs fun _ _=>Aqs fun _ _=>?_
   rw [Anx m (l.length - 1) (by omega) (by omega) (by omega) (by omega),Option.bind_some]
   rw [hL nm at_ pc ab s _ (fun x hx=>hwd x (List.mem_of_mem_drop (List.mem_of_mem_take hx))) (hb.weak (by omega))]
   simp only [Int.toNat_natCast]
   refine bindM fun s' hs'=>?_
   have hb':=(hb.weak (m:=szs ((l.drop m).take (l.length - 1 - m))+(sz (Adx l (l.length - 1))+(l.take m).length+1)) (by omega)).step (nP (fun x hx=>List.mem_of_mem_drop (List.mem_of_mem_take hx)) hs')
   rw [Anx 0 m (by omega) (by omega) (Nat.zero_le _) (by omega),Option.bind_some,A6f (l.length - 1) (by omega) (by omega),Option.bind_some]
   simp only [List.drop_zero,Nat.sub_zero,CSt.tup]
   have:=hP nm at_ pc ab s' k0 t m a l (l.take m) (Adx l (l.length - 1)) 3 (.inr rfl) (hwd _ kl.2).1 (hwd _ kl.2).2 hb'
   have this:(CK.at k).Anl s'.fs s'.gl nm at_ pc s'.sl s'.cs s'.lo s'.lp ab k0 t m a l (l.take m) (Adx l (l.length - 1)).kind (Adx l (l.length - 1)).text (Adx l (l.length - 1)).n (Adx l (l.length - 1)).at_ (Adx l (l.length - 1)).kids (3:Int)=_:=this
   rw [this]
   exact id' _
  rw [neC h,if_neg h,cond_false]
  by_cases h:k0=29
  ·rw [eqC h,if_pos h,cond_true]
   by_cases h0:s.lp=0
   ·rw [eqC h0,if_pos h0];rfl
   ·rw [neC h0,if_neg h0];rfl
  rw [neC h,if_neg h,cond_false,hX nm at_ pc ab s k0 t n a l tg hwd hs7 (hb.weak (by omega)),id']
theorem Blv:∀ (d k:Nat),500003+3 * d≤k→RcN (CK.at k) d
 | 0,k,_=>fun nm at_ pc ab s t tg h=>by have:=Ase t;omega
 | d+1,k,hk=>by
  obtain ⟨k,rfl⟩:∃ m,k=m+3:=⟨k - 3,by omega⟩
  have h0:=Blv d k (by omega)
  have h1:=Blv d (k+1) (by omega)
  have h2:=Blv d (k+2) (by omega)
  exact C4p (by omega) h2 (Cd4 (by omega) h1) (Cqc (by omega) (Cd4 (by omega) h0)) (C4a (by omega) h1) (Cq7 (by omega) h1)
mutual
def htT:Tree→Nat
 | .mk _ _ _ _ l=>Aw5 l+1
def Aw5:List Tree→Nat
 | []=>0
 | x :: l=>max (htT x) (Aw5 l)
end
mutual
theorem Cyz:∀ t:Tree,htT t≤sz t
 | .mk _ _ _ _ l=>by simp only [htT,sz];have:=Bt4 l;omega
theorem Bt4:∀ l:List Tree,Aw5 l≤szs l
 | []=>by simp [Aw5,szs]
 | x :: l=>by simp only [Aw5,szs];have:=Cyz x;have:=Bt4 l;omega
end
theorem B8i (J:Int→Option Int) (R:H1):∀ (t pre:List Tree) (m a:Nat),pre.length+t.length≤10000000→t.length+1≤m →
  (∀ x ∈ t,R.Ajc x.kind x.text x.n x.at_ x.kids=some (htT x:Int))→Ajc.l0 m R (pre++t) J (a:Int) (pre.length:Int)=J ((max a (Aw5 t):Nat):Int)
 | [],pre,m,a,hl,hm,_=>by
  obtain ⟨m,rfl⟩:∃ m',m=m'+1:=⟨m - 1,by omega⟩
  simp only [Ajc.l0]
  rw [ltF (by simp)]
  simp [Aw5]
 | x :: t,pre,m,a,hl,hm,hR=>by
  obtain ⟨m,rfl⟩:∃ m',m=m'+1:=⟨m - 1,by omega⟩
  simp only [List.length_cons] at hl hm
  have ih:=B8i J R t (pre++[x]) m (max a (htT x)) (by simp;omega) (by omega) (fun y hy=>hR y (List.mem_cons_of_mem _ hy))
  simp only [Ajc.l0]
  rw [ltT (by simp;omega),Ah5]
  simp only [cond_true,Option.bind_some]
  rw [hR x (List.mem_cons_self ..)]
  simp only [Option.bind_some]
  rw [wiC _ (by omega) (by omega)]
  rw [List.append_assoc,List.length_append] at ih
  have e1:(if (htT x:Int) > (a:Int) then (htT x:Int) else (a:Int))=((max a (htT x):Nat):Int):=by split <;> omega
  rw [e1]
  refine ih.trans (congrArg J ?_)
  simp only [Aw5]
  omega
theorem B8f:∀ (k:Nat) (t:Tree),sz t≤k→sz t≤1000000→Ajc.g (H1.at k) k t.kind t.text t.n t.at_ t.kids=some (htT t:Int)
 | 0,t,h,_=>by have:=Ase t;omega
 | k+1,.mk kd tx n a l,h,h9=>by
  simp only [sz] at h h9
  have hl:=Aju l
  have hh:=Bt4 l
  unfold Ajc.g Adg
  have:=B8i (fun x2=>some (IntKind.i64.wrap (x2+(1:Int)))) (H1.at (k+1)) l [] (k+1) 0 (by simp only [List.length_nil];omega) (by omega) fun x hx=>by
   have:=Bn2 hx
   exact B8f k x (by omega) (by omega)
  refine this.trans ?_
  rw [wiC _ (by omega) (by omega)]
  simp [htT]
def st0:CSt:=⟨[(⟨#[]⟩,0,0,0,[])],[],0,[],[],0⟩
def A0q (d:Nat) (n:Tree):PC CSt:=if htT n > 100 then .bad (6,n.at_) else Aeo d [] st0 n false
abbrev Rep:=List Axx×List ByteArray×Int×Int
def Byl (a:Int):PC CSt→Rep
 | .bad e=>([],[],e.1,e.2)
 | .ok s=>((⟨#[]⟩,a,0,s.sl,s.cs) :: s.fs.tail,s.gl,0,0)
theorem C4m:∀ {d:Nat} {ab:List ByteArray} {s s':CSt} {t:Tree} {tg:Bool},Aeo d ab s t tg=.ok s'→s.fs <+: s'.fs:=by
 intro d
 induction d with
 | zero=>intro ab s s' t tg h;unfold Aeo at h;cases h
 | succ d ih =>
  have hN:∀ {m:List Tree} {ab s s'},Ai1 (fun s x=>Aeo d ab s x false) s m=.ok s'→s.fs <+: s'.fs:=by
   intro m
   induction m with
   | nil=>intro ab s s' h;cases h;exact List.prefix_refl _
   | cons x m ihm =>
    intro ab s s' h
    unfold Ai1 at h
    obtain ⟨s1,h1,h⟩:=Aer h
    exact (ih h1).trans (ihm h)
  have hA:∀ {m:List Tree} {n i ab s s'},Ar5 (fun s x b=>Aeo d ab s x b) n i s m=.ok s'→s.fs <+: s'.fs:=by
   intro m
   induction m with
   | nil=>intro n i ab s s' h;cases h;exact List.prefix_refl _
   | cons x m ihm =>
    intro n i ab s s' h
    unfold Ar5 at h
    obtain ⟨s1,h1,h⟩:=Aer h
    exact (ih h1).trans (ihm h)
  have hP:∀ {a:Int} {names:List Tree} {b:Tree} {more:Nat} {ab s s'},Ato (fun s x=>Aeo d ab s x false) a s names b more=.ok s'→s.fs <+: s'.fs:=by
   intro a names b more ab s s' h
   unfold Ato at h
   obtain ⟨r,_,h⟩:=Aer h
   obtain ⟨s1,h1,h⟩:=Aer h
   cases h
   have h2:=ih (show Aeo d ab _ b false=_ from h1)
   exact h2
  intro ab s s' t tg h
  cases t with
  | mk k t n a l =>
   unfold Aeo at h
   split at h
   ·obtain ⟨s1,h1,h⟩:=Aer h;cases h;have h2:=hN h1;exact h2
   split at h
   ·obtain ⟨_,_,h⟩:=Aer h
    split at h
    ·cases h
    obtain ⟨_,_,h⟩:=Aer h
    obtain ⟨r,_,h⟩:=Aer h
    obtain ⟨s1,h1,h⟩:=Aer h
    cases h
    exact (ih h1).trans (List.prefix_append _ _)
   split at h
   ·obtain ⟨_,_,h⟩:=Aer h
    obtain ⟨_,_,h⟩:=Aer h
    obtain ⟨s1,h1,h⟩:=Aer h
    obtain ⟨r,_,h⟩:=Aer h
    cases h;have h2:=hN h1;exact h2
   split at h
   ·obtain ⟨_,_,h⟩:=Aer h
    obtain ⟨_,_,h⟩:=Aer h
    exact hA h
   split at h
   ·obtain ⟨s1,h1,h⟩:=Aer h;exact (ih h1).trans (hP h)
   split at h
   ·obtain ⟨s1,h1,h⟩:=Aer h;exact (hN h1).trans (hP h)
   split at h
   ·obtain ⟨_,_,h⟩:=Aer h
    obtain ⟨_,_,h⟩:=Aer h
    obtain ⟨s1,h1,h⟩:=Aer h;exact (hN h1).trans (hP h)
   split at h
   ·split at h
    ·cases h
    ·cases h;exact List.prefix_refl _
   ·unfold Ath at h
    (repeat' split at h) <;> first
     | (cases h;done)
     | (cases h;exact List.prefix_refl _)
     | exact hN h
     | (obtain ⟨_,_,h⟩:=Aer h;have h2:=hN (show Ai1 (fun s x=>Aeo d ab s x false) _ l=_ from h);exact h2)
theorem Ci6 {n:Tree} (h:wfC n):gw n∧n.kind=20:=by
 cases n with
 | mk k t n a l =>
  obtain ⟨h1,h0,h2⟩:=h
  subst h1
  exact ⟨⟨⟨h0,nx rfl,nx rfl,nx rfl,nx rfl,nx rfl,nx rfl⟩,Bak.2 fun x hx=>(h2 x hx).elim Bz6 Cq6⟩,rfl⟩
theorem check_eq (k:Nat) (hk:900000≤k) (s:ByteArray):A4t.f k s=some (match Asy s with | (kd,tx,n,a,l,c,p)=>if c≠0 then ([],[],c,p) else Byl a (A0q 100000 (.mk kd tx n a l))):=by
 unfold A4t.f
 rw [Cfg k (by omega),Option.bind_some]
 rcases C9b s with ⟨c,p,hc,he⟩ | ⟨n,he,hw,hz⟩
 ·rw [he]
  unfold A3i
  simp only
  rw [show (c != 0)=true by rw [bne_iff_ne];exact hc,cond_true,if_pos hc]
 ·rw [he]
  unfold A8s
  obtain ⟨hg,_⟩:=Ci6 hw
  simp only [bne_self_eq_false,cond_false,Adg,ne_eq,not_true_eq_false,if_false]
  have e:Tree.mk n.kind n.text n.n n.at_ n.kids=n:=by cases n;rfl
  rw [e,show Ajc.f k n.kind n.text n.n n.at_ n.kids=some (htT n:Int) from B8f k n (by omega) (by omega)]
  simp only [Option.bind_some]
  unfold A0q
  by_cases hh:htT n > 100
  ·rw [decide_eq_true (by omega),if_pos hh]
   rfl
  ·rw [decide_eq_false (by omega),if_neg hh,cond_false]
   have hb:BdC st0 [] (sz n):=⟨by simp only [pot,st0,List.length_cons,List.length_nil];omega,by simp,Int.le_refl _,by show (0:Int)+_≤_;omega⟩
   have hk':=Blv 100000 (k+1) (by omega) ⟨#[]⟩ n.at_ 0 [] st0 n false (by omega) hg hb
   have hk':Ahi.f k [(⟨#[]⟩,0,0,0,[])] [] ⟨#[]⟩ n.at_ 0 0 [] [] 0 [] n.kind n.text n.n n.at_ n.kids false=_:=hk'
   rw [hk']
   cases hn:Aeo 100000 [] st0 n false with
   | bad e=>rfl
   | ok s' =>
    obtain ⟨t,ht⟩:=C4m hn
    cases s' with
    | mk fs gl sl cs lo lp =>
     have ht:(⟨#[]⟩,0,0,0,[]) :: t=fs:=ht
     subst ht
     rfl
mutual
inductive IsE:Tree→Prop
 | atom {k n a:Int} {t:ByteArray}:1≤k→k≤6→IsE (.mk k t n a [])
 | index {n a:Int} {t:ByteArray} {x y:Tree}:IsE x→IsE y→IsE (.mk 7 t n a [x,y])
 | call {n a:Int} {t:ByteArray} {x:Tree} {l:List Tree}:IsE x→(∀ y ∈ l,IsE y)→IsE (.mk 8 t n a (x :: l))
 | paren {n a:Int} {t:ByteArray} {x:Tree}:IsE x→IsE (.mk 9 t n a [x])
 | unary {n a:Int} {t:ByteArray} {x:Tree}:IsE x→IsE (.mk 10 t n a [x])
 | binary {n a:Int} {t:ByteArray} {x y:Tree}:IsE x→IsE y→IsE (.mk 11 t n a [x,y])
 | table {n a:Int} {t:ByteArray} {l:List Tree}:(∀ y ∈ l,IsF y)→IsE (.mk 12 t n a l)
inductive IsF:Tree→Prop
 | item {n a:Int} {t:ByteArray} {x:Tree}:IsE x→IsF (.mk 13 t n a [x])
 | field {n a:Int} {t:ByteArray} {x y:Tree}:IsE x→IsE y→IsF (.mk 14 t n a [x,y])
end
mutual
inductive IsB:Tree→Prop
 | block {n a:Int} {t:ByteArray} {l:List Tree}:(∀ x ∈ l,IsS x)→IsB (.mk 20 t n a l)
inductive IsS:Tree→Prop
 | loc {a:Int} {t:ByteArray} {l m:List Tree}:l≠[]→(∀ x ∈ m,IsE x)→IsS (.mk 21 t (l.length:Nat) a (l++m))
 | asg {a:Int} {t:ByteArray} {l m:List Tree}:l≠[]→(∀ x ∈ l,IsE x∧(x.kind=6∨x.kind=7))→m≠[]→(∀ x ∈ m,IsE x)→IsS (.mk 22 t (l.length:Nat) a (l++m))
 | run {n a:Int} {t:ByteArray} {x:Tree}:IsE x→x.kind=8→IsS (.mk 23 t n a [x])
 | if_ {n a:Int} {t:ByteArray} {l:List Tree}:IsR l→IsS (.mk 24 t n a l)
 | while_ {n a:Int} {t:ByteArray} {x b:Tree}:IsE x→IsB b→IsS (.mk 25 t n a [x,b])
 | for_ {n a:Int} {t:ByteArray} {x b:Tree} {l:List Tree}:l.length=2∨l.length=3→(∀ y ∈ l,IsE y)→IsB b→IsS (.mk 26 t n a (x :: l++[b]))
 | forIn {a:Int} {t:ByteArray} {b:Tree} {l m:List Tree}:l≠[]→m≠[]→(∀ y ∈ m,IsE y)→IsB b→IsS (.mk 27 t (l.length:Nat) a (l++m++[b]))
 | do_ {n a:Int} {t:ByteArray} {b:Tree}:IsB b→IsS (.mk 28 t n a [b])
 | break_ {n a:Int} {t:ByteArray}:IsS (.mk 29 t n a [])
 | ret {n a:Int} {t:ByteArray} {l:List Tree}:(∀ y ∈ l,IsE y)→IsS (.mk 30 t n a l)
/-- The branches of an if. -/
inductive IsR:List Tree→Prop
 | nil:IsR []
 | last {b:Tree}:IsB b→IsR [b]
 | more {e b:Tree} {l:List Tree}:IsE e→IsB b→IsR l→IsR (e :: b :: l)
end
inductive Awb:Tree→Prop
 | fn {a:Int} {t:ByteArray} {l:List Tree} {b:Tree}:IsB b→Awb (.mk 31 t (l.length:Nat) a (l++[b]))
inductive IsC:Tree→Prop
 | chunk {n a:Int} {t:ByteArray} {l:List Tree}:(∀ x ∈ l,IsS x∨Awb x)→IsC (.mk 20 t n a l)
abbrev Ajj (l:List Tree):Prop:=∀ x ∈ l,IsE x
theorem Bvi {l:List Tree} {x:Tree} (h:Ajj l) (hx:IsE x):Ajj (l++[x]):=fun y hy=>by
 rcases List.mem_append.1 hy with hy | hy
 ·exact h y hy
 ·obtain rfl:=List.mem_singleton.1 hy;exact hx
theorem le_nil:Ajj []:=fun _ h=>nomatch h
structure XE (f:Nat):Prop where
 exp:∀ least ts,R (Ahk f least ts) fun n _=>IsE n
 loop:∀ least n ts,IsE n→R (Aky f least n ts) fun n _=>IsE n
 operand:∀ ts,R (Akz f ts) fun n _=>IsE n
 fields:∀ acc ts,(∀ x ∈ acc,IsF x)→R (Aj7 f acc ts) fun l _=>∀ x ∈ l,IsF x
 field:∀ ts,R (Amb f ts) fun n _=>IsF n
 Akh:∀ ts,R (Ak2 f ts) fun n _=>IsE n
 Aik:∀ at_ n ts,IsE n→R (Aj9 f at_ n ts) fun n _=>IsE n
 Ag7:∀ ts,R (Aj5 f ts) fun l _=>Ajj l∧l≠[]
 Aod:∀ acc ts,Ajj acc→acc≠[]→R (Ald f acc ts) fun l _=>Ajj l∧l≠[]
theorem Bid (ts:List Tk):R (Asa 6 ts) fun n _=>IsE n∧n.kind=6:=R.ite (fun _=>R.ok ⟨.atom (by decide) (by decide),rfl⟩) fun _=>R.bad
theorem Ddj (ts:List Tk):R (Asa 5 ts) fun n _=>IsE n:=R.ite (fun _=>R.ok (.atom (by decide) (by decide))) fun _=>R.bad
theorem Ar1 (w:ByteArray) (ts:List Tk):R (Amd w ts) fun _ _=>True:=R.ite (fun _=>R.ok trivial) fun _=>R.bad
theorem B0h:∀ (f:Nat) (acc:List Tree) (ts:List Tk),acc≠[]→R (Aop f acc ts) fun l _=>l≠[]
 | 0,_,_,_=>R.none
 | f+1,acc,ts,h=>by
  unfold Aop
  exact R.ite (fun _=>R.bind (Bid ts.tail) fun n r _=>B0h f _ r (by simp)) fun _=>R.ok h
theorem Cjm (f:Nat) (ts:List Tk):R (A0f f ts) fun l _=>l≠[]:=R.bind (Bid ts) fun n r _=>B0h f _ r (by simp)
theorem xE:∀ f,XE f
 | 0=>by constructor <;> intros <;> (first | rw [Ahk] | rw [Aky] | rw [Akz] | rw [Aj7] | rw [Amb] | rw [Ak2] | rw [Aj9] | rw [Aj5] | rw [Ald]) <;> exact R.none
 | f+1=>by
  have ih:=xE f
  constructor
  ·intro least ts;unfold Ahk
   exact R.bind (ih.operand ts) fun n r hn=>ih.loop _ _ _ hn
  ·intro least n ts hw;unfold Aky
   refine R.ite (fun _=>R.ok hw) fun _=>R.bind (ih.exp _ _) fun m r hm=>ih.loop _ _ _ (.binary hw hm)
  ·intro ts;unfold Akz
   refine R.ite (fun _=>R.ok (.atom (by decide) (by decide))) fun _=>?_
   refine R.ite (fun _=>R.ok (.atom (by decide) (by decide))) fun _=>?_
   refine R.ite (fun _=>R.ok (.atom (by decide) (by decide))) fun _=>?_
   refine R.ite (fun _=>R.ok (.atom (by decide) (by decide))) fun _=>?_
   refine R.ite (fun _=>R.ok (.atom (by decide) (by decide))) fun _=>?_
   refine R.ite (fun _=>R.bind (ih.exp _ _) fun m r hm=>R.ok (.unary hm)) fun _=>?_
   refine R.ite (fun _=>R.bind (ih.fields _ _ (fun _ h=>nomatch h)) fun l r hl=>R.ok (.table hl)) fun _=>?_
   exact ih.Akh _
  ·intro acc ts ha;unfold Aj7
   refine R.ite (fun _=>R.ok ha) fun _=>R.bind (ih.field ts) fun x r hx=>?_
   have hs:∀ y ∈ acc++[x],IsF y:=fun y hy=>by
    rcases List.mem_append.1 hy with hy | hy
    ·exact ha y hy
    ·obtain rfl:=List.mem_singleton.1 hy;exact hx
   refine R.ite (fun _=>ih.fields _ _ hs) fun _=>R.ite (fun _=>ih.fields _ _ hs) fun _=>?_
   exact R.bind (Ar1 _ _) fun _ s hr=>R.ok hs
  ·intro ts;unfold Amb
   refine R.ite (fun _=>?_) fun _=>R.ite (fun _=>?_) fun _=>?_
   ·exact R.bind (ih.exp _ _) fun k r hk=>R.bind (Ar1 _ _) fun _ r hr=>R.bind (Ar1 _ _) fun _ r hr=>R.bind (ih.exp _ _) fun v r hv=>R.ok (.field hk hv)
   ·exact R.bind (ih.exp _ _) fun v r hv=>R.ok (.field (.atom (by decide) (by decide)) hv)
   ·exact R.bind (ih.exp _ _) fun v r hv=>R.ok (.item hv)
  ·intro ts;unfold Ak2
   refine R.ite (fun _=>?_) fun _=>?_
   ·exact R.bind (ih.exp _ _) fun e r he=>R.bind (Ar1 _ _) fun _ r hr=>ih.Aik _ _ _ (.paren he)
   ·exact R.bind (Bid _) fun n r hn=>ih.Aik _ _ _ hn.1
  ·intro at_ n ts hw;unfold Aj9
   refine R.ite (fun _=>?_) fun _=>R.ite (fun _=>?_) fun _=>R.ite (fun _=>?_) fun _=>R.ok hw
   ·exact R.bind (ih.exp _ _) fun e r he=>R.bind (Ar1 _ _) fun _ r hr=>ih.Aik _ _ _ (.index hw he)
   ·exact R.bind (Ddj _) fun e r he=>ih.Aik _ _ _ (.index hw he)
   ·exact R.bind (Q1:=fun l _=>Ajj l) (R.ite (fun _=>R.ok le_nil) fun _=>R.weak (ih.Ag7 _) fun l _ h=>h.1) fun l r hl=>R.bind (Ar1 _ _) fun _ r hr=>ih.Aik _ _ _ (.call hw hl)
  ·intro ts;unfold Aj5
   exact R.bind (ih.exp _ _) fun e r he=>ih.Aod _ _ (Bvi le_nil he) (by simp)
  ·intro acc ts ha hn;unfold Ald
   exact R.ite (fun _=>R.bind (ih.exp _ _) fun e r he=>ih.Aod _ _ (Bvi ha he) (by simp)) fun _=>R.ok ⟨ha,hn⟩
def Bax (c:Bool) (x:Tree):Prop:=IsS x∨(c=true∧Awb x)
theorem Bue {c:Bool} {acc:List Tree} {x:Tree} (h:∀ y ∈ acc,Bax c y) (hx:Bax c x):∀ y ∈ acc++[x],Bax c y:=fun y hy=>by
 rcases List.mem_append.1 hy with hy | hy
 ·exact h y hy
 ·obtain rfl:=List.mem_singleton.1 hy;exact hx
theorem IsR.B27:∀ {acc:List Tree} {e b:Tree},IsR acc→(∃ m,acc.length=2 * m)→IsE e→IsB b→IsR (acc++[e]++[b])∧(∃ m,(acc++[e]++[b]).length=2 * m)
 | [],e,b,_,_,he,hb=>⟨.more he hb .nil,1,rfl⟩
 | [_],e,b,_,⟨m,hm⟩,_,_=>by simp at hm;omega
 | x :: y :: l,e,b,h,⟨m,hm⟩,he,hb=>by
  cases h with
  | more h1 h2 h3 =>
   obtain ⟨h4,m',h5⟩:=IsR.B27 h3 ⟨m - 1,by simp at hm;omega⟩ he hb
   exact ⟨.more h1 h2 h4,m'+1,by simp at h5 ⊢;omega⟩
theorem IsR.app1:∀ {acc:List Tree} {b:Tree},IsR acc→(∃ m,acc.length=2 * m)→IsB b→IsR (acc++[b])
 | [],b,_,_,hb=>.last hb
 | [_],b,_,⟨m,hm⟩,_=>by simp at hm;omega
 | x :: y :: l,b,h,⟨m,hm⟩,hb=>by
  cases h with
  | more h1 h2 h3=>exact .more h1 h2 (IsR.app1 h3 ⟨m - 1,by simp at hm;omega⟩ hb)
structure XS (f:Nat):Prop where
 block:∀ c ts,R (Aj4 f c ts) fun n _=>∃ a l,n=.mk 20 noB 0 a l∧∀ x ∈ l,Bax c x
 Ajy:∀ c at_ acc ts,(∀ x ∈ acc,Bax c x)→R (Ajo f c at_ acc ts) fun n _=>∃ a l,n=.mk 20 noB 0 a l∧∀ x ∈ l,Bax c x
 function:∀ ts,R (Amx f ts) fun n _=>Awb n
 body:∀ ts,R (Alc f ts) fun n _=>IsB n
 stat:∀ ts,R (Alu f ts) fun n _=>IsS n
 branches:∀ acc ts,IsR acc→(∃ m,acc.length=2 * m)→R (Al9 f acc ts) fun l _=>IsR l
 for_:∀ at_ ts,R (Amw f at_ ts) fun n _=>IsS n
 plain:∀ ts,R (Amc f ts) fun n _=>IsS n
 targets:∀ acc e ts,(∀ x ∈ acc,IsE x∧(x.kind=6∨x.kind=7))→IsE e→R (Alg f acc e ts) fun l _=>l≠[]∧∀ x ∈ l,IsE x∧(x.kind=6∨x.kind=7)
theorem xS:∀ f,XS f
 | 0=>by constructor <;> intros <;> (first | unfold Aj4 | unfold Ajo | unfold Amx | unfold Alc | unfold Alu | unfold Al9 | unfold Amw | unfold Amc | unfold Alg) <;> exact R.none
 | f+1=>by
  have ih:=xS f
  have ie:=xE f
  have blk:∀ ts,R (Aj4 f false ts) fun n _=>IsB n:=fun ts=>R.weak (ih.block false ts) fun n r ⟨a,l,e,hl⟩=>by
   rw [e];exact .block fun x hx=>(hl x hx).elim id fun h=>nomatch h.1
  constructor
  ·intro c ts;unfold Aj4
   exact ih.Ajy _ _ _ _ (fun _ hx=>nomatch hx)
  ·intro c at_ acc ts ha;unfold Ajo
   refine R.ite (fun _=>ih.Ajy _ _ _ _ ha) fun _=>R.ite (fun _=>?_) fun _=>R.ite (fun hc=>?_) fun _=>R.ite (fun _=>R.ok ⟨_,_,rfl,ha⟩) fun _=>?_
   ·exact R.bind (Q1:=fun l _=>Ajj l) (R.ite (fun _=>R.ok le_nil) fun _=>R.weak (ie.Ag7 _) fun l _ h=>h.1) fun l r hl=>R.ok ⟨_,_,rfl,Bue ha (.inl (.ret hl))⟩
   ·have hc':c=true:=by simp only [Bool.and_eq_true] at hc;exact hc.1
    exact R.bind (ih.function ts) fun x r hx=>ih.Ajy _ _ _ _ (Bue ha (.inr ⟨hc',hx⟩))
   ·exact R.bind (ih.stat ts) fun x r hx=>ih.Ajy _ _ _ _ (Bue ha (.inl hx))
  ·intro ts;unfold Amx
   exact R.bind (Bid _) fun nm r hn=>R.bind (Ar1 _ _) fun _ r hr=>R.bind (Q1:=fun _ _=>True) (R.ite (fun _=>R.ok trivial) fun _=>R.weak (Cjm f _) fun _ _ _=>trivial) fun ps r hp=>R.bind (Ar1 _ _) fun _ r hr=>R.bind (blk _) fun b r hb=>R.bind (Ar1 _ _) fun _ r hr=>R.ok (.fn hb)
  ·intro ts;unfold Alc
   exact R.bind (Ar1 _ _) fun _ r hr=>R.bind (blk _) fun b r hb=>R.bind (Ar1 _ _) fun _ r hr=>R.ok hb
  ·intro ts;unfold Alu
   refine R.ite (fun _=>?_) fun _=>R.ite (fun _=>?_) fun _=>R.ite (fun _=>?_) fun _=>R.ite (fun _=>ih.for_ _ _) fun _=>R.ite (fun _=>?_) fun _=>R.ite (fun _=>R.ok .break_) fun _=>ih.plain _
   ·exact R.bind (ih.body ts) fun b r hb=>R.ok (.do_ hb)
   ·exact R.bind (ie.exp _ _) fun e r he=>R.bind (ih.body _) fun b r hb=>R.ok (.while_ he hb)
   ·exact R.bind (ih.branches _ _ .nil ⟨0,rfl⟩) fun l r hl=>R.ok (.if_ hl)
   ·exact R.bind (Cjm f _) fun l r hl=>R.bind (Q1:=fun l _=>Ajj l) (R.ite (fun _=>R.weak (ie.Ag7 _) fun l _ h=>h.1) fun _=>R.ok le_nil) fun es r he=>R.ok (.loc hl he)
  ·intro acc ts ha hm;unfold Al9
   refine R.bind (ie.exp _ _) fun e r he=>R.bind (Ar1 _ _) fun _ r hr=>R.bind (blk _) fun b r hb=>?_
   obtain ⟨h2,h3⟩:=IsR.B27 ha hm he hb
   refine R.ite (fun _=>ih.branches _ _ h2 h3) fun _=>R.ite (fun _=>?_) fun _=>?_
   ·exact R.bind (blk _) fun c r hc=>R.bind (Ar1 _ _) fun _ r hr=>R.ok (IsR.app1 h2 h3 hc)
   ·exact R.bind (Ar1 _ _) fun _ r hr=>R.ok h2
  ·intro at_ ts;unfold Amw
   refine R.bind (Bid _) fun n r hn=>R.ite (fun _=>?_) fun _=>?_
   ·refine R.bind (ie.exp _ _) fun a r ha=>R.bind (Ar1 _ _) fun _ r hr=>R.bind (ie.exp _ _) fun b r hb=>R.bind (Q1:=fun l _=>Ajj l∧l.length≤1) (R.ite (fun _=>R.bind (ie.exp _ _) fun c r hc=>R.ok ⟨Bvi le_nil hc,Nat.le_refl _⟩) fun _=>R.ok ⟨le_nil,Nat.zero_le _⟩) fun cs r hcs=>R.bind (ih.body _) fun bd r hbd=>R.ok ?_
    have hl:Ajj ([a]++[b]++cs):=fun y hy=>by
     simp only [List.mem_append,List.mem_singleton] at hy
     rcases hy with (rfl | rfl) | hy
     ·exact ha
     ·exact hb
     ·exact hcs.1 y hy
    exact IsS.for_ (x:=n) (l:=[a]++[b]++cs) (by have:=hcs.2;simp only [List.length_append,List.length_cons,List.length_nil];omega) hl hbd
   ·exact R.bind (B0h f _ _ (by simp)) fun l r hl=>R.bind (Ar1 _ _) fun _ r hr=>R.bind (ie.Ag7 _) fun es r he=>R.bind (ih.body _) fun bd r hbd=>R.ok (.forIn hl he.2 he.1 hbd)
  ·intro ts;unfold Amc
   refine R.bind (ie.Akh ts) fun e r he=>R.ite (fun _=>?_) fun _=>R.ite (fun hk=>R.ok (.run he hk)) fun _=>R.bad
   exact R.bind (ih.targets _ _ _ (fun _ h=>nomatch h) he) fun l r hl=>R.bind (Ar1 _ _) fun _ r hr=>R.bind (ie.Ag7 _) fun es r hes=>R.ok (.asg hl.1 hl.2 hes.2 hes.1)
  ·intro acc e ts ha hw;unfold Alg
   refine R.ite (fun hk=>?_) fun _=>R.bad
   have h2:∀ x ∈ acc++[e],IsE x∧(x.kind=6∨x.kind=7):=fun y hy=>by
    rcases List.mem_append.1 hy with hy | hy
    ·exact ha y hy
    ·obtain rfl:=List.mem_singleton.1 hy;exact ⟨hw,hk⟩
   exact R.ite (fun _=>R.bind (ie.Akh _) fun e' r he=>ih.targets _ _ _ h2 he) fun _=>R.ok ⟨by simp,h2⟩
theorem Dch {ts:List Tk} {n:Tree} {r:List Tk} (h:Aph true ts=.ok n r):IsC n:=by
 obtain ⟨a,l,rfl,hl⟩:=(xS (fu _)).block true ts n r (val_ok h)
 exact .chunk fun x hx=>(hl x hx).elim .inl fun h=>.inr h.2
end
section
open Go Go.RowKit
section
variable {A:World} {ds:List Deferred} {n0:Nat} {env env':Env} {l l' X:List Aaa} {q:Act→World→Prop} {P:Program} {Q:Exit→Act→World→Prop} {ops:Array Oper} {os rest:List Oper} {o:Oper}
theorem C2d {E T TS U:TypeId} {b n m:Nat} {cs news:List Value} {h:Aaa} {y:Value} {s x:Operand} (ho:o.op=.call { callee:=.builtin .copy,args:=#[s,x],argTypes:=#[TS,U] })
  (hT:P.underlying TS=some (.slice E)) (hsz:(P.info? E).map (·.size)=some 1) (hg:Ae4 ops env o=some true) (hd:inB n0 o.dst=true) (hs:Ad5 env s=some (.slice (some ⟨b,0,none⟩) n n)) (hx:Ad5 env x=some y)
  (hR:Rd 1 h y m news) (hm:h ∈ l) (hmn:m≤n) (hcs:cs.length=n) (hone:∀ u ∈ news,u.oneCell'=true)
  (hk:K ds A n0 (Acs env o.dst (goInt m)) (blk b (.cells (news++cs.drop m).toArray T (0,0)) :: l) (wpList P ops Q rest)):K ds A n0 env (blk b (.cells cs.toArray T (0,0)) :: l) (wpList P ops Q (o :: rest)):=by
 refine Als hg fun a w ha hw=>?_
 have hsr:Src P 1 w y m news:=hR.src hw.sat (.tail _ hm)
 have hl:news.length=m:=by have:=hR.1;omega
 cases hif:P.info? E with
 | none=>rw [hif] at hsz;cases hsz
 | some i =>
  rw [hif] at hsz
  have hsize:i.size=1:=Option.some.inj hsz
  have hgc:w.heap[b]? = some (.cells cs.toArray T (0,0)):=hw.sat.1 b _ (by simp [blk])
  have hst:=run_storeCells_at P b 0 T news 0 cs.toArray w hgc (by simp;omega) hone
  simp only [Nat.add_zero,Nat.zero_add,List.take_zero,List.nil_append] at hst
  have hmin:Nat.min m n=m:=Nat.min_eq_left hmn
  have hr:(Builtin.copy_ #[TS,U] o.type #[.slice (some ⟨b,0,none⟩) n n,y]).run P w=.ok (goInt m) (w.setRow b (news++cs.drop m).toArray):=by
   have h1:=hsr.now
   rw [hl] at hst
   simp [Builtin.copy_,run_underlying hT,hsr.len,hmin,sizeOf,typeInfo,hif,hsize,h1]
   rw [hst]
   rfl
  unfold Oper.wp execOp
  simp only [ho,resolve,invoke,builtin,Sem.run_bind,Sem.run_pure,Result.andThen_ok,List.map_toArray,List.map_cons,List.map_nil,ha.eval hs,ha.eval hx,hr]
  exact hk _ _ (ha.Acs _ hd) (hw.setRow _)
def cp3 (l:List Int) (i:Nat):Int:=(l[i]?).getD 0
theorem C2e {E T TS U:TypeId} {b:Nat} {xs:List Int} {h:Aaa} {A':Option Addr} {c:Nat} {s x:Operand} (ho:o.op=.call { callee:=.builtin .copy,args:=#[s,x],argTypes:=#[TS,U] })
  (hT:P.underlying TS=some (.slice E)) (hsz:(P.info? E).map (·.size)=some 1) (hg:Ae4 ops env o=some true) (hd:inB n0 o.dst=true) (hs:Ad5 env s=some (.slice (some ⟨b,0,none⟩) 3 3)) (hx:Ad5 env x=some (.slice A' xs.length c))
  (hR:RdT (encI .i64) 1 h (.slice A' xs.length c) xs) (hm:h ∈ l) (hle:decide (xs.length≤3)=true)
  (hk:K ds A n0 (Acs env o.dst (.int .i64 ((xs.length:Nat):Int))) (blk b (.cells #[.int .i64 (cp3 xs 0),.int .i64 (cp3 xs 1),.int .i64 (cp3 xs 2)] T (0,0)) :: l) (wpList P ops Q rest)):K ds A n0 env (blk b (.cells #[.int .i64 0,.int .i64 0,.int .i64 0] T (0,0)) :: l) (wpList P ops Q (o :: rest)):=by
 have hle:=of_decide_eq_true hle
 refine C2d (n:=3) (m:=xs.length) (cs:=[.int .i64 0,.int .i64 0,.int .i64 0]) (news:=xs.flatMap (encI .i64)) ho hT hsz hg hd hs hx hR hm hle rfl hR.2.1 ?_
 have e:(xs.flatMap (encI .i64)++([.int .i64 0,.int .i64 0,.int .i64 0]:List Value).drop xs.length).toArray=#[.int .i64 (cp3 xs 0),.int .i64 (cp3 xs 1),.int .i64 (cp3 xs 2)]:=by
  match xs,hle with
  | [],_=>rfl
  | [_],_=>rfl
  | [_,_],_=>rfl
  | [_,_,_],_=>rfl
  | _ :: _ :: _ :: _ :: _,h=>simp at h
 rw [e]
 exact hk
end
def e48 (x:Int×Int×Int×Int):List Value:=[.int .i64 x.1,.int .i64 x.2.1,.int .i64 x.2.2.1,.int .i64 x.2.2.2]
theorem Ak5:Akj e48 4:=⟨fun _=>rfl,fun _=>rfl⟩
theorem Cpw:Am2 Tryz.prog 39 48 4 32 Tryz.t48 (.agg #[iv 0,iv 0,iv 0,iv 0]):=⟨by kernel_rfl,by kernel_rfl,by kernel_rfl,by kernel_rfl,by kernel_rfl,by kernel_rfl,by decide⟩
def Ac7.f (_k:Nat) (Aa9:TyA) (a1:Int) (a2:List Int):Option (Int×TyA):=cond (decide (a2.length≤3)) ((apd 32 Aa9 [(a1,cp3 a2 0,cp3 a2 1,cp3 a2 2)]).bind fun l4=>some (IntKind.i64.wrap (((l4.length:Nat):Int) - 1),l4)) none
theorem Ac7.ok {k b0 Acv Aml:Nat} {Aa9:TyA} {a1:Int} {a2:List Int} {Aad Aae Aaf Ac5 Aau Adi Aag Aax Aay Ad1 Aar:Value} {Ade Aty:Aaa} {Acu Ami:TyO} {r:Int×TyA} (h:Ac7.f k Aa9 a1 a2=some r) (Aei:Aan e48 48 4 Ade (.slice Acu Aa9.length Acv) Aa9) (A2f:RdT (encI .i64) 1 Aty (.slice Ami a2.length Aml) a2): Ct Tryz.prog 30 #[pt b0,iv a1,.slice Ami a2.length Aml] [bk b0 #[Aad,Aae,Aaf,Ac5,.slice Acu Aa9.length Acv,Aau,Adi,Aag,Aax,Aay,Ad1,Aar] 66,Ade] [Aty] (fun e l1=>∃ (H0_:Aaa) (A0_:TyO) (c0_:Nat),Aan e48 48 4 H0_ (.slice A0_ r.2.length c0_) r.2∧e=.returned (iv r.1)∧l1=[bk b0 #[Aad,Aae,Aaf,Ac5,.slice A0_ r.2.length c0_,Aau,Adi,Aag,Aax,Aay,Ad1,Aar] 66,H0_]):=by
 refine Afb (args:=[pt b0,iv a1,.slice Ami a2.length Aml]) Tryz.func30 rfl (Nat.le_of_ble_eq_true rfl) ?_
 intro A X hh_
 obtain ⟨Azw,_⟩:=hh_
 unfold Ac7.f at h
 refine K.eq (env':=[(0,pt b0),(1,iv a1),(2,.slice Ami a2.length Aml)]) (l':=bk b0 #[Aad,Aae,Aaf,Ac5,.slice Acu Aa9.length Acv,Aau,Adi,Aag,Aax,Aay,Ad1,Aar] 66 :: Ade :: X) rfl rfl (ksr (kx 1 (Aby (knp #[iv 0,iv 0,iv 0] 113 fun b1=>(Aby (kx 2 ?_))))))
 obtain ⟨tq2,h⟩:=Auc h
 refine C2e (E:=3) (xs:=a2) rfl (by kernel_rfl) (by kernel_rfl) (by kernel_rfl) (by kernel_rfl) (by kernel_rfl) (by kernel_rfl) A2f (t2 Azw) tq2 (knt (Ac1 (Asu [(0,0),(1,0),(2,0),(3,0),(4,0),(5,3),(6,0),(7,0),(8,3),(9,0),(10,3),(11,0),(12,3),(13,0),(14,1)] [bk b1 #[iv (cp3 a2 0),iv (cp3 a2 1),iv (cp3 a2 2)] 113,bk b0 #[Aad,Aae,Aaf,Ac5,.slice Acu Aa9.length Acv,Aau,Adi,Aag,Aax,Aay,Ad1,Aar] 66,Ade,Aty] (fun w h_=>⟨h_.sat.on _ (.head _),h_.sat.on _ (.tail _ (.head _)),h_.sat.on _ (.tail _ (.tail _ (.head _))),h_.sat.on _ (t3 Azw),trivial⟩) (kpx 5 (kpd 1 4 rfl (kpx 2 (kpd 0 0 rfl (kpx 1 (kpd 0 1 rfl (kpx 1 ?_))))))))))
 refine kpd 0 2 rfl (kpx 1 (kpt (ons #[iv a1,iv (cp3 a2 0),iv (cp3 a2 1),iv (cp3 a2 2)] 48 1 fun b3=>(A6v (fun w h_=>⟨h_.sat.on _ (.tail _ (.head _)),h_.sat.on _ (.tail _ (.tail _ (.head _))),h_.sat.on _ (.tail _ (.tail _ (.tail _ (.head _)))),h_.sat.on _ (t4 Azw),trivial⟩) (kpz (K.mv3 (bnd h fun l4 hl4 h=>(kap (ys:=[(a1,cp3 a2 0,cp3 a2 1,cp3 a2 2)]) Ak5 rfl Cpw hl4 Aei (A8n (n:=1) Ak5 [(a1,cp3 a2 0,cp3 a2 1,cp3 a2 2)] (by kernel_rfl) rfl (by decide) 1 rfl) fun h5 A6 k7 o8=>(K.mv1 (K.drop ?_))))))))))
 refine K.mv1 (K.drop (kx 3 (K.mv1 (kst 4 1 #[Aad,Aae,Aaf,Ac5,.slice A6 l4.length k7,Aau,Adi,Aag,Aax,Aay,Ad1,Aar] (Aby (kx 4 (kld 0 4 rfl (kx 3 (knt (Afj ?_))))))))))
 obtain rfl:=Option.some.inj h
 exact kdv (iv (IntKind.i64.wrap (((l4.length:Nat):Int) - 1))) [bk b0 #[Aad,Aae,Aaf,Ac5,.slice A6 l4.length k7,Aau,Adi,Aag,Aax,Aay,Ad1,Aar] 66,h5] (Adj ⟨h5,A6,k7,o8,rfl,rfl⟩)
def Aj0.f (_k:Nat) (Aa9:List (Int×Int×Int×Int)):Option (Int):=some (((Aa9.length:Nat):Int))
theorem Aj0.ok {k b0 Acv:Nat} {Aa9:TyA} {Aad Aae Aaf Ac5 Aau Adi Aag Aax Aay Ad1 Aar:Value} {Ade:Aaa} {Acu:TyO} {r:Int} (h:Aj0.f k Aa9=some r) (Aei:RdT e48 4 Ade (.slice Acu Aa9.length Acv) Aa9): Ct Tryz.prog 76 #[pt b0] [bk b0 #[Aad,Aae,Aaf,Ac5,.slice Acu Aa9.length Acv,Aau,Adi,Aag,Aax,Aay,Ad1,Aar] 66] [Ade] (fun e l1=>e=.returned (iv r)∧l1=[bk b0 #[Aad,Aae,Aaf,Ac5,.slice Acu Aa9.length Acv,Aau,Adi,Aag,Aax,Aay,Ad1,Aar] 66]):=by
 refine Afb (args:=[pt b0]) Tryz.func76 rfl (Nat.le_of_ble_eq_true rfl) ?_
 intro A X hh_
 obtain ⟨Beq,_⟩:=hh_
 unfold Aj0.f at h
 refine K.eq (env':=[(0,pt b0)]) (l':=bk b0 #[Aad,Aae,Aaf,Ac5,.slice Acu Aa9.length Acv,Aau,Adi,Aag,Aax,Aay,Ad1,Aar] 66 :: X) rfl rfl (ksr (kx 1 (Aby (kx 4 (kld 0 4 rfl (kx 2 (knt (Afj ?_))))))))
 obtain rfl:=Option.some.inj h
 exact kdn rfl
def Apl.l0:Nat→(a1:List Tree)→(x1:Int)→(l2:List ByteArray)→Option (List ByteArray)
 | 0,_,_,_=>none
 | m7+1,a1,x1,l2=>cond (decide (x1 < ((a1.length:Nat):Int))) ((Acz a1 x1).bind fun x9=>(apd 16 l2 [x9.text]).bind fun l20=>Apl.l0 m7 a1 (IntKind.i64.wrap (x1+1)) l20) (some (l2))
def Apl.f (k:Nat) (Aal:List ByteArray) (a1:List Tree):Option (List ByteArray):=Apl.l0 k a1 0 Aal
theorem Apl.ok {k b0 Abj Afe:Nat} {Aal r:TyC} {a1:List Tree} {Aad Aae Aaf Ac5 Ag6 Aau Adi Aag Aax Aay Aar:Value} {Ado Ail:Aaa} {Abi Afc:TyO} (h:Apl.f k Aal a1=some r) (Ad8:Aan encS 9 1 Ado (.slice Abi Aal.length Abj) Aal) (Akm:RdR (Abx 54) Ail (.slice Afc a1.length Afe) a1): Ct Tryz.prog 72 #[pt b0,.slice Afc a1.length Afe] [bk b0 #[Aad,Aae,Aaf,Ac5,Ag6,Aau,Adi,Aag,Aax,Aay,.slice Abi Aal.length Abj,Aar] 66,Ado] [Ail] (fun e l1=>∃ (H0_:Aaa) (A0_:TyO) (c0_:Nat),Aan encS 9 1 H0_ (.slice A0_ r.length c0_) r∧e=.returned (.tuple #[])∧l1=[bk b0 #[Aad,Aae,Aaf,Ac5,Ag6,Aau,Adi,Aag,Aax,Aay,.slice A0_ r.length c0_,Aar] 66,H0_]):=by
 refine Afb (args:=[pt b0,.slice Afc a1.length Afe]) Tryz.func72 rfl (Nat.le_of_ble_eq_true rfl) ?_
 intro A X hh_
 obtain ⟨Aie,_⟩:=hh_
 unfold Apl.f at h
 refine K.eq (env':=[(0,pt b0),(1,.slice Afc a1.length Afe)]) (l':=bk b0 #[Aad,Aae,Aaf,Ac5,Ag6,Aau,Adi,Aag,Aax,Aay,.slice Abi Aal.length Abj,Aar] 66 :: Ado :: X) rfl rfl (ksr (kx 3 (knt (Aez (Akr (τ:=Int×TyC×Aaa×TyO×Nat) (fun t=>[(0,pt b0),(6,.slice Afc a1.length Afe),(7,iv ((a1.length:Nat):Int)),(8,iv t.1)]) (fun t=>bk b0 #[Aad,Aae,Aaf,Ac5,Ag6,Aau,Adi,Aag,Aax,Aay,.slice t.2.2.2.1 t.2.1.length t.2.2.2.2,Aar] 66 :: t.2.2.1 :: X) (fun m t=>Apl.l0 m a1 t.1 t.2.1=some r∧Aan encS 9 1 t.2.2.1 (.slice t.2.2.2.1 t.2.1.length t.2.2.2.2) t.2.1) k (0,Aal,Ado,Abi,Abj) ⟨h,Ad8⟩ sb rfl ?_)))))
 clear h
 rintro m7 ⟨x1,l2,h3,A4,k5⟩ ⟨h,o6⟩
 cases m7 with
 | zero=>simp [Apl.l0] at h
 | succ m7 =>
  simp only [Apl.l0] at h
  refine ksr (kx 1 (knt (Ac1 ?_)))
  refine kcn h (fun h=>?_) fun h=>?_
  ·refine Adv (Abr (Ac1 (Aez (ksr (bnd h fun x9 hx9 h=>(Aht (T:=54) (kd:=.i64) (R:=(Abx 54)) rfl hx9 Akm fun p10 u13 q14 e11 y12=>?_))))))
   obtain ⟨A15,k16,rfl,o17⟩:=Ahx 54 q14
   refine keN rfl e11 (t2 Aie) (knp #[iv 0,sv noS,iv 0,iv 0,nS] 54 fun b18=>(kst 0 5 #[iv x9.kind,sv x9.text,iv x9.n,iv x9.at_,.slice A15 x9.kids.length k16] (knt (kpr [(0,0),(1,0),(2,0),(3,0),(4,3),(5,0),(6,3),(7,1)] [0,1] (kpx 4 (kpd 1 10 rfl (kpx 1 (kpd 0 1 rfl (kpt (ons #[sv x9.text] 9 1 fun b19=>?_))))))))))
   refine kan [1,2] rfl (kpz (K.mv3 (bnd h fun l20 Cua h=>(kap (ys:=[x9.text]) Asj rfl Bdu Cua o6 (A8n (n:=1) Asj [x9.text] (by kernel_rfl) rfl (by decide) 1 rfl) fun h21 A22 k23 o24=>(K.mv1 (K.drop (K.mv1 (K.drop (kx 2 (K.mv1 ?_))))))))))
   exact kst 10 1 #[Aad,Aae,Aaf,Ac5,Ag6,Aau,Adi,Aag,Aax,Aay,.slice A22 l20.length k23,Aar] (knl (Acx (Abr (Ach (kx 2 (knt (Aiw m7 (IntKind.i64.wrap (x1+1),l20,h21,A22,k23) (Nat.lt_succ_self _) ⟨h,o24⟩ sb rfl)))))))
  ·refine Akp (Af5 (Af5 (Akq (Ae2 ?_))))
   obtain rfl:=Option.some.inj h
   exact kdv (.tuple #[]) [bk b0 #[Aad,Aae,Aaf,Ac5,Ag6,Aau,Adi,Aag,Aax,Aay,.slice A4 l2.length k5,Aar] 66,h3] (Adj ⟨h3,A4,k5,o6,rfl,rfl⟩)
def Ayb.f (k:Nat) (Aal:TyC) (a1:List Tree):Option (Int×TyC):=(A4k 16 Aal (⟨#[]⟩:ByteArray) 3).bind fun l1=>(Apl.f k l1 a1).bind fun r6=>some (IntKind.i64.wrap (((Aal.length:Nat):Int)+1),r6)
theorem Ayb.ok {k b0 Abj Afe:Nat} {Aal:TyC} {a1:List Tree} {Aad Aae Aaf Ac5 Ag6 Aau Adi Aag Aax Aay Aar:Value} {Ado Ail:Aaa} {Abi Afc:TyO} {r:Int×TyC} (h:Ayb.f k Aal a1=some r) (Ad8:Aan encS 9 1 Ado (.slice Abi Aal.length Abj) Aal) (Akm:RdR (Abx 54) Ail (.slice Afc a1.length Afe) a1): Ct Tryz.prog 81 #[pt b0,.slice Afc a1.length Afe] [bk b0 #[Aad,Aae,Aaf,Ac5,Ag6,Aau,Adi,Aag,Aax,Aay,.slice Abi Aal.length Abj,Aar] 66,Ado] [Ail] (fun e l1=>∃ (H0_:Aaa) (A0_:TyO) (c0_:Nat),Aan encS 9 1 H0_ (.slice A0_ r.2.length c0_) r.2∧e=.returned (iv r.1)∧l1=[bk b0 #[Aad,Aae,Aaf,Ac5,Ag6,Aau,Adi,Aag,Aax,Aay,.slice A0_ r.2.length c0_,Aar] 66,H0_]):=by
 refine Afb (args:=[pt b0,.slice Afc a1.length Afe]) Tryz.func81 rfl (Nat.le_of_ble_eq_true rfl) ?_
 intro A X hh_
 obtain ⟨Aie,_⟩:=hh_
 unfold Ayb.f at h
 refine K.eq (env':=[(0,pt b0),(1,.slice Afc a1.length Afe)]) (l':=bk b0 #[Aad,Aae,Aaf,Ac5,Ag6,Aau,Adi,Aag,Aax,Aay,.slice Abi Aal.length Abj,Aar] 66 :: Ado :: X) rfl rfl (ksr (kx 1 (Aby (kx 3 (kld 0 10 rfl (kx 3 (Aby (kx 4 (kld 0 10 rfl (K.mv1 ?_))))))))))
 refine bnd h fun l1 hl1 h=>(C2a (kz:=.i64) (z0:=(⟨#[]⟩:ByteArray)) .i64 Asj (by kernel_rfl) rfl Bdu (by kernel_rfl) (by kernel_rfl) (by kernel_rfl) (by kernel_rfl) (by kernel_rfl) hl1 Ad8 fun h2 A3 k4 o5=>(kx 2 (K.mv1 (kst 10 1 #[Aad,Aae,Aaf,Ac5,Ag6,Aau,Adi,Aag,Aax,Aay,.slice A3 l1.length k4,Aar] (Aby (kx 2 (K.mv1 (K.mv1 (bnd h fun r6 hr6 h=>(kcl (Apl.ok (b0:=b0) (Aad:=Aad) (Aae:=Aae) (Aaf:=Aaf) (Ac5:=Ac5) (Ag6:=Ag6) (Aau:=Aau) (Adi:=Adi) (Aag:=Aag) (Aax:=Aax) (Aay:=Aay) (Aar:=Aar) hr6 o5 Akm) rfl ⟨Aie,trivial⟩ ?_))))))))))
 rintro _ _ ⟨h7,A8,k9,o10,rfl,rfl⟩
 refine Acg (Aby (kx 2 (knt (Afj ?_))))
 obtain rfl:=Option.some.inj h
 exact kdv (iv (IntKind.i64.wrap (((Aal.length:Nat):Int)+1))) [bk b0 #[Aad,Aae,Aaf,Ac5,Ag6,Aau,Adi,Aag,Aax,Aay,.slice A8 r6.length k9,Aar] 66,h7] (Adj ⟨h7,A8,k9,o10,rfl,rfl⟩)
def Azu.f (_k:Nat) (Aal:List ByteArray) (a1:Int):Option (List ByteArray):=(Ah4 Aal 0 (IntKind.i64.wrap (a1 - 1))).bind fun l1=>some (l1)
theorem Azu.ok {k b0 Abj:Nat} {Aal r:TyC} {a1:Int} {Aad Aae Aaf Ac5 Ag6 Aau Adi Aag Aax Aay Aar:Value} {Ado:Aaa} {Abi:TyO} (h:Azu.f k Aal a1=some r) (Ad8:Aan encS 9 1 Ado (.slice Abi Aal.length Abj) Aal): Ct Tryz.prog 83 #[pt b0,iv a1] [bk b0 #[Aad,Aae,Aaf,Ac5,Ag6,Aau,Adi,Aag,Aax,Aay,.slice Abi Aal.length Abj,Aar] 66,Ado] [] (fun e l1=>∃ (H0_:Aaa) (A0_:TyO) (c0_:Nat),Aan encS 9 1 H0_ (.slice A0_ r.length c0_) r∧e=.returned (.tuple #[])∧l1=[bk b0 #[Aad,Aae,Aaf,Ac5,Ag6,Aau,Adi,Aag,Aax,Aay,.slice A0_ r.length c0_,Aar] 66,H0_]):=by
 refine Afb (args:=[pt b0,iv a1]) Tryz.func83 rfl (Nat.le_of_ble_eq_true rfl) ?_
 intro A X hh_
 unfold Azu.f at h
 refine K.eq (env':=[(0,pt b0),(1,iv a1)]) (l':=bk b0 #[Aad,Aae,Aaf,Ac5,Ag6,Aau,Adi,Aag,Aax,Aay,.slice Abi Aal.length Abj,Aar] 66 :: Ado :: X) rfl rfl (Ach (kx 4 (kld 0 10 rfl (kx 2 (bnd h fun l1 hl1 h=>(Ccd (T:=9) (sz:=1) (k:=.i64) (xs:=Aal) (IntKind.i64.wrap (a1 - 1)) Asj rfl (by kernel_rfl) (by kernel_rfl) (by kernel_rfl) (by kernel_rfl) (by kernel_rfl) (by kernel_rfl) hl1 Ad8 fun o2=>(kx 2 (kst 10 1 #[Aad,Aae,Aaf,Ac5,Ag6,Aau,Adi,Aag,Aax,Aay,.slice Abi l1.length Abj,Aar] (knl (Ae2 ?_))))))))))
 obtain rfl:=Option.some.inj h
 exact kdv (.tuple #[]) [bk b0 #[Aad,Aae,Aaf,Ac5,Ag6,Aau,Adi,Aag,Aax,Aay,.slice Abi l1.length Abj,Aar] 66,Ado] (Adj ⟨Ado,Abi,Abj,o2,rfl,rfl⟩)
def Awz.f (k:Nat) (Aai:List ByteArray) (a1:ByteArray):Option (Int):=(Akc.f k Aai a1).bind fun r1=>some (IntKind.i64.wrap (r1+1))
theorem Awz.ok {k b0 Aa0:Nat} {Aai:TyC} {a1:ByteArray} {Aad Aae Aaf Ac5 Ag6 Aau Aag Aax Aay Ad1 Aar:Value} {Afd:Aaa} {Aaz:TyO} {r:Int} (h:Awz.f k Aai a1=some r) (Aek:RdT encS 1 Afd (.slice Aaz Aai.length Aa0) Aai): Ct Tryz.prog 86 #[pt b0,sv a1] [bk b0 #[Aad,Aae,Aaf,Ac5,Ag6,Aau,.slice Aaz Aai.length Aa0,Aag,Aax,Aay,Ad1,Aar] 66] [Afd] (fun e l1=>e=.returned (iv r)∧l1=[bk b0 #[Aad,Aae,Aaf,Ac5,Ag6,Aau,.slice Aaz Aai.length Aa0,Aag,Aax,Aay,Ad1,Aar] 66]):=by
 refine Afb (args:=[pt b0,sv a1]) Tryz.func86 rfl (Nat.le_of_ble_eq_true rfl) ?_
 intro A X hh_
 obtain ⟨Afn,_⟩:=hh_
 unfold Awz.f at h
 refine K.eq (env':=[(0,pt b0),(1,sv a1)]) (l':=bk b0 #[Aad,Aae,Aaf,Ac5,Ag6,Aau,.slice Aaz Aai.length Aa0,Aag,Aax,Aay,Ad1,Aar] 66 :: X) rfl rfl (ksr (kx 1 (Aby (kx 3 (kld 0 6 rfl (kx 1 (bnd h fun r1 hr1 h=>(kcv (Akc.ok hr1 Aek) ⟨(.tail _ Afn),trivial⟩ (kx 2 (knt ?_))))))))))
 refine Afj ?_
 obtain rfl:=Option.some.inj h
 exact kdn rfl
def Awy.f (k:Nat) (Aah:TyB) (Aa9:TyA) (Aas:Int) (Abb:Int) (Aa3:ByteArray):Option TyA:=(Anw.f k Aah Aas Abb Aa3).bind fun r2=>(Ac7.f k Aa9 2 ([IntKind.i64.wrap (r2+1)])).bind fun r4=>some (r4.2)
theorem Awy.ok {k b0 Aa5 Acv:Nat} {Aah:TyB} {Aa9 r:TyA} {Aas Abb:Int} {Aa3:ByteArray} {Aad Aae Aaf Aau Adi Aag Aax Aay Ad1 Aar:Value} {Afk Ade:Aaa} {Aa4 Acu:TyO} (h:Awy.f k Aah Aa9 Aas Abb Aa3=some r) (Aew:RdT e78 3 Afk (.slice Aa4 Aah.length Aa5) Aah) (Aei:Aan e48 48 4 Ade (.slice Acu Aa9.length Acv) Aa9): Ct Tryz.prog 109 #[pt b0,.agg #[iv Aas,iv Abb,sv Aa3]] [bk b0 #[Aad,Aae,Aaf,.slice Aa4 Aah.length Aa5,.slice Acu Aa9.length Acv,Aau,Adi,Aag,Aax,Aay,Ad1,Aar] 66,Ade] [Afk] (fun e l1=>∃ (H0_:Aaa) (A0_:TyO) (c0_:Nat),Aan e48 48 4 H0_ (.slice A0_ r.length c0_) r∧e=.returned (.tuple #[])∧l1=[bk b0 #[Aad,Aae,Aaf,.slice Aa4 Aah.length Aa5,.slice A0_ r.length c0_,Aau,Adi,Aag,Aax,Aay,Ad1,Aar] 66,H0_]):=by
 refine Afb (args:=[pt b0,.agg #[iv Aas,iv Abb,sv Aa3]]) Tryz.func109 rfl (Nat.le_of_ble_eq_true rfl) ?_
 intro A X hh_
 obtain ⟨Af0,_⟩:=hh_
 unfold Awy.f at h
 refine K.eq (env':=[(0,pt b0),(1,.agg #[iv Aas,iv Abb,sv Aa3])]) (l':=bk b0 #[Aad,Aae,Aaf,.slice Aa4 Aah.length Aa5,.slice Acu Aa9.length Acv,Aau,Adi,Aag,Aax,Aay,Ad1,Aar] 66 :: Ade :: X) rfl rfl (ksr (knp #[iv Aas,iv Abb,sv Aa3] 78 fun b1=>(knt (kpr [(0,0),(1,0),(2,0),(3,0),(4,0),(5,3),(6,3)] [0,1] (kpx 5 (kpd 1 3 rfl (kpa 0 0 3 rfl (kpz (bnd h fun r2 hr2 h=>(kcv (Anw.ok hr2 Aew) ⟨(t3 Af0),trivial⟩ ?_))))))))))
 refine K.drop (kx 1 (kns #[iv (IntKind.i64.wrap (r2+1))] 3 1 fun b3=>(K.mv2 (K.mv2 (bnd h fun r4 hr4 h=>(kcl (Ac7.ok (b0:=b0) (Aad:=Aad) (Aae:=Aae) (Aaf:=Aaf) (Ac5:=.slice Aa4 Aah.length Aa5) (Aau:=Aau) (Adi:=Adi) (Aag:=Aag) (Aax:=Aax) (Aay:=Aay) (Ad1:=Ad1) (Aar:=Aar) hr4 Aei (Aan.rd (Aan.blk 3 (Aio .i64) b3 [IntKind.i64.wrap (r2+1)] #[iv (IntKind.i64.wrap (r2+1))] 1 (by kernel_rfl) rfl (by decide)))) rfl ⟨(.head _),trivial⟩ ?_))))))
 rintro _ _ ⟨h5,A6,k7,o8,rfl,rfl⟩
 refine Acg (K.mv2 (K.drop (knl (Ae2 ?_))))
 obtain rfl:=Option.some.inj h
 exact kdv (.tuple #[]) [bk b0 #[Aad,Aae,Aaf,.slice Aa4 Aah.length Aa5,.slice A6 r4.2.length k7,Aau,Adi,Aag,Aax,Aay,Ad1,Aar] 66,h5] (Adj ⟨h5,A6,k7,o8,rfl,rfl⟩)
end
end Go.Proofs.YtkdjiehclahliaaGreatDoor
