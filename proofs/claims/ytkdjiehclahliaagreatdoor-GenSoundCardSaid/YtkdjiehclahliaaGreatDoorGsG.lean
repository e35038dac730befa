/- Texts of mine for genSound_card, part 7. -/
import Derived.Test.YtkdjiehclahliaaGreatDoorGsF
set_option linter.unusedSimpArgs false
set_option linter.unusedVariables false
set_option linter.unusedSectionVars false
namespace Go.Proofs.YtkdjiehclahliaaGreatDoor
set_option maxRecDepth 100000
section
open Go Go.RowKit
def Aju:Amy (List Int):=rS1 0 (fun x=>[]) (fun _=>⟨rfl,rfl⟩) (encI .i64) 3 1 (fun x=>x)
theorem Bo2 {x:List Int} {H:Aaa} {A:Option Addr} {c:Nat} (h:Aaf (encI .i64) 3 1 H (.slice A (x).length c) (x)):Aju.own x H [.slice A (x).length c]:=⟨A,c,rfl,h⟩
theorem B1d {x:List Int} {H:Aaa} {cs:List Value} (h:Aju.rd x H cs):∃ A c,cs=[.slice A (x).length c]∧RdT (encI .i64) 1 H (.slice A (x).length c) (x):=h
def Aht:Amy (ByteArray×Int×Int×TyB×TyA):=rS2 3 (fun x=>[.string x.1,.int .i64 x.2.1,.int .i64 x.2.2.1]) (fun _=>⟨rfl,rfl⟩) e78 78 3 (fun x=>x.2.2.2.1) e48 48 4 (fun x=>x.2.2.2.2)
theorem Bih {x:ByteArray×Int×Int×TyB×TyA} {H1 H2:Aaa} {A:TyO} {c:Nat} {B:TyO} {d:Nat} (h1:Aaf e78 78 3 H1 (.slice A (x.2.2.2.1).length c) (x.2.2.2.1)) (h2:Aaf e48 48 4 H2 (.slice B (x.2.2.2.2).length d) (x.2.2.2.2)) (ha:H1.Apart H2):Aht.own x (H1.or H2) [sv x.1,iv x.2.1,iv x.2.2.1,.slice A (x.2.2.2.1).length c,.slice B (x.2.2.2.2).length d]:=⟨A,c,B,d,H1,H2,rfl,rfl,ha,h1,h2⟩
theorem Cju {x:ByteArray×Int×Int×TyB×TyA} {H:Aaa} {cs:List Value} (h:Aht.own x H cs):∃ A c B d H1 H2,cs=[sv x.1,iv x.2.1,iv x.2.2.1,.slice A (x.2.2.2.1).length c,.slice B (x.2.2.2.2).length d]∧H=H1.or H2∧H1.Apart H2∧Aaf e78 78 3 H1 (.slice A (x.2.2.2.1).length c) (x.2.2.2.1)∧Aaf e48 48 4 H2 (.slice B (x.2.2.2.2).length d) (x.2.2.2.2):=h
theorem B1c {x:ByteArray×Int×Int×TyB×TyA} {H:Aaa} {cs:List Value} (h:Aht.rd x H cs):∃ A c B d,cs=[sv x.1,iv x.2.1,iv x.2.2.1,.slice A (x.2.2.2.1).length c,.slice B (x.2.2.2.2).length d]∧RdT e78 3 H (.slice A (x.2.2.2.1).length c) (x.2.2.2.1)∧RdT e48 4 H (.slice B (x.2.2.2.2).length d) (x.2.2.2.2):=h
theorem B8b:An8 Tryz.prog 81 3 1 8 Tryz.t3 (iv 0):=⟨by kernel_rfl,by kernel_rfl,by kernel_rfl,by kernel_rfl,by kernel_rfl,by kernel_rfl,by decide⟩
theorem Bsc:An8 Tryz.prog 64 81 1 24 Tryz.t81 (nS):=⟨by kernel_rfl,by kernel_rfl,by kernel_rfl,by kernel_rfl,by kernel_rfl,by kernel_rfl,by decide⟩
structure GS where
 Ahw:TyB→TyA→ByteArray→TyC→TyC→TyL→Int→TyU→Int→ByteArray→Int→Int→List Tree→Option (TyA×TyC×TyL×Int×TyU)
 Al8:TyB→TyA→ByteArray→TyC→TyC→TyL→Int→TyU→Int→ByteArray→Int→Int→List Tree→Option (TyA×TyC×TyL×Int×TyU)
 Ahl:TyB→TyA→ByteArray→TyC→TyC→TyL→Int→TyU→Int→ByteArray→Int→Int→List Tree→Option (TyA×TyC×TyL×Int×TyU)
 Aio:TyB→TyA→ByteArray→TyC→TyC→TyL→Int→TyU→List Tree→Option (TyA×TyC×TyL×Int×TyU)
 Am6:TyB→TyA→ByteArray→TyC→TyC→TyL→Int→TyU→Int→ByteArray→Int→Int→List Tree→Int→Option (TyA×TyC×TyL×Int×TyU)
 Am9:TyB→TyA→ByteArray→TyC→TyC→TyL→Int→TyU→Int→ByteArray→Int→Int→List Tree→Int→Int→Option (TyA×TyC×TyL×Int×TyU)
 Al9:TyB→TyA→ByteArray→TyC→TyC→TyL→Int→TyU→Int→ByteArray→Int→Int→List Tree→Int→Option (TyA×TyC×TyL×Int×TyU)
 Aqt:TyB→TyA→ByteArray→TyC→TyC→TyL→Int→TyU→Int→ByteArray→Int→Int→List Tree→Int→Option (TyA×TyC×TyL×Int×TyU)
 Arw:ByteArray→TyC→Int→TyU→Int→ByteArray→Int→Int→List Tree→Option (Int×TyU)
def Ahw.C (fC:TyB→TyA→ByteArray→TyC→TyC→TyL→Int→TyU→Int→ByteArray→Int→Int→List Tree→Option (TyA×TyC×TyL×Int×TyU)):Prop:=∀ {Aae:TyB} {Aax:TyA} {Ab4 Aar:ByteArray} {Aah Aal:TyC} {Adp:TyL} {Ad2 Aan Aao Aa5:Int} {Ads:TyU} {Aag:List Tree} {b0 Abb Ac3 Aa8 Abp Afn Abk Abm Agm Abx:Nat} {Aay Aaz Aa0 Aa3 Aea:Value} {Afz Adk Afk Adz Ag7 Agp Ae4 G:Aaa} {Aa9 Ac2 Aa7 Abn Afl Agi Abu:TyO} {r:TyA×TyC×TyL×Int×TyU} (h:fC Aae Aax Ab4 Aah Aal Adp Ad2 Ads Aan Aar Aao Aa5 Aag=some r) (Afd:RdT e78 3 Afz (slW Aa9 Aae Abb) Aae) (Aeo:Aaf e48 48 4 Adk (slW Ac2 Aax Ac3) Aax) (Aev:RdT encS 1 Afk (slW Aa7 Aah Aa8) Aah) (Aek:Aaf encS 9 1 Adz (slW Abn Aal Abp) Aal) (Ajc:Abf Aju 81 Ag7 (slW Afl Adp Afn) Adp) (Aiw:Abf (Ahx Aht) 41 Agp (slW Agi Ads Agm) Ads) (Ado:RdR (Abt 54) Ae4 (slW Abu Aag Abx) Aag) (hG:GlP G),Ct Tryz.prog 29 #[pt b0,.agg #[iv Aan,sv Aar,iv Aao,iv Aa5,slW Abu Aag Abx]] [bk b0 #[Aay,Aaz,Aa0,slW Aa9 Aae Abb,slW Ac2 Aax Ac3,sv Ab4,slW Aa7 Aah Aa8,Aa3,pt Abk,pt Abm,slW Abn Aal Abp,slW Afl Adp Afn] 66,Adk,Adz,Ag7,bk Abk #[iv Ad2] 3,bk Abm #[slW Agi Ads Agm,Aea] 25,Agp] [Afz,Afk,Ae4,G] (fun e l1=>∃ (H0_:Aaa) (A0_:TyO) (c0_:Nat) (H1_:Aaa) (A1_:TyO) (c1_:Nat) (H2_:Aaa) (A2_:TyO) (c2_:Nat) (H3_:Aaa) (A3_:TyO) (c3_:Nat),Aaf e48 48 4 H0_ (slW A0_ r.1 c0_) r.1∧Aaf encS 9 1 H1_ (slW A1_ r.2.1 c1_) r.2.1∧Abf Aju 81 H2_ (slW A2_ r.2.2.1 c2_) r.2.2.1∧Abf (Ahx Aht) 41 H3_ (slW A3_ r.2.2.2.2 c3_) r.2.2.2.2∧e=.returned (.tuple #[])∧l1=[bk b0 #[Aay,Aaz,Aa0,slW Aa9 Aae Abb,slW A0_ r.1 c0_,sv Ab4,slW Aa7 Aah Aa8,Aa3,pt Abk,pt Abm,slW A1_ r.2.1 c1_,slW A2_ r.2.2.1 c2_] 66,H0_,H1_,H2_,bk Abk #[iv r.2.2.2.1] 3,bk Abm #[slW A3_ r.2.2.2.2 c3_,Aea] 25,H3_])
def Al8.C (fC:TyB→TyA→ByteArray→TyC→TyC→TyL→Int→TyU→Int→ByteArray→Int→Int→List Tree→Option (TyA×TyC×TyL×Int×TyU)):Prop:=∀ {Aae:TyB} {Aax:TyA} {Ab4 Aar:ByteArray} {Aah Aal:TyC} {Adp:TyL} {Ad2 Aan Aao Aa5:Int} {Ads:TyU} {Aag:List Tree} {b0 Abb Ac3 Aa8 Abp Afn Abk Abm Agm Abx:Nat} {Aay Aaz Aa0 Aa3 Aea:Value} {Afz Adk Afk Adz Ag7 Agp Ae4 G:Aaa} {Aa9 Ac2 Aa7 Abn Afl Agi Abu:TyO} {r:TyA×TyC×TyL×Int×TyU} (h:fC Aae Aax Ab4 Aah Aal Adp Ad2 Ads Aan Aar Aao Aa5 Aag=some r) (Afd:RdT e78 3 Afz (slW Aa9 Aae Abb) Aae) (Aeo:Aaf e48 48 4 Adk (slW Ac2 Aax Ac3) Aax) (Aev:RdT encS 1 Afk (slW Aa7 Aah Aa8) Aah) (Aek:Aaf encS 9 1 Adz (slW Abn Aal Abp) Aal) (Ajc:Abf Aju 81 Ag7 (slW Afl Adp Afn) Adp) (Aiw:Abf (Ahx Aht) 41 Agp (slW Agi Ads Agm) Ads) (Ado:RdR (Abt 54) Ae4 (slW Abu Aag Abx) Aag) (hG:GlP G),Ct Tryz.prog 18 #[pt b0,.agg #[iv Aan,sv Aar,iv Aao,iv Aa5,slW Abu Aag Abx]] [bk b0 #[Aay,Aaz,Aa0,slW Aa9 Aae Abb,slW Ac2 Aax Ac3,sv Ab4,slW Aa7 Aah Aa8,Aa3,pt Abk,pt Abm,slW Abn Aal Abp,slW Afl Adp Afn] 66,Adk,Adz,Ag7,bk Abk #[iv Ad2] 3,bk Abm #[slW Agi Ads Agm,Aea] 25,Agp] [Afz,Afk,Ae4,G] (fun e l1=>∃ (H0_:Aaa) (A0_:TyO) (c0_:Nat) (H1_:Aaa) (A1_:TyO) (c1_:Nat) (H2_:Aaa) (A2_:TyO) (c2_:Nat) (H3_:Aaa) (A3_:TyO) (c3_:Nat),Aaf e48 48 4 H0_ (slW A0_ r.1 c0_) r.1∧Aaf encS 9 1 H1_ (slW A1_ r.2.1 c1_) r.2.1∧Abf Aju 81 H2_ (slW A2_ r.2.2.1 c2_) r.2.2.1∧Abf (Ahx Aht) 41 H3_ (slW A3_ r.2.2.2.2 c3_) r.2.2.2.2∧e=.returned (.tuple #[])∧l1=[bk b0 #[Aay,Aaz,Aa0,slW Aa9 Aae Abb,slW A0_ r.1 c0_,sv Ab4,slW Aa7 Aah Aa8,Aa3,pt Abk,pt Abm,slW A1_ r.2.1 c1_,slW A2_ r.2.2.1 c2_] 66,H0_,H1_,H2_,bk Abk #[iv r.2.2.2.1] 3,bk Abm #[slW A3_ r.2.2.2.2 c3_,Aea] 25,H3_])
def Ahl.C (fC:TyB→TyA→ByteArray→TyC→TyC→TyL→Int→TyU→Int→ByteArray→Int→Int→List Tree→Option (TyA×TyC×TyL×Int×TyU)):Prop:=∀ {Aae:TyB} {Aax:TyA} {Ab4 Aar:ByteArray} {Aah Aal:TyC} {Adp:TyL} {Ad2 Aan Aao Aa5:Int} {Ads:TyU} {Aag:List Tree} {b0 Abb Ac3 Aa8 Abp Afn Abk Abm Agm Abx:Nat} {Aay Aaz Aa0 Aa3 Aea:Value} {Afz Adk Afk Adz Ag7 Agp Ae4 G:Aaa} {Aa9 Ac2 Aa7 Abn Afl Agi Abu:TyO} {r:TyA×TyC×TyL×Int×TyU} (h:fC Aae Aax Ab4 Aah Aal Adp Ad2 Ads Aan Aar Aao Aa5 Aag=some r) (Afd:RdT e78 3 Afz (slW Aa9 Aae Abb) Aae) (Aeo:Aaf e48 48 4 Adk (slW Ac2 Aax Ac3) Aax) (Aev:RdT encS 1 Afk (slW Aa7 Aah Aa8) Aah) (Aek:Aaf encS 9 1 Adz (slW Abn Aal Abp) Aal) (Ajc:Abf Aju 81 Ag7 (slW Afl Adp Afn) Adp) (Aiw:Abf (Ahx Aht) 41 Agp (slW Agi Ads Agm) Ads) (Ado:RdR (Abt 54) Ae4 (slW Abu Aag Abx) Aag) (hG:GlP G),Ct Tryz.prog 47 #[pt b0,.agg #[iv Aan,sv Aar,iv Aao,iv Aa5,slW Abu Aag Abx]] [bk b0 #[Aay,Aaz,Aa0,slW Aa9 Aae Abb,slW Ac2 Aax Ac3,sv Ab4,slW Aa7 Aah Aa8,Aa3,pt Abk,pt Abm,slW Abn Aal Abp,slW Afl Adp Afn] 66,Adk,Adz,Ag7,bk Abk #[iv Ad2] 3,bk Abm #[slW Agi Ads Agm,Aea] 25,Agp] [Afz,Afk,Ae4,G] (fun e l1=>∃ (H0_:Aaa) (A0_:TyO) (c0_:Nat) (H1_:Aaa) (A1_:TyO) (c1_:Nat) (H2_:Aaa) (A2_:TyO) (c2_:Nat) (H3_:Aaa) (A3_:TyO) (c3_:Nat),Aaf e48 48 4 H0_ (slW A0_ r.1 c0_) r.1∧Aaf encS 9 1 H1_ (slW A1_ r.2.1 c1_) r.2.1∧Abf Aju 81 H2_ (slW A2_ r.2.2.1 c2_) r.2.2.1∧Abf (Ahx Aht) 41 H3_ (slW A3_ r.2.2.2.2 c3_) r.2.2.2.2∧e=.returned (.tuple #[])∧l1=[bk b0 #[Aay,Aaz,Aa0,slW Aa9 Aae Abb,slW A0_ r.1 c0_,sv Ab4,slW Aa7 Aah Aa8,Aa3,pt Abk,pt Abm,slW A1_ r.2.1 c1_,slW A2_ r.2.2.1 c2_] 66,H0_,H1_,H2_,bk Abk #[iv r.2.2.2.1] 3,bk Abm #[slW A3_ r.2.2.2.2 c3_,Aea] 25,H3_])
def Aio.C (fC:TyB→TyA→ByteArray→TyC→TyC→TyL→Int→TyU→List Tree→Option (TyA×TyC×TyL×Int×TyU)):Prop:=∀ {Aae:TyB} {Aax:TyA} {Ab4:ByteArray} {Aah Aal:TyC} {Adp:TyL} {Ad2:Int} {Ads:TyU} {a1:List Tree} {b0 Abb Ac3 Aa8 Abp Afn Abk Abm Agm Ae6:Nat} {Aay Aaz Aa0 Aa3 Aea:Value} {Afz Adk Afk Adz Ag7 Agp Ahz G:Aaa} {Aa9 Ac2 Aa7 Abn Afl Agi Ae2:TyO} {r:TyA×TyC×TyL×Int×TyU} (h:fC Aae Aax Ab4 Aah Aal Adp Ad2 Ads a1=some r) (Afd:RdT e78 3 Afz (slW Aa9 Aae Abb) Aae) (Aeo:Aaf e48 48 4 Adk (slW Ac2 Aax Ac3) Aax) (Aev:RdT encS 1 Afk (slW Aa7 Aah Aa8) Aah) (Aek:Aaf encS 9 1 Adz (slW Abn Aal Abp) Aal) (Ajc:Abf Aju 81 Ag7 (slW Afl Adp Afn) Adp) (Aiw:Abf (Ahx Aht) 41 Agp (slW Agi Ads Agm) Ads) (Ajh:RdR (Abt 54) Ahz (slW Ae2 a1 Ae6) a1) (hG:GlP G),Ct Tryz.prog 75 #[pt b0,slW Ae2 a1 Ae6] [bk b0 #[Aay,Aaz,Aa0,slW Aa9 Aae Abb,slW Ac2 Aax Ac3,sv Ab4,slW Aa7 Aah Aa8,Aa3,pt Abk,pt Abm,slW Abn Aal Abp,slW Afl Adp Afn] 66,Adk,Adz,Ag7,bk Abk #[iv Ad2] 3,bk Abm #[slW Agi Ads Agm,Aea] 25,Agp] [Afz,Afk,Ahz,G] (fun e l1=>∃ (H0_:Aaa) (A0_:TyO) (c0_:Nat) (H1_:Aaa) (A1_:TyO) (c1_:Nat) (H2_:Aaa) (A2_:TyO) (c2_:Nat) (H3_:Aaa) (A3_:TyO) (c3_:Nat),Aaf e48 48 4 H0_ (slW A0_ r.1 c0_) r.1∧Aaf encS 9 1 H1_ (slW A1_ r.2.1 c1_) r.2.1∧Abf Aju 81 H2_ (slW A2_ r.2.2.1 c2_) r.2.2.1∧Abf (Ahx Aht) 41 H3_ (slW A3_ r.2.2.2.2 c3_) r.2.2.2.2∧e=.returned (.tuple #[])∧l1=[bk b0 #[Aay,Aaz,Aa0,slW Aa9 Aae Abb,slW A0_ r.1 c0_,sv Ab4,slW Aa7 Aah Aa8,Aa3,pt Abk,pt Abm,slW A1_ r.2.1 c1_,slW A2_ r.2.2.1 c2_] 66,H0_,H1_,H2_,bk Abk #[iv r.2.2.2.1] 3,bk Abm #[slW A3_ r.2.2.2.2 c3_,Aea] 25,H3_])
def Am6.C (fC:TyB→TyA→ByteArray→TyC→TyC→TyL→Int→TyU→Int→ByteArray→Int→Int→List Tree→Int→Option (TyA×TyC×TyL×Int×TyU)):Prop:=∀ {Aae:TyB} {Aax:TyA} {Ab4 Aar:ByteArray} {Aah Aal:TyC} {Adp:TyL} {Ad2 Aan Aao Aa5 Ajk:Int} {Ads:TyU} {Aag:List Tree} {b0 Abb Ac3 Aa8 Abp Afn Abk Abm Agm Abx Ajl Ajm:Nat} {Aay Aaz Aa0 Aa3 Aea:Value} {Afz Adk Afk Adz Ag7 Agp Ae4 G:Aaa} {Aa9 Ac2 Aa7 Abn Afl Agi Abu:TyO} {r:TyA×TyC×TyL×Int×TyU} (h:fC Aae Aax Ab4 Aah Aal Adp Ad2 Ads Aan Aar Aao Aa5 Aag Ajk=some r) (Afd:RdT e78 3 Afz (slW Aa9 Aae Abb) Aae) (Aeo:Aaf e48 48 4 Adk (slW Ac2 Aax Ac3) Aax) (Aev:RdT encS 1 Afk (slW Aa7 Aah Aa8) Aah) (Aek:Aaf encS 9 1 Adz (slW Abn Aal Abp) Aal) (Ajc:Abf Aju 81 Ag7 (slW Afl Adp Afn) Adp) (Aiw:Abf (Ahx Aht) 41 Agp (slW Agi Ads Agm) Ads) (Ado:RdR (Abt 54) Ae4 (slW Abu Aag Abx) Aag) (hG:GlP G),Ct Tryz.prog 78 #[pt b0,.agg #[iv Aan,sv Aar,iv Aao,iv Aa5,slW Abu Aag Abx],.func (.func 79) #[] #[pt Ajl,pt Ajm]] [bk b0 #[Aay,Aaz,Aa0,slW Aa9 Aae Abb,slW Ac2 Aax Ac3,sv Ab4,slW Aa7 Aah Aa8,Aa3,pt Abk,pt Abm,slW Abn Aal Abp,slW Afl Adp Afn] 66,Adk,Adz,Ag7,bk Abk #[iv Ad2] 3,bk Abm #[slW Agi Ads Agm,Aea] 25,Agp,bk Ajl #[pt b0] 61,bk Ajm #[iv Ajk] 3] [Afz,Afk,Ae4,G] (fun e l1=>∃ (H0_:Aaa) (A0_:TyO) (c0_:Nat) (H1_:Aaa) (A1_:TyO) (c1_:Nat) (H2_:Aaa) (A2_:TyO) (c2_:Nat) (H3_:Aaa) (A3_:TyO) (c3_:Nat),Aaf e48 48 4 H0_ (slW A0_ r.1 c0_) r.1∧Aaf encS 9 1 H1_ (slW A1_ r.2.1 c1_) r.2.1∧Abf Aju 81 H2_ (slW A2_ r.2.2.1 c2_) r.2.2.1∧Abf (Ahx Aht) 41 H3_ (slW A3_ r.2.2.2.2 c3_) r.2.2.2.2∧e=.returned (.tuple #[])∧l1=[bk b0 #[Aay,Aaz,Aa0,slW Aa9 Aae Abb,slW A0_ r.1 c0_,sv Ab4,slW Aa7 Aah Aa8,Aa3,pt Abk,pt Abm,slW A1_ r.2.1 c1_,slW A2_ r.2.2.1 c2_] 66,H0_,H1_,H2_,bk Abk #[iv r.2.2.2.1] 3,bk Abm #[slW A3_ r.2.2.2.2 c3_,Aea] 25,H3_,bk Ajl #[pt b0] 61,bk Ajm #[iv Ajk] 3])
def Am9.C (fC:TyB→TyA→ByteArray→TyC→TyC→TyL→Int→TyU→Int→ByteArray→Int→Int→List Tree→Int→Int→Option (TyA×TyC×TyL×Int×TyU)):Prop:=∀ {Aae:TyB} {Aax:TyA} {Ab4 Aar:ByteArray} {Aah Aal:TyC} {Adp:TyL} {Ad2 Aan Aao Aa5 Ajk Axl:Int} {Ads:TyU} {Aag:List Tree} {b0 Abb Ac3 Aa8 Abp Afn Abk Abm Agm Abx Ajl Ajm Axp:Nat} {Aay Aaz Aa0 Aa3 Aea:Value} {Afz Adk Afk Adz Ag7 Agp Ae4 G:Aaa} {Aa9 Ac2 Aa7 Abn Afl Agi Abu:TyO} {r:TyA×TyC×TyL×Int×TyU} (h:fC Aae Aax Ab4 Aah Aal Adp Ad2 Ads Aan Aar Aao Aa5 Aag Ajk Axl=some r) (Afd:RdT e78 3 Afz (slW Aa9 Aae Abb) Aae) (Aeo:Aaf e48 48 4 Adk (slW Ac2 Aax Ac3) Aax) (Aev:RdT encS 1 Afk (slW Aa7 Aah Aa8) Aah) (Aek:Aaf encS 9 1 Adz (slW Abn Aal Abp) Aal) (Ajc:Abf Aju 81 Ag7 (slW Afl Adp Afn) Adp) (Aiw:Abf (Ahx Aht) 41 Agp (slW Agi Ads Agm) Ads) (Ado:RdR (Abt 54) Ae4 (slW Abu Aag Abx) Aag) (hG:GlP G),Ct Tryz.prog 78 #[pt b0,.agg #[iv Aan,sv Aar,iv Aao,iv Aa5,slW Abu Aag Abx],.func (.func 82) #[] #[pt Ajl,pt Ajm,pt Axp]] [bk b0 #[Aay,Aaz,Aa0,slW Aa9 Aae Abb,slW Ac2 Aax Ac3,sv Ab4,slW Aa7 Aah Aa8,Aa3,pt Abk,pt Abm,slW Abn Aal Abp,slW Afl Adp Afn] 66,Adk,Adz,Ag7,bk Abk #[iv Ad2] 3,bk Abm #[slW Agi Ads Agm,Aea] 25,Agp,bk Ajl #[pt b0] 61,bk Ajm #[iv Ajk] 3,bk Axp #[iv Axl] 3] [Afz,Afk,Ae4,G] (fun e l1=>∃ (H0_:Aaa) (A0_:TyO) (c0_:Nat) (H1_:Aaa) (A1_:TyO) (c1_:Nat) (H2_:Aaa) (A2_:TyO) (c2_:Nat) (H3_:Aaa) (A3_:TyO) (c3_:Nat),Aaf e48 48 4 H0_ (slW A0_ r.1 c0_) r.1∧Aaf encS 9 1 H1_ (slW A1_ r.2.1 c1_) r.2.1∧Abf Aju 81 H2_ (slW A2_ r.2.2.1 c2_) r.2.2.1∧Abf (Ahx Aht) 41 H3_ (slW A3_ r.2.2.2.2 c3_) r.2.2.2.2∧e=.returned (.tuple #[])∧l1=[bk b0 #[Aay,Aaz,Aa0,slW Aa9 Aae Abb,slW A0_ r.1 c0_,sv Ab4,slW Aa7 Aah Aa8,Aa3,pt Abk,pt Abm,slW A1_ r.2.1 c1_,slW A2_ r.2.2.1 c2_] 66,H0_,H1_,H2_,bk Abk #[iv r.2.2.2.1] 3,bk Abm #[slW A3_ r.2.2.2.2 c3_,Aea] 25,H3_,bk Ajl #[pt b0] 61,bk Ajm #[iv Ajk] 3,bk Axp #[iv Axl] 3])
def Al9.C (fC:TyB→TyA→ByteArray→TyC→TyC→TyL→Int→TyU→Int→ByteArray→Int→Int→List Tree→Int→Option (TyA×TyC×TyL×Int×TyU)):Prop:=∀ {Aae:TyB} {Aax:TyA} {Ab4 Aar:ByteArray} {Aah Aal:TyC} {Adp:TyL} {Ad2 Aan Aao Aa5 Ajk:Int} {Ads:TyU} {Aag:List Tree} {b0 Abb Ac3 Aa8 Abp Afn Abk Abm Agm Abx Ajl Ajm:Nat} {Aay Aaz Aa0 Aa3 Aea:Value} {Afz Adk Afk Adz Ag7 Agp Ae4 G:Aaa} {Aa9 Ac2 Aa7 Abn Afl Agi Abu:TyO} {r:TyA×TyC×TyL×Int×TyU} (h:fC Aae Aax Ab4 Aah Aal Adp Ad2 Ads Aan Aar Aao Aa5 Aag Ajk=some r) (Afd:RdT e78 3 Afz (slW Aa9 Aae Abb) Aae) (Aeo:Aaf e48 48 4 Adk (slW Ac2 Aax Ac3) Aax) (Aev:RdT encS 1 Afk (slW Aa7 Aah Aa8) Aah) (Aek:Aaf encS 9 1 Adz (slW Abn Aal Abp) Aal) (Ajc:Abf Aju 81 Ag7 (slW Afl Adp Afn) Adp) (Aiw:Abf (Ahx Aht) 41 Agp (slW Agi Ads Agm) Ads) (Ado:RdR (Abt 54) Ae4 (slW Abu Aag Abx) Aag) (hG:GlP G),Ct Tryz.prog 78 #[pt b0,.agg #[iv Aan,sv Aar,iv Aao,iv Aa5,slW Abu Aag Abx],.func (.func 112) #[] #[pt Ajl,pt Ajm]] [bk b0 #[Aay,Aaz,Aa0,slW Aa9 Aae Abb,slW Ac2 Aax Ac3,sv Ab4,slW Aa7 Aah Aa8,Aa3,pt Abk,pt Abm,slW Abn Aal Abp,slW Afl Adp Afn] 66,Adk,Adz,Ag7,bk Abk #[iv Ad2] 3,bk Abm #[slW Agi Ads Agm,Aea] 25,Agp,bk Ajl #[pt b0] 61,bk Ajm #[iv Ajk] 3] [Afz,Afk,Ae4,G] (fun e l1=>∃ (H0_:Aaa) (A0_:TyO) (c0_:Nat) (H1_:Aaa) (A1_:TyO) (c1_:Nat) (H2_:Aaa) (A2_:TyO) (c2_:Nat) (H3_:Aaa) (A3_:TyO) (c3_:Nat),Aaf e48 48 4 H0_ (slW A0_ r.1 c0_) r.1∧Aaf encS 9 1 H1_ (slW A1_ r.2.1 c1_) r.2.1∧Abf Aju 81 H2_ (slW A2_ r.2.2.1 c2_) r.2.2.1∧Abf (Ahx Aht) 41 H3_ (slW A3_ r.2.2.2.2 c3_) r.2.2.2.2∧e=.returned (.tuple #[])∧l1=[bk b0 #[Aay,Aaz,Aa0,slW Aa9 Aae Abb,slW A0_ r.1 c0_,sv Ab4,slW Aa7 Aah Aa8,Aa3,pt Abk,pt Abm,slW A1_ r.2.1 c1_,slW A2_ r.2.2.1 c2_] 66,H0_,H1_,H2_,bk Abk #[iv r.2.2.2.1] 3,bk Abm #[slW A3_ r.2.2.2.2 c3_,Aea] 25,H3_,bk Ajl #[pt b0] 61,bk Ajm #[iv Ajk] 3])
def Aqt.C (fC:TyB→TyA→ByteArray→TyC→TyC→TyL→Int→TyU→Int→ByteArray→Int→Int→List Tree→Int→Option (TyA×TyC×TyL×Int×TyU)):Prop:=∀ {Aae:TyB} {Aax:TyA} {Ab4 Aar:ByteArray} {Aah Aal:TyC} {Adp:TyL} {Ad2 Aan Aao Aa5 a2:Int} {Ads:TyU} {Aag:List Tree} {b0 Abb Ac3 Aa8 Abp Afn Abk Abm Agm Abx:Nat} {Aay Aaz Aa0 Aa3 Aea:Value} {Afz Adk Afk Adz Ag7 Agp Ae4 G:Aaa} {Aa9 Ac2 Aa7 Abn Afl Agi Abu:TyO} {r:TyA×TyC×TyL×Int×TyU} (h:fC Aae Aax Ab4 Aah Aal Adp Ad2 Ads Aan Aar Aao Aa5 Aag a2=some r) (Afd:RdT e78 3 Afz (slW Aa9 Aae Abb) Aae) (Aeo:Aaf e48 48 4 Adk (slW Ac2 Aax Ac3) Aax) (Aev:RdT encS 1 Afk (slW Aa7 Aah Aa8) Aah) (Aek:Aaf encS 9 1 Adz (slW Abn Aal Abp) Aal) (Ajc:Abf Aju 81 Ag7 (slW Afl Adp Afn) Adp) (Aiw:Abf (Ahx Aht) 41 Agp (slW Agi Ads Agm) Ads) (Ado:RdR (Abt 54) Ae4 (slW Abu Aag Abx) Aag) (hG:GlP G),Ct Tryz.prog 84 #[pt b0,.agg #[iv Aan,sv Aar,iv Aao,iv Aa5,slW Abu Aag Abx],iv a2] [bk b0 #[Aay,Aaz,Aa0,slW Aa9 Aae Abb,slW Ac2 Aax Ac3,sv Ab4,slW Aa7 Aah Aa8,Aa3,pt Abk,pt Abm,slW Abn Aal Abp,slW Afl Adp Afn] 66,Adk,Adz,Ag7,bk Abk #[iv Ad2] 3,bk Abm #[slW Agi Ads Agm,Aea] 25,Agp] [Afz,Afk,Ae4,G] (fun e l1=>∃ (H0_:Aaa) (A0_:TyO) (c0_:Nat) (H1_:Aaa) (A1_:TyO) (c1_:Nat) (H2_:Aaa) (A2_:TyO) (c2_:Nat) (H3_:Aaa) (A3_:TyO) (c3_:Nat),Aaf e48 48 4 H0_ (slW A0_ r.1 c0_) r.1∧Aaf encS 9 1 H1_ (slW A1_ r.2.1 c1_) r.2.1∧Abf Aju 81 H2_ (slW A2_ r.2.2.1 c2_) r.2.2.1∧Abf (Ahx Aht) 41 H3_ (slW A3_ r.2.2.2.2 c3_) r.2.2.2.2∧e=.returned (.tuple #[])∧l1=[bk b0 #[Aay,Aaz,Aa0,slW Aa9 Aae Abb,slW A0_ r.1 c0_,sv Ab4,slW Aa7 Aah Aa8,Aa3,pt Abk,pt Abm,slW A1_ r.2.1 c1_,slW A2_ r.2.2.1 c2_] 66,H0_,H1_,H2_,bk Abk #[iv r.2.2.2.1] 3,bk Abm #[slW A3_ r.2.2.2.2 c3_,Aea] 25,H3_])
def Arw.C (fC:ByteArray→TyC→Int→TyU→Int→ByteArray→Int→Int→List Tree→Option (Int×TyU)):Prop:=∀ {Ab4 Aar:ByteArray} {Aah:TyC} {Ad2 Aan Aao Aa5:Int} {Ads:TyU} {Aag:List Tree} {b0 Aa8 Abk Abm Agm Abx:Nat} {Aay Aaz Aa0 Ah2 Akm Aa3 Amw Acn Aea:Value} {Afk Agp Ae4 G:Aaa} {Aa7 Agi Abu:TyO} {r:Int×TyU} (h:fC Ab4 Aah Ad2 Ads Aan Aar Aao Aa5 Aag=some r) (Aev:RdT encS 1 Afk (slW Aa7 Aah Aa8) Aah) (Aiw:Abf (Ahx Aht) 41 Agp (slW Agi Ads Agm) Ads) (Ado:RdR (Abt 54) Ae4 (slW Abu Aag Abx) Aag) (hG:GlP G),Ct Tryz.prog 87 #[pt b0,.agg #[iv Aan,sv Aar,iv Aao,iv Aa5,slW Abu Aag Abx]] [bk b0 #[Aay,Aaz,Aa0,Ah2,Akm,sv Ab4,slW Aa7 Aah Aa8,Aa3,pt Abk,pt Abm,Amw,Acn] 66,bk Abk #[iv Ad2] 3,bk Abm #[slW Agi Ads Agm,Aea] 25,Agp] [Afk,Ae4,G] (fun e l1=>∃ (H0_:Aaa) (A0_:TyO) (c0_:Nat),Abf (Ahx Aht) 41 H0_ (slW A0_ r.2 c0_) r.2∧e=.returned (.tuple #[])∧l1=[bk b0 #[Aay,Aaz,Aa0,Ah2,Akm,sv Ab4,slW Aa7 Aah Aa8,Aa3,pt Abk,pt Abm,Amw,Acn] 66,bk Abk #[iv r.1] 3,bk Abm #[slW A0_ r.2 c0_,Aea] 25,H0_])
structure GS.Good (R:GS):Prop where
 Ahw:Ahw.C R.Ahw
 Al8:Al8.C R.Al8
 Ahl:Ahl.C R.Ahl
 Aio:Aio.C R.Aio
 Am6:Am6.C R.Am6
 Am9:Am9.C R.Am9
 Al9:Al9.C R.Al9
 Aqt:Aqt.C R.Aqt
 Arw:Arw.C R.Arw
def Ahw.l0:Nat→(Rc:GS)→(Aae:TyB)→(Ab4:ByteArray)→(Aah:TyC)→(Aag:List Tree)→(J23:TyA→TyC→TyL→Int→TyU→Option (TyA×TyC×TyL×Int×TyU))→(x26:Int)→(l27:TyA)→(l32:TyC)→(l37:TyL)→(x42:Int)→(l43:TyU)→Option (TyA×TyC×TyL×Int×TyU)
 | 0,_,_,_,_,_,_,_,_,_,_,_,_=>none
 | m48+1,Rc,Aae,Ab4,Aah,Aag,J23,x26,l27,l32,l37,x42,l43=>cond (decide (x26 < ((Aag.length:Nat):Int))) ((Ack Aag x26).bind fun x50=>(Atd.f m48 Ab4 x50.at_).bind fun r60=>(Adi.f m48 l27 1 ([r60.1])).bind fun r62=>(Rc.Ahl Aae r62.2 Ab4 Aah l32 l37 x42 l43 x50.kind x50.text x50.n x50.at_ x50.kids).bind fun r67=>Ahw.l0 m48 Rc Aae Ab4 Aah Aag J23 (IntKind.i64.wrap (x26+1)) r67.1 r67.2.1 r67.2.2.1 r67.2.2.2.1 r67.2.2.2.2) (J23 l27 l32 l37 x42 l43)
def Ahw.g (Rc:GS) (k:Nat) (Aae:TyB) (Aax:TyA) (Ab4:ByteArray) (Aah:TyC) (Aal:TyC) (Adp:TyL) (Ad2:Int) (Ads:TyU) (Aan:Int) (Aar:ByteArray) (Aao:Int) (Aa5:Int) (Aag:List Tree):Option (TyA×TyC×TyL×Int×TyU):=Adj (fun (l2:TyA) (l7:TyC) (l12:TyL) (x17:Int) (l18:TyU)=>(Aiq l7 0 ((Aal.length:Nat):Int)).bind fun l24=>some (l2,l24,l12,x17,l18)) (fun J23=>Ahw.l0 k Rc Aae Ab4 Aah Aag J23 0 Aax Aal Adp Ad2 Ads)
theorem Ahw.okg {Rc:GS} (hR:Rc.Good) {k:Nat}:Ahw.C (Ahw.g Rc k):=by
 intro Aae Aax Ab4 Aar Aah Aal Adp Ad2 Aan Aao Aa5 Ads Aag b0 Abb Ac3 Aa8 Abp Afn Abk Abm Agm Abx Aay Aaz Aa0 Aa3 Aea Afz Adk Afk Adz Ag7 Agp Ae4 G Aa9 Ac2 Aa7 Abn Afl Agi Abu r h Afd Aeo Aev Aek Ajc Aiw Ado hG
 refine Afi (args:=[pt b0,.agg #[iv Aan,sv Aar,iv Aao,iv Aa5,slW Abu Aag Abx]]) Tryz.func29 rfl (Ac0 rfl) ?_
 intro A X hh_
 obtain ⟨Agn,Af2,Adg,Ad1,_⟩:=hh_
 unfold Ahw.g at h
 refine K.eq (env':=[(0,pt b0),(1,.agg #[iv Aan,sv Aar,iv Aao,iv Aa5,slW Abu Aag Abx])]) (l':=bk b0 #[Aay,Aaz,Aa0,slW Aa9 Aae Abb,slW Ac2 Aax Ac3,sv Ab4,slW Aa7 Aah Aa8,Aa3,pt Abk,pt Abm,slW Abn Aal Abp,slW Afl Adp Afn] 66 :: Adk :: Adz :: Ag7 :: bk Abk #[iv Ad2] 3 :: bk Abm #[slW Agi Ads Agm,Aea] 25 :: Agp :: X) rfl rfl (ksr (knp #[iv Aan,sv Aar,iv Aao,iv Aa5,slW Abu Aag Abx] 54 fun b1=>(Abz (kx 3 (kld 1 10 rfl (kx 2 (knt ?_)))))))
 obtain ⟨J23,Cva,h⟩:=Ags h
 refine Agt (τ:=TyA×TyC×TyL×Int×TyU×Aaa×TyO×Nat×Aaa×TyO×Nat×Aaa×TyO×Nat×Aaa×TyO×Nat) (fun t=>[(0,pt b0),(4,iv ((Aal.length:Nat):Int))]) (fun t=>bk b0 #[Aay,Aaz,Aa0,slW Aa9 Aae Abb,slW t.2.2.2.2.2.2.1 t.1 t.2.2.2.2.2.2.2.1,sv Ab4,slW Aa7 Aah Aa8,Aa3,pt Abk,pt Abm,slW t.2.2.2.2.2.2.2.2.2.1 t.2.1 t.2.2.2.2.2.2.2.2.2.2.1,slW t.2.2.2.2.2.2.2.2.2.2.2.2.1 t.2.2.1 t.2.2.2.2.2.2.2.2.2.2.2.2.2.1] 66 :: bk Abk #[iv t.2.2.2.1] 3 :: bk Abm #[slW t.2.2.2.2.2.2.2.2.2.2.2.2.2.2.2.1 t.2.2.2.2.1 t.2.2.2.2.2.2.2.2.2.2.2.2.2.2.2.2,Aea] 25 :: t.2.2.2.2.2.1 :: t.2.2.2.2.2.2.2.2.1 :: t.2.2.2.2.2.2.2.2.2.2.2.1 :: t.2.2.2.2.2.2.2.2.2.2.2.2.2.2.1 :: X) (fun t=>J23 t.1 t.2.1 t.2.2.1 t.2.2.2.1 t.2.2.2.2.1=some r∧Aaf e48 48 4 t.2.2.2.2.2.1 (slW t.2.2.2.2.2.2.1 t.1 t.2.2.2.2.2.2.2.1) t.1∧Aaf encS 9 1 t.2.2.2.2.2.2.2.2.1 (slW t.2.2.2.2.2.2.2.2.2.1 t.2.1 t.2.2.2.2.2.2.2.2.2.2.1) t.2.1∧Abf Aju 81 t.2.2.2.2.2.2.2.2.2.2.2.1 (slW t.2.2.2.2.2.2.2.2.2.2.2.2.1 t.2.2.1 t.2.2.2.2.2.2.2.2.2.2.2.2.2.1) t.2.2.1∧Abf (Ahx Aht) 41 t.2.2.2.2.2.2.2.2.2.2.2.2.2.2.1 (slW t.2.2.2.2.2.2.2.2.2.2.2.2.2.2.2.1 t.2.2.2.2.1 t.2.2.2.2.2.2.2.2.2.2.2.2.2.2.2.2) t.2.2.2.2.1) ?_ ?_
 ·rintro ⟨l2,l7,l12,x17,l18,h3,A4,k5,h8,A9,k10,h13,A14,k15,h19,A20,k21⟩ ⟨h,o6,o11,o16,o22⟩
  subst Cva
  refine Ab6 (kx 4 (kld 0 10 rfl (kx 1 (bnd h fun l24 Cw1 h=>(Cfm (T:=9) (sz:=1) (k:=.i64) (xs:=l7) ((Aal.length:Nat):Int) Arv rfl (by kernel_rfl) (by kernel_rfl) (by kernel_rfl) (by kernel_rfl) (by kernel_rfl) (by kernel_rfl) Cw1 o11 fun o25=>(kx 2 (kst 10 1 #[Aay,Aaz,Aa0,slW Aa9 Aae Abb,slW A4 l2 k5,sv Ab4,slW Aa7 Aah Aa8,Aa3,pt Abk,pt Abm,slW A9 l24 k10,slW A14 l12 k15] (knl (Afg ?_)))))))))
  obtain rfl:=Aam h
  exact kdv (.tuple #[]) [bk b0 #[Aay,Aaz,Aa0,slW Aa9 Aae Abb,slW A4 l2 k5,sv Ab4,slW Aa7 Aah Aa8,Aa3,pt Abk,pt Abm,slW A9 l24 k10,slW A14 l12 k15] 66,h3,h8,h13,bk Abk #[iv x17] 3,bk Abm #[slW A20 l18 k21,Aea] 25,h19] (K.mv6 (K.mv3 (K.mv3 (K.mv6 (K.mv6 (K.mv6 (K.mv6 (Adq ⟨h3,A4,k5,h8,A9,k10,h13,A14,k15,h19,A20,k21,o6,o25,o16,o22,rfl,rfl⟩))))))))
 ·skip
  refine ksr (kx 1 (kld 0 4 rfl (K.drop (kx 2 (knt (Aez (K.mv6 (K.mv4 (K.mv4 (K.mv4 ?_))))))))))
  refine K.mv6 (K.mv6 (K.mv6 (Akb (τ:=Int×TyA×TyC×TyL×Int×TyU×Aaa×TyO×Nat×Aaa×TyO×Nat×Aaa×TyO×Nat×Aaa×TyO×Nat) (fun t=>[(0,pt b0),(4,iv ((Aal.length:Nat):Int)),(16,slW Abu Aag Abx),(17,iv ((Aag.length:Nat):Int)),(18,iv t.1)]) (fun t=>bk b0 #[Aay,Aaz,Aa0,slW Aa9 Aae Abb,slW t.2.2.2.2.2.2.2.1 t.2.1 t.2.2.2.2.2.2.2.2.1,sv Ab4,slW Aa7 Aah Aa8,Aa3,pt Abk,pt Abm,slW t.2.2.2.2.2.2.2.2.2.2.1 t.2.2.1 t.2.2.2.2.2.2.2.2.2.2.2.1,slW t.2.2.2.2.2.2.2.2.2.2.2.2.2.1 t.2.2.2.1 t.2.2.2.2.2.2.2.2.2.2.2.2.2.2.1] 66 :: bk Abk #[iv t.2.2.2.2.1] 3 :: bk Abm #[slW t.2.2.2.2.2.2.2.2.2.2.2.2.2.2.2.2.1 t.2.2.2.2.2.1 t.2.2.2.2.2.2.2.2.2.2.2.2.2.2.2.2.2,Aea] 25 :: t.2.2.2.2.2.2.1 :: t.2.2.2.2.2.2.2.2.2.1 :: t.2.2.2.2.2.2.2.2.2.2.2.2.1 :: t.2.2.2.2.2.2.2.2.2.2.2.2.2.2.2.1 :: X) (fun m t=>Ahw.l0 m Rc Aae Ab4 Aah Aag J23 t.1 t.2.1 t.2.2.1 t.2.2.2.1 t.2.2.2.2.1 t.2.2.2.2.2.1=some r∧Aaf e48 48 4 t.2.2.2.2.2.2.1 (slW t.2.2.2.2.2.2.2.1 t.2.1 t.2.2.2.2.2.2.2.2.1) t.2.1∧Aaf encS 9 1 t.2.2.2.2.2.2.2.2.2.1 (slW t.2.2.2.2.2.2.2.2.2.2.1 t.2.2.1 t.2.2.2.2.2.2.2.2.2.2.2.1) t.2.2.1∧Abf Aju 81 t.2.2.2.2.2.2.2.2.2.2.2.2.1 (slW t.2.2.2.2.2.2.2.2.2.2.2.2.2.1 t.2.2.2.1 t.2.2.2.2.2.2.2.2.2.2.2.2.2.2.1) t.2.2.2.1∧Abf (Ahx Aht) 41 t.2.2.2.2.2.2.2.2.2.2.2.2.2.2.2.1 (slW t.2.2.2.2.2.2.2.2.2.2.2.2.2.2.2.2.1 t.2.2.2.2.2.1 t.2.2.2.2.2.2.2.2.2.2.2.2.2.2.2.2.2) t.2.2.2.2.2.1) k (0,Aax,Aal,Adp,Ad2,Ads,Adk,Ac2,Ac3,Adz,Abn,Abp,Ag7,Afl,Afn,Agp,Agi,Agm) ⟨h,Aeo,Aek,Ajc,Aiw⟩ sb rfl ?_)))
  clear h
  rintro m48 ⟨x26,l27,l32,l37,x42,l43,h28,A29,k30,h33,A34,k35,h38,A39,k40,h44,A45,k46⟩ ⟨h,o31,o36,o41,o47⟩
  cases m48 with
  | zero=>simp [Ahw.l0] at h
  | succ m48 =>
   simp only [Ahw.l0] at h
   refine ksr (kx 1 (knt (Acx ?_)))
   refine kcn h (fun h=>?_) fun h=>?_
   ·refine Adl (Abi (Acx (Aez (ksr (bnd h fun x50 C2t h=>(Ail (T:=54) (kd:=.i64) (R:=(Abt 54)) rfl C2t Ado fun p51 u54 q55 e52 y53=>?_))))))
    obtain ⟨A56,k57,rfl,o58⟩:=Aig 54 q55
    refine keN rfl e52 (t7 Adg) (knp #[iv 0,sv noS,iv 0,iv 0,nS] 54 fun b59=>(kst 0 5 #[iv x50.kind,sv x50.text,iv x50.n,iv x50.at_,slW A56 x50.kids k57] (knt (Acx (kpr [(0,0),(1,0),(2,0),(3,3),(4,0),(5,3),(6,2),(7,0),(8,0),(9,0),(10,0)] [0,1] (kpx 3 (kpd 1 5 rfl (kpx 1 (kpd 0 3 rfl (C6b ?_))))))))))
    refine bnd h fun r60 A7p h=>(ocv (Atd.ok A7p) trivial (kpx 4 (kpz (kx 3 (Abz (kx 2 (kns #[iv r60.1] 3 1 fun b61=>(K.mv5 (K.mv3 (bnd h fun r62 A7q h=>?_))))))))))
    refine kcl (Adi.ok A7q o31 (Aaf.rd (Aaf.blk 3 (Ai1 .i64) b61 [r60.1] #[iv r60.1] 1 (by kernel_rfl) rfl (by decide)))) rfl ⟨(.head _),trivial⟩ ?_
    rintro _ _ ⟨h63,A64,k65,o66,rfl,rfl⟩
    refine Ach (K.mv2 (K.drop (knr (kx 1 (kla 2 0 5 rfl (K.mv2 (K.drop (K.mv6 (K.mv4 (K.mv4 ?_))))))))))
    refine K.mv6 (K.mv6 (K.mv6 (K.mv6 (bnd h fun r67 A1l h=>(kcl (hR.Ahl A1l Afd o66 Aev o36 o41 o47 o58 hG) rfl ⟨Agn,Af2,Adg,Ad1,trivial⟩ ?_)))))
    rintro _ _ ⟨h68,A69,k70,h72,A73,k74,h76,A77,k78,h80,A81,k82,o71,o75,o79,o83,rfl,rfl⟩
    refine Ajr (knl (Ade (Abi (Ab6 (kx 2 (knt (K.mv6 (K.mv4 (K.mv4 (K.mv4 ?_))))))))))
    exact K.mv6 (K.mv6 (K.mv6 (Ai4 m48 (IntKind.i64.wrap (x26+1),r67.1,r67.2.1,r67.2.2.1,r67.2.2.2.1,r67.2.2.2.2,h68,A69,k70,h72,A73,k74,h76,A77,k78,h80,A81,k82) (Nat.lt_succ_self _) ⟨h,o71,o75,o79,o83⟩ sb rfl)))
   ·exact Aj9 (Agh (Agh (Aka (Abi (Ac1 (l27,l32,l37,x42,l43,h28,A29,k30,h33,A34,k35,h38,A39,k40,h44,A45,k46) ⟨h,o31,o36,o41,o47⟩ sb rfl)))))
def Al8.g (Rc:GS) (k:Nat) (Aae:TyB) (Aax:TyA) (Ab4:ByteArray) (Aah:TyC) (Aal:TyC) (Adp:TyL) (Ad2:Int) (Ads:TyU) (Aan:Int) (Aar:ByteArray) (Aao:Int) (Aa5:Int) (Aag:List Tree):Option (TyA×TyC×TyL×Int×TyU):=(Rc.Ahw Aae Aax Ab4 Aah Aal Adp Ad2 Ads Aan Aar Aao Aa5 Aag).bind fun r2=>(Adi.f k r2.1 22 ([])).bind fun r19=>(Adi.f k r19.2 25 ([])).bind fun r24=>some (r24.2,r2.2.1,r2.2.2.1,r2.2.2.2.1,r2.2.2.2.2)
theorem Al8.okg {Rc:GS} (hR:Rc.Good) {k:Nat}:Al8.C (Al8.g Rc k):=by
 intro Aae Aax Ab4 Aar Aah Aal Adp Ad2 Aan Aao Aa5 Ads Aag b0 Abb Ac3 Aa8 Abp Afn Abk Abm Agm Abx Aay Aaz Aa0 Aa3 Aea Afz Adk Afk Adz Ag7 Agp Ae4 G Aa9 Ac2 Aa7 Abn Afl Agi Abu r h Afd Aeo Aev Aek Ajc Aiw Ado hG
 refine Afi (args:=[pt b0,.agg #[iv Aan,sv Aar,iv Aao,iv Aa5,slW Abu Aag Abx]]) Tryz.func18 rfl (Ac0 rfl) ?_
 intro A X hh_
 obtain ⟨Agn,Af2,Adg,Ad1,_⟩:=hh_
 unfold Al8.g at h
 refine K.eq (env':=[(0,pt b0),(1,.agg #[iv Aan,sv Aar,iv Aao,iv Aa5,slW Abu Aag Abx])]) (l':=bk b0 #[Aay,Aaz,Aa0,slW Aa9 Aae Abb,slW Ac2 Aax Ac3,sv Ab4,slW Aa7 Aah Aa8,Aa3,pt Abk,pt Abm,slW Abn Aal Abp,slW Afl Adp Afn] 66 :: Adk :: Adz :: Ag7 :: bk Abk #[iv Ad2] 3 :: bk Abm #[slW Agi Ads Agm,Aea] 25 :: Agp :: X) rfl rfl (ksr (knp #[iv Aan,sv Aar,iv Aao,iv Aa5,slW Abu Aag Abx] 54 fun b1=>(Abz (kx 1 (kla 0 0 5 rfl (K.drop (K.mv6 (K.mv6 (K.mv6 (K.mv6 ?_))))))))))
 refine K.mv6 (K.mv6 (K.mv6 (bnd h fun r2 hr2 h=>(kcl (hR.Ahw hr2 Afd Aeo Aev Aek Ajc Aiw Ado hG) rfl ⟨Agn,Af2,Adg,Ad1,trivial⟩ ?_))))
 rintro _ _ ⟨h3,A4,k5,h7,A8,k9,h11,A12,k13,h15,A16,k17,o6,o10,o14,o18,rfl,rfl⟩
 refine Ajr (Abz (kx 1 (Ag6 (K.mv2 (K.mv2 (bnd h fun r19 hr19 h=>(kcl (Adi.ok hr19 o6 (RdT.nil (encI .i64) 1 none_)) rfl ⟨(.head _),trivial⟩ ?_)))))))
 rintro _ _ ⟨h20,A21,k22,o23,rfl,rfl⟩
 refine Ach (K.mv2 (K.drop (knr (kx 1 (Ag6 (K.mv2 (K.mv2 (bnd h fun r24 A7f h=>(kcl (Adi.ok A7f o23 (RdT.nil (encI .i64) 1 none_)) rfl ⟨(.head _),trivial⟩ ?_)))))))))
 rintro _ _ ⟨h25,A26,k27,o28,rfl,rfl⟩
 refine Ach (K.mv2 (K.drop (knl (Afg ?_))))
 obtain rfl:=Aam h
 exact kdv (.tuple #[]) [bk b0 #[Aay,Aaz,Aa0,slW Aa9 Aae Abb,slW A26 r24.2 k27,sv Ab4,slW Aa7 Aah Aa8,Aa3,pt Abk,pt Abm,slW A8 r2.2.1 k9,slW A12 r2.2.2.1 k13] 66,h25,h7,h11,bk Abk #[iv r2.2.2.2.1] 3,bk Abm #[slW A16 r2.2.2.2.2 k17,Aea] 25,h15] (Adq ⟨h25,A26,k27,h7,A8,k9,h11,A12,k13,h15,A16,k17,o28,o10,o14,o18,rfl,rfl⟩)
def Ahl.l0:Nat→(Aal:TyC)→(Adp:TyL)→(Ad2:Int)→(Ads:TyU)→(r17:TyC)→(x22:Int)→(l23:TyA)→Option (TyA×TyC×TyL×Int×TyU)
 | 0,_,_,_,_,_,_,_=>none
 | m28+1,Aal,Adp,Ad2,Ads,r17,x22,l23=>cond (decide (x22 > 0)) ((Adi.f m28 l23 7 ([IntKind.i64.wrap (((Aal.length:Nat):Int)+x22)])).bind fun r31=>Ahl.l0 m28 Aal Adp Ad2 Ads r17 (IntKind.i64.wrap (x22 - 1)) r31.2) (some (l23,r17,Adp,Ad2,Ads))
def Ahl.g (Rc:GS) (k:Nat) (Aae:TyB) (Aax:TyA) (Ab4:ByteArray) (Aah:TyC) (Aal:TyC) (Adp:TyL) (Ad2:Int) (Ads:TyU) (Aan:Int) (Aar:ByteArray) (Aao:Int) (Aa5:Int) (Aag:List Tree):Option (TyA×TyC×TyL×Int×TyU):=cond (Aan == 21) ((Aiq Aag Aao ((Aag.length:Nat):Int)).bind fun l4=>(Apw.f k Aae Aax Aah Aal l4 Aao).bind fun r8=>(Aiq Aag 0 Aao).bind fun l13=>(Ap8.f k Aal l13).bind fun r17=>Ahl.l0 k Aal Adp Ad2 Ads r17 Aao r8) (cond (Aan == 22) ((Aiq Aag 0 Aao).bind fun l37=>(Aiq Aag Aao ((Aag.length:Nat):Int)).bind fun l41=>(Am3.f k Aae Aax Aah Aal l37 l41).bind fun r45=>some (r45,Aal,Adp,Ad2,Ads)) (cond (Aan == 23) ((Ack Aag 0).bind fun x51=>(Ako.f k Aae Aax Aah Aal x51.kind x51.text x51.n x51.at_ x51.kids 0).bind fun r60=>some (r60,Aal,Adp,Ad2,Ads)) (cond (Aan == 24) ((Rc.Aio Aae Aax Ab4 Aah Aal Adp Ad2 Ads Aag).bind fun r66=>some (r66.1,r66.2.1,r66.2.2.1,r66.2.2.2.1,r66.2.2.2.2)) (cond (Aan == 25) ((Akp.f k Aax).bind fun r84=>(Ack Aag 0).bind fun x86=>(Ag4.f k Aae Aax Aah Aal x86.kind x86.text x86.n x86.at_ x86.kids).bind fun r95=>(Adi.f k r95 19 ([])).bind fun Boo=>(Adi.f k Boo.2 34 ([])).bind fun Ci5=>(Ack Aag 1).bind fun Bdj=>(Rc.Am6 Aae Ci5.2 Ab4 Aah Aal Adp Ad2 Ads Bdj.kind Bdj.text Bdj.n Bdj.at_ Bdj.kids r84).bind fun Alg=>(Akp.f k Alg.1).bind fun A4s=>(Ack Alg.1 Boo.1).bind fun Au1=>(Akq Alg.1 Boo.1 (Au1.1,A4s,Au1.2.2.1,Au1.2.2.2)).bind fun Bm9=>some (Bm9,Alg.2.1,Alg.2.2.1,Alg.2.2.2.1,Alg.2.2.2.2)) (cond (Aan == 26) ((Aiq Aag 1 (IntKind.i64.wrap (((Aag.length:Nat):Int) - 1))).bind fun Cfu=>(Ah3.f k Aae Aax Aah Aal Cfu).bind fun A2u=>Adj (fun (x159:Int) (Cfv:TyC)=>(Adi.f k A2u 30 ([x159,0,IntKind.i64.wrap ((IntKind.i64.wrap (((Aag.length:Nat):Int) - 1)) - 3)])).bind fun Amt=>(Ack Aag (IntKind.i64.wrap (((Aag.length:Nat):Int) - 1))).bind fun Bdp=>(Rc.Am9 Aae Amt.2 Ab4 Aah Cfv Adp Ad2 Ads Bdp.kind Bdp.text Bdp.n Bdp.at_ Bdp.kids x159 Amt.1).bind fun Ato=>(Akp.f k Ato.1).bind fun Ayp=>(Ack Ato.1 Amt.1).bind fun x200=>(Akq Ato.1 Amt.1 (x200.1,x200.2.1,Ayp,x200.2.2.2)).bind fun A2l=>(A1d.f k Ato.2.1 x159).bind fun B0v=>some (A2l,B0v,Ato.2.2.1,Ato.2.2.2.1,Ato.2.2.2.2)) (fun Bq0=>(Aiq Aag 0 1).bind fun Cfz=>(Azq.f k Aal Cfz).bind fun Bcd=>Bq0 Bcd.1 Bcd.2)) (cond (Aan == 27) ((Rc.Aqt Aae Aax Ab4 Aah Aal Adp Ad2 Ads Aan Aar Aao Aa5 Aag (IntKind.i64.wrap (((Aag.length:Nat):Int) - 1))).bind fun Ayu=>some (Ayu.1,Ayu.2.1,Ayu.2.2.1,Ayu.2.2.2.1,Ayu.2.2.2.2)) (cond (Aan == 28) ((Ack Aag 0).bind fun Bdu=>(Rc.Ahw Aae Aax Ab4 Aah Aal Adp Ad2 Ads Bdu.kind Bdu.text Bdu.n Bdu.at_ Bdu.kids).bind fun Ayw=>some (Ayw.1,Ayw.2.1,Ayw.2.2.1,Ayw.2.2.2.1,Ayw.2.2.2.2)) (cond (Aan == 29) ((Ack Adp (IntKind.i64.wrap (((Adp.length:Nat):Int) - 1))).bind fun Bpv=>(Adi.f k Aax 18 ([])).bind fun Ay0=>(apd 8 Bpv [Ay0.1]).bind fun Bbu=>(Akq Adp (IntKind.i64.wrap (((Adp.length:Nat):Int) - 1)) (Bbu)).bind fun Bnb=>some (Ay0.2,Aal,Bnb,Ad2,Ads)) (cond (Aan == 30) ((Adi.f k Aax 22 ([])).bind fun Cji=>(Amb.f k Aae Cji.2 Aah Aal Aag).bind fun Cjj=>(Adi.f k Cjj 25 ([])).bind fun B02=>some (B02.2,Aal,Adp,Ad2,Ads)) (cond (Aan == 31) ((Adi.f k Aax 11 ([Ad2])).bind fun Cjk=>(Ax4.f k Aah Aar).bind fun Bh7=>(Adi.f k Cjk.2 9 ([Bh7])).bind fun B04=>(Rc.Arw Ab4 Aah Ad2 Ads Aan Aar Aao Aa5 Aag).bind fun Bh8=>some (B04.2,Aal,Adp,Bh8.1,Bh8.2)) (some (Aax,Aal,Adp,Ad2,Ads))))))))))))
theorem Ahl.okg {Rc:GS} (hR:Rc.Good) {k:Nat}:Ahl.C (Ahl.g Rc k):=by
 intro Aae Aax Ab4 Aar Aah Aal Adp Ad2 Aan Aao Aa5 Ads Aag b0 Abb Ac3 Aa8 Abp Afn Abk Abm Agm Abx Aay Aaz Aa0 Aa3 Aea Afz Adk Afk Adz Ag7 Agp Ae4 G Aa9 Ac2 Aa7 Abn Afl Agi Abu r h Afd Aeo Aev Aek Ajc Aiw Ado hG
 refine Afi (args:=[pt b0,.agg #[iv Aan,sv Aar,iv Aao,iv Aa5,slW Abu Aag Abx]]) Tryz.func47 rfl (Ac0 rfl) ?_
 intro A X hh_
 obtain ⟨Agn,Af2,Adg,Ad1,_⟩:=hh_
 unfold Ahl.g at h
 refine K.eq (env':=[(0,pt b0),(1,.agg #[iv Aan,sv Aar,iv Aao,iv Aa5,slW Abu Aag Abx])]) (l':=bk b0 #[Aay,Aaz,Aa0,slW Aa9 Aae Abb,slW Ac2 Aax Ac3,sv Ab4,slW Aa7 Aah Aa8,Aa3,pt Abk,pt Abm,slW Abn Aal Abp,slW Afl Adp Afn] 66 :: Adk :: Adz :: Ag7 :: bk Abk #[iv Ad2] 3 :: bk Abm #[slW Agi Ads Agm,Aea] 25 :: Agp :: X) rfl rfl (ksr (knp #[pt b0] 61 fun b1=>(knp #[iv Aan,sv Aar,iv Aao,iv Aa5,slW Abu Aag Abx] 54 fun b2=>(Abz (kx 1 (kld 0 4 rfl (kx 3 (Abz (kx 1 (kld 0 0 rfl ?_))))))))))
 refine knt (Aez (ksr (kx 2 (knt ?_))))
 refine kcn h (fun h=>?_) fun h=>?_
 ·refine Acx (kpr [(0,3),(1,0),(2,3),(3,0),(4,3),(5,0),(6,0),(7,3)] [0,1] (kpd 1 0 rfl (kpx 1 (kpd 0 4 rfl (kpx 1 (kpd 0 2 rfl (bnd h fun l4 hl4 h=>(Awx (T:=54) (R:=(Abt 54)) (xs:=Aag) Aao ((Aag.length:Nat):Int) rfl (by kernel_rfl) (by kernel_rfl) (by kernel_rfl) (.inr ⟨_,.i64,rfl,(by kernel_rfl)⟩) (.inl ⟨rfl,rfl⟩) (by kernel_rfl) (by kernel_rfl) hl4 Ado fun A5 k6 o7=>(kpx 1 (kpd 0 2 rfl ?_))))))))))
  refine kpz (K.mv3 (K.mv3 (bnd h fun r8 hr8 h=>(kcl (Apw.ok hr8 Afd Aeo Aev (Aaf.rd Aek) o7 hG) rfl ⟨(t7 Agn),(t7 Af2),(.tail _ (.tail _ (.head _))),(t7 Adg),(t7 Ad1),trivial⟩ ?_))))
  rintro _ _ ⟨h9,A10,k11,o12,rfl,rfl⟩
  refine Ach (Abz (kld 3 0 rfl (kx 2 (kld 0 10 rfl (kx 2 (knt (Acx (kpr [(0,3),(1,0),(2,3),(3,0),(4,3),(5,0)] [2,3] (kpd 1 0 rfl (kpx 1 ?_))))))))))
  refine kpd 0 4 rfl (kpx 1 (kpd 0 2 rfl (bnd h fun l13 Bt0 h=>(Awx (T:=54) (R:=(Abt 54)) (xs:=Aag) 0 Aao rfl (by kernel_rfl) (by kernel_rfl) (by kernel_rfl) (.inl ⟨rfl,rfl⟩) (.inr ⟨_,.i64,rfl,(by kernel_rfl)⟩) (by kernel_rfl) (by kernel_rfl) Bt0 Ado fun A14 k15 o16=>(kpz (K.mv4 (K.mv1 (bnd h fun r17 Avv h=>(kcl (Ap8.ok Avv Aek o16) rfl ⟨(t7 Adg),trivial⟩ ?_)))))))))
  rintro _ _ ⟨h18,A19,k20,o21,rfl,rfl⟩
  refine Ach (Abz (kx 1 (kld 3 2 rfl (K.mv3 (K.drop (kx 1 (knt (Aez (K.mv2 (K.mv7 ?_))))))))))
  refine K.mv7 (K.mv7 (K.mv7 (K.mv7 (K.mv7 (K.mv7 (Akb (τ:=Int×TyA×Aaa×TyO×Nat) (fun t=>[(2,pt b1),(5,iv ((Aal.length:Nat):Int)),(6,iv t.1)]) (fun t=>bk b0 #[Aay,Aaz,Aa0,slW Aa9 Aae Abb,slW t.2.2.2.1 t.2.1 t.2.2.2.2,sv Ab4,slW Aa7 Aah Aa8,Aa3,pt Abk,pt Abm,slW A19 r17 k20,slW Afl Adp Afn] 66 :: h18 :: bk b1 #[pt b0] 61 :: Ag7 :: bk Abk #[iv Ad2] 3 :: bk Abm #[slW Agi Ads Agm,Aea] 25 :: Agp :: t.2.2.1 :: X) (fun m t=>Ahl.l0 m Aal Adp Ad2 Ads r17 t.1 t.2.1=some r∧Aaf e48 48 4 t.2.2.1 (slW t.2.2.2.1 t.2.1 t.2.2.2.2) t.2.1) k (Aao,r8,h9,A10,k11) ⟨h,o12⟩ sb rfl ?_))))))
  clear h
  rintro m28 ⟨x22,l23,h24,A25,k26⟩ ⟨h,o27⟩
  cases m28 with
  | zero=>simp [Ahl.l0] at h
  | succ m28 =>
   simp only [Ahl.l0] at h
   refine Acx (ksr (kx 2 (knt ?_)))
   refine kcn h (fun h=>?_) fun h=>?_
   ·refine Adl (Abi (Acx (Aez (Ab6 (kld 2 0 rfl (kx 3 (kns #[iv (IntKind.i64.wrap (((Aal.length:Nat):Int)+x22))] 3 1 fun b30=>(K.mv8 (K.mv2 (bnd h fun r31 Bu7 h=>?_))))))))))
    refine kcl (Adi.ok Bu7 o27 (Aaf.rd (Aaf.blk 3 (Ai1 .i64) b30 [IntKind.i64.wrap (((Aal.length:Nat):Int)+x22)] #[iv (IntKind.i64.wrap (((Aal.length:Nat):Int)+x22))] 1 (by kernel_rfl) rfl (by decide)))) rfl ⟨(.head _),trivial⟩ ?_
    rintro _ _ ⟨h32,A33,k34,o35,rfl,rfl⟩
    refine Ach (K.mv2 (K.drop (knl (Ade (Abi (Ab6 (kx 3 (knt (K.mv1 (K.mv7 ?_))))))))))
    exact K.mv7 (K.mv7 (K.mv7 (K.mv7 (K.mv7 (K.mv7 (Ai4 m28 (IntKind.i64.wrap (x22 - 1),r31.2,h32,A33,k34) (Nat.lt_succ_self _) ⟨h,o35⟩ sb rfl))))))
   ·refine Aj9 (Agh (Agh (Aka (Ade (Afg ?_)))))
    obtain rfl:=Aam h
    exact kdv (.tuple #[]) [bk b0 #[Aay,Aaz,Aa0,slW Aa9 Aae Abb,slW A25 l23 k26,sv Ab4,slW Aa7 Aah Aa8,Aa3,pt Abk,pt Abm,slW A19 r17 k20,slW Afl Adp Afn] 66,h24,h18,Ag7,bk Abk #[iv Ad2] 3,bk Abm #[slW Agi Ads Agm,Aea] 25,Agp] (K.mv2 (K.drop (K.mv5 (K.mv5 (K.mv5 (K.mv5 (K.mv5 (K.mv6 (K.mv6 (Adq ⟨h24,A25,k26,h18,A19,k20,Ag7,Afl,Afn,Agp,Agi,Agm,o27,o21,Ajc,Aiw,rfl,rfl⟩))))))))))
 ·refine ksr (kx 2 (knt ?_))
  refine kcn h (fun h=>?_) fun h=>?_
  ·refine kpr [(0,3),(1,0),(2,3),(3,0),(4,3),(5,0),(6,0),(7,3),(8,0),(9,3),(10,0)] [0,1] (kpd 1 0 rfl (kpx 1 (kpd 0 4 rfl (kpx 1 (kpd 0 2 rfl (bnd h fun l37 Cxe h=>(Awx (T:=54) (R:=(Abt 54)) (xs:=Aag) 0 Aao rfl (by kernel_rfl) (by kernel_rfl) (by kernel_rfl) (.inl ⟨rfl,rfl⟩) (.inr ⟨_,.i64,rfl,(by kernel_rfl)⟩) (by kernel_rfl) (by kernel_rfl) Cxe Ado fun A38 k39 o40=>(kpx 1 (kpd 0 4 rfl (kpx 1 ?_))))))))))
   refine kpd 0 2 rfl (bnd h fun l41 Cxg h=>(Awx (T:=54) (R:=(Abt 54)) (xs:=Aag) Aao ((Aag.length:Nat):Int) rfl (by kernel_rfl) (by kernel_rfl) (by kernel_rfl) (.inr ⟨_,.i64,rfl,(by kernel_rfl)⟩) (.inl ⟨rfl,rfl⟩) (by kernel_rfl) (by kernel_rfl) Cxg Ado fun A42 k43 o44=>(kpz (K.mv3 (K.mv3 (bnd h fun r45 Bvc h=>(kcl (Am3.ok Bvc Afd Aeo Aev (Aaf.rd Aek) o40 o44 hG) rfl ⟨(t7 Agn),(t7 Af2),(.tail _ (.tail _ (.head _))),(t7 Adg),(t7 Adg),(t7 Ad1),trivial⟩ ?_)))))))
   rintro _ _ ⟨h46,A47,k48,o49,rfl,rfl⟩
   refine Ach (K.mv2 (K.drop (K.mv2 (K.drop (knl (Ade (Afg ?_)))))))
   obtain rfl:=Aam h
   exact kdv (.tuple #[]) [bk b0 #[Aay,Aaz,Aa0,slW Aa9 Aae Abb,slW A47 r45 k48,sv Ab4,slW Aa7 Aah Aa8,Aa3,pt Abk,pt Abm,slW Abn Aal Abp,slW Afl Adp Afn] 66,h46,Adz,Ag7,bk Abk #[iv Ad2] 3,bk Abm #[slW Agi Ads Agm,Aea] 25,Agp] (Adq ⟨h46,A47,k48,Adz,Abn,Abp,Ag7,Afl,Afn,Agp,Agi,Agm,o49,Aek,Ajc,Aiw,rfl,rfl⟩)
  ·refine ksr (kx 2 (knt ?_))
   refine kcn h (fun h=>?_) fun h=>?_
   ·refine Arz [(0,3),(1,0),(2,3),(3,0),(4,3)] [bk b2 #[iv Aan,sv Aar,iv Aao,iv Aa5,slW Abu Aag Abx] 54,bk b1 #[pt b0] 61,Ae4] (fun w h_=>⟨h_.sat.on _ (.head _),h_.sat.on _ (.tail _ (.head _)),h_.sat.on _ (t9 Adg),trivial⟩) (kpd 1 0 rfl (kpx 1 (kpd 0 4 rfl (bnd h fun x51 C2u h=>(Ap9 (T:=54) (kd:=.i64) (R:=(Abt 54)) rfl C2u Ado fun p52 u55 q56 e53 y54=>?_)))))
    obtain ⟨A57,k58,rfl,o59⟩:=Aig 54 q56
    refine Aqy rfl e53 (fun w h_=>h_.mem _ (.tail _ (.tail _ (.head _)))) (kpz (K.mv3 (K.mv3 (bnd h fun r60 A7p h=>(kcl (Ako.ok A7p Afd Aeo Aev (Aaf.rd Aek) o59 hG) rfl ⟨(t7 Agn),(t7 Af2),(.tail _ (.tail _ (.head _))),(t7 Adg),(t7 Ad1),trivial⟩ ?_)))))
    rintro _ _ ⟨h61,A62,k63,o64,rfl,rfl⟩
    refine Ach (K.mv2 (K.drop (K.mv2 (K.drop (knl (Ade (Afg ?_)))))))
    obtain rfl:=Aam h
    exact kdv (.tuple #[]) [bk b0 #[Aay,Aaz,Aa0,slW Aa9 Aae Abb,slW A62 r60 k63,sv Ab4,slW Aa7 Aah Aa8,Aa3,pt Abk,pt Abm,slW Abn Aal Abp,slW Afl Adp Afn] 66,h61,Adz,Ag7,bk Abk #[iv Ad2] 3,bk Abm #[slW Agi Ads Agm,Aea] 25,Agp] (Adq ⟨h61,A62,k63,Adz,Abn,Abp,Ag7,Afl,Afn,Agp,Agi,Agm,o64,Aek,Ajc,Aiw,rfl,rfl⟩)
   ·refine ksr (kx 2 (knt ?_))
    refine kcn h (fun h=>?_) fun h=>?_
    ·refine Ab6 (kld 1 0 rfl (K.mv1 (K.drop (kx 1 (kld 0 4 rfl (K.drop (K.mv6 (K.mv6 (K.mv6 (K.mv6 ?_))))))))))
     refine K.mv6 (K.mv6 (K.mv6 (bnd h fun r66 Bvn h=>(kcl (hR.Aio Bvn Afd Aeo Aev Aek Ajc Aiw Ado hG) rfl ⟨Agn,Af2,Adg,Ad1,trivial⟩ ?_))))
     rintro _ _ ⟨h67,A68,k69,h71,A72,k73,h75,A76,k77,h79,A80,k81,o70,o74,o78,o82,rfl,rfl⟩
     refine Ajr (knl (Ade (Afg ?_)))
     obtain rfl:=Aam h
     exact kdv (.tuple #[]) [bk b0 #[Aay,Aaz,Aa0,slW Aa9 Aae Abb,slW A68 r66.1 k69,sv Ab4,slW Aa7 Aah Aa8,Aa3,pt Abk,pt Abm,slW A72 r66.2.1 k73,slW A76 r66.2.2.1 k77] 66,h67,h71,h75,bk Abk #[iv r66.2.2.2.1] 3,bk Abm #[slW A80 r66.2.2.2.2 k81,Aea] 25,h79] (Adq ⟨h67,A68,k69,h71,A72,k73,h75,A76,k77,h79,A80,k81,o70,o74,o78,o82,rfl,rfl⟩)
    ·refine ksr (kx 2 (knt ?_))
     refine kcn h (fun h=>?_) fun h=>?_
     ·refine ksr (kld 1 0 rfl (K.mv2 (bnd h fun r84 Bf6 h=>(kc1 (Akp.ok Bf6 (Aaf.rd Aeo)) rfl ⟨(.tail _ (.tail _ (.head _))),trivial⟩ (knp #[iv 0] 3 fun b85=>(kst 0 1 #[iv r84] (knt (Acx (Arz [(0,3),(1,0),(2,3),(3,0),(4,3)] [bk b2 #[iv Aan,sv Aar,iv Aao,iv Aa5,slW Abu Aag Abx] 54,bk b1 #[pt b0] 61,Ae4] (fun w h_=>⟨h_.sat.on _ (.tail _ (.tail _ (.head _))),h_.sat.on _ (.tail _ (.tail _ (.tail _ (.head _)))),h_.sat.on _ (t10 Adg),trivial⟩) (kpd 1 0 rfl ?_))))))))))
      refine kpx 1 (kpd 0 4 rfl (bnd h fun x86 C23 h=>(Ap9 (T:=54) (kd:=.i64) (R:=(Abt 54)) rfl C23 Ado fun p87 u90 q91 e88 y89=>?_)))
      obtain ⟨A92,k93,rfl,o94⟩:=Aig 54 q91
      refine Aqy rfl e88 (fun w h_=>h_.mem _ (.tail _ (.tail _ (.head _)))) (kpz (K.mv4 (K.mv2 (bnd h fun r95 A1s h=>(kcl (Ag4.ok A1s Afd Aeo Aev (Aaf.rd Aek) o94 hG) rfl ⟨(t8 Agn),(t8 Af2),(.tail _ (.tail _ (.tail _ (.head _)))),(t8 Adg),(t8 Ad1),trivial⟩ ?_)))))
      rintro _ _ ⟨h96,A97,k98,o99,rfl,rfl⟩
      refine Ach (Abz (kld 4 0 rfl (Ag6 (K.mv2 (K.mv2 (bnd h fun Boo Cx2 h=>(kcl (Adi.ok Cx2 o99 (RdT.nil (encI .i64) 1 none_)) rfl ⟨(.head _),trivial⟩ ?_)))))))
      rintro _ _ ⟨Dii,Dgu,Dkp,C76,rfl,rfl⟩
      refine Ach (K.mv2 (K.drop (kx 1 (Abz (kld 4 0 rfl (Ag6 (K.mv2 (K.mv2 (bnd h fun Ci5 Cx4 h=>(kcl (Adi.ok Cx4 C76 (RdT.nil (encI .i64) 1 none_)) rfl ⟨(.head _),trivial⟩ ?_))))))))))
      rintro _ _ ⟨Blv,Cm0,C3m,Byh,rfl,rfl⟩
      refine Ach (K.mv2 (K.drop (knt (Acx (Arz [(0,3),(1,0),(2,3),(3,0),(4,3),(5,0)] [bk b2 #[iv Aan,sv Aar,iv Aao,iv Aa5,slW Abu Aag Abx] 54,bk b1 #[pt b0] 61,Ae4] (fun w h_=>⟨h_.sat.on _ (.tail _ (.tail _ (.tail _ (.head _)))),h_.sat.on _ (.tail _ (.tail _ (.tail _ (.tail _ (.head _))))),h_.sat.on _ (t10 Adg),trivial⟩) (kpd 1 0 rfl (kpx 1 (kpd 0 4 rfl (bnd h fun Bdj C1m h=>(Ap9 (T:=54) (kd:=.i64) (R:=(Abt 54)) rfl C1m Ado fun Dl2 Dmv Dcf Cro y113=>?_))))))))))
      obtain ⟨Dg0,Dkx,rfl,Bym⟩:=Aig 54 Dcf
      refine Aqy rfl Cro (fun w h_=>h_.mem _ (.tail _ (.tail _ (.head _)))) (kpx 1 (kpz (K.mv2 (K.mv4 (K.mv9 (K.mv9 (K.mv9 (K.mv9 (K.mv9 (K.mv8 ?_))))))))))
      refine K.mv8 (bnd h fun Alg Bux h=>(kcl (hR.Am6 Bux Afd Byh Aev Aek Ajc Aiw Bym hG) rfl ⟨(.tail _ Agn),(.tail _ Af2),(.tail _ Adg),(.tail _ Ad1),trivial⟩ ?_))
      rintro _ _ ⟨Dio,Bpz,Bwr,Bs5,Bp1,Bws,h128,Bkg,Bmk,Bs9,Bp7,Bwu,A8s,C8j,Byu,C8p,rfl,rfl⟩
      refine Ajr (K.mv8 (K.drop (K.mv8 (K.drop (knt (kpr [(0,3),(1,0),(2,0),(3,0),(4,3),(5,0),(6,3),(7,1)] [0,7] (kpd 1 0 rfl (kpx 3 (kpd 0 4 rfl (kpx 1 ?_))))))))))
      refine kpd 1 0 rfl (kpt (bnd h fun A4s Buy h=>(oc1 (Akp.ok Buy (Aaf.rd A8s)) rfl ⟨(.head _),trivial⟩ (kan [0,7] rfl (kpz (bnd h fun Au1 Cb3 h=>(Anq (T:=48) (kd:=.i64) Aj5 rfl Cb3 (Aaf.rd A8s) fun Dbf Br5 Dgk=>?_)))))))
      have Br5:Elem _ Dbf [iv Au1.1,iv Au1.2.1,iv Au1.2.2.1,iv Au1.2.2.2]:=Br5
      refine K.mv7 (K.drop (Api (off:=1) rfl Br5 Dgk fun Dbg B7y Dgl=>?_))
      have B7y:Elem _ Dbg [iv Au1.2.1,iv Au1.2.2.1,iv Au1.2.2.2]:=B7y
      refine K.mv1 (bnd h fun Bm9 Cbi h=>(Aye (v:=iv A4s) (off:=1) (x':=(Au1.1,A4s,Au1.2.2.1,Au1.2.2.2)) Aj5 rfl (by kernel_rfl) (by kernel_rfl) (by kernel_rfl) (by kernel_rfl) (by kernel_rfl) Dgl A8s Cb3 (by kernel_rfl) (by kernel_rfl) Cbi fun Bta Byx=>?_))
      have Ctt:=Ar0 Cbi
      refine K.weak (env':=[(109,iv A4s)]) ?_ ⟨gr,trivial⟩
      refine K.eq (l':=Bta :: bk b0 #[Aay,Aaz,Aa0,slW Aa9 Aae Abb,slW Bpz Bm9 Bwr,sv Ab4,slW Aa7 Aah Aa8,Aa3,pt Abk,pt Abm,slW Bp1 Alg.2.1 Bws,slW Bkg Alg.2.2.1 Bmk] 66 :: Bs5 :: h128 :: bk Abk #[iv Alg.2.2.2.1] 3 :: bk Abm #[slW Bp7 Alg.2.2.2.2 Bwu,Aea] 25 :: Bs9 :: X) rfl (by first | rfl | (unfold slW;rw [Ctt];first | done | rfl)) (knl (Ade (Afg ?_)))
      obtain rfl:=Aam h
      exact kdv (.tuple #[]) [bk b0 #[Aay,Aaz,Aa0,slW Aa9 Aae Abb,slW Bpz Bm9 Bwr,sv Ab4,slW Aa7 Aah Aa8,Aa3,pt Abk,pt Abm,slW Bp1 Alg.2.1 Bws,slW Bkg Alg.2.2.1 Bmk] 66,Bta,Bs5,h128,bk Abk #[iv Alg.2.2.2.1] 3,bk Abm #[slW Bp7 Alg.2.2.2.2 Bwu,Aea] 25,Bs9] (K.mv6 (K.mv6 (K.mv6 (K.mv6 (K.mv6 (K.mv5 (K.mv6 (Adq ⟨Bta,Bpz,Bwr,Bs5,Bp1,Bws,h128,Bkg,Bmk,Bs9,Bp7,Bwu,Byx,C8j,Byu,C8p,rfl,rfl⟩))))))))
     ·refine ksr (kx 2 (knt ?_))
      refine kcn h (fun h=>?_) fun h=>?_
      ·refine Acx (kpr [(0,3),(1,0),(2,3),(3,0),(4,0)] [0,1] (kpd 1 0 rfl (kpx 1 (kpd 0 4 rfl (kpx 1 (bnd h fun Cfu Cwp h=>(Awx (T:=54) (R:=(Abt 54)) (xs:=Aag) 1 (IntKind.i64.wrap (((Aag.length:Nat):Int) - 1)) rfl (by kernel_rfl) (by kernel_rfl) (by kernel_rfl) (.inr ⟨_,.i64,rfl,(by kernel_rfl)⟩) (.inr ⟨_,.i64,rfl,(by kernel_rfl)⟩) (by kernel_rfl) (by kernel_rfl) Cwp Ado fun B37 Cc5 Bhp=>(kpz (K.mv3 (K.mv3 ?_))))))))))
       refine bnd h fun A2u Bu2 h=>(kcl (Ah3.ok Bu2 Afd Aeo Aev (Aaf.rd Aek) Bhp hG) rfl ⟨(t7 Agn),(t7 Af2),(.tail _ (.tail _ (.head _))),(t7 Adg),(t7 Ad1),trivial⟩ ?_)
       rintro _ _ ⟨B9v,B4a,Cc6,Byz,rfl,rfl⟩
       refine Ach (knt ?_)
       obtain ⟨Bq0,Cu4,h⟩:=Ags h
       refine Agt (τ:=Int×TyC×Nat×Aaa×TyO×Nat) (fun t=>[(2,pt b1),(3,pt b2),(4,iv (IntKind.i64.wrap (((Aag.length:Nat):Int) - 1))),(9,pt t.2.2.1)]) (fun t=>bk t.2.2.1 #[iv t.1] 3 :: bk b0 #[Aay,Aaz,Aa0,slW Aa9 Aae Abb,slW B4a A2u Cc6,sv Ab4,slW Aa7 Aah Aa8,Aa3,pt Abk,pt Abm,slW t.2.2.2.2.1 t.2.1 t.2.2.2.2.2,slW Afl Adp Afn] 66 :: B9v :: bk b2 #[iv Aan,sv Aar,iv Aao,iv Aa5,slW Abu Aag Abx] 54 :: bk b1 #[pt b0] 61 :: Ag7 :: bk Abk #[iv Ad2] 3 :: bk Abm #[slW Agi Ads Agm,Aea] 25 :: Agp :: t.2.2.2.1 :: X) (fun t=>Bq0 t.1 t.2.1=some r∧Aaf encS 9 1 t.2.2.2.1 (slW t.2.2.2.2.1 t.2.1 t.2.2.2.2.2) t.2.1) ?_ ?_
       ·rintro ⟨x159,Cfv,B6m,Cum,Cnj,C31⟩ ⟨h,By0⟩
        subst Cu4
        refine ksr (kld 4 0 rfl (kld 0 0 rfl (kx 2 (kns #[iv x159,iv 0,iv (IntKind.i64.wrap ((IntKind.i64.wrap (((Aag.length:Nat):Int) - 1)) - 3))] 3 3 fun Co1=>(K.mv3 (K.mv3 (bnd h fun Amt Bu3 h=>(kcl (Adi.ok Bu3 Byz (Aaf.rd (Aaf.blk 3 (Ai1 .i64) Co1 [x159,0,IntKind.i64.wrap ((IntKind.i64.wrap (((Aag.length:Nat):Int) - 1)) - 3)] #[iv x159,iv 0,iv (IntKind.i64.wrap ((IntKind.i64.wrap (((Aag.length:Nat):Int) - 1)) - 3))] 3 (by kernel_rfl) rfl (by decide)))) rfl ⟨(.head _),trivial⟩ ?_))))))))
        rintro _ _ ⟨B9z,B4d,Cdc,Bny,rfl,rfl⟩
        refine Ach (K.mv2 (K.drop (knp #[iv 0] 3 fun Dh6=>(kst 0 1 #[iv Amt.1] (knt (Acx (Arz [(0,3),(1,0),(2,3),(3,0),(4,0),(5,3),(6,0)] [bk b2 #[iv Aan,sv Aar,iv Aao,iv Aa5,slW Abu Aag Abx] 54,bk b1 #[pt b0] 61,Ae4] (fun w h_=>⟨h_.sat.on _ (.tail _ (.tail _ (.tail _ (.tail _ (.head _))))),h_.sat.on _ (.tail _ (.tail _ (.tail _ (.tail _ (.tail _ (.head _)))))),h_.sat.on _ (t11 Adg),trivial⟩) (kpd 1 0 rfl (kpx 1 (kpd 0 4 rfl ?_))))))))))
        refine kpx 1 (bnd h fun Bdp C14 h=>(Ap9 (T:=54) (kd:=.i64) (R:=(Abt 54)) rfl C14 Ado fun Dmi Dm8 Dcu Crx Dnx=>?_))
        obtain ⟨Dhc,Dk8,rfl,C82⟩:=Aig 54 Dcu
        refine Aqy rfl Crx (fun w h_=>h_.mem _ (.tail _ (.tail _ (.head _)))) (kpx 1 (kpz (K.mv3 (K.mv5 (K.mv9 (K.mv9 (K.mv9 (K.mv9 (K.Cgw (K.mv9 ?_))))))))))
        refine K.mv9 (bnd h fun Ato Cy0 h=>(kcl (hR.Am9 Cy0 Afd Bny Aev By0 Ajc Aiw C82 hG) rfl ⟨(.tail _ Agn),(.tail _ Af2),(.tail _ Adg),(.tail _ Ad1),trivial⟩ ?_))
        rintro _ _ ⟨Dix,Bqa,Bwy,Cun,Cno,C34,Btc,Bqb,Bwz,Btd,Bqc,Bw1,By5,C83,C86,C9a,rfl,rfl⟩
        refine Ajr (K.Cgw (K.drop (knt (Acx (kpr [(0,3),(1,0),(2,0),(3,0),(4,3),(5,3),(6,3),(7,1)] [0,7,9] (kpd 1 0 rfl (kpx 3 (kpd 0 4 rfl (kpd 2 0 rfl (kpd 1 0 rfl ?_))))))))))
        refine kpt (bnd h fun Ayp Bu4 h=>(oc1 (Akp.ok Bu4 (Aaf.rd By5)) rfl ⟨(.head _),trivial⟩ (kan [0,7,9] rfl (kpz (bnd h fun x200 Bgb h=>(Anq (T:=48) (kd:=.i64) Aj5 rfl Bgb (Aaf.rd By5) fun Bz0 A6e B3o=>?_))))))
        have A6e:Elem _ Bz0 [iv x200.1,iv x200.2.1,iv x200.2.2.1,iv x200.2.2.2]:=A6e
        refine K.mv9 (K.drop (Api (off:=2) rfl A6e B3o fun Bz1 Bex B3r=>?_))
        have Bex:Elem _ Bz1 [iv x200.2.2.1,iv x200.2.2.2]:=Bex
        refine K.mv1 (bnd h fun A2l Bfj h=>(Aye (v:=iv Ayp) (off:=2) (x':=(x200.1,x200.2.1,Ayp,x200.2.2.2)) Aj5 rfl (by kernel_rfl) (by kernel_rfl) (by kernel_rfl) (by kernel_rfl) (by kernel_rfl) B3r By5 Bgb (by kernel_rfl) (by kernel_rfl) Bfj fun Ba9 Bza=>?_))
        have Be8:=Ar0 Bfj
        refine K.weak (env':=[(2,pt b1),(9,pt B6m),(146,iv Ayp)]) ?_ ⟨gr,gr,gr,trivial⟩
        refine K.eq (l':=Ba9 :: bk b0 #[Aay,Aaz,Aa0,slW Aa9 Aae Abb,slW Bqa A2l Bwy,sv Ab4,slW Aa7 Aah Aa8,Aa3,pt Abk,pt Abm,slW Cno Ato.2.1 C34,slW Bqb Ato.2.2.1 Bwz] 66 :: Cun :: Btc :: bk Abk #[iv Ato.2.2.2.1] 3 :: bk Abm #[slW Bqc Ato.2.2.2.2 Bw1,Aea] 25 :: Btd :: bk b1 #[pt b0] 61 :: bk B6m #[iv x159] 3 :: X) rfl (by first | rfl | (unfold slW;rw [Be8];first | done | rfl)) (knr (kld 7 0 rfl (K.mv7 (K.drop (kld 7 0 rfl (K.mv7 (K.drop (K.mv2 (K.mv2 (bnd h fun B0v Cy2 h=>?_))))))))))
        refine kcl (A1d.ok Cy2 C83) rfl trivial ?_
        rintro _ _ ⟨Cad,B4m,Cdl,C9m,rfl,rfl⟩
        refine Ach (knl (Ade (Afg ?_)))
        obtain rfl:=Aam h
        exact kdv (.tuple #[]) [bk b0 #[Aay,Aaz,Aa0,slW Aa9 Aae Abb,slW Bqa A2l Bwy,sv Ab4,slW Aa7 Aah Aa8,Aa3,pt Abk,pt Abm,slW B4m B0v Cdl,slW Bqb Ato.2.2.1 Bwz] 66,Ba9,Cad,Btc,bk Abk #[iv Ato.2.2.2.1] 3,bk Abm #[slW Bqc Ato.2.2.2.2 Bw1,Aea] 25,Btd] (K.mv6 (K.mv6 (K.mv6 (K.mv6 (K.mv5 (K.mv6 (K.mv6 (Adq ⟨Ba9,Bqa,Bwy,Cad,B4m,Cdl,Btc,Bqb,Bwz,Btd,Bqc,Bw1,Bza,C9m,C86,C9a,rfl,rfl⟩))))))))
       ·skip
        refine C4b [(0,3),(1,0),(2,3),(3,0)] 4 5 6 (fun w=>Amx [bk b2 #[iv Aan,sv Aar,iv Aao,iv Aa5,slW Abu Aag Abx] 54,bk b1 #[pt b0] 61] w) (by kernel_rfl) (by kernel_rfl) (fun _ _ d _ _ h=>by cases d <;> exact h) (fun w h_=>⟨h_.sat.on _ (.tail _ (.tail _ (.head _))),h_.sat.on _ (.tail _ (.tail _ (.tail _ (.head _)))),trivial⟩) ?_
        simp only [Akr,List.filterMap_cons,List.filterMap_nil,List.getElem?_toArray,List.getElem?_cons_zero,List.getElem?_cons_succ,Option.map_some,List.drop_succ_cons,List.drop_zero,Aa4,Acg]
        refine kpd 1 0 rfl (kpx 1 (kpd 0 4 rfl (bnd h fun Cfz Cwx h=>(Awx (T:=54) (R:=(Abt 54)) (xs:=Aag) 0 1 rfl (by kernel_rfl) (by kernel_rfl) (by kernel_rfl) (.inl ⟨rfl,rfl⟩) (.inr ⟨_,.i64,rfl,(by kernel_rfl)⟩) (by kernel_rfl) (by kernel_rfl) Cwx Ado fun Dhm Dli Chw=>(kpz ?_)))))
        refine C4a ?_ ?_
        ·skip
         refine Cfj rfl (by kernel_rfl) (K.mv4 (K.mv1 (bnd h fun Bcd Cy5 h=>(ocl (Azq.ok Cy5 Aek Chw) rfl ⟨(t7 Adg),trivial⟩ ?_))))
         rintro _ _ ⟨Cuy,Cns,C37,C9r,rfl,rfl⟩
         refine Ach (Cfi (.cells #[iv 0] 3 (0,0)) (fun b=>pt b) rfl (fun _ h=>Amx.alloc h) (by kernel_rfl) (by kernel_rfl) (fun _=>by kernel_rfl) fun Co3=>?_)
         simp only [List.drop_succ_cons,List.drop_zero]
         refine kst 0 1 #[iv Bcd.1] (knt (K.mv2 (K.mv9 (K.mv9 (K.mv9 (K.mv9 (K.mv9 (K.mv9 (K.mv9 (K.mv9 ?_))))))))))
         exact K.mv9 (Ac1 (Bcd.1,Bcd.2,Co3,Cuy,Cns,C37) ⟨h,C9r⟩ sb rfl)
        ·skip
         refine Cfi (.cells #[iv 0] 3 (0,0)) (fun b=>pt b) rfl (fun _ h=>Amx.alloc h) (by kernel_rfl) (by kernel_rfl) (fun _=>by kernel_rfl) fun Co5=>(Cfj rfl (by kernel_rfl) (K.mv5 (K.mv2 (bnd h fun B00 Cy6 h=>(ocl (Azq.ok Cy6 Aek Chw) rfl ⟨(t8 Adg),trivial⟩ ?_)))))
         rintro _ _ ⟨Cuz,Cnu,C38,C9t,rfl,rfl⟩
         refine Ach ?_
         simp only [List.drop_succ_cons,List.drop_zero]
         refine K.mv2 (kst 0 1 #[iv B00.1] (knt (K.mv2 (K.mv9 (K.mv9 (K.mv9 (K.mv9 (K.mv9 (K.mv9 (K.mv9 ?_))))))))))
         exact K.mv9 (K.mv9 (Ac1 (B00.1,B00.2,Co5,Cuz,Cnu,C38) ⟨h,C9t⟩ sb rfl))
      ·refine ksr (kx 2 (knt ?_))
       refine kcn h (fun h=>?_) fun h=>?_
       ·refine Ab6 (kld 1 0 rfl (K.mv1 (K.drop (kla 0 0 5 rfl (K.drop (kx 1 (K.mv6 (K.mv6 (K.mv6 (K.mv6 ?_))))))))))
        refine K.mv6 (K.mv6 (K.mv6 (bnd h fun Ayu Cy9 h=>(kcl (hR.Aqt Cy9 Afd Aeo Aev Aek Ajc Aiw Ado hG) rfl ⟨Agn,Af2,Adg,Ad1,trivial⟩ ?_))))
        rintro _ _ ⟨Bfb,Bdz,Bgk,Bfd,Bd2,Bgm,Bfe,Bd4,Bgn,Cag,B4r,Cdn,Bzb,Bzd,Bze,C9w,rfl,rfl⟩
        refine Ajr (knl (Ade (Afg ?_)))
        obtain rfl:=Aam h
        exact kdv (.tuple #[]) [bk b0 #[Aay,Aaz,Aa0,slW Aa9 Aae Abb,slW Bdz Ayu.1 Bgk,sv Ab4,slW Aa7 Aah Aa8,Aa3,pt Abk,pt Abm,slW Bd2 Ayu.2.1 Bgm,slW Bd4 Ayu.2.2.1 Bgn] 66,Bfb,Bfd,Bfe,bk Abk #[iv Ayu.2.2.2.1] 3,bk Abm #[slW B4r Ayu.2.2.2.2 Cdn,Aea] 25,Cag] (Adq ⟨Bfb,Bdz,Bgk,Bfd,Bd2,Bgm,Bfe,Bd4,Bgn,Cag,B4r,Cdn,Bzb,Bzd,Bze,C9w,rfl,rfl⟩)
       ·refine ksr (kx 2 (knt ?_))
        refine kcn h (fun h=>?_) fun h=>?_
        ·refine Arz [(0,3),(1,0),(2,3),(3,0),(4,3)] [bk b2 #[iv Aan,sv Aar,iv Aao,iv Aa5,slW Abu Aag Abx] 54,bk b1 #[pt b0] 61,Ae4] (fun w h_=>⟨h_.sat.on _ (.head _),h_.sat.on _ (.tail _ (.head _)),h_.sat.on _ (t9 Adg),trivial⟩) (kpd 1 0 rfl (kpx 1 (kpd 0 4 rfl (bnd h fun Bdu C2d h=>(Ap9 (T:=54) (kd:=.i64) (R:=(Abt 54)) rfl C2d Ado fun Dmm Dna Dcw Cry Dn2=>?_)))))
         obtain ⟨Dhr,Dlm,rfl,C9y⟩:=Aig 54 Dcw
         refine Aqy rfl Cry (fun w h_=>h_.mem _ (.tail _ (.tail _ (.head _)))) (kpz (K.mv8 (K.mv8 (K.mv8 (K.mv8 (K.mv8 (K.mv8 (K.mv8 (bnd h fun Ayw Czd h=>(kcl (hR.Ahw Czd Afd Aeo Aev Aek Ajc Aiw C9y hG) rfl ⟨(t2 Agn),(t2 Af2),(t2 Adg),(t2 Ad1),trivial⟩ ?_))))))))))
         rintro _ _ ⟨Bte,Bqe,Bw2,Bti,Bqi,Bw4,Btj,Bqj,Bw5,Cai,Bqk,Bw6,Bzi,Bzk,Bzo,Bzq,rfl,rfl⟩
         refine Ajr (K.mv7 (K.drop (K.mv7 (K.drop (knl (Ade (Afg ?_)))))))
         obtain rfl:=Aam h
         exact kdv (.tuple #[]) [bk b0 #[Aay,Aaz,Aa0,slW Aa9 Aae Abb,slW Bqe Ayw.1 Bw2,sv Ab4,slW Aa7 Aah Aa8,Aa3,pt Abk,pt Abm,slW Bqi Ayw.2.1 Bw4,slW Bqj Ayw.2.2.1 Bw5] 66,Bte,Bti,Btj,bk Abk #[iv Ayw.2.2.2.1] 3,bk Abm #[slW Bqk Ayw.2.2.2.2 Bw6,Aea] 25,Cai] (Adq ⟨Bte,Bqe,Bw2,Bti,Bqi,Bw4,Btj,Bqj,Bw5,Cai,Bqk,Bw6,Bzi,Bzk,Bzo,Bzq,rfl,rfl⟩)
        ·refine ksr (kx 2 (knt ?_))
         refine kcn h (fun h=>?_) fun h=>?_
         ·refine ksr (kld 1 0 rfl (K.drop (kx 2 (kld 1 11 rfl (kx 3 (knt (bnd h fun Bpv Bwe h=>(K.mv4 (Bbm (R:=Aju) Ajc (Ayk Bwe).2.2 fun Djb A3z Dig _ _ C90 e284=>?_)))))))))
          obtain ⟨B4t,Cdo,rfl,C93⟩:=C90
          refine Bgv [(0,3),(1,0),(2,0),(3,3),(4,0),(5,3),(6,0),(7,0),(8,3),(9,0),(10,0),(11,3),(12,3),(13,1),(14,1),(15,1)] (fun w=>∃ (v0_:Value),Amx [A3z,bk b1 #[pt b0] 61,bk b0 #[Aay,Aaz,Aa0,slW Aa9 Aae Abb,v0_,sv Ab4,slW Aa7 Aah Aa8,Aa3,pt Abk,pt Abm,slW Abn Aal Abp,slW Afl Adp Afn] 66] w) (by kernel_rfl) (by kernel_rfl) (fun _ _ d _ _ h=>by cases d <;> exact h) (fun w h_=>⟨slW Ac2 Aax Ac3,h_.sat.on _ (.tail _ (.head _)),h_.sat.on _ (.tail _ (.tail _ (.head _))),h_.sat.on _ (.tail _ (.tail _ (.tail _ (.head _)))),trivial⟩) ?_
          simp only [Akr,List.filterMap_cons,List.filterMap_nil,List.getElem?_toArray,List.getElem?_cons_zero,List.getElem?_cons_succ,Option.map_some,List.drop_succ_cons,List.drop_zero,Aa4,Acg]
          refine Bg2 (v:=pt b0) [.val (pt b0)] [.ld ⟨b1,0,none⟩ (pt b0)] (by kernel_rfl) (by kernel_rfl) (by kernel_rfl) (fun _ h_=>h_.elim fun v0_ h_=>⟨[A3z,bk b1 #[pt b0] 61,bk b0 #[Aay,Aaz,Aa0,slW Aa9 Aae Abb,v0_,sv Ab4,slW Aa7 Aah Aa8,Aa3,pt Abk,pt Abm,slW Abn Aal Abp,slW Afl Adp Afn] 66],h_,⟨⟨1,_,_,_,rfl,rfl,rfl⟩,trivial⟩⟩) (kpx 2 (Bg2 (v:=slW Afl Adp Afn) [.val (slW Afl Adp Afn)] [.ld ⟨b0,11,none⟩ (slW Afl Adp Afn)] (by kernel_rfl) (by kernel_rfl) (by kernel_rfl) (fun _ h_=>h_.elim fun v0_ h_=>⟨[A3z,bk b1 #[pt b0] 61,bk b0 #[Aay,Aaz,Aa0,slW Aa9 Aae Abb,v0_,sv Ab4,slW Aa7 Aah Aa8,Aa3,pt Abk,pt Abm,slW Abn Aal Abp,slW Afl Adp Afn] 66],h_,⟨⟨2,_,_,_,rfl,rfl,rfl⟩,trivial⟩⟩) (kpx 1 (Bg2 (v:=pt b0) [.val (pt b0)] [.ld ⟨b1,0,none⟩ (pt b0)] (by kernel_rfl) (by kernel_rfl) (by kernel_rfl) (fun _ h_=>h_.elim fun v0_ h_=>⟨[A3z,bk b1 #[pt b0] 61,bk b0 #[Aay,Aaz,Aa0,slW Aa9 Aae Abb,v0_,sv Ab4,slW Aa7 Aah Aa8,Aa3,pt Abk,pt Abm,slW Abn Aal Abp,slW Afl Adp Afn] 66],h_,⟨⟨1,_,_,_,rfl,rfl,rfl⟩,trivial⟩⟩) (kpx 2 (Bg2 (v:=slW Afl Adp Afn) [.val (slW Afl Adp Afn)] [.ld ⟨b0,11,none⟩ (slW Afl Adp Afn)] (by kernel_rfl) (by kernel_rfl) (by kernel_rfl) (fun _ h_=>h_.elim fun v0_ h_=>⟨[A3z,bk b1 #[pt b0] 61,bk b0 #[Aay,Aaz,Aa0,slW Aa9 Aae Abb,v0_,sv Ab4,slW Aa7 Aah Aa8,Aa3,pt Abk,pt Abm,slW Abn Aal Abp,slW Afl Adp Afn] 66],h_,⟨⟨2,_,_,_,rfl,rfl,rfl⟩,trivial⟩⟩) (kpx 1 (Ap9 (T:=81) (kd:=.i64) (R:=Aju) rfl Bwe (Abf.rd Ajc) fun Dbl _ _ _ Dgp=>?_))))))))
          have e290:Elem A3z Dbl [slW B4t Bpv Cdo]:=Arl.elem e284 Dgp
          refine A2j rfl (by kernel_rfl) (by kernel_rfl) (by kernel_rfl) (by kernel_rfl) e290 (fun w h_=>h_.elim fun v0_ h_=>h_.mem _ (.head _)) (Bg2 (v:=pt b0) [.val (pt b0)] [.ld ⟨b1,0,none⟩ (pt b0)] (by kernel_rfl) (by kernel_rfl) (by kernel_rfl) (fun _ h_=>h_.elim fun v0_ h_=>⟨[A3z,bk b1 #[pt b0] 61,bk b0 #[Aay,Aaz,Aa0,slW Aa9 Aae Abb,v0_,sv Ab4,slW Aa7 Aah Aa8,Aa3,pt Abk,pt Abm,slW Abn Aal Abp,slW Afl Adp Afn] 66],h_,⟨⟨1,_,_,_,rfl,rfl,rfl⟩,trivial⟩⟩) (kpt (Ag6 (K.mv5 (K.mv5 (bnd h fun Ay0 Czg h=>(ocl (Adi.ok Czg Aeo (RdT.nil (encI .i64) 1 none_)) rfl ⟨(.head _),trivial⟩ ?_)))))))
          rintro _ _ ⟨Bbb,A0j,A2f,Bzr,rfl,rfl⟩
          refine Ach (A8f (fun w h_=>⟨slW A0j Ay0.2 A2f,h_.sat.on _ (.tail _ (.tail _ (.tail _ (.tail _ (.head _))))),h_.sat.on _ (.tail _ (.tail _ (.tail _ (.tail _ (.tail _ (.head _)))))),h_.sat.on _ (.head _),trivial⟩) (kpt (ons #[iv Ay0.1] 3 1 fun Dib=>(A8f (fun w h_=>⟨slW A0j Ay0.2 A2f,h_.sat.on _ (.tail _ (.tail _ (.tail _ (.tail _ (.tail _ (.head _)))))),h_.sat.on _ (.tail _ (.tail _ (.tail _ (.tail _ (.tail _ (.tail _ (.head _))))))),h_.sat.on _ (.tail _ (.head _)),trivial⟩) (kpt (K.mv4 (bnd h fun Bbu Cxb h=>(Bzw (ys:=[Ay0.1]) (Ai1 .i64) rfl B8b (by kernel_rfl) (by kernel_rfl) (by kernel_rfl) (by kernel_rfl) Cxb C93 (A93 (n:=1) (Ai1 .i64) [Ay0.1] (by kernel_rfl) rfl (by decide) 1 rfl) fun Djc B4y Cdu Daa=>(A8f (fun w h_=>⟨slW A0j Ay0.2 A2f,h_.sat.on _ (.tail _ (.tail _ (.tail _ (.tail _ (.tail _ (.head _)))))),h_.sat.on _ (.tail _ (.tail _ (.tail _ (.tail _ (.tail _ (.tail _ (.head _))))))),h_.sat.on _ (.tail _ (.tail _ (.head _))),trivial⟩) (kpz ?_))))))))))
          refine Ail (T:=81) (kd:=.i64) (R:=Aju) rfl Bwe (Abf.rd Ajc) fun Dbm _ _ _ Cmy=>?_
          have e304:Elem A3z Dbm [slW B4t Bpv Cdo]:=Arl.elem e284 Cmy
          refine K.mv1 (K.drop (K.mv3 (K.drop (K.mv4 (K.drop (K.mv3 (bnd h fun Bnb Cbm h=>(Bxg (R:=Aju) (v:=slW B4y Bbu Cdu) (x':=(Bbu)) rfl (by kernel_rfl) (by kernel_rfl) (by kernel_rfl) (by kernel_rfl) (by kernel_rfl) Cmy Cbm e284 (Bo2 (x:=(Bbu)) Daa) fun Btk Dad=>?_))))))))
          have B9m:=Ar0 Cbm
          refine K.weak (env':=[(189,slW B4y Bbu Cdu)]) ?_ ⟨(by first | rfl | (unfold slW;rw [B9m];rfl)),trivial⟩
          refine K.eq (l':=Btk :: bk b0 #[Aay,Aaz,Aa0,slW Aa9 Aae Abb,slW A0j Ay0.2 A2f,sv Ab4,slW Aa7 Aah Aa8,Aa3,pt Abk,pt Abm,slW Abn Aal Abp,slW Afl Bnb Afn] 66 :: Bbb :: Adz :: bk Abk #[iv Ad2] 3 :: bk Abm #[slW Agi Ads Agm,Aea] 25 :: Agp :: X) rfl (by first | rfl | (unfold slW;rw [B9m];first | done | rfl)) (knl (Ade (Afg ?_)))
          obtain rfl:=Aam h
          exact kdv (.tuple #[]) [bk b0 #[Aay,Aaz,Aa0,slW Aa9 Aae Abb,slW A0j Ay0.2 A2f,sv Ab4,slW Aa7 Aah Aa8,Aa3,pt Abk,pt Abm,slW Abn Aal Abp,slW Afl Bnb Afn] 66,Bbb,Adz,Btk,bk Abk #[iv Ad2] 3,bk Abm #[slW Agi Ads Agm,Aea] 25,Agp] (K.mv6 (K.mv6 (K.mv6 (K.mv3 (K.mv6 (K.mv6 (K.mv6 (Adq ⟨Bbb,A0j,A2f,Adz,Abn,Abp,Btk,Afl,Afn,Agp,Agi,Agm,Bzr,Aek,Dad,Aiw,rfl,rfl⟩))))))))
         ·refine ksr (kx 2 (knt ?_))
          refine kcn h (fun h=>?_) fun h=>?_
          ·refine ksr (kld 1 0 rfl (Ag6 (K.mv4 (K.mv4 (bnd h fun Cji Czm h=>(kcl (Adi.ok Czm Aeo (RdT.nil (encI .i64) 1 none_)) rfl ⟨(.head _),trivial⟩ ?_))))))
           rintro _ _ ⟨Djd,Dhv,Dlq,Dak,rfl,rfl⟩
           refine Ach (K.mv2 (K.drop (Abz (kld 3 0 rfl (kx 1 (kld 2 4 rfl (K.mv2 (K.drop (K.mv1 (K.mv1 ?_))))))))))
           refine bnd h fun Cjj Czo h=>(kcl (Amb.ok Czo Afd Dak Aev (Aaf.rd Aek) Ado hG) rfl ⟨(t6 Agn),(t6 Af2),(.tail _ (.head _)),(t6 Adg),(t6 Ad1),trivial⟩ ?_)
           rintro _ _ ⟨Djh,Dhx,Dlr,Dam,rfl,rfl⟩
           refine Ach (knr (kld 2 0 rfl (K.mv2 (K.drop (Ag6 (K.mv2 (K.mv2 (bnd h fun B02 Czr h=>(kcl (Adi.ok Czr Dam (RdT.nil (encI .i64) 1 none_)) rfl ⟨(.head _),trivial⟩ ?_)))))))))
           rintro _ _ ⟨Cay,B45,Cd1,Dap,rfl,rfl⟩
           refine Ach (K.mv2 (K.drop (knl (Ade (Afg ?_)))))
           obtain rfl:=Aam h
           exact kdv (.tuple #[]) [bk b0 #[Aay,Aaz,Aa0,slW Aa9 Aae Abb,slW B45 B02.2 Cd1,sv Ab4,slW Aa7 Aah Aa8,Aa3,pt Abk,pt Abm,slW Abn Aal Abp,slW Afl Adp Afn] 66,Cay,Adz,Ag7,bk Abk #[iv Ad2] 3,bk Abm #[slW Agi Ads Agm,Aea] 25,Agp] (Adq ⟨Cay,B45,Cd1,Adz,Abn,Abp,Ag7,Afl,Afn,Agp,Agi,Agm,Dap,Aek,Ajc,Aiw,rfl,rfl⟩)
          ·refine ksr (kx 2 (knt ?_))
           refine kcn h (fun h=>?_) fun h=>?_
           ·refine Acx (kpr [(0,3),(1,3),(2,0),(3,0),(4,3),(5,0),(6,3),(7,1)] [1,2,6] (kpd 0 0 rfl (kpd 0 0 rfl (kpx 2 (kpd 1 8 rfl (kpx 1 (kpd 2 0 rfl (kpt (ons #[iv Ad2] 3 1 fun Co7=>(kan [2,3,7] rfl ?_))))))))))
            refine kpz (K.mv4 (K.mv4 (bnd h fun Cjk Czw h=>(kcl (Adi.ok Czw Aeo (Aaf.rd (Aaf.blk 3 (Ai1 .i64) Co7 [Ad2] #[iv Ad2] 1 (by kernel_rfl) rfl (by decide)))) rfl ⟨(.head _),trivial⟩ ?_))))
            rintro _ _ ⟨Djm,Dhy,Dlt,Dau,rfl,rfl⟩
            refine Ach (K.mv2 (K.drop (knt (Acx (kpr [(0,3),(1,3),(2,0),(3,3),(4,1),(5,1)] [2,3] (kpd 1 0 rfl (kpd 1 0 rfl (kpx 1 (kpd 0 1 rfl (kpt ?_))))))))))
            refine bnd h fun Bh7 Czy h=>(oc1 (Ax4.ok Czy Aev) rfl ⟨(t8 Af2),trivial⟩ (kan [2,3] rfl (kpt (ons #[iv Bh7] 3 1 fun Cpa=>(kan [3,4] rfl (kpz (K.mv2 (K.mv2 (bnd h fun B04 Czz h=>(kcl (Adi.ok Czz Dau (Aaf.rd (Aaf.blk 3 (Ai1 .i64) Cpa [Bh7] #[iv Bh7] 1 (by kernel_rfl) rfl (by decide)))) rfl ⟨(.head _),trivial⟩ ?_))))))))))
            rintro _ _ ⟨Ca1,B5b,Cd4,Dav,rfl,rfl⟩
            refine Ach (K.mv2 (K.drop (knr (kld 3 0 rfl (K.mv3 (K.drop (kla 2 0 5 rfl (K.mv2 (K.drop (K.mv6 ?_))))))))))
            refine K.mv6 (K.mv6 (K.mv3 (bnd h fun Bh8 Cz3 h=>(kcl (hR.Arw Cz3 Aev Aiw Ado hG) rfl ⟨(t3 Af2),(t3 Adg),(t3 Ad1),trivial⟩ ?_))))
            rintro _ _ ⟨Ca3,B5c,Cd6,Daw,rfl,rfl⟩
            refine Bye (knl (Ade (Afg ?_)))
            obtain rfl:=Aam h
            exact kdv (.tuple #[]) [bk b0 #[Aay,Aaz,Aa0,slW Aa9 Aae Abb,slW B5b B04.2 Cd4,sv Ab4,slW Aa7 Aah Aa8,Aa3,pt Abk,pt Abm,slW Abn Aal Abp,slW Afl Adp Afn] 66,Ca1,Adz,Ag7,bk Abk #[iv Bh8.1] 3,bk Abm #[slW B5c Bh8.2 Cd6,Aea] 25,Ca3] (K.mv3 (K.mv3 (K.mv3 (K.mv6 (K.mv6 (K.mv6 (K.mv6 (Adq ⟨Ca1,B5b,Cd4,Adz,Abn,Abp,Ag7,Afl,Afn,Ca3,B5c,Cd6,Dav,Aek,Ajc,Daw,rfl,rfl⟩))))))))
           ·refine Adl (Ade (Afg ?_))
            obtain rfl:=Aam h
            exact kdv (.tuple #[]) [bk b0 #[Aay,Aaz,Aa0,slW Aa9 Aae Abb,slW Ac2 Aax Ac3,sv Ab4,slW Aa7 Aah Aa8,Aa3,pt Abk,pt Abm,slW Abn Aal Abp,slW Afl Adp Afn] 66,Adk,Adz,Ag7,bk Abk #[iv Ad2] 3,bk Abm #[slW Agi Ads Agm,Aea] 25,Agp] (K.drop (K.drop (Adq ⟨Adk,Ac2,Ac3,Adz,Abn,Abp,Ag7,Afl,Afn,Agp,Agi,Agm,Aeo,Aek,Ajc,Aiw,rfl,rfl⟩)))
def Aio.l1:Nat→(Rc:GS)→(Aae:TyB)→(Ab4:ByteArray)→(Aah:TyC)→(J32:(List Tree)→(List Int)→TyA→TyC→TyL→Int→TyU→Option (TyA×TyC×TyL×Int×TyU))→(Ayi:List Tree)→(A8j:List Int)→(Bg7:TyA)→(Bbs:TyC)→(Bg8:TyL)→(Bj5:Int)→(Bha:TyU)→Option (TyA×TyC×TyL×Int×TyU)
 | 0,_,_,_,_,_,_,_,_,_,_,_,_=>none
 | A2m+1,Rc,Aae,Ab4,Aah,J32,Ayi,A8j,Bg7,Bbs,Bg8,Bj5,Bha=>cond (decide (((Ayi.length:Nat):Int) > 1)) ((Ack Ayi 0).bind fun Bdn=>(Ag4.f A2m Aae Bg7 Aah Bbs Bdn.kind Bdn.text Bdn.n Bdn.at_ Bdn.kids).bind fun Cje=>(Adi.f A2m Cje 19 ([])).bind fun A2u=>(Ack Ayi 1).bind fun x158=>(Rc.Ahw Aae A2u.2 Ab4 Aah Bbs Bg8 Bj5 Bha x158.kind x158.text x158.n x158.at_ x158.kids).bind fun Amt=>(Aiq Ayi 2 ((Ayi.length:Nat):Int)).bind fun Bbt=>Adj (fun (Bna:List Int) (A8l:TyA)=>(Akp.f A2m A8l).bind fun Ayp=>(Ack A8l A2u.1).bind fun x200=>(Akq A8l A2u.1 (x200.1,Ayp,x200.2.2.1,x200.2.2.2)).bind fun A2l=>Aio.l1 A2m Rc Aae Ab4 Aah J32 Bbt Bna A2l Amt.2.1 Amt.2.2.1 Amt.2.2.2.1 Amt.2.2.2.2) (fun Bkp=>cond (decide (((Bbt.length:Nat):Int) > 0)) ((Adi.f A2m Amt.1 18 ([])).bind fun A9m=>(apd 8 A8j [A9m.1]).bind fun Bxo=>Bkp Bxo A9m.2) (Bkp A8j Amt.1))) (J32 Ayi A8j Bg7 Bbs Bg8 Bj5 Bha)
def Aio.l0:Nat→(l6:List Int)→(l38:TyC)→(l43:TyL)→(x48:Int)→(l49:TyU)→(x55:Int)→(l56:TyA)→Option (TyA×TyC×TyL×Int×TyU)
 | 0,_,_,_,_,_,_,_=>none
 | m61+1,l6,l38,l43,x48,l49,x55,l56=>cond (decide (x55 < ((l6.length:Nat):Int))) ((Ack l6 x55).bind fun x63=>(Akp.f m61 l56).bind fun r67=>(Ack l56 x63).bind fun x68=>(Akq l56 x63 (x68.1,r67,x68.2.2.1,x68.2.2.2)).bind fun l75=>Aio.l0 m61 l6 l38 l43 x48 l49 (IntKind.i64.wrap (x55+1)) l75) (some (l56,l38,l43,x48,l49))
def Aio.g (Rc:GS) (k:Nat) (Aae:TyB) (Aax:TyA) (Ab4:ByteArray) (Aah:TyC) (Aal:TyC) (Adp:TyL) (Ad2:Int) (Ads:TyU) (a1:List Tree):Option (TyA×TyC×TyL×Int×TyU):=Adj (fun (l1:List Tree) (l6:List Int) (l11:TyA) (l16:TyC) (l21:TyL) (x26:Int) (l27:TyU)=>Adj (fun (l33:TyA) (l38:TyC) (l43:TyL) (x48:Int) (l49:TyU)=>Aio.l0 k l6 l38 l43 x48 l49 0 l33) (fun J54=>cond (decide (((l1.length:Nat):Int) > 0)) ((Ack l1 0).bind fun x80=>(Rc.Ahw Aae l11 Ab4 Aah l16 l21 x26 l27 x80.kind x80.text x80.n x80.at_ x80.kids).bind fun r89=>J54 r89.1 r89.2.1 r89.2.2.1 r89.2.2.2.1 r89.2.2.2.2) (J54 l11 l16 l21 x26 l27))) (fun J32=>Aio.l1 k Rc Aae Ab4 Aah J32 a1 ([]) Aax Aal Adp Ad2 Ads)
theorem Aio.okg {Rc:GS} (hR:Rc.Good) {k:Nat}:Aio.C (Aio.g Rc k):=by
 intro Aae Aax Ab4 Aah Aal Adp Ad2 Ads a1 b0 Abb Ac3 Aa8 Abp Afn Abk Abm Agm Ae6 Aay Aaz Aa0 Aa3 Aea Afz Adk Afk Adz Ag7 Agp Ahz G Aa9 Ac2 Aa7 Abn Afl Agi Ae2 r h Afd Aeo Aev Aek Ajc Aiw Ajh hG
 refine Afi (args:=[pt b0,slW Ae2 a1 Ae6]) Tryz.func75 rfl (Ac0 rfl) ?_
 intro A X hh_
 obtain ⟨Agn,Af2,Ah4,Ad1,_⟩:=hh_
 unfold Aio.g at h
 refine K.eq (env':=[(0,pt b0),(1,slW Ae2 a1 Ae6)]) (l':=bk b0 #[Aay,Aaz,Aa0,slW Aa9 Aae Abb,slW Ac2 Aax Ac3,sv Ab4,slW Aa7 Aah Aa8,Aa3,pt Abk,pt Abm,slW Abn Aal Abp,slW Afl Adp Afn] 66 :: Adk :: Adz :: Ag7 :: bk Abk #[iv Ad2] 3 :: bk Abm #[slW Agi Ads Agm,Aea] 25 :: Agp :: X) rfl rfl (ksr (kx 1 (knt ?_)))
 obtain ⟨J32,Cvl,h⟩:=Ags h
 refine Agt (τ:=(List Tree)×(List Int)×TyA×TyC×TyL×Int×TyU×TyO×Nat×Aaa×TyO×Nat×Aaa×TyO×Nat×Aaa×TyO×Nat×Aaa×TyO×Nat×Aaa×TyO×Nat) (fun t=>[(0,pt b0),(1,slW t.2.2.2.2.2.2.2.1 t.1 t.2.2.2.2.2.2.2.2.1),(4,slW t.2.2.2.2.2.2.2.2.2.2.1 t.2.1 t.2.2.2.2.2.2.2.2.2.2.2.1)]) (fun t=>bk b0 #[Aay,Aaz,Aa0,slW Aa9 Aae Abb,slW t.2.2.2.2.2.2.2.2.2.2.2.2.2.1 t.2.2.1 t.2.2.2.2.2.2.2.2.2.2.2.2.2.2.1,sv Ab4,slW Aa7 Aah Aa8,Aa3,pt Abk,pt Abm,slW t.2.2.2.2.2.2.2.2.2.2.2.2.2.2.2.2.1 t.2.2.2.1 t.2.2.2.2.2.2.2.2.2.2.2.2.2.2.2.2.2.1,slW t.2.2.2.2.2.2.2.2.2.2.2.2.2.2.2.2.2.2.2.1 t.2.2.2.2.1 t.2.2.2.2.2.2.2.2.2.2.2.2.2.2.2.2.2.2.2.2.1] 66 :: bk Abk #[iv t.2.2.2.2.2.1] 3 :: bk Abm #[slW t.2.2.2.2.2.2.2.2.2.2.2.2.2.2.2.2.2.2.2.2.2.2.1 t.2.2.2.2.2.2.1 t.2.2.2.2.2.2.2.2.2.2.2.2.2.2.2.2.2.2.2.2.2.2.2,Aea] 25 :: t.2.2.2.2.2.2.2.2.2.1 :: t.2.2.2.2.2.2.2.2.2.2.2.2.1 :: t.2.2.2.2.2.2.2.2.2.2.2.2.2.2.2.1 :: t.2.2.2.2.2.2.2.2.2.2.2.2.2.2.2.2.2.2.1 :: t.2.2.2.2.2.2.2.2.2.2.2.2.2.2.2.2.2.2.2.2.2.1 :: X) (fun t=>J32 t.1 t.2.1 t.2.2.1 t.2.2.2.1 t.2.2.2.2.1 t.2.2.2.2.2.1 t.2.2.2.2.2.2.1=some r∧RdR (Abt 54) Ahz (slW t.2.2.2.2.2.2.2.1 t.1 t.2.2.2.2.2.2.2.2.1) t.1∧Aaf (encI .i64) 3 1 t.2.2.2.2.2.2.2.2.2.1 (slW t.2.2.2.2.2.2.2.2.2.2.1 t.2.1 t.2.2.2.2.2.2.2.2.2.2.2.1) t.2.1∧Aaf e48 48 4 t.2.2.2.2.2.2.2.2.2.2.2.2.1 (slW t.2.2.2.2.2.2.2.2.2.2.2.2.2.1 t.2.2.1 t.2.2.2.2.2.2.2.2.2.2.2.2.2.2.1) t.2.2.1∧Aaf encS 9 1 t.2.2.2.2.2.2.2.2.2.2.2.2.2.2.2.1 (slW t.2.2.2.2.2.2.2.2.2.2.2.2.2.2.2.2.1 t.2.2.2.1 t.2.2.2.2.2.2.2.2.2.2.2.2.2.2.2.2.2.1) t.2.2.2.1∧Abf Aju 81 t.2.2.2.2.2.2.2.2.2.2.2.2.2.2.2.2.2.2.1 (slW t.2.2.2.2.2.2.2.2.2.2.2.2.2.2.2.2.2.2.2.1 t.2.2.2.2.1 t.2.2.2.2.2.2.2.2.2.2.2.2.2.2.2.2.2.2.2.2.1) t.2.2.2.2.1∧Abf (Ahx Aht) 41 t.2.2.2.2.2.2.2.2.2.2.2.2.2.2.2.2.2.2.2.2.2.1 (slW t.2.2.2.2.2.2.2.2.2.2.2.2.2.2.2.2.2.2.2.2.2.2.1 t.2.2.2.2.2.2.1 t.2.2.2.2.2.2.2.2.2.2.2.2.2.2.2.2.2.2.2.2.2.2.2) t.2.2.2.2.2.2.1) ?_ ?_
 ·rintro ⟨l1,l6,l11,l16,l21,x26,l27,A3,k4,h7,A8,k9,h12,A13,k14,h17,A18,k19,h22,A23,k24,h28,A29,k30⟩ ⟨h,o5,o10,o15,o20,o25,o31⟩
  subst Cvl
  obtain ⟨J54,Cvp,h⟩:=Ags h
  refine Agt (τ:=TyA×TyC×TyL×Int×TyU×Aaa×TyO×Nat×Aaa×TyO×Nat×Aaa×TyO×Nat×Aaa×TyO×Nat) (fun t=>[(0,pt b0),(4,slW A8 l6 k9)]) (fun t=>bk b0 #[Aay,Aaz,Aa0,slW Aa9 Aae Abb,slW t.2.2.2.2.2.2.1 t.1 t.2.2.2.2.2.2.2.1,sv Ab4,slW Aa7 Aah Aa8,Aa3,pt Abk,pt Abm,slW t.2.2.2.2.2.2.2.2.2.1 t.2.1 t.2.2.2.2.2.2.2.2.2.2.1,slW t.2.2.2.2.2.2.2.2.2.2.2.2.1 t.2.2.1 t.2.2.2.2.2.2.2.2.2.2.2.2.2.1] 66 :: bk Abk #[iv t.2.2.2.1] 3 :: bk Abm #[slW t.2.2.2.2.2.2.2.2.2.2.2.2.2.2.2.1 t.2.2.2.2.1 t.2.2.2.2.2.2.2.2.2.2.2.2.2.2.2.2,Aea] 25 :: h7 :: t.2.2.2.2.2.1 :: t.2.2.2.2.2.2.2.2.1 :: t.2.2.2.2.2.2.2.2.2.2.2.1 :: t.2.2.2.2.2.2.2.2.2.2.2.2.2.2.1 :: X) (fun t=>J54 t.1 t.2.1 t.2.2.1 t.2.2.2.1 t.2.2.2.2.1=some r∧Aaf e48 48 4 t.2.2.2.2.2.1 (slW t.2.2.2.2.2.2.1 t.1 t.2.2.2.2.2.2.2.1) t.1∧Aaf encS 9 1 t.2.2.2.2.2.2.2.2.1 (slW t.2.2.2.2.2.2.2.2.2.1 t.2.1 t.2.2.2.2.2.2.2.2.2.2.1) t.2.1∧Abf Aju 81 t.2.2.2.2.2.2.2.2.2.2.2.1 (slW t.2.2.2.2.2.2.2.2.2.2.2.2.1 t.2.2.1 t.2.2.2.2.2.2.2.2.2.2.2.2.2.1) t.2.2.1∧Abf (Ahx Aht) 41 t.2.2.2.2.2.2.2.2.2.2.2.2.2.2.1 (slW t.2.2.2.2.2.2.2.2.2.2.2.2.2.2.2.1 t.2.2.2.2.1 t.2.2.2.2.2.2.2.2.2.2.2.2.2.2.2.2) t.2.2.2.2.1) ?_ ?_
  ·rintro ⟨l33,l38,l43,x48,l49,h34,A35,k36,h39,A40,k41,h44,A45,k46,h50,A51,k52⟩ ⟨h,o37,o42,o47,o53⟩
   subst Cvp
   refine ksr (kx 3 (knt (Aez (K.mv4 (K.mv7 (K.mv7 (K.mv7 (K.mv7 (K.mv7 (K.mv7 ?_))))))))))
   refine K.mv7 (Akb (τ:=Int×TyA×Aaa×TyO×Nat) (fun t=>[(0,pt b0),(51,slW A8 l6 k9),(52,iv ((l6.length:Nat):Int)),(53,iv t.1)]) (fun t=>bk b0 #[Aay,Aaz,Aa0,slW Aa9 Aae Abb,slW t.2.2.2.1 t.2.1 t.2.2.2.2,sv Ab4,slW Aa7 Aah Aa8,Aa3,pt Abk,pt Abm,slW A40 l38 k41,slW A45 l43 k46] 66 :: bk Abk #[iv x48] 3 :: bk Abm #[slW A51 l49 k52,Aea] 25 :: h7 :: h39 :: h44 :: h50 :: t.2.2.1 :: X) (fun m t=>Aio.l0 m l6 l38 l43 x48 l49 t.1 t.2.1=some r∧Aaf e48 48 4 t.2.2.1 (slW t.2.2.2.1 t.2.1 t.2.2.2.2) t.2.1) k (0,l33,h34,A35,k36) ⟨h,o37⟩ sb rfl ?_)
   clear h
   rintro m61 ⟨x55,l56,h57,A58,k59⟩ ⟨h,o60⟩
   cases m61 with
   | zero=>simp [Aio.l0] at h
   | succ m61 =>
    simp only [Aio.l0] at h
    refine ksr (kx 1 (knt (Acx ?_)))
    refine kcn h (fun h=>?_) fun h=>?_
    ·refine Adl (Abi (Acx (Aez (ksr (bnd h fun x63 Awu h=>(Anq (T:=3) (kd:=.i64) (Ai1 .i64) rfl Awu (Aaf.rd o10) fun p64 e65 y66=>?_))))))
     have e65:Elem _ p64 [iv x63]:=e65
     refine Aqx rfl (by kernel_rfl) (by kernel_rfl) (by kernel_rfl) (by kernel_rfl) e65 (.tail _ (.tail _ (.tail _ (.head _)))) (kx 1 (knt (kpr [(0,0),(1,0),(2,0),(3,0),(4,3),(5,0),(6,0),(7,1)] [0] (kpx 4 (kpd 0 4 rfl (kpx 2 (kpt (bnd h fun r67 A1l h=>(oc1 (Akp.ok A1l (Aaf.rd o60)) rfl ⟨(.tail _ (.tail _ (.tail _ (.tail _ (.tail _ (.tail _ (.head _))))))),trivial⟩ (kan [0] rfl ?_))))))))))
     refine kpz (bnd h fun x68 Cb8 h=>(Anq (T:=48) (kd:=.i64) Aj5 rfl Cb8 (Aaf.rd o60) fun p69 e70 y71=>?_))
     have e70:Elem _ p69 [iv x68.1,iv x68.2.1,iv x68.2.2.1,iv x68.2.2.2]:=e70
     refine Api (off:=1) rfl e70 y71 fun p72 e73 y74=>?_
     have e73:Elem _ p72 [iv x68.2.1,iv x68.2.2.1,iv x68.2.2.2]:=e73
     refine K.mv7 (bnd h fun l75 Bl7 h=>(Aye (v:=iv r67) (off:=1) (x':=(x68.1,r67,x68.2.2.1,x68.2.2.2)) Aj5 rfl (by kernel_rfl) (by kernel_rfl) (by kernel_rfl) (by kernel_rfl) (by kernel_rfl) y74 o60 Cb8 (by kernel_rfl) (by kernel_rfl) Bl7 fun h76 o77=>?_))
     have g78:=Ar0 Bl7
     refine K.weak (env':=[(0,pt b0),(51,slW A8 l6 k9),(52,iv ((l6.length:Nat):Int)),(53,iv x55),(64,iv r67)]) ?_ ⟨gr,(by first | rfl | (unfold slW;rw [g78];rfl)),gr,gr,gr,trivial⟩
     refine K.eq (l':=h76 :: bk b0 #[Aay,Aaz,Aa0,slW Aa9 Aae Abb,slW A58 l75 k59,sv Ab4,slW Aa7 Aah Aa8,Aa3,pt Abk,pt Abm,slW A40 l38 k41,slW A45 l43 k46] 66 :: bk Abk #[iv x48] 3 :: bk Abm #[slW A51 l49 k52,Aea] 25 :: h7 :: h39 :: h44 :: h50 :: X) rfl (by first | rfl | (unfold slW;rw [g78];first | done | rfl)) (knl (Ade (Abi (Ab6 (kx 2 (knt (K.mv7 (K.mv7 (K.mv7 (K.mv7 ?_))))))))))
     exact K.mv7 (K.mv7 (K.mv7 (Ai4 m61 (IntKind.i64.wrap (x55+1),l75,h76,A58,k59) (Nat.lt_succ_self _) ⟨h,o77⟩ sb rfl)))
    ·refine Aj9 (Agh (Agh (Aka (Afg ?_))))
     obtain rfl:=Aam h
     exact kdv (.tuple #[]) [bk b0 #[Aay,Aaz,Aa0,slW Aa9 Aae Abb,slW A58 l56 k59,sv Ab4,slW Aa7 Aah Aa8,Aa3,pt Abk,pt Abm,slW A40 l38 k41,slW A45 l43 k46] 66,h57,h39,h44,bk Abk #[iv x48] 3,bk Abm #[slW A51 l49 k52,Aea] 25,h50] (K.mv3 (K.drop (K.mv5 (K.mv3 (K.mv3 (K.mv5 (K.mv5 (K.mv6 (K.mv6 (Adq ⟨h57,A58,k59,h39,A40,k41,h44,A45,k46,h50,A51,k52,o60,o42,o47,o53,rfl,rfl⟩))))))))))
  ·skip
   refine ksr (kx 3 (knt ?_))
   refine kcn h (fun h=>?_) fun h=>?_
   ·refine Ab6 (kx 2 (bnd h fun x80 Bwd h=>(Ail (T:=54) (kd:=.i64) (R:=(Abt 54)) rfl Bwd o5 fun p81 u84 q85 e82 y83=>?_)))
    obtain ⟨A86,k87,rfl,o88⟩:=Aig 54 q85
    refine keN rfl e82 (t8 Ah4) (K.mv7 (K.mv3 (K.mv3 (K.mv7 (K.mv7 (K.mv7 (K.mv6 (bnd h fun r89 Bv1 h=>(kcl (hR.Ahw Bv1 Afd o15 Aev o20 o25 o31 o88 hG) rfl ⟨(.tail _ Agn),(.tail _ Af2),(.tail _ Ah4),(.tail _ Ad1),trivial⟩ ?_)))))))))
    rintro _ _ ⟨h90,A91,k92,h94,A95,k96,h98,A99,C3h,A6t,A5l,A8b,o93,o97,C71,Bb1,rfl,rfl⟩
    exact Ajr (knt (K.mv6 (K.mv4 (K.mv4 (K.mv4 (K.mv7 (K.mv7 (K.mv7 (K.mv7 (Ac1 (r89.1,r89.2.1,r89.2.2.1,r89.2.2.2.1,r89.2.2.2.2,h90,A91,k92,h94,A95,k96,h98,A99,C3h,A6t,A5l,A8b) ⟨h,o93,o97,C71,Bb1⟩ sb rfl))))))))))
   ·exact Adl (Abi (Ac1 (l11,l16,l21,x26,l27,h12,A13,k14,h17,A18,k19,h22,A23,k24,h28,A29,k30) ⟨h,o15,o20,o25,o31⟩ sb rfl))
 ·skip
  refine Aez (Ag6 (K.mv7 (K.mv5 (K.mv5 (K.mv5 (K.mv4 (K.mv7 (K.mv7 (K.mv7 (Akb (τ:=(List Tree)×(List Int)×TyA×TyC×TyL×Int×TyU×TyO×Nat×Aaa×TyO×Nat×Aaa×TyO×Nat×Aaa×TyO×Nat×Aaa×TyO×Nat×Aaa×TyO×Nat) (fun t=>[(0,pt b0),(1,slW t.2.2.2.2.2.2.2.1 t.1 t.2.2.2.2.2.2.2.2.1),(4,slW t.2.2.2.2.2.2.2.2.2.2.1 t.2.1 t.2.2.2.2.2.2.2.2.2.2.2.1)]) (fun t=>bk b0 #[Aay,Aaz,Aa0,slW Aa9 Aae Abb,slW t.2.2.2.2.2.2.2.2.2.2.2.2.2.1 t.2.2.1 t.2.2.2.2.2.2.2.2.2.2.2.2.2.2.1,sv Ab4,slW Aa7 Aah Aa8,Aa3,pt Abk,pt Abm,slW t.2.2.2.2.2.2.2.2.2.2.2.2.2.2.2.2.1 t.2.2.2.1 t.2.2.2.2.2.2.2.2.2.2.2.2.2.2.2.2.2.1,slW t.2.2.2.2.2.2.2.2.2.2.2.2.2.2.2.2.2.2.2.1 t.2.2.2.2.1 t.2.2.2.2.2.2.2.2.2.2.2.2.2.2.2.2.2.2.2.2.1] 66 :: bk Abk #[iv t.2.2.2.2.2.1] 3 :: bk Abm #[slW t.2.2.2.2.2.2.2.2.2.2.2.2.2.2.2.2.2.2.2.2.2.2.1 t.2.2.2.2.2.2.1 t.2.2.2.2.2.2.2.2.2.2.2.2.2.2.2.2.2.2.2.2.2.2.2,Aea] 25 :: t.2.2.2.2.2.2.2.2.2.1 :: t.2.2.2.2.2.2.2.2.2.2.2.2.1 :: t.2.2.2.2.2.2.2.2.2.2.2.2.2.2.2.1 :: t.2.2.2.2.2.2.2.2.2.2.2.2.2.2.2.2.2.2.1 :: t.2.2.2.2.2.2.2.2.2.2.2.2.2.2.2.2.2.2.2.2.2.1 :: X) (fun m t=>Aio.l1 m Rc Aae Ab4 Aah J32 t.1 t.2.1 t.2.2.1 t.2.2.2.1 t.2.2.2.2.1 t.2.2.2.2.2.1 t.2.2.2.2.2.2.1=some r∧RdR (Abt 54) Ahz (slW t.2.2.2.2.2.2.2.1 t.1 t.2.2.2.2.2.2.2.2.1) t.1∧Aaf (encI .i64) 3 1 t.2.2.2.2.2.2.2.2.2.1 (slW t.2.2.2.2.2.2.2.2.2.2.1 t.2.1 t.2.2.2.2.2.2.2.2.2.2.2.1) t.2.1∧Aaf e48 48 4 t.2.2.2.2.2.2.2.2.2.2.2.2.1 (slW t.2.2.2.2.2.2.2.2.2.2.2.2.2.1 t.2.2.1 t.2.2.2.2.2.2.2.2.2.2.2.2.2.2.1) t.2.2.1∧Aaf encS 9 1 t.2.2.2.2.2.2.2.2.2.2.2.2.2.2.2.1 (slW t.2.2.2.2.2.2.2.2.2.2.2.2.2.2.2.2.1 t.2.2.2.1 t.2.2.2.2.2.2.2.2.2.2.2.2.2.2.2.2.2.1) t.2.2.2.1∧Abf Aju 81 t.2.2.2.2.2.2.2.2.2.2.2.2.2.2.2.2.2.2.1 (slW t.2.2.2.2.2.2.2.2.2.2.2.2.2.2.2.2.2.2.2.1 t.2.2.2.2.1 t.2.2.2.2.2.2.2.2.2.2.2.2.2.2.2.2.2.2.2.2.1) t.2.2.2.2.1∧Abf (Ahx Aht) 41 t.2.2.2.2.2.2.2.2.2.2.2.2.2.2.2.2.2.2.2.2.2.1 (slW t.2.2.2.2.2.2.2.2.2.2.2.2.2.2.2.2.2.2.2.2.2.2.1 t.2.2.2.2.2.2.1 t.2.2.2.2.2.2.2.2.2.2.2.2.2.2.2.2.2.2.2.2.2.2.2) t.2.2.2.2.2.2.1) k (a1,[],Aax,Aal,Adp,Ad2,Ads,Ae2,Ae6,none_,none,0,Adk,Ac2,Ac3,Adz,Abn,Abp,Ag7,Afl,Afn,Agp,Agi,Agm) ⟨h,Ajh,(Aaf.nil (encI .i64) 3 1 none_),Aeo,Aek,Ajc,Aiw⟩ sb rfl ?_))))))))))
  clear h
  rintro A2m ⟨Ayi,A8j,Bg7,Bbs,Bg8,Bj5,Bha,Bpy,Bwq,h112,B3u,Cct,Cua,Cm4,C3s,h122,Cna,C3u,h127,Cnd,C3v,Bfa,Bdy,Bgj⟩ ⟨h,Bb3,Byi,Chr,Byq,Chu,A8u⟩
  cases A2m with
  | zero=>simp [Aio.l1] at h
  | succ A2m =>
   simp only [Aio.l1] at h
   refine Acx (ksr (kx 3 (knt ?_)))
   refine kcn h (fun h=>?_) fun h=>?_
   ·refine Adl (Abi (Aez (ksr (kx 2 (bnd h fun Bdn C1u h=>(Ail (T:=54) (kd:=.i64) (R:=(Abt 54)) rfl C1u Bb3 fun Dma Dm1 Dcp Crt Dnt=>?_))))))
    obtain ⟨Dg6,Dk2,rfl,C8u⟩:=Aig 54 Dcp
    refine keN rfl Crt (t8 Ah4) (K.mv4 (K.mv1 (bnd h fun Cje Cyw h=>(kcl (Ag4.ok Cyw Afd Chr Aev (Aaf.rd Byq) C8u hG) rfl ⟨(t6 Agn),(t6 Af2),(.tail _ (.tail _ (.tail _ (.head _)))),(t6 Ah4),(t6 Ad1),trivial⟩ ?_))))
    rintro _ _ ⟨Cuk,B37,Cc5,Bhp,rfl,rfl⟩
    refine Ach (Abz (kx 1 (Ag6 (K.mv2 (K.mv2 (bnd h fun A2u Bu2 h=>(kcl (Adi.ok Bu2 Bhp (RdT.nil (encI .i64) 1 none_)) rfl ⟨(.head _),trivial⟩ ?_)))))))
    rintro _ _ ⟨B9v,B4a,Cc6,Byz,rfl,rfl⟩
    refine Ach (K.mv2 (K.drop (kx 1 (Abz (kx 2 (bnd h fun x158 hx158 h=>(Ail (T:=54) (kd:=.i64) (R:=(Abt 54)) rfl hx158 Bb3 fun p159 u162 B0h e160 Cmx=>?_)))))))
    obtain ⟨B4c,Cdb,rfl,By2⟩:=Aig 54 B0h
    refine keN rfl e160 (t8 Ah4) (K.mv7 (K.mv4 (K.mv4 (K.mv7 (K.mv7 (K.mv6 (K.mv6 (bnd h fun Amt Bu3 h=>(kcl (hR.Ahw Bu3 Afd Byz Aev Byq Chu A8u By2 hG) rfl ⟨(.tail _ Agn),(.tail _ Af2),(.tail _ Ah4),(.tail _ Ad1),trivial⟩ ?_)))))))))
    rintro _ _ ⟨B9z,B4d,Cdc,Btb,Bp9,Bww,Ba7,Bah,Bbh,Ba8,Bak,Bbj,Bny,C81,By3,By4,rfl,rfl⟩
    refine Ajr (Abz (kx 1 (bnd h fun Bbt Cwq h=>(A8i (T:=54) (R:=(Abt 54)) (xs:=Ayi) 2 ((Ayi.length:Nat):Int) rfl (by kernel_rfl) (by kernel_rfl) (by kernel_rfl) (.inr ⟨_,.i64,rfl,(by kernel_rfl)⟩) (.inl ⟨rfl,rfl⟩) (by kernel_rfl) (by kernel_rfl) Cwq Bb3 fun Bam Bbl By6=>(kx 1 (knt ?_))))))
    obtain ⟨Bkp,Cu6,h⟩:=Ags h
    refine Agt (τ:=(List Int)×TyA×Aaa×TyO×Nat×Aaa×TyO×Nat) (fun t=>[(0,pt b0),(1,slW Bam Bbt Bbl),(4,slW t.2.2.2.1 t.1 t.2.2.2.2.1),(5,iv A2u.1)]) (fun t=>bk b0 #[Aay,Aaz,Aa0,slW Aa9 Aae Abb,slW t.2.2.2.2.2.2.1 t.2.1 t.2.2.2.2.2.2.2,sv Ab4,slW Aa7 Aah Aa8,Aa3,pt Abk,pt Abm,slW Bp9 Amt.2.1 Bww,slW Bah Amt.2.2.1 Bbh] 66 :: Btb :: Ba7 :: bk Abk #[iv Amt.2.2.2.1] 3 :: bk Abm #[slW Bak Amt.2.2.2.2 Bbj,Aea] 25 :: Ba8 :: t.2.2.1 :: t.2.2.2.2.2.1 :: X) (fun t=>Bkp t.1 t.2.1=some r∧Aaf (encI .i64) 3 1 t.2.2.1 (slW t.2.2.2.1 t.1 t.2.2.2.2.1) t.1∧Aaf e48 48 4 t.2.2.2.2.2.1 (slW t.2.2.2.2.2.2.1 t.2.1 t.2.2.2.2.2.2.2) t.2.1) ?_ ?_
    ·rintro ⟨Bna,A8l,B99,B4i,Cdh,Diy,B4l,Cdk⟩ ⟨h,C85,By9⟩
     subst Cu6
     refine kpr [(0,0),(1,0),(2,0),(3,0),(4,3),(5,0),(6,0),(7,1)] [0] (kpx 4 (kpd 0 4 rfl (kpx 2 (kpt (bnd h fun Ayp Bu4 h=>(oc1 (Akp.ok Bu4 (Aaf.rd By9)) rfl ⟨(.tail _ (.tail _ (.tail _ (.tail _ (.tail _ (.tail _ (.head _))))))),trivial⟩ (kan [0] rfl (kpz (bnd h fun x200 Bgb h=>(Anq (T:=48) (kd:=.i64) Aj5 rfl Bgb (Aaf.rd By9) fun Bz0 A6e B3o=>?_))))))))))
     have A6e:Elem _ Bz0 [iv x200.1,iv x200.2.1,iv x200.2.2.1,iv x200.2.2.2]:=A6e
     refine Api (off:=1) rfl A6e B3o fun Bz1 Bex B3r=>?_
     have Bex:Elem _ Bz1 [iv x200.2.1,iv x200.2.2.1,iv x200.2.2.2]:=Bex
     refine K.mv7 (bnd h fun A2l Bfj h=>(Aye (v:=iv Ayp) (off:=1) (x':=(x200.1,Ayp,x200.2.2.1,x200.2.2.2)) Aj5 rfl (by kernel_rfl) (by kernel_rfl) (by kernel_rfl) (by kernel_rfl) (by kernel_rfl) B3r By9 Bgb (by kernel_rfl) (by kernel_rfl) Bfj fun Ba9 Bza=>?_))
     have Be8:=Ar0 Bfj
     refine K.weak (env':=[(0,pt b0),(1,slW Bam Bbt Bbl),(4,slW B4i Bna Cdh),(40,iv Ayp)]) ?_ ⟨gr,(by first | rfl | (unfold slW;rw [Be8];rfl)),(by first | rfl | (unfold slW;rw [Be8];rfl)),gr,trivial⟩
     refine K.eq (l':=Ba9 :: bk b0 #[Aay,Aaz,Aa0,slW Aa9 Aae Abb,slW B4l A2l Cdk,sv Ab4,slW Aa7 Aah Aa8,Aa3,pt Abk,pt Abm,slW Bp9 Amt.2.1 Bww,slW Bah Amt.2.2.1 Bbh] 66 :: Btb :: Ba7 :: bk Abk #[iv Amt.2.2.2.1] 3 :: bk Abm #[slW Bak Amt.2.2.2.2 Bbj,Aea] 25 :: Ba8 :: B99 :: X) rfl (by first | rfl | (unfold slW;rw [Be8];first | done | rfl)) (knl (Ade (Abi (K.mv6 (K.mv4 (K.mv4 (K.mv3 (K.mv7 (K.mv7 (K.mv7 ?_))))))))))
     exact K.mv7 (Ai4 A2m (Bbt,Bna,A2l,Amt.2.1,Amt.2.2.1,Amt.2.2.2.1,Amt.2.2.2.2,Bam,Bbl,B99,B4i,Cdh,Ba9,B4l,Cdk,Btb,Bp9,Bww,Ba7,Bah,Bbh,Ba8,Bak,Bbj) (Nat.lt_succ_self _) ⟨h,By6,C85,Bza,C81,By3,By4⟩ sb rfl)
    ·skip
     refine ksr (kx 3 (knt ?_))
     refine kcn h (fun h=>?_) fun h=>?_
     ·refine Ab6 (kx 2 (Ag6 (K.mv2 (K.mv2 (bnd h fun A9m Cy3 h=>(kcl (Adi.ok Cy3 Bny (RdT.nil (encI .i64) 1 none_)) rfl ⟨(.head _),trivial⟩ ?_))))))
      rintro _ _ ⟨Cuo,Cnp,C35,C9n,rfl,rfl⟩
      refine Ach (K.mv2 (K.drop (kns #[iv A9m.1] 3 1 fun Dia=>(K.mv8 (bnd h fun Bxo Cwy h=>(kap (ys:=[A9m.1]) (Ai1 .i64) rfl B8b Cwy Byi (A93 (n:=1) (Ai1 .i64) [A9m.1] (by kernel_rfl) rfl (by decide) 1 rfl) fun Cuu Cnr C36 C9p=>(K.mv1 (K.drop (kx 1 (knt ?_))))))))))
      exact K.mv2 (K.mv1 (K.mv7 (K.mv7 (K.mv7 (K.mv7 (K.mv7 (K.mv7 (Ac1 (Bxo,A9m.2,Cuu,Cnr,C36,Cuo,Cnp,C35) ⟨h,C9p,C9n⟩ sb rfl))))))))
     ·exact Adl (Abi (K.mv1 (K.mv7 (K.mv7 (K.mv7 (K.mv7 (K.mv7 (K.mv7 (K.mv7 (Ac1 (A8j,Amt.1,h112,B3u,Cct,B9z,B4d,Cdc) ⟨h,Byi,Bny⟩ sb rfl))))))))))
   ·exact Aj9 (Agh (Agh (Aka (Abi (Ac1 (Ayi,A8j,Bg7,Bbs,Bg8,Bj5,Bha,Bpy,Bwq,h112,B3u,Cct,Cua,Cm4,C3s,h122,Cna,C3u,h127,Cnd,C3v,Bfa,Bdy,Bgj) ⟨h,Bb3,Byi,Chr,Byq,Chu,A8u⟩ sb rfl)))))
def Am6.l0:Nat→(x41:List Int)→(J37:TyA→Option (TyA×TyC×TyL×Int×TyU))→(x50:Int)→(l51:TyA)→Option (TyA×TyC×TyL×Int×TyU)
 | 0,_,_,_,_=>none
 | m56+1,x41,J37,x50,l51=>cond (decide (x50 < ((x41.length:Nat):Int))) ((Ack x41 x50).bind fun x58=>(Akp.f m56 l51).bind fun r62=>(Ack l51 x58).bind fun x63=>(Akq l51 x58 (x63.1,r62,x63.2.2.1,x63.2.2.2)).bind fun l70=>Am6.l0 m56 x41 J37 (IntKind.i64.wrap (x50+1)) l70) (J37 l51)
def Am6.g (Rc:GS) (k:Nat) (Aae:TyB) (Aax:TyA) (Ab4:ByteArray) (Aah:TyC) (Aal:TyC) (Adp:TyL) (Ad2:Int) (Ads:TyU) (Aan:Int) (Aar:ByteArray) (Aao:Int) (Aa5:Int) (Aag:List Tree) (Ajk:Int):Option (TyA×TyC×TyL×Int×TyU):=(apd 24 Adp [([])]).bind fun l5=>(Rc.Ahw Aae Aax Ab4 Aah Aal l5 Ad2 Ads Aan Aar Aao Aa5 Aag).bind fun r10=>(Bav.f k r10.1 Ajk).bind fun r27=>Adj (fun (l32:TyA)=>(Aiq r10.2.2.1 0 (IntKind.i64.wrap (((r10.2.2.1.length:Nat):Int) - 1))).bind fun l38=>some (l32,r10.2.1,l38,r10.2.2.2.1,r10.2.2.2.2)) (fun J37=>(Ack r10.2.2.1 (IntKind.i64.wrap (((r10.2.2.1.length:Nat):Int) - 1))).bind fun x41=>Am6.l0 k x41 J37 0 r27)
theorem Am6.okg {Rc:GS} (hR:Rc.Good) {k:Nat}:Am6.C (Am6.g Rc k):=by
 intro Aae Aax Ab4 Aar Aah Aal Adp Ad2 Aan Aao Aa5 Ajk Ads Aag b0 Abb Ac3 Aa8 Abp Afn Abk Abm Agm Abx Ajl Ajm Aay Aaz Aa0 Aa3 Aea Afz Adk Afk Adz Ag7 Agp Ae4 G Aa9 Ac2 Aa7 Abn Afl Agi Abu r h Afd Aeo Aev Aek Ajc Aiw Ado hG
 refine Afi (args:=[pt b0,.agg #[iv Aan,sv Aar,iv Aao,iv Aa5,slW Abu Aag Abx],.func (.func 79) #[] #[pt Ajl,pt Ajm]]) Tryz.func78 rfl (Ac0 rfl) ?_
 intro A X hh_
 obtain ⟨Agn,Af2,Adg,Ad1,_⟩:=hh_
 unfold Am6.g at h
 refine K.eq (env':=[(0,pt b0),(1,.agg #[iv Aan,sv Aar,iv Aao,iv Aa5,slW Abu Aag Abx]),(2,.func (.func 79) #[] #[pt Ajl,pt Ajm])]) (l':=bk b0 #[Aay,Aaz,Aa0,slW Aa9 Aae Abb,slW Ac2 Aax Ac3,sv Ab4,slW Aa7 Aah Aa8,Aa3,pt Abk,pt Abm,slW Abn Aal Abp,slW Afl Adp Afn] 66 :: Adk :: Adz :: Ag7 :: bk Abk #[iv Ad2] 3 :: bk Abm #[slW Agi Ads Agm,Aea] 25 :: Agp :: bk Ajl #[pt b0] 61 :: bk Ajm #[iv Ajk] 3 :: X) rfl rfl (ksr (knp #[iv Aan,sv Aar,iv Aao,iv Aa5,slW Abu Aag Abx] 54 fun b1=>(Abz (kx 4 (kld 1 11 rfl (kns #[nS] 81 1 fun b2=>(Ag6 (K.mv1 (Aip (T:=81) (n:=1) (xs:=[([])]) (Ael.one (Bo2 (x:=([])) (Aaf.nil (encI .i64) 3 1 none_))) rfl rfl (Ac0 rfl) fun h3 o4=>(K.mv5 ?_))))))))))
 refine bnd h fun l5 hl5 h=>(Amd rfl Bsc rfl hl5 Ajc o4 fun h6 A7 k8 o9=>(kx 2 (K.mv2 (kst 11 1 #[Aay,Aaz,Aa0,slW Aa9 Aae Abb,slW Ac2 Aax Ac3,sv Ab4,slW Aa7 Aah Aa8,Aa3,pt Abk,pt Abm,slW Abn Aal Abp,slW A7 l5 k8] (Abz (kx 1 (kla 2 0 5 rfl (K.mv2 (K.drop (K.mv6 ?_))))))))))
 refine K.mv6 (K.mv6 (K.mv4 (K.mv6 (K.mv6 (K.mv6 (bnd h fun r10 Ax9 h=>(kcl (hR.Ahw Ax9 Afd Aeo Aev Aek o9 Aiw Ado hG) rfl ⟨(t2 Agn),(t2 Af2),(t2 Adg),(t2 Ad1),trivial⟩ ?_)))))))
 rintro _ _ ⟨h11,A12,k13,h15,A16,k17,h19,A20,k21,h23,A24,k25,o14,o18,o22,o26,rfl,rfl⟩
 refine Ajr (Abz (kx 1 (K.mv8 (K.mv2 (K.mv2 (K.mv8 (bnd h fun r27 Avy h=>(kcl (Bav.ok Avy o14) rfl trivial ?_))))))))
 rintro _ _ ⟨h28,A29,k30,o31,rfl,rfl⟩
 refine Bye (Abz (kx 3 (kld 1 11 rfl (kx 3 (knt ?_)))))
 obtain ⟨J37,Bfh,h⟩:=Ags h
 refine Agt (τ:=TyA×Aaa×TyO×Nat) (fun t=>[(0,pt b0),(6,iv (IntKind.i64.wrap (((r10.2.2.1.length:Nat):Int) - 1)))]) (fun t=>bk Ajl #[pt b0] 61 :: bk b0 #[Aay,Aaz,Aa0,slW Aa9 Aae Abb,slW t.2.2.1 t.1 t.2.2.2,sv Ab4,slW Aa7 Aah Aa8,Aa3,pt Abk,pt Abm,slW A16 r10.2.1 k17,slW A20 r10.2.2.1 k21] 66 :: bk Ajm #[iv Ajk] 3 :: h15 :: h19 :: bk Abk #[iv r10.2.2.2.1] 3 :: bk Abm #[slW A24 r10.2.2.2.2 k25,Aea] 25 :: h23 :: t.2.1 :: X) (fun t=>J37 t.1=some r∧Aaf e48 48 4 t.2.1 (slW t.2.2.1 t.1 t.2.2.2) t.1) ?_ ?_
 ·rintro ⟨l32,h33,A34,k35⟩ ⟨h,o36⟩
  subst Bfh
  refine Ab6 (kx 4 (kld 1 11 rfl (kx 1 (K.mv4 (bnd h fun l38 Bfm h=>(Bxe (T:=81) (R:=Aju) (k:=.i64) (xs:=r10.2.2.1) (IntKind.i64.wrap (((r10.2.2.1.length:Nat):Int) - 1)) rfl (by kernel_rfl) (by kernel_rfl) (by kernel_rfl) (by kernel_rfl) (by kernel_rfl) (by kernel_rfl) Bfm o22 fun h40 o39=>(kx 2 (K.mv2 (kst 11 1 #[Aay,Aaz,Aa0,slW Aa9 Aae Abb,slW A34 l32 k35,sv Ab4,slW Aa7 Aah Aa8,Aa3,pt Abk,pt Abm,slW A16 r10.2.1 k17,slW A20 l38 k21] (knl ?_))))))))))
  refine Afg ?_
  obtain rfl:=Aam h
  exact kdv (.tuple #[]) [bk b0 #[Aay,Aaz,Aa0,slW Aa9 Aae Abb,slW A34 l32 k35,sv Ab4,slW Aa7 Aah Aa8,Aa3,pt Abk,pt Abm,slW A16 r10.2.1 k17,slW A20 l38 k21] 66,h33,h15,h40,bk Abk #[iv r10.2.2.2.1] 3,bk Abm #[slW A24 r10.2.2.2.2 k25,Aea] 25,h23,bk Ajl #[pt b0] 61,bk Ajm #[iv Ajk] 3] (K.mv3 (K.mv3 (K.mv7 (K.mv7 (K.mv7 (K.mv6 (K.mv7 (K.mv8 (K.mv8 (Adq ⟨h33,A34,k35,h15,A16,k17,h40,A20,k21,h23,A24,k25,o36,o18,o39,o26,rfl,rfl⟩))))))))))
 ·skip
  refine ksr (kx 3 (kld 1 11 rfl (kx 1 (bnd h fun x41 A7t h=>(Ail (T:=81) (kd:=.i64) (R:=Aju) rfl A7t (Abf.rd o22) fun p42 u45 q46 e43 y44=>?_)))))
  obtain ⟨A47,k48,rfl,o49⟩:=B1d q46
  refine Aqx rfl (by kernel_rfl) (by kernel_rfl) (by kernel_rfl) (by kernel_rfl) e43 (.tail _ (.tail _ (.tail _ (.tail _ (.tail _ (.head _)))))) (kx 2 (knt (Aez (K.mv2 (K.mv8 (K.mv8 (K.mv8 (K.mv8 (K.mv8 (K.mv8 ?_))))))))))
  refine K.mv8 (K.mv8 (Akb (τ:=Int×TyA×Aaa×TyO×Nat) (fun t=>[(0,pt b0),(6,iv (IntKind.i64.wrap (((r10.2.2.1.length:Nat):Int) - 1))),(35,slW A47 x41 k48),(36,iv ((x41.length:Nat):Int)),(37,iv t.1)]) (fun t=>bk Ajl #[pt b0] 61 :: bk b0 #[Aay,Aaz,Aa0,slW Aa9 Aae Abb,slW t.2.2.2.1 t.2.1 t.2.2.2.2,sv Ab4,slW Aa7 Aah Aa8,Aa3,pt Abk,pt Abm,slW A16 r10.2.1 k17,slW A20 r10.2.2.1 k21] 66 :: bk Ajm #[iv Ajk] 3 :: h15 :: h19 :: bk Abk #[iv r10.2.2.2.1] 3 :: bk Abm #[slW A24 r10.2.2.2.2 k25,Aea] 25 :: h23 :: t.2.2.1 :: X) (fun m t=>Am6.l0 m x41 J37 t.1 t.2.1=some r∧Aaf e48 48 4 t.2.2.1 (slW t.2.2.2.1 t.2.1 t.2.2.2.2) t.2.1) k (0,r27,h28,A29,k30) ⟨h,o31⟩ sb rfl ?_))
  clear h
  rintro m56 ⟨x50,l51,h52,A53,k54⟩ ⟨h,o55⟩
  cases m56 with
  | zero=>simp [Am6.l0] at h
  | succ m56 =>
   simp only [Am6.l0] at h
   refine ksr (kx 1 (knt (Acx ?_)))
   refine kcn h (fun h=>?_) fun h=>?_
   ·refine Adl (Abi (Acx (Aez (ksr (bnd h fun x58 Bgc h=>(Anq (T:=3) (kd:=.i64) (Ai1 .i64) rfl Bgc o49 fun p59 e60 y61=>?_))))))
    have e60:Elem _ p59 [iv x58]:=e60
    refine Aqx rfl (by kernel_rfl) (by kernel_rfl) (by kernel_rfl) (by kernel_rfl) e60 (.tail _ (.tail _ (.tail _ (.tail _ (.head _))))) (kx 1 (knt (kpr [(0,0),(1,0),(2,0),(3,0),(4,3),(5,0),(6,0),(7,1)] [1] (kpx 4 (kpd 0 4 rfl (kpx 2 (kpt (K.mv1 (bnd h fun r62 A7q h=>(oc1 (Akp.ok A7q (Aaf.rd o55)) rfl ⟨(.tail _ (.tail _ (.tail _ (.tail _ (.tail _ (.tail _ (.tail _ (.head _)))))))),trivial⟩ ?_))))))))))
    refine kan [0] rfl (kpz (bnd h fun x63 Awu h=>(Anq (T:=48) (kd:=.i64) Aj5 rfl Awu (Aaf.rd o55) fun p64 e65 y66=>?_)))
    have e65:Elem _ p64 [iv x63.1,iv x63.2.1,iv x63.2.2.1,iv x63.2.2.2]:=e65
    refine Api (off:=1) rfl e65 y66 fun p67 e68 y69=>?_
    have e68:Elem _ p67 [iv x63.2.1,iv x63.2.2.1,iv x63.2.2.2]:=e68
    refine K.mv8 (bnd h fun l70 A4c h=>(Aye (v:=iv r62) (off:=1) (x':=(x63.1,r62,x63.2.2.1,x63.2.2.2)) Aj5 rfl (by kernel_rfl) (by kernel_rfl) (by kernel_rfl) (by kernel_rfl) (by kernel_rfl) y69 o55 Awu (by kernel_rfl) (by kernel_rfl) A4c fun h71 o72=>?_))
    have g73:=Ar0 A4c
    refine K.weak (env':=[(0,pt b0),(6,iv (IntKind.i64.wrap (((r10.2.2.1.length:Nat):Int) - 1))),(35,slW A47 x41 k48),(36,iv ((x41.length:Nat):Int)),(37,iv x50),(48,iv r62)]) ?_ ⟨gr,gr,(by first | rfl | (unfold slW;rw [g73];rfl)),gr,gr,gr,trivial⟩
    refine K.eq (l':=h71 :: bk b0 #[Aay,Aaz,Aa0,slW Aa9 Aae Abb,slW A53 l70 k54,sv Ab4,slW Aa7 Aah Aa8,Aa3,pt Abk,pt Abm,slW A16 r10.2.1 k17,slW A20 r10.2.2.1 k21] 66 :: bk Ajl #[pt b0] 61 :: bk Ajm #[iv Ajk] 3 :: h15 :: h19 :: bk Abk #[iv r10.2.2.2.1] 3 :: bk Abm #[slW A24 r10.2.2.2.2 k25,Aea] 25 :: h23 :: X) rfl (by first | rfl | (unfold slW;rw [g73];first | done | rfl)) (knl (Ade (Abi (Ab6 (kx 2 (knt (K.mv8 (K.mv8 (K.mv8 (K.mv8 ?_))))))))))
    exact K.mv8 (K.mv8 (K.mv7 (K.mv8 (Ai4 m56 (IntKind.i64.wrap (x50+1),l70,h71,A53,k54) (Nat.lt_succ_self _) ⟨h,o72⟩ sb rfl))))
   ·exact Aj9 (Agh (Agh (Aka (Abi (Ac1 (l51,h52,A53,k54) ⟨h,o55⟩ sb rfl)))))
def Am9.l0:Nat→(x41:List Int)→(J37:TyA→Option (TyA×TyC×TyL×Int×TyU))→(x50:Int)→(l51:TyA)→Option (TyA×TyC×TyL×Int×TyU)
 | 0,_,_,_,_=>none
 | m56+1,x41,J37,x50,l51=>cond (decide (x50 < ((x41.length:Nat):Int))) ((Ack x41 x50).bind fun x58=>(Akp.f m56 l51).bind fun r62=>(Ack l51 x58).bind fun x63=>(Akq l51 x58 (x63.1,r62,x63.2.2.1,x63.2.2.2)).bind fun l70=>Am9.l0 m56 x41 J37 (IntKind.i64.wrap (x50+1)) l70) (J37 l51)
def Am9.g (Rc:GS) (k:Nat) (Aae:TyB) (Aax:TyA) (Ab4:ByteArray) (Aah:TyC) (Aal:TyC) (Adp:TyL) (Ad2:Int) (Ads:TyU) (Aan:Int) (Aar:ByteArray) (Aao:Int) (Aa5:Int) (Aag:List Tree) (Ajk:Int) (Axl:Int):Option (TyA×TyC×TyL×Int×TyU):=(apd 24 Adp [([])]).bind fun l5=>(Rc.Ahw Aae Aax Ab4 Aah Aal l5 Ad2 Ads Aan Aar Aao Aa5 Aag).bind fun r10=>(Bax.f k r10.1 Ajk Axl).bind fun r27=>Adj (fun (l32:TyA)=>(Aiq r10.2.2.1 0 (IntKind.i64.wrap (((r10.2.2.1.length:Nat):Int) - 1))).bind fun l38=>some (l32,r10.2.1,l38,r10.2.2.2.1,r10.2.2.2.2)) (fun J37=>(Ack r10.2.2.1 (IntKind.i64.wrap (((r10.2.2.1.length:Nat):Int) - 1))).bind fun x41=>Am9.l0 k x41 J37 0 r27)
theorem Am9.okg {Rc:GS} (hR:Rc.Good) {k:Nat}:Am9.C (Am9.g Rc k):=by
 intro Aae Aax Ab4 Aar Aah Aal Adp Ad2 Aan Aao Aa5 Ajk Axl Ads Aag b0 Abb Ac3 Aa8 Abp Afn Abk Abm Agm Abx Ajl Ajm Axp Aay Aaz Aa0 Aa3 Aea Afz Adk Afk Adz Ag7 Agp Ae4 G Aa9 Ac2 Aa7 Abn Afl Agi Abu r h Afd Aeo Aev Aek Ajc Aiw Ado hG
 refine Afi (args:=[pt b0,.agg #[iv Aan,sv Aar,iv Aao,iv Aa5,slW Abu Aag Abx],.func (.func 82) #[] #[pt Ajl,pt Ajm,pt Axp]]) Tryz.func78 rfl (Ac0 rfl) ?_
 intro A X hh_
 obtain ⟨Agn,Af2,Adg,Ad1,_⟩:=hh_
 unfold Am9.g at h
 refine K.eq (env':=[(0,pt b0),(1,.agg #[iv Aan,sv Aar,iv Aao,iv Aa5,slW Abu Aag Abx]),(2,.func (.func 82) #[] #[pt Ajl,pt Ajm,pt Axp])]) (l':=bk b0 #[Aay,Aaz,Aa0,slW Aa9 Aae Abb,slW Ac2 Aax Ac3,sv Ab4,slW Aa7 Aah Aa8,Aa3,pt Abk,pt Abm,slW Abn Aal Abp,slW Afl Adp Afn] 66 :: Adk :: Adz :: Ag7 :: bk Abk #[iv Ad2] 3 :: bk Abm #[slW Agi Ads Agm,Aea] 25 :: Agp :: bk Ajl #[pt b0] 61 :: bk Ajm #[iv Ajk] 3 :: bk Axp #[iv Axl] 3 :: X) rfl rfl (ksr (knp #[iv Aan,sv Aar,iv Aao,iv Aa5,slW Abu Aag Abx] 54 fun b1=>(Abz (kx 4 (kld 1 11 rfl (kns #[nS] 81 1 fun b2=>(Ag6 (K.mv1 (Aip (T:=81) (n:=1) (xs:=[([])]) (Ael.one (Bo2 (x:=([])) (Aaf.nil (encI .i64) 3 1 none_))) rfl rfl (Ac0 rfl) fun h3 o4=>(K.mv5 ?_))))))))))
 refine bnd h fun l5 hl5 h=>(Amd rfl Bsc rfl hl5 Ajc o4 fun h6 A7 k8 o9=>(kx 2 (K.mv2 (kst 11 1 #[Aay,Aaz,Aa0,slW Aa9 Aae Abb,slW Ac2 Aax Ac3,sv Ab4,slW Aa7 Aah Aa8,Aa3,pt Abk,pt Abm,slW Abn Aal Abp,slW A7 l5 k8] (Abz (kx 1 (kla 2 0 5 rfl (K.mv2 (K.drop (K.mv6 ?_))))))))))
 refine K.mv6 (K.mv6 (K.mv4 (K.mv6 (K.mv6 (K.mv6 (bnd h fun r10 Ax9 h=>(kcl (hR.Ahw Ax9 Afd Aeo Aev Aek o9 Aiw Ado hG) rfl ⟨(t3 Agn),(t3 Af2),(t3 Adg),(t3 Ad1),trivial⟩ ?_)))))))
 rintro _ _ ⟨h11,A12,k13,h15,A16,k17,h19,A20,k21,h23,A24,k25,o14,o18,o22,o26,rfl,rfl⟩
 refine Ajr (Abz (kx 1 (K.mv9 (K.mv9 (K.mv3 (K.mv3 (K.mv9 (bnd h fun r27 Avy h=>(kcl (Bax.ok Avy o14) rfl trivial ?_)))))))))
 rintro _ _ ⟨h28,A29,k30,o31,rfl,rfl⟩
 refine Ajr (Abz (kx 3 (kld 1 11 rfl (kx 3 (knt ?_)))))
 obtain ⟨J37,Bfh,h⟩:=Ags h
 refine Agt (τ:=TyA×Aaa×TyO×Nat) (fun t=>[(0,pt b0),(6,iv (IntKind.i64.wrap (((r10.2.2.1.length:Nat):Int) - 1)))]) (fun t=>bk Ajl #[pt b0] 61 :: bk b0 #[Aay,Aaz,Aa0,slW Aa9 Aae Abb,slW t.2.2.1 t.1 t.2.2.2,sv Ab4,slW Aa7 Aah Aa8,Aa3,pt Abk,pt Abm,slW A16 r10.2.1 k17,slW A20 r10.2.2.1 k21] 66 :: bk Ajm #[iv Ajk] 3 :: bk Axp #[iv Axl] 3 :: h15 :: h19 :: bk Abk #[iv r10.2.2.2.1] 3 :: bk Abm #[slW A24 r10.2.2.2.2 k25,Aea] 25 :: h23 :: t.2.1 :: X) (fun t=>J37 t.1=some r∧Aaf e48 48 4 t.2.1 (slW t.2.2.1 t.1 t.2.2.2) t.1) ?_ ?_
 ·rintro ⟨l32,h33,A34,k35⟩ ⟨h,o36⟩
  subst Bfh
  refine Ab6 (kx 4 (kld 1 11 rfl (kx 1 (K.mv5 (bnd h fun l38 Bfm h=>(Bxe (T:=81) (R:=Aju) (k:=.i64) (xs:=r10.2.2.1) (IntKind.i64.wrap (((r10.2.2.1.length:Nat):Int) - 1)) rfl (by kernel_rfl) (by kernel_rfl) (by kernel_rfl) (by kernel_rfl) (by kernel_rfl) (by kernel_rfl) Bfm o22 fun h40 o39=>(kx 2 (K.mv2 (kst 11 1 #[Aay,Aaz,Aa0,slW Aa9 Aae Abb,slW A34 l32 k35,sv Ab4,slW Aa7 Aah Aa8,Aa3,pt Abk,pt Abm,slW A16 r10.2.1 k17,slW A20 l38 k21] (knl ?_))))))))))
  refine Afg ?_
  obtain rfl:=Aam h
  refine kdv (.tuple #[]) [bk b0 #[Aay,Aaz,Aa0,slW Aa9 Aae Abb,slW A34 l32 k35,sv Ab4,slW Aa7 Aah Aa8,Aa3,pt Abk,pt Abm,slW A16 r10.2.1 k17,slW A20 l38 k21] 66,h33,h15,h40,bk Abk #[iv r10.2.2.2.1] 3,bk Abm #[slW A24 r10.2.2.2.2 k25,Aea] 25,h23,bk Ajl #[pt b0] 61,bk Ajm #[iv Ajk] 3,bk Axp #[iv Axl] 3] (K.mv4 (K.mv4 (K.mv4 (K.mv8 (K.mv8 (K.mv8 (K.mv7 (K.mv8 (K.mv9 (K.mv9 ?_))))))))))
  exact Adq ⟨h33,A34,k35,h15,A16,k17,h40,A20,k21,h23,A24,k25,o36,o18,o39,o26,rfl,rfl⟩
 ·skip
  refine ksr (kx 3 (kld 1 11 rfl (kx 1 (bnd h fun x41 A7t h=>(Ail (T:=81) (kd:=.i64) (R:=Aju) rfl A7t (Abf.rd o22) fun p42 u45 q46 e43 y44=>?_)))))
  obtain ⟨A47,k48,rfl,o49⟩:=B1d q46
  refine Aqx rfl (by kernel_rfl) (by kernel_rfl) (by kernel_rfl) (by kernel_rfl) e43 (.tail _ (.tail _ (.tail _ (.tail _ (.tail _ (.tail _ (.head _))))))) (kx 2 (knt (Aez (K.mv2 (K.mv9 (K.mv9 (K.mv9 (K.mv9 (K.mv9 (K.mv9 ?_))))))))))
  refine K.mv9 (K.mv9 (K.mv9 (Akb (τ:=Int×TyA×Aaa×TyO×Nat) (fun t=>[(0,pt b0),(6,iv (IntKind.i64.wrap (((r10.2.2.1.length:Nat):Int) - 1))),(35,slW A47 x41 k48),(36,iv ((x41.length:Nat):Int)),(37,iv t.1)]) (fun t=>bk Ajl #[pt b0] 61 :: bk b0 #[Aay,Aaz,Aa0,slW Aa9 Aae Abb,slW t.2.2.2.1 t.2.1 t.2.2.2.2,sv Ab4,slW Aa7 Aah Aa8,Aa3,pt Abk,pt Abm,slW A16 r10.2.1 k17,slW A20 r10.2.2.1 k21] 66 :: bk Ajm #[iv Ajk] 3 :: bk Axp #[iv Axl] 3 :: h15 :: h19 :: bk Abk #[iv r10.2.2.2.1] 3 :: bk Abm #[slW A24 r10.2.2.2.2 k25,Aea] 25 :: h23 :: t.2.2.1 :: X) (fun m t=>Am9.l0 m x41 J37 t.1 t.2.1=some r∧Aaf e48 48 4 t.2.2.1 (slW t.2.2.2.1 t.2.1 t.2.2.2.2) t.2.1) k (0,r27,h28,A29,k30) ⟨h,o31⟩ sb rfl ?_)))
  clear h
  rintro m56 ⟨x50,l51,h52,A53,k54⟩ ⟨h,o55⟩
  cases m56 with
  | zero=>simp [Am9.l0] at h
  | succ m56 =>
   simp only [Am9.l0] at h
   refine ksr (kx 1 (knt (Acx ?_)))
   refine kcn h (fun h=>?_) fun h=>?_
   ·refine Adl (Abi (Acx (Aez (ksr (bnd h fun x58 Bgc h=>(Anq (T:=3) (kd:=.i64) (Ai1 .i64) rfl Bgc o49 fun p59 e60 y61=>?_))))))
    have e60:Elem _ p59 [iv x58]:=e60
    refine Aqx rfl (by kernel_rfl) (by kernel_rfl) (by kernel_rfl) (by kernel_rfl) e60 (.tail _ (.tail _ (.tail _ (.tail _ (.tail _ (.head _)))))) (kx 1 (knt (kpr [(0,0),(1,0),(2,0),(3,0),(4,3),(5,0),(6,0),(7,1)] [1] (kpx 4 (kpd 0 4 rfl (kpx 2 (kpt (K.mv1 (bnd h fun r62 A7q h=>(oc1 (Akp.ok A7q (Aaf.rd o55)) rfl ⟨(.tail _ (.tail _ (.tail _ (.tail _ (.tail _ (.tail _ (.tail _ (.tail _ (.head _))))))))),trivial⟩ ?_))))))))))
    refine kan [0] rfl (kpz (bnd h fun x63 Awu h=>(Anq (T:=48) (kd:=.i64) Aj5 rfl Awu (Aaf.rd o55) fun p64 e65 y66=>?_)))
    have e65:Elem _ p64 [iv x63.1,iv x63.2.1,iv x63.2.2.1,iv x63.2.2.2]:=e65
    refine Api (off:=1) rfl e65 y66 fun p67 e68 y69=>?_
    have e68:Elem _ p67 [iv x63.2.1,iv x63.2.2.1,iv x63.2.2.2]:=e68
    refine K.mv9 (bnd h fun l70 A4c h=>(Aye (v:=iv r62) (off:=1) (x':=(x63.1,r62,x63.2.2.1,x63.2.2.2)) Aj5 rfl (by kernel_rfl) (by kernel_rfl) (by kernel_rfl) (by kernel_rfl) (by kernel_rfl) y69 o55 Awu (by kernel_rfl) (by kernel_rfl) A4c fun h71 o72=>?_))
    have g73:=Ar0 A4c
    refine K.weak (env':=[(0,pt b0),(6,iv (IntKind.i64.wrap (((r10.2.2.1.length:Nat):Int) - 1))),(35,slW A47 x41 k48),(36,iv ((x41.length:Nat):Int)),(37,iv x50),(48,iv r62)]) ?_ ⟨gr,gr,(by first | rfl | (unfold slW;rw [g73];rfl)),gr,gr,gr,trivial⟩
    refine K.eq (l':=h71 :: bk b0 #[Aay,Aaz,Aa0,slW Aa9 Aae Abb,slW A53 l70 k54,sv Ab4,slW Aa7 Aah Aa8,Aa3,pt Abk,pt Abm,slW A16 r10.2.1 k17,slW A20 r10.2.2.1 k21] 66 :: bk Ajl #[pt b0] 61 :: bk Ajm #[iv Ajk] 3 :: bk Axp #[iv Axl] 3 :: h15 :: h19 :: bk Abk #[iv r10.2.2.2.1] 3 :: bk Abm #[slW A24 r10.2.2.2.2 k25,Aea] 25 :: h23 :: X) rfl (by first | rfl | (unfold slW;rw [g73];first | done | rfl)) (knl (Ade (Abi (Ab6 (kx 2 (knt (K.mv9 (K.mv9 (K.mv9 (K.mv9 ?_))))))))))
    exact K.mv9 (K.mv9 (K.mv9 (K.mv8 (K.mv9 (Ai4 m56 (IntKind.i64.wrap (x50+1),l70,h71,A53,k54) (Nat.lt_succ_self _) ⟨h,o72⟩ sb rfl)))))
   ·exact Aj9 (Agh (Agh (Aka (Abi (Ac1 (l51,h52,A53,k54) ⟨h,o55⟩ sb rfl)))))
def Al9.l0:Nat→(x41:List Int)→(J37:TyA→Option (TyA×TyC×TyL×Int×TyU))→(x50:Int)→(l51:TyA)→Option (TyA×TyC×TyL×Int×TyU)
 | 0,_,_,_,_=>none
 | m56+1,x41,J37,x50,l51=>cond (decide (x50 < ((x41.length:Nat):Int))) ((Ack x41 x50).bind fun x58=>(Akp.f m56 l51).bind fun r62=>(Ack l51 x58).bind fun x63=>(Akq l51 x58 (x63.1,r62,x63.2.2.1,x63.2.2.2)).bind fun l70=>Al9.l0 m56 x41 J37 (IntKind.i64.wrap (x50+1)) l70) (J37 l51)
def Al9.g (Rc:GS) (k:Nat) (Aae:TyB) (Aax:TyA) (Ab4:ByteArray) (Aah:TyC) (Aal:TyC) (Adp:TyL) (Ad2:Int) (Ads:TyU) (Aan:Int) (Aar:ByteArray) (Aao:Int) (Aa5:Int) (Aag:List Tree) (Ajk:Int):Option (TyA×TyC×TyL×Int×TyU):=(apd 24 Adp [([])]).bind fun l5=>(Rc.Ahw Aae Aax Ab4 Aah Aal l5 Ad2 Ads Aan Aar Aao Aa5 Aag).bind fun r10=>(Bat.f k r10.1 Ajk).bind fun r27=>Adj (fun (l32:TyA)=>(Aiq r10.2.2.1 0 (IntKind.i64.wrap (((r10.2.2.1.length:Nat):Int) - 1))).bind fun l38=>some (l32,r10.2.1,l38,r10.2.2.2.1,r10.2.2.2.2)) (fun J37=>(Ack r10.2.2.1 (IntKind.i64.wrap (((r10.2.2.1.length:Nat):Int) - 1))).bind fun x41=>Al9.l0 k x41 J37 0 r27)
theorem Al9.okg {Rc:GS} (hR:Rc.Good) {k:Nat}:Al9.C (Al9.g Rc k):=by
 intro Aae Aax Ab4 Aar Aah Aal Adp Ad2 Aan Aao Aa5 Ajk Ads Aag b0 Abb Ac3 Aa8 Abp Afn Abk Abm Agm Abx Ajl Ajm Aay Aaz Aa0 Aa3 Aea Afz Adk Afk Adz Ag7 Agp Ae4 G Aa9 Ac2 Aa7 Abn Afl Agi Abu r h Afd Aeo Aev Aek Ajc Aiw Ado hG
 refine Afi (args:=[pt b0,.agg #[iv Aan,sv Aar,iv Aao,iv Aa5,slW Abu Aag Abx],.func (.func 112) #[] #[pt Ajl,pt Ajm]]) Tryz.func78 rfl (Ac0 rfl) ?_
 intro A X hh_
 obtain ⟨Agn,Af2,Adg,Ad1,_⟩:=hh_
 unfold Al9.g at h
 refine K.eq (env':=[(0,pt b0),(1,.agg #[iv Aan,sv Aar,iv Aao,iv Aa5,slW Abu Aag Abx]),(2,.func (.func 112) #[] #[pt Ajl,pt Ajm])]) (l':=bk b0 #[Aay,Aaz,Aa0,slW Aa9 Aae Abb,slW Ac2 Aax Ac3,sv Ab4,slW Aa7 Aah Aa8,Aa3,pt Abk,pt Abm,slW Abn Aal Abp,slW Afl Adp Afn] 66 :: Adk :: Adz :: Ag7 :: bk Abk #[iv Ad2] 3 :: bk Abm #[slW Agi Ads Agm,Aea] 25 :: Agp :: bk Ajl #[pt b0] 61 :: bk Ajm #[iv Ajk] 3 :: X) rfl rfl (ksr (knp #[iv Aan,sv Aar,iv Aao,iv Aa5,slW Abu Aag Abx] 54 fun b1=>(Abz (kx 4 (kld 1 11 rfl (kns #[nS] 81 1 fun b2=>(Ag6 (K.mv1 (Aip (T:=81) (n:=1) (xs:=[([])]) (Ael.one (Bo2 (x:=([])) (Aaf.nil (encI .i64) 3 1 none_))) rfl rfl (Ac0 rfl) fun h3 o4=>(K.mv5 ?_))))))))))
 refine bnd h fun l5 hl5 h=>(Amd rfl Bsc rfl hl5 Ajc o4 fun h6 A7 k8 o9=>(kx 2 (K.mv2 (kst 11 1 #[Aay,Aaz,Aa0,slW Aa9 Aae Abb,slW Ac2 Aax Ac3,sv Ab4,slW Aa7 Aah Aa8,Aa3,pt Abk,pt Abm,slW Abn Aal Abp,slW A7 l5 k8] (Abz (kx 1 (kla 2 0 5 rfl (K.mv2 (K.drop (K.mv6 ?_))))))))))
 refine K.mv6 (K.mv6 (K.mv4 (K.mv6 (K.mv6 (K.mv6 (bnd h fun r10 Ax9 h=>(kcl (hR.Ahw Ax9 Afd Aeo Aev Aek o9 Aiw Ado hG) rfl ⟨(t2 Agn),(t2 Af2),(t2 Adg),(t2 Ad1),trivial⟩ ?_)))))))
 rintro _ _ ⟨h11,A12,k13,h15,A16,k17,h19,A20,k21,h23,A24,k25,o14,o18,o22,o26,rfl,rfl⟩
 refine Ajr (Abz (kx 1 (K.mv8 (K.mv2 (K.mv2 (K.mv8 (bnd h fun r27 Avy h=>(kcl (Bat.ok Avy o14) rfl trivial ?_))))))))
 rintro _ _ ⟨h28,A29,k30,o31,rfl,rfl⟩
 refine Bye (Abz (kx 3 (kld 1 11 rfl (kx 3 (knt ?_)))))
 obtain ⟨J37,Bfh,h⟩:=Ags h
 refine Agt (τ:=TyA×Aaa×TyO×Nat) (fun t=>[(0,pt b0),(6,iv (IntKind.i64.wrap (((r10.2.2.1.length:Nat):Int) - 1)))]) (fun t=>bk Ajl #[pt b0] 61 :: bk b0 #[Aay,Aaz,Aa0,slW Aa9 Aae Abb,slW t.2.2.1 t.1 t.2.2.2,sv Ab4,slW Aa7 Aah Aa8,Aa3,pt Abk,pt Abm,slW A16 r10.2.1 k17,slW A20 r10.2.2.1 k21] 66 :: bk Ajm #[iv Ajk] 3 :: h15 :: h19 :: bk Abk #[iv r10.2.2.2.1] 3 :: bk Abm #[slW A24 r10.2.2.2.2 k25,Aea] 25 :: h23 :: t.2.1 :: X) (fun t=>J37 t.1=some r∧Aaf e48 48 4 t.2.1 (slW t.2.2.1 t.1 t.2.2.2) t.1) ?_ ?_
 ·rintro ⟨l32,h33,A34,k35⟩ ⟨h,o36⟩
  subst Bfh
  refine Ab6 (kx 4 (kld 1 11 rfl (kx 1 (K.mv4 (bnd h fun l38 Bfm h=>(Bxe (T:=81) (R:=Aju) (k:=.i64) (xs:=r10.2.2.1) (IntKind.i64.wrap (((r10.2.2.1.length:Nat):Int) - 1)) rfl (by kernel_rfl) (by kernel_rfl) (by kernel_rfl) (by kernel_rfl) (by kernel_rfl) (by kernel_rfl) Bfm o22 fun h40 o39=>(kx 2 (K.mv2 (kst 11 1 #[Aay,Aaz,Aa0,slW Aa9 Aae Abb,slW A34 l32 k35,sv Ab4,slW Aa7 Aah Aa8,Aa3,pt Abk,pt Abm,slW A16 r10.2.1 k17,slW A20 l38 k21] (knl ?_))))))))))
  refine Afg ?_
  obtain rfl:=Aam h
  exact kdv (.tuple #[]) [bk b0 #[Aay,Aaz,Aa0,slW Aa9 Aae Abb,slW A34 l32 k35,sv Ab4,slW Aa7 Aah Aa8,Aa3,pt Abk,pt Abm,slW A16 r10.2.1 k17,slW A20 l38 k21] 66,h33,h15,h40,bk Abk #[iv r10.2.2.2.1] 3,bk Abm #[slW A24 r10.2.2.2.2 k25,Aea] 25,h23,bk Ajl #[pt b0] 61,bk Ajm #[iv Ajk] 3] (K.mv3 (K.mv3 (K.mv7 (K.mv7 (K.mv7 (K.mv6 (K.mv7 (K.mv8 (K.mv8 (Adq ⟨h33,A34,k35,h15,A16,k17,h40,A20,k21,h23,A24,k25,o36,o18,o39,o26,rfl,rfl⟩))))))))))
 ·skip
  refine ksr (kx 3 (kld 1 11 rfl (kx 1 (bnd h fun x41 A7t h=>(Ail (T:=81) (kd:=.i64) (R:=Aju) rfl A7t (Abf.rd o22) fun p42 u45 q46 e43 y44=>?_)))))
  obtain ⟨A47,k48,rfl,o49⟩:=B1d q46
  refine Aqx rfl (by kernel_rfl) (by kernel_rfl) (by kernel_rfl) (by kernel_rfl) e43 (.tail _ (.tail _ (.tail _ (.tail _ (.tail _ (.head _)))))) (kx 2 (knt (Aez (K.mv2 (K.mv8 (K.mv8 (K.mv8 (K.mv8 (K.mv8 (K.mv8 ?_))))))))))
  refine K.mv8 (K.mv8 (Akb (τ:=Int×TyA×Aaa×TyO×Nat) (fun t=>[(0,pt b0),(6,iv (IntKind.i64.wrap (((r10.2.2.1.length:Nat):Int) - 1))),(35,slW A47 x41 k48),(36,iv ((x41.length:Nat):Int)),(37,iv t.1)]) (fun t=>bk Ajl #[pt b0] 61 :: bk b0 #[Aay,Aaz,Aa0,slW Aa9 Aae Abb,slW t.2.2.2.1 t.2.1 t.2.2.2.2,sv Ab4,slW Aa7 Aah Aa8,Aa3,pt Abk,pt Abm,slW A16 r10.2.1 k17,slW A20 r10.2.2.1 k21] 66 :: bk Ajm #[iv Ajk] 3 :: h15 :: h19 :: bk Abk #[iv r10.2.2.2.1] 3 :: bk Abm #[slW A24 r10.2.2.2.2 k25,Aea] 25 :: h23 :: t.2.2.1 :: X) (fun m t=>Al9.l0 m x41 J37 t.1 t.2.1=some r∧Aaf e48 48 4 t.2.2.1 (slW t.2.2.2.1 t.2.1 t.2.2.2.2) t.2.1) k (0,r27,h28,A29,k30) ⟨h,o31⟩ sb rfl ?_))
  clear h
  rintro m56 ⟨x50,l51,h52,A53,k54⟩ ⟨h,o55⟩
  cases m56 with
  | zero=>simp [Al9.l0] at h
  | succ m56 =>
   simp only [Al9.l0] at h
   refine ksr (kx 1 (knt (Acx ?_)))
   refine kcn h (fun h=>?_) fun h=>?_
   ·refine Adl (Abi (Acx (Aez (ksr (bnd h fun x58 Bgc h=>(Anq (T:=3) (kd:=.i64) (Ai1 .i64) rfl Bgc o49 fun p59 e60 y61=>?_))))))
    have e60:Elem _ p59 [iv x58]:=e60
    refine Aqx rfl (by kernel_rfl) (by kernel_rfl) (by kernel_rfl) (by kernel_rfl) e60 (.tail _ (.tail _ (.tail _ (.tail _ (.head _))))) (kx 1 (knt (kpr [(0,0),(1,0),(2,0),(3,0),(4,3),(5,0),(6,0),(7,1)] [1] (kpx 4 (kpd 0 4 rfl (kpx 2 (kpt (K.mv1 (bnd h fun r62 A7q h=>(oc1 (Akp.ok A7q (Aaf.rd o55)) rfl ⟨(.tail _ (.tail _ (.tail _ (.tail _ (.tail _ (.tail _ (.tail _ (.head _)))))))),trivial⟩ ?_))))))))))
    refine kan [0] rfl (kpz (bnd h fun x63 Awu h=>(Anq (T:=48) (kd:=.i64) Aj5 rfl Awu (Aaf.rd o55) fun p64 e65 y66=>?_)))
    have e65:Elem _ p64 [iv x63.1,iv x63.2.1,iv x63.2.2.1,iv x63.2.2.2]:=e65
    refine Api (off:=1) rfl e65 y66 fun p67 e68 y69=>?_
    have e68:Elem _ p67 [iv x63.2.1,iv x63.2.2.1,iv x63.2.2.2]:=e68
    refine K.mv8 (bnd h fun l70 A4c h=>(Aye (v:=iv r62) (off:=1) (x':=(x63.1,r62,x63.2.2.1,x63.2.2.2)) Aj5 rfl (by kernel_rfl) (by kernel_rfl) (by kernel_rfl) (by kernel_rfl) (by kernel_rfl) y69 o55 Awu (by kernel_rfl) (by kernel_rfl) A4c fun h71 o72=>?_))
    have g73:=Ar0 A4c
    refine K.weak (env':=[(0,pt b0),(6,iv (IntKind.i64.wrap (((r10.2.2.1.length:Nat):Int) - 1))),(35,slW A47 x41 k48),(36,iv ((x41.length:Nat):Int)),(37,iv x50),(48,iv r62)]) ?_ ⟨gr,gr,(by first | rfl | (unfold slW;rw [g73];rfl)),gr,gr,gr,trivial⟩
    refine K.eq (l':=h71 :: bk b0 #[Aay,Aaz,Aa0,slW Aa9 Aae Abb,slW A53 l70 k54,sv Ab4,slW Aa7 Aah Aa8,Aa3,pt Abk,pt Abm,slW A16 r10.2.1 k17,slW A20 r10.2.2.1 k21] 66 :: bk Ajl #[pt b0] 61 :: bk Ajm #[iv Ajk] 3 :: h15 :: h19 :: bk Abk #[iv r10.2.2.2.1] 3 :: bk Abm #[slW A24 r10.2.2.2.2 k25,Aea] 25 :: h23 :: X) rfl (by first | rfl | (unfold slW;rw [g73];first | done | rfl)) (knl (Ade (Abi (Ab6 (kx 2 (knt (K.mv8 (K.mv8 (K.mv8 (K.mv8 ?_))))))))))
    exact K.mv8 (K.mv8 (K.mv7 (K.mv8 (Ai4 m56 (IntKind.i64.wrap (x50+1),l70,h71,A53,k54) (Nat.lt_succ_self _) ⟨h,o72⟩ sb rfl))))
   ·exact Aj9 (Agh (Agh (Aka (Abi (Ac1 (l51,h52,A53,k54) ⟨h,o55⟩ sb rfl)))))
def Aqt.g (Rc:GS) (k:Nat) (Aae:TyB) (Aax:TyA) (Ab4:ByteArray) (Aah:TyC) (Aal:TyC) (Adp:TyL) (Ad2:Int) (Ads:TyU) (Aan:Int) (Aar:ByteArray) (Aao:Int) (Aa5:Int) (Aag:List Tree) (a2:Int):Option (TyA×TyC×TyL×Int×TyU):=(Aiq Aag Aao a2).bind fun l3=>(Apw.f k Aae Aax Aah Aal l3 3).bind fun r7=>(Aiq Aag 0 Aao).bind fun l12=>(Azq.f k Aal l12).bind fun r16=>(Adi.f k r7 32 ([r16.1])).bind fun r22=>(Adi.f k r22.2 6 ([r16.1])).bind fun r28=>(Adi.f k r28.2 22 ([])).bind fun r34=>(Adi.f k r34.2 6 ([IntKind.i64.wrap (r16.1+1)])).bind fun r40=>(Adi.f k r40.2 6 ([IntKind.i64.wrap (r16.1+2)])).bind fun r46=>(Adi.f k r46.2 24 ([Aao])).bind fun r52=>(Adi.f k r52.2 33 ([r16.1,0,Aao])).bind fun r58=>(Ack Aag a2).bind fun x63=>(Rc.Al9 Aae r58.2 Ab4 Aah r16.2 Adp Ad2 Ads x63.kind x63.text x63.n x63.at_ x63.kids r28.1).bind fun r72=>(Akp.f k r72.1).bind fun r89=>(Ack r72.1 r58.1).bind fun x90=>(Akq r72.1 r58.1 (x90.1,x90.2.1,r89,x90.2.2.2)).bind fun l97=>(A1d.f k r72.2.1 r16.1).bind fun B0i=>some (l97,B0i,r72.2.2.1,r72.2.2.2.1,r72.2.2.2.2)
theorem Aqt.okg {Rc:GS} (hR:Rc.Good) {k:Nat}:Aqt.C (Aqt.g Rc k):=by
 intro Aae Aax Ab4 Aar Aah Aal Adp Ad2 Aan Aao Aa5 a2 Ads Aag b0 Abb Ac3 Aa8 Abp Afn Abk Abm Agm Abx Aay Aaz Aa0 Aa3 Aea Afz Adk Afk Adz Ag7 Agp Ae4 G Aa9 Ac2 Aa7 Abn Afl Agi Abu r h Afd Aeo Aev Aek Ajc Aiw Ado hG
 refine Afi (args:=[pt b0,.agg #[iv Aan,sv Aar,iv Aao,iv Aa5,slW Abu Aag Abx],iv a2]) Tryz.func84 rfl (Ac0 rfl) ?_
 intro A X hh_
 obtain ⟨Agn,Af2,Adg,Ad1,_⟩:=hh_
 unfold Aqt.g at h
 refine K.eq (env':=[(0,pt b0),(1,.agg #[iv Aan,sv Aar,iv Aao,iv Aa5,slW Abu Aag Abx]),(2,iv a2)]) (l':=bk b0 #[Aay,Aaz,Aa0,slW Aa9 Aae Abb,slW Ac2 Aax Ac3,sv Ab4,slW Aa7 Aah Aa8,Aa3,pt Abk,pt Abm,slW Abn Aal Abp,slW Afl Adp Afn] 66 :: Adk :: Adz :: Ag7 :: bk Abk #[iv Ad2] 3 :: bk Abm #[slW Agi Ads Agm,Aea] 25 :: Agp :: X) rfl rfl (ksr (knp #[pt b0] 61 fun b1=>(knp #[iv Aan,sv Aar,iv Aao,iv Aa5,slW Abu Aag Abx] 54 fun b2=>(knt (Acx (kpr [(0,3),(1,0),(2,3),(3,0),(4,3),(5,0),(6,0)] [0,1] (kpd 1 0 rfl (kpx 1 (kpd 0 4 rfl (kpx 1 ?_))))))))))
 refine kpd 0 2 rfl (kpx 1 (bnd h fun l3 hl3 h=>(Awx (T:=54) (R:=(Abt 54)) (xs:=Aag) Aao a2 rfl (by kernel_rfl) (by kernel_rfl) (by kernel_rfl) (.inr ⟨_,.i64,rfl,(by kernel_rfl)⟩) (.inr ⟨_,.i64,rfl,(by kernel_rfl)⟩) (by kernel_rfl) (by kernel_rfl) hl3 Ado fun A4 k5 o6=>(kpz (K.mv3 (K.mv3 (bnd h fun r7 hr7 h=>(kcl (Apw.ok hr7 Afd Aeo Aev (Aaf.rd Aek) o6 hG) rfl ⟨(t7 Agn),(t7 Af2),(.tail _ (.tail _ (.head _))),(t7 Adg),(t7 Ad1),trivial⟩ ?_))))))))
 rintro _ _ ⟨h8,A9,k10,o11,rfl,rfl⟩
 refine Ach (knt (Acx (kpr [(0,3),(1,0),(2,3),(3,0),(4,3),(5,0)] [2,3] (kpd 1 0 rfl (kpx 1 (kpd 0 4 rfl (kpx 1 (kpd 0 2 rfl (bnd h fun l12 hl12 h=>(Awx (T:=54) (R:=(Abt 54)) (xs:=Aag) 0 Aao rfl (by kernel_rfl) (by kernel_rfl) (by kernel_rfl) (.inl ⟨rfl,rfl⟩) (.inr ⟨_,.i64,rfl,(by kernel_rfl)⟩) (by kernel_rfl) (by kernel_rfl) hl12 Ado fun A13 k14 o15=>?_))))))))))
 refine kpz (K.mv4 (K.mv1 (bnd h fun r16 Avu h=>(kcl (Azq.ok Avu Aek o15) rfl ⟨(t7 Adg),trivial⟩ ?_))))
 rintro _ _ ⟨h17,A18,k19,o20,rfl,rfl⟩
 refine Ach (kx 1 (Abz (kld 4 0 rfl (kx 1 (kns #[iv r16.1] 3 1 fun b21=>(K.mv3 (K.mv2 (bnd h fun r22 Cy4 h=>(kcl (Adi.ok Cy4 o11 (Aaf.rd (Aaf.blk 3 (Ai1 .i64) b21 [r16.1] #[iv r16.1] 1 (by kernel_rfl) rfl (by decide)))) rfl ⟨(.head _),trivial⟩ ?_)))))))))
 rintro _ _ ⟨h23,A24,k25,o26,rfl,rfl⟩
 refine Ach (K.mv2 (K.drop (Abz (kld 4 0 rfl (kx 1 (kns #[iv r16.1] 3 1 fun b27=>(K.mv2 (K.mv2 (bnd h fun r28 Bfv h=>(kcl (Adi.ok Bfv o26 (Aaf.rd (Aaf.blk 3 (Ai1 .i64) b27 [r16.1] #[iv r16.1] 1 (by kernel_rfl) rfl (by decide)))) rfl ⟨(.head _),trivial⟩ ?_))))))))))
 rintro _ _ ⟨h29,A30,k31,o32,rfl,rfl⟩
 refine Ach (K.mv2 (K.drop (knp #[iv 0] 3 fun b33=>(kst 0 1 #[iv r28.1] (Abz (kld 5 0 rfl (Ag6 (K.mv3 (K.mv3 (bnd h fun r34 Bu8 h=>?_))))))))))
 refine kcl (Adi.ok Bu8 o32 (RdT.nil (encI .i64) 1 none_)) rfl ⟨(.head _),trivial⟩ ?_
 rintro _ _ ⟨h35,A36,k37,o38,rfl,rfl⟩
 refine Ach (K.mv2 (K.drop (Abz (kld 5 0 rfl (kx 2 (kns #[iv (IntKind.i64.wrap (r16.1+1))] 3 1 fun b39=>(K.mv2 (K.mv2 (bnd h fun r40 Bfy h=>(kcl (Adi.ok Bfy o38 (Aaf.rd (Aaf.blk 3 (Ai1 .i64) b39 [IntKind.i64.wrap (r16.1+1)] #[iv (IntKind.i64.wrap (r16.1+1))] 1 (by kernel_rfl) rfl (by decide)))) rfl ⟨(.head _),trivial⟩ ?_))))))))))
 rintro _ _ ⟨h41,A42,k43,o44,rfl,rfl⟩
 refine Ach (K.mv2 (K.drop (Abz (kld 5 0 rfl (kx 2 (kns #[iv (IntKind.i64.wrap (r16.1+2))] 3 1 fun b45=>(K.mv2 (K.mv2 (bnd h fun r46 Bvd h=>(kcl (Adi.ok Bvd o44 (Aaf.rd (Aaf.blk 3 (Ai1 .i64) b45 [IntKind.i64.wrap (r16.1+2)] #[iv (IntKind.i64.wrap (r16.1+2))] 1 (by kernel_rfl) rfl (by decide)))) rfl ⟨(.head _),trivial⟩ ?_))))))))))
 rintro _ _ ⟨h47,A48,k49,o50,rfl,rfl⟩
 refine Ach (K.mv2 (K.drop (Abz (kld 5 0 rfl (kx 1 (kld 4 2 rfl (kns #[iv Aao] 3 1 fun b51=>(K.mv2 (K.mv2 (bnd h fun r52 Bvh h=>?_))))))))))
 refine kcl (Adi.ok Bvh o50 (Aaf.rd (Aaf.blk 3 (Ai1 .i64) b51 [Aao] #[iv Aao] 1 (by kernel_rfl) rfl (by decide)))) rfl ⟨(.head _),trivial⟩ ?_
 rintro _ _ ⟨h53,A54,k55,o56,rfl,rfl⟩
 refine Ach (K.mv2 (K.drop (Abz (kld 5 0 rfl (kx 2 (kld 4 2 rfl (kns #[iv r16.1,iv 0,iv Aao] 3 3 fun b57=>(K.mv2 (K.mv2 (bnd h fun r58 Bf4 h=>?_))))))))))
 refine kcl (Adi.ok Bf4 o56 (Aaf.rd (Aaf.blk 3 (Ai1 .i64) b57 [r16.1,0,Aao] #[iv r16.1,iv 0,iv Aao] 3 (by kernel_rfl) rfl (by decide)))) rfl ⟨(.head _),trivial⟩ ?_
 rintro _ _ ⟨h59,A60,k61,o62,rfl,rfl⟩
 refine Ach (K.mv2 (K.drop (kx 1 (knt (Acx (Arz [(0,3),(1,0),(2,3),(3,0),(4,0),(5,3),(6,0)] [bk b2 #[iv Aan,sv Aar,iv Aao,iv Aa5,slW Abu Aag Abx] 54,bk b1 #[pt b0] 61,Ae4] (fun w h_=>⟨h_.sat.on _ (.tail _ (.tail _ (.tail _ (.tail _ (.head _))))),h_.sat.on _ (.tail _ (.tail _ (.tail _ (.tail _ (.tail _ (.head _)))))),h_.sat.on _ (t10 Adg),trivial⟩) (kpd 1 0 rfl (kpx 1 (kpd 0 4 rfl (kpx 1 ?_))))))))))
 refine bnd h fun x63 Awu h=>(Ap9 (T:=54) (kd:=.i64) (R:=(Abt 54)) rfl Awu Ado fun p64 u67 q68 e65 y66=>?_)
 obtain ⟨A69,k70,rfl,o71⟩:=Aig 54 q68
 refine Aqy rfl e65 (fun w h_=>h_.mem _ (.tail _ (.tail _ (.head _)))) (kpx 1 (kpz (K.mv2 (K.mv5 (K.mv9 (K.mv9 (K.mv9 (K.mv9 (K.mv8 (K.mv8 ?_))))))))))
 refine K.mv8 (bnd h fun r72 Bf5 h=>(kcl (hR.Al9 Bf5 Afd o62 Aev o20 Ajc Aiw o71 hG) rfl ⟨(.tail _ Agn),(.tail _ Af2),(.tail _ Adg),(.tail _ Ad1),trivial⟩ ?_))
 rintro _ _ ⟨h73,A74,k75,h77,A78,k79,h81,A82,k83,h85,A86,k87,o76,o80,o84,o88,rfl,rfl⟩
 refine Ajr (K.mv8 (K.drop (K.mv8 (K.drop (knt (Acx (kpr [(0,3),(1,0),(2,0),(3,0),(4,3),(5,0),(6,3),(7,1)] [0,7] (kpd 1 0 rfl (kpx 3 (kpd 0 4 rfl ?_))))))))))
 refine kpx 1 (kpd 1 0 rfl (kpt (bnd h fun r89 Bv1 h=>(oc1 (Akp.ok Bv1 (Aaf.rd o76)) rfl ⟨(.head _),trivial⟩ (kan [0,7] rfl (kpz (bnd h fun x90 hx90 h=>(Anq (T:=48) (kd:=.i64) Aj5 rfl hx90 (Aaf.rd o76) fun p91 e92 y93=>?_))))))))
 have e92:Elem _ p91 [iv x90.1,iv x90.2.1,iv x90.2.2.1,iv x90.2.2.2]:=e92
 refine Api (off:=2) rfl e92 y93 fun p94 e95 y96=>?_
 have e95:Elem _ p94 [iv x90.2.2.1,iv x90.2.2.2]:=e95
 refine K.mv1 (bnd h fun l97 Cbt h=>(Aye (v:=iv r89) (off:=2) (x':=(x90.1,x90.2.1,r89,x90.2.2.2)) Aj5 rfl (by kernel_rfl) (by kernel_rfl) (by kernel_rfl) (by kernel_rfl) (by kernel_rfl) y96 o76 hx90 (by kernel_rfl) (by kernel_rfl) Cbt fun h98 o99=>?_))
 have Cts:=Ar0 Cbt
 refine K.weak (env':=[(3,pt b1),(6,iv r16.1),(70,iv r89)]) ?_ ⟨gr,gr,gr,trivial⟩
 refine K.eq (l':=h98 :: bk b0 #[Aay,Aaz,Aa0,slW Aa9 Aae Abb,slW A74 l97 k75,sv Ab4,slW Aa7 Aah Aa8,Aa3,pt Abk,pt Abm,slW A78 r72.2.1 k79,slW A82 r72.2.2.1 k83] 66 :: h77 :: h81 :: bk Abk #[iv r72.2.2.2.1] 3 :: bk Abm #[slW A86 r72.2.2.2.2 k87,Aea] 25 :: h85 :: bk b1 #[pt b0] 61 :: X) rfl (by first | rfl | (unfold slW;rw [Cts];first | done | rfl)) (knr (kld 7 0 rfl (K.mv7 (K.drop (kx 1 (K.mv2 (K.mv2 (bnd h fun B0i Cx3 h=>(kcl (A1d.ok Cx3 o80) rfl trivial ?_)))))))))
 rintro _ _ ⟨A6t,A5l,A8b,Bb1,rfl,rfl⟩
 refine Ach (knl (Afg ?_))
 obtain rfl:=Aam h
 exact kdv (.tuple #[]) [bk b0 #[Aay,Aaz,Aa0,slW Aa9 Aae Abb,slW A74 l97 k75,sv Ab4,slW Aa7 Aah Aa8,Aa3,pt Abk,pt Abm,slW A5l B0i A8b,slW A82 r72.2.2.1 k83] 66,h98,A6t,h81,bk Abk #[iv r72.2.2.2.1] 3,bk Abm #[slW A86 r72.2.2.2.2 k87,Aea] 25,h85] (K.mv6 (K.mv6 (K.mv6 (K.mv6 (K.mv5 (K.mv6 (K.mv6 (Adq ⟨h98,A74,k75,A6t,A5l,A8b,h81,A82,k83,h85,A86,k87,o99,Bb1,o84,o88,rfl,rfl⟩))))))))
def Arw.g (Rc:GS) (k:Nat) (Ab4:ByteArray) (Aah:TyC) (Ad2:Int) (Ads:TyU) (Aan:Int) (Aar:ByteArray) (Aao:Int) (Aa5:Int) (Aag:List Tree):Option (Int×TyU):=(Ack Ads Ad2).bind fun x2=>x2.bind fun x4=>(Akq Ads Ad2 none).bind fun l23=>(Aiq Aag 0 Aao).bind fun l26=>(Ap8.f k ([]) l26).bind fun r30=>(Ack Aag Aao).bind fun x35=>(Rc.Al8 x4.2.2.2.1 x4.2.2.2.2 Ab4 Aah r30 ([]) (IntKind.i64.wrap (Ad2+1)) l23 x35.kind x35.text x35.n x35.at_ x35.kids).bind fun r44=>(Ack r44.2.2.2.2 Ad2).bind fun x61=>(Akq r44.2.2.2.2 Ad2 (some (x4.1,x4.2.1,x4.2.2.1,x4.2.2.2.1,r44.1))).bind fun l72=>some (r44.2.2.2.1,l72)
theorem Arw.okg {Rc:GS} (hR:Rc.Good) {k:Nat}:Arw.C (Arw.g Rc k):=by
 intro Ab4 Aar Aah Ad2 Aan Aao Aa5 Ads Aag b0 Aa8 Abk Abm Agm Abx Aay Aaz Aa0 Ah2 Akm Aa3 Amw Acn Aea Afk Agp Ae4 G Aa7 Agi Abu r h Aev Aiw Ado hG
 refine Afi (args:=[pt b0,.agg #[iv Aan,sv Aar,iv Aao,iv Aa5,slW Abu Aag Abx]]) Tryz.func87 rfl (Ac0 rfl) ?_
 intro A X hh_
 obtain ⟨Af2,Adg,Ad1,_⟩:=hh_
 unfold Arw.g at h
 refine K.eq (env':=[(0,pt b0),(1,.agg #[iv Aan,sv Aar,iv Aao,iv Aa5,slW Abu Aag Abx])]) (l':=bk b0 #[Aay,Aaz,Aa0,Ah2,Akm,sv Ab4,slW Aa7 Aah Aa8,Aa3,pt Abk,pt Abm,Amw,Acn] 66 :: bk Abk #[iv Ad2] 3 :: bk Abm #[slW Agi Ads Agm,Aea] 25 :: Agp :: X) rfl rfl (ksr (knp #[iv Aan,sv Aar,iv Aao,iv Aa5,slW Abu Aag Abx] 54 fun b1=>(Abz (kx 3 (kld 1 8 rfl (kx 1 (kld 2 0 rfl (kx 1 (Abz (kx 3 ?_))))))))))
 refine kld 1 8 rfl (kx 1 (kld 2 0 rfl (kx 2 (K.mv2 (kst 0 1 #[iv (IntKind.i64.wrap (Ad2+1))] (knt ?_))))))
 obtain ⟨x4,i3,h⟩:=Brm h
 refine K.mv4 (Bbm (R:=(Ahx Aht)) Aiw (Ayk i3).2.2 fun h5 h6 c7 _ _ o8 e9=>?_)
 obtain ⟨A10,k11,A13,k14,h17,h18,rfl,rfl,p16,o12,o15⟩:=Cju o8
 refine A4e p16 (Acx (kpr [(0,0),(1,0),(2,0),(3,3),(4,0),(5,3),(6,0),(7,0),(8,3),(9,0),(10,0),(11,0),(12,3),(13,0),(14,0),(15,0),(16,3),(17,0),(18,0),(19,0),(20,3),(21,0),(22,0),(23,0),(24,3)] [2,5,6] (kpx 3 (kpd 1 9 rfl (kpx 1 (kpd 2 0 rfl (kpx 1 (Ap9 (T:=41) (kd:=.i64) (R:=(Ahx Aht)) rfl i3 (Abf.rd Aiw) fun p19 _ _ _ y20=>?_))))))))
 have e21:Elem h6 p19 [sv x4.1,iv x4.2.1,iv x4.2.2.1,slW A10 x4.2.2.2.1 k11,slW A13 x4.2.2.2.2 k14]:=Arl.elem e9 y20
 refine Aqy rfl e21 (fun w h_=>h_.mem _ (.head _)) (kpx 3 (kpd 1 5 rfl (kpx 3 (kpd 1 6 rfl (kpx 3 (kpd 1 8 rfl (kpx 3 (kpd 1 9 rfl (kpz (kx 1 ?_))))))))))
 refine knp #[sv x4.1,iv x4.2.1,iv x4.2.2.1,slW A10 x4.2.2.2.1 k11,slW A13 x4.2.2.2.2 k14,sv Ab4,slW Aa7 Aah Aa8,nS,pt Abk,pt Abm,nS,nS] 66 fun b22=>(kx 1 (knl (bnd h fun l23 Cbj h=>(K.mv3 (Bxc Cbj e9 (B1b (Bih o12 o15 p16)) fun o24=>?_)))))
 have g25:=Ar0 Cbj
 refine K.weak (env':=[(0,pt b0),(3,pt b1),(4,iv Ad2),(5,pt b22)]) ?_ ⟨gr,gr,gr,gr,trivial⟩
 refine K.eq (l':=h6 :: bk b22 #[sv x4.1,iv x4.2.1,iv x4.2.2.1,slW A10 x4.2.2.2.1 k11,slW A13 x4.2.2.2.2 k14,sv Ab4,slW Aa7 Aah Aa8,nS,pt Abk,pt Abm,nS,nS] 66 :: h17 :: h18 :: bk Abk #[iv (IntKind.i64.wrap (Ad2+1))] 3 :: bk b1 #[iv Aan,sv Aar,iv Aao,iv Aa5,slW Abu Aag Abx] 54 :: bk b0 #[Aay,Aaz,Aa0,Ah2,Akm,sv Ab4,slW Aa7 Aah Aa8,Aa3,pt Abk,pt Abm,Amw,Acn] 66 :: bk Abm #[slW Agi l23 Agm,Aea] 25 :: X) rfl (by first | rfl | (unfold slW;rw [g25];first | done | rfl)) (Abi (ksr (kx 2 (kld 5 4 rfl (kx 1 (kld 5 2 rfl (bnd h fun l26 Cw4 h=>(A8i (T:=54) (R:=(Abt 54)) (xs:=Aag) 0 Aao rfl (by kernel_rfl) (by kernel_rfl) (by kernel_rfl) (.inl ⟨rfl,rfl⟩) (.inr ⟨_,.i64,rfl,(by kernel_rfl)⟩) (by kernel_rfl) (by kernel_rfl) Cw4 Ado fun A27 k28 o29=>(Ag6 (K.mv2 ?_))))))))))
 refine bnd h fun r30 Bu6 h=>(kcl (Ap8.ok Bu6 (Aaf.nil encS 9 1 none_) o29) rfl ⟨(t7 Adg),trivial⟩ ?_)
 rintro _ _ ⟨h31,A32,k33,o34,rfl,rfl⟩
 refine Ach (Abz (kx 2 (kld 6 4 rfl (kx 1 (kld 6 2 rfl (K.mv6 (K.drop (bnd h fun x35 Bv6 h=>(Ail (T:=54) (kd:=.i64) (R:=(Abt 54)) rfl Bv6 Ado fun p36 u39 q40 e37 y38=>?_)))))))))
 obtain ⟨A41,k42,rfl,o43⟩:=Aig 54 q40
 refine keN rfl e37 (t8 Adg) (Ag6 (K.mv3 (K.mv8 (K.mv7 (K.mv3 (K.mv5 (K.mv7 (K.mv6 (bnd h fun r44 A7o h=>(kcl (hR.Al8 A7o (Aaf.rd o12) o15 Aev o34 (Abf.nil Aju 81 none_) o24 o43 hG) rfl ⟨(.head _),(t2 Af2),(t2 Adg),(t2 Ad1),trivial⟩ ?_))))))))))
 rintro _ _ ⟨h45,A46,k47,h49,A50,k51,h53,A54,k55,h57,A58,k59,o48,o52,o56,o60,rfl,rfl⟩
 refine Ajr (knt (bnd h fun x61 i62 h=>(K.mv6 (Bbm (R:=(Ahx Aht)) o60 (Ayk i62).2.2 fun h63 h64 c65 _ _ o66 e67=>(K.drop (kpr [(0,0),(1,0),(2,0),(3,3),(4,0),(5,3),(6,0),(7,0),(8,0),(9,0),(10,3)] [1,6,8] (kpx 3 (kpd 2 9 rfl (kpx 1 (kpd 1 0 rfl ?_))))))))))
 refine kpx 4 (kpa 0 0 5 rfl (kpz (Ail (T:=41) (kd:=.i64) (R:=(Ahx Aht)) rfl i62 (Abf.rd o60) fun p68 _ _ _ y69=>(K.mv1 (K.drop (K.mv2 (K.drop (K.mv2 (K.drop (K.mv1 ?_))))))))))
 refine K.mv4 (Av0 fun p71=>(K.mv1 (bnd h fun l72 Bl6 h=>(Bxg (R:=(Ahx Aht)) (v:=.agg #[sv x4.1,iv x4.2.1,iv x4.2.2.1,slW A10 x4.2.2.2.1 k11,slW A46 r44.1 k47]) (x':=(some (x4.1,x4.2.1,x4.2.2.1,x4.2.2.2.1,r44.1))) rfl (by kernel_rfl) (by kernel_rfl) (by kernel_rfl) (by kernel_rfl) (by kernel_rfl) y69 Bl6 e67 (Bih (x:=(x4.1,x4.2.1,x4.2.2.1,x4.2.2.2.1,r44.1)) o12 o48 p71) fun h73 o74=>?_))))
 have g75:=Ar0 Bl6
 refine K.weak (env':=[(72,.agg #[sv x4.1,iv x4.2.1,iv x4.2.2.1,slW A10 x4.2.2.2.1 k11,slW A46 r44.1 k47])]) ?_ ⟨(by first | rfl | (unfold slW;rw [g75];rfl)),trivial⟩
 refine K.eq (l':=h73 :: bk Abk #[iv r44.2.2.2.1] 3 :: bk Abm #[slW A58 l72 k59,Aea] 25 :: bk b0 #[Aay,Aaz,Aa0,Ah2,Akm,sv Ab4,slW Aa7 Aah Aa8,Aa3,pt Abk,pt Abm,Amw,Acn] 66 :: X) rfl (by first | rfl | (unfold slW;rw [g75];first | done | rfl)) (knl (Afg ?_))
 obtain rfl:=Aam h
 exact kdv (.tuple #[]) [bk b0 #[Aay,Aaz,Aa0,Ah2,Akm,sv Ab4,slW Aa7 Aah Aa8,Aa3,pt Abk,pt Abm,Amw,Acn] 66,bk Abk #[iv r44.2.2.2.1] 3,bk Abm #[slW A58 l72 k59,Aea] 25,h73] (K.mv2 (K.mv2 (K.mv3 (Adq ⟨h73,A58,k59,o74,rfl,rfl⟩))))
def GS.at:Nat→GS
 | 0=>⟨fun _ _ _ _ _ _ _ _ _ _ _ _ _=>none,fun _ _ _ _ _ _ _ _ _ _ _ _ _=>none,fun _ _ _ _ _ _ _ _ _ _ _ _ _=>none,fun _ _ _ _ _ _ _ _ _=>none,fun _ _ _ _ _ _ _ _ _ _ _ _ _ _=>none,fun _ _ _ _ _ _ _ _ _ _ _ _ _ _ _=>none,fun _ _ _ _ _ _ _ _ _ _ _ _ _ _=>none,fun _ _ _ _ _ _ _ _ _ _ _ _ _ _=>none,fun _ _ _ _ _ _ _ _ _=>none⟩
 | k+1=>⟨Ahw.g (GS.at k) k,Al8.g (GS.at k) k,Ahl.g (GS.at k) k,Aio.g (GS.at k) k,Am6.g (GS.at k) k,Am9.g (GS.at k) k,Al9.g (GS.at k) k,Aqt.g (GS.at k) k,Arw.g (GS.at k) k⟩
theorem GS.good:∀ k,(GS.at k).Good
 | 0=>⟨(by unfold Ahw.C;intros;rename_i h _ _ _ _ _ _ _ _;cases (show (none:Option _)=some _ from h)),(by unfold Al8.C;intros;rename_i h _ _ _ _ _ _ _ _;cases (show (none:Option _)=some _ from h)),(by unfold Ahl.C;intros;rename_i h _ _ _ _ _ _ _ _;cases (show (none:Option _)=some _ from h)),(by unfold Aio.C;intros;rename_i h _ _ _ _ _ _ _ _;cases (show (none:Option _)=some _ from h)),(by unfold Am6.C;intros;rename_i h _ _ _ _ _ _ _ _;cases (show (none:Option _)=some _ from h)),(by unfold Am9.C;intros;rename_i h _ _ _ _ _ _ _ _;cases (show (none:Option _)=some _ from h)),(by unfold Al9.C;intros;rename_i h _ _ _ _ _ _ _ _;cases (show (none:Option _)=some _ from h)),(by unfold Aqt.C;intros;rename_i h _ _ _ _ _ _ _ _;cases (show (none:Option _)=some _ from h)),(by unfold Arw.C;intros;rename_i h _ _ _ _;cases (show (none:Option _)=some _ from h))⟩
 | k+1=>⟨Ahw.okg (k:=k) (GS.good k),Al8.okg (k:=k) (GS.good k),Ahl.okg (k:=k) (GS.good k),Aio.okg (k:=k) (GS.good k),Am6.okg (k:=k) (GS.good k),Am9.okg (k:=k) (GS.good k),Al9.okg (k:=k) (GS.good k),Aqt.okg (k:=k) (GS.good k),Arw.okg (k:=k) (GS.good k)⟩
def Al8.f (k:Nat):=Al8.g (GS.at k) k
theorem Al8.ok {k:Nat}:Al8.C (Al8.f k):=Al8.okg (k:=k) (GS.good k)
end
end Go.Proofs.YtkdjiehclahliaaGreatDoor
