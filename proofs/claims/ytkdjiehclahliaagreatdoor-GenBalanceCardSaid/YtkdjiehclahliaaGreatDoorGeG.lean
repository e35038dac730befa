/- Texts of mine for genBalance_card, part 7. -/
import Derived.Test.YtkdjiehclahliaaGreatDoorGeF
set_option linter.unusedSimpArgs false
set_option linter.unusedVariables false
set_option linter.unusedSectionVars false
namespace Go.Proofs.YtkdjiehclahliaaGreatDoor
set_option maxRecDepth 100000
section
open Go Go.RowKit
def Et:FH (List Int):=rS1 0 (fun x=>[]) (fun _=>⟨rfl,rfl⟩) (encI .i64) 3 1 (fun x=>x)
theorem Xb {x:List Int} {H:Ab} {A:Option Addr} {c:Nat} (h:Ah (encI .i64) 3 1 H (.slice A (x).length c) (x)):Et.own x H [.slice A (x).length c]:=⟨A,c,rfl,h⟩
theorem Aeb {x:List Int} {H:Ab} {cs:List Value} (h:Et.rd x H cs):∃ A c,cs=[.slice A (x).length c]∧Bf (encI .i64) 1 H (.slice A (x).length c) (x):=h
def D4:FH (ByteArray×Int×Int×Bl×TyA):=rS2 3 (fun x=>[.string x.1,.int .i64 x.2.1,.int .i64 x.2.2.1]) (fun _=>⟨rfl,rfl⟩) Dt 78 3 (fun x=>x.2.2.2.1) e48 48 4 (fun x=>x.2.2.2.2)
theorem Ul {x:ByteArray×Int×Int×Bl×TyA} {H1 H2:Ab} {A:Ar} {c:Nat} {B:Ar} {d:Nat} (h1:Ah Dt 78 3 H1 (.slice A (x.2.2.2.1).length c) (x.2.2.2.1)) (h2:Ah e48 48 4 H2 (.slice B (x.2.2.2.2).length d) (x.2.2.2.2)) (ha:H1.Apart H2):D4.own x (H1.or H2) [sv x.1,iv x.2.1,iv x.2.2.1,.slice A (x.2.2.2.1).length c,.slice B (x.2.2.2.2).length d]:=⟨A,c,B,d,H1,H2,rfl,rfl,ha,h1,h2⟩
theorem Av4 {x:ByteArray×Int×Int×Bl×TyA} {H:Ab} {cs:List Value} (h:D4.own x H cs):∃ A c B d H1 H2,cs=[sv x.1,iv x.2.1,iv x.2.2.1,.slice A (x.2.2.2.1).length c,.slice B (x.2.2.2.2).length d]∧H=H1.or H2∧H1.Apart H2∧Ah Dt 78 3 H1 (.slice A (x.2.2.2.1).length c) (x.2.2.2.1)∧Ah e48 48 4 H2 (.slice B (x.2.2.2.2).length d) (x.2.2.2.2):=h
theorem Aea {x:ByteArray×Int×Int×Bl×TyA} {H:Ab} {cs:List Value} (h:D4.rd x H cs):∃ A c B d,cs=[sv x.1,iv x.2.1,iv x.2.2.1,.slice A (x.2.2.2.1).length c,.slice B (x.2.2.2.2).length d]∧Bf Dt 3 H (.slice A (x.2.2.2.1).length c) (x.2.2.2.1)∧Bf e48 4 H (.slice B (x.2.2.2.2).length d) (x.2.2.2.2):=h
theorem Vy:Ft Tryz.prog 81 3 1 8 Tryz.t3 (iv 0):=⟨by kernel_rfl,by kernel_rfl,by kernel_rfl,by kernel_rfl,by kernel_rfl,by kernel_rfl,by decide⟩
theorem Ye:Ft Tryz.prog 64 81 1 24 Tryz.t81 (nS):=⟨by kernel_rfl,by kernel_rfl,by kernel_rfl,by kernel_rfl,by kernel_rfl,by kernel_rfl,by decide⟩
structure GS where
 D2:Bl→TyA→ByteArray→Ag→Ag→TyL→Int→TyU→Int→ByteArray→Int→Int→List Tree→Option (TyA×Ag×TyL×Int×TyU)
 F3:Bl→TyA→ByteArray→Ag→Ag→TyL→Int→TyU→Int→ByteArray→Int→Int→List Tree→Option (TyA×Ag×TyL×Int×TyU)
 Dx:Bl→TyA→ByteArray→Ag→Ag→TyL→Int→TyU→Int→ByteArray→Int→Int→List Tree→Option (TyA×Ag×TyL×Int×TyU)
 DN:Bl→TyA→ByteArray→Ag→Ag→TyL→Int→TyU→List Tree→Option (TyA×Ag×TyL×Int×TyU)
 FL:Bl→TyA→ByteArray→Ag→Ag→TyL→Int→TyU→Int→ByteArray→Int→Int→List Tree→Int→Option (TyA×Ag×TyL×Int×TyU)
 FM:Bl→TyA→ByteArray→Ag→Ag→TyL→Int→TyU→Int→ByteArray→Int→Int→List Tree→Int→Int→Option (TyA×Ag×TyL×Int×TyU)
 F4:Bl→TyA→ByteArray→Ag→Ag→TyL→Int→TyU→Int→ByteArray→Int→Int→List Tree→Int→Option (TyA×Ag×TyL×Int×TyU)
 HJ:Bl→TyA→ByteArray→Ag→Ag→TyL→Int→TyU→Int→ByteArray→Int→Int→List Tree→Int→Option (TyA×Ag×TyL×Int×TyU)
 Iu:ByteArray→Ag→Int→TyU→Int→ByteArray→Int→Int→List Tree→Option (Int×TyU)
def D2.C (fC:Bl→TyA→ByteArray→Ag→Ag→TyL→Int→TyU→Int→ByteArray→Int→Int→List Tree→Option (TyA×Ag×TyL×Int×TyU)):Prop:=∀ {Ai:Bl} {Au:TyA} {Bh As:ByteArray} {Al An:Ag} {BG:TyL} {BT Af Aq AC:Int} {BL:TyU} {Am:List Tree} {b0 AJ B2 AH AT C8 AO AP CW Bj:Nat} {Ay Az A2 AA Cf:Value} {CF BF C4 BS Dn Da Cs G:Ab} {AI B1 AG AR C6 CU Bi:Ar} {r:TyA×Ag×TyL×Int×TyU} (h:fC Ai Au Bh Al An BG BT BL Af As Aq AC Am=some r) (Cu:Bf Dt 3 CF (Aa AI Ai AJ) Ai) (Ck:Ah e48 48 4 BF (Aa B1 Au B2) Au) (Cm:Bf encS 1 C4 (Aa AG Al AH) Al) (Cg:Ah encS 9 1 BS (Aa AR An AT) An) (Ee:AL Et 81 Dn (Aa C6 BG C8) BG) (DX:AL (D3 D4) 41 Da (Aa CU BL CW) BL) (BJ:RdR (Bb 54) Cs (Aa Bi Am Bj) Am) (hG:E2 G),Ct Tryz.prog 29 #[pt b0,.agg #[iv Af,sv As,iv Aq,iv AC,Aa Bi Am Bj]] [bk b0 #[Ay,Az,A2,Aa AI Ai AJ,Aa B1 Au B2,sv Bh,Aa AG Al AH,AA,pt AO,pt AP,Aa AR An AT,Aa C6 BG C8] 66,BF,BS,Dn,bk AO #[iv BT] 3,bk AP #[Aa CU BL CW,Cf] 25,Da] [CF,C4,Cs,G] (fun e l1=>∃ (H0_:Ab) (A0_:Ar) (c0_:Nat) (H1_:Ab) (Dz:Ar) (D0:Nat) (H2_:Ab) (A2_:Ar) (DY:Nat) (H3_:Ab) (A3_:Ar) (DZ:Nat),Ah e48 48 4 H0_ (Aa A0_ r.1 c0_) r.1∧Ah encS 9 1 H1_ (Aa Dz r.2.1 D0) r.2.1∧AL Et 81 H2_ (Aa A2_ r.2.2.1 DY) r.2.2.1∧AL (D3 D4) 41 H3_ (Aa A3_ r.2.2.2.2 DZ) r.2.2.2.2∧e=.returned (.tuple #[])∧l1=[bk b0 #[Ay,Az,A2,Aa AI Ai AJ,Aa A0_ r.1 c0_,sv Bh,Aa AG Al AH,AA,pt AO,pt AP,Aa Dz r.2.1 D0,Aa A2_ r.2.2.1 DY] 66,H0_,H1_,H2_,bk AO #[iv r.2.2.2.1] 3,bk AP #[Aa A3_ r.2.2.2.2 DZ,Cf] 25,H3_])
def F3.C (fC:Bl→TyA→ByteArray→Ag→Ag→TyL→Int→TyU→Int→ByteArray→Int→Int→List Tree→Option (TyA×Ag×TyL×Int×TyU)):Prop:=∀ {Ai:Bl} {Au:TyA} {Bh As:ByteArray} {Al An:Ag} {BG:TyL} {BT Af Aq AC:Int} {BL:TyU} {Am:List Tree} {b0 AJ B2 AH AT C8 AO AP CW Bj:Nat} {Ay Az A2 AA Cf:Value} {CF BF C4 BS Dn Da Cs G:Ab} {AI B1 AG AR C6 CU Bi:Ar} {r:TyA×Ag×TyL×Int×TyU} (h:fC Ai Au Bh Al An BG BT BL Af As Aq AC Am=some r) (Cu:Bf Dt 3 CF (Aa AI Ai AJ) Ai) (Ck:Ah e48 48 4 BF (Aa B1 Au B2) Au) (Cm:Bf encS 1 C4 (Aa AG Al AH) Al) (Cg:Ah encS 9 1 BS (Aa AR An AT) An) (Ee:AL Et 81 Dn (Aa C6 BG C8) BG) (DX:AL (D3 D4) 41 Da (Aa CU BL CW) BL) (BJ:RdR (Bb 54) Cs (Aa Bi Am Bj) Am) (hG:E2 G),Ct Tryz.prog 18 #[pt b0,.agg #[iv Af,sv As,iv Aq,iv AC,Aa Bi Am Bj]] [bk b0 #[Ay,Az,A2,Aa AI Ai AJ,Aa B1 Au B2,sv Bh,Aa AG Al AH,AA,pt AO,pt AP,Aa AR An AT,Aa C6 BG C8] 66,BF,BS,Dn,bk AO #[iv BT] 3,bk AP #[Aa CU BL CW,Cf] 25,Da] [CF,C4,Cs,G] (fun e l1=>∃ (H0_:Ab) (A0_:Ar) (c0_:Nat) (H1_:Ab) (Dz:Ar) (D0:Nat) (H2_:Ab) (A2_:Ar) (DY:Nat) (H3_:Ab) (A3_:Ar) (DZ:Nat),Ah e48 48 4 H0_ (Aa A0_ r.1 c0_) r.1∧Ah encS 9 1 H1_ (Aa Dz r.2.1 D0) r.2.1∧AL Et 81 H2_ (Aa A2_ r.2.2.1 DY) r.2.2.1∧AL (D3 D4) 41 H3_ (Aa A3_ r.2.2.2.2 DZ) r.2.2.2.2∧e=.returned (.tuple #[])∧l1=[bk b0 #[Ay,Az,A2,Aa AI Ai AJ,Aa A0_ r.1 c0_,sv Bh,Aa AG Al AH,AA,pt AO,pt AP,Aa Dz r.2.1 D0,Aa A2_ r.2.2.1 DY] 66,H0_,H1_,H2_,bk AO #[iv r.2.2.2.1] 3,bk AP #[Aa A3_ r.2.2.2.2 DZ,Cf] 25,H3_])
def Dx.C (fC:Bl→TyA→ByteArray→Ag→Ag→TyL→Int→TyU→Int→ByteArray→Int→Int→List Tree→Option (TyA×Ag×TyL×Int×TyU)):Prop:=∀ {Ai:Bl} {Au:TyA} {Bh As:ByteArray} {Al An:Ag} {BG:TyL} {BT Af Aq AC:Int} {BL:TyU} {Am:List Tree} {b0 AJ B2 AH AT C8 AO AP CW Bj:Nat} {Ay Az A2 AA Cf:Value} {CF BF C4 BS Dn Da Cs G:Ab} {AI B1 AG AR C6 CU Bi:Ar} {r:TyA×Ag×TyL×Int×TyU} (h:fC Ai Au Bh Al An BG BT BL Af As Aq AC Am=some r) (Cu:Bf Dt 3 CF (Aa AI Ai AJ) Ai) (Ck:Ah e48 48 4 BF (Aa B1 Au B2) Au) (Cm:Bf encS 1 C4 (Aa AG Al AH) Al) (Cg:Ah encS 9 1 BS (Aa AR An AT) An) (Ee:AL Et 81 Dn (Aa C6 BG C8) BG) (DX:AL (D3 D4) 41 Da (Aa CU BL CW) BL) (BJ:RdR (Bb 54) Cs (Aa Bi Am Bj) Am) (hG:E2 G),Ct Tryz.prog 47 #[pt b0,.agg #[iv Af,sv As,iv Aq,iv AC,Aa Bi Am Bj]] [bk b0 #[Ay,Az,A2,Aa AI Ai AJ,Aa B1 Au B2,sv Bh,Aa AG Al AH,AA,pt AO,pt AP,Aa AR An AT,Aa C6 BG C8] 66,BF,BS,Dn,bk AO #[iv BT] 3,bk AP #[Aa CU BL CW,Cf] 25,Da] [CF,C4,Cs,G] (fun e l1=>∃ (H0_:Ab) (A0_:Ar) (c0_:Nat) (H1_:Ab) (Dz:Ar) (D0:Nat) (H2_:Ab) (A2_:Ar) (DY:Nat) (H3_:Ab) (A3_:Ar) (DZ:Nat),Ah e48 48 4 H0_ (Aa A0_ r.1 c0_) r.1∧Ah encS 9 1 H1_ (Aa Dz r.2.1 D0) r.2.1∧AL Et 81 H2_ (Aa A2_ r.2.2.1 DY) r.2.2.1∧AL (D3 D4) 41 H3_ (Aa A3_ r.2.2.2.2 DZ) r.2.2.2.2∧e=.returned (.tuple #[])∧l1=[bk b0 #[Ay,Az,A2,Aa AI Ai AJ,Aa A0_ r.1 c0_,sv Bh,Aa AG Al AH,AA,pt AO,pt AP,Aa Dz r.2.1 D0,Aa A2_ r.2.2.1 DY] 66,H0_,H1_,H2_,bk AO #[iv r.2.2.2.1] 3,bk AP #[Aa A3_ r.2.2.2.2 DZ,Cf] 25,H3_])
def DN.C (fC:Bl→TyA→ByteArray→Ag→Ag→TyL→Int→TyU→List Tree→Option (TyA×Ag×TyL×Int×TyU)):Prop:=∀ {Ai:Bl} {Au:TyA} {Bh:ByteArray} {Al An:Ag} {BG:TyL} {BT:Int} {BL:TyU} {a1:List Tree} {b0 AJ B2 AH AT C8 AO AP CW C5:Nat} {Ay Az A2 AA Cf:Value} {CF BF C4 BS Dn Da DW G:Ab} {AI B1 AG AR C6 CU C3:Ar} {r:TyA×Ag×TyL×Int×TyU} (h:fC Ai Au Bh Al An BG BT BL a1=some r) (Cu:Bf Dt 3 CF (Aa AI Ai AJ) Ai) (Ck:Ah e48 48 4 BF (Aa B1 Au B2) Au) (Cm:Bf encS 1 C4 (Aa AG Al AH) Al) (Cg:Ah encS 9 1 BS (Aa AR An AT) An) (Ee:AL Et 81 Dn (Aa C6 BG C8) BG) (DX:AL (D3 D4) 41 Da (Aa CU BL CW) BL) (EW:RdR (Bb 54) DW (Aa C3 a1 C5) a1) (hG:E2 G),Ct Tryz.prog 75 #[pt b0,Aa C3 a1 C5] [bk b0 #[Ay,Az,A2,Aa AI Ai AJ,Aa B1 Au B2,sv Bh,Aa AG Al AH,AA,pt AO,pt AP,Aa AR An AT,Aa C6 BG C8] 66,BF,BS,Dn,bk AO #[iv BT] 3,bk AP #[Aa CU BL CW,Cf] 25,Da] [CF,C4,DW,G] (fun e l1=>∃ (H0_:Ab) (A0_:Ar) (c0_:Nat) (H1_:Ab) (Dz:Ar) (D0:Nat) (H2_:Ab) (A2_:Ar) (DY:Nat) (H3_:Ab) (A3_:Ar) (DZ:Nat),Ah e48 48 4 H0_ (Aa A0_ r.1 c0_) r.1∧Ah encS 9 1 H1_ (Aa Dz r.2.1 D0) r.2.1∧AL Et 81 H2_ (Aa A2_ r.2.2.1 DY) r.2.2.1∧AL (D3 D4) 41 H3_ (Aa A3_ r.2.2.2.2 DZ) r.2.2.2.2∧e=.returned (.tuple #[])∧l1=[bk b0 #[Ay,Az,A2,Aa AI Ai AJ,Aa A0_ r.1 c0_,sv Bh,Aa AG Al AH,AA,pt AO,pt AP,Aa Dz r.2.1 D0,Aa A2_ r.2.2.1 DY] 66,H0_,H1_,H2_,bk AO #[iv r.2.2.2.1] 3,bk AP #[Aa A3_ r.2.2.2.2 DZ,Cf] 25,H3_])
def FL.C (fC:Bl→TyA→ByteArray→Ag→Ag→TyL→Int→TyU→Int→ByteArray→Int→Int→List Tree→Int→Option (TyA×Ag×TyL×Int×TyU)):Prop:=∀ {Ai:Bl} {Au:TyA} {Bh As:ByteArray} {Al An:Ag} {BG:TyL} {BT Af Aq AC El:Int} {BL:TyU} {Am:List Tree} {b0 AJ B2 AH AT C8 AO AP CW Bj Em En:Nat} {Ay Az A2 AA Cf:Value} {CF BF C4 BS Dn Da Cs G:Ab} {AI B1 AG AR C6 CU Bi:Ar} {r:TyA×Ag×TyL×Int×TyU} (h:fC Ai Au Bh Al An BG BT BL Af As Aq AC Am El=some r) (Cu:Bf Dt 3 CF (Aa AI Ai AJ) Ai) (Ck:Ah e48 48 4 BF (Aa B1 Au B2) Au) (Cm:Bf encS 1 C4 (Aa AG Al AH) Al) (Cg:Ah encS 9 1 BS (Aa AR An AT) An) (Ee:AL Et 81 Dn (Aa C6 BG C8) BG) (DX:AL (D3 D4) 41 Da (Aa CU BL CW) BL) (BJ:RdR (Bb 54) Cs (Aa Bi Am Bj) Am) (hG:E2 G),Ct Tryz.prog 78 #[pt b0,.agg #[iv Af,sv As,iv Aq,iv AC,Aa Bi Am Bj],.func (.func 79) #[] #[pt Em,pt En]] [bk b0 #[Ay,Az,A2,Aa AI Ai AJ,Aa B1 Au B2,sv Bh,Aa AG Al AH,AA,pt AO,pt AP,Aa AR An AT,Aa C6 BG C8] 66,BF,BS,Dn,bk AO #[iv BT] 3,bk AP #[Aa CU BL CW,Cf] 25,Da,bk Em #[pt b0] 61,bk En #[iv El] 3] [CF,C4,Cs,G] (fun e l1=>∃ (H0_:Ab) (A0_:Ar) (c0_:Nat) (H1_:Ab) (Dz:Ar) (D0:Nat) (H2_:Ab) (A2_:Ar) (DY:Nat) (H3_:Ab) (A3_:Ar) (DZ:Nat),Ah e48 48 4 H0_ (Aa A0_ r.1 c0_) r.1∧Ah encS 9 1 H1_ (Aa Dz r.2.1 D0) r.2.1∧AL Et 81 H2_ (Aa A2_ r.2.2.1 DY) r.2.2.1∧AL (D3 D4) 41 H3_ (Aa A3_ r.2.2.2.2 DZ) r.2.2.2.2∧e=.returned (.tuple #[])∧l1=[bk b0 #[Ay,Az,A2,Aa AI Ai AJ,Aa A0_ r.1 c0_,sv Bh,Aa AG Al AH,AA,pt AO,pt AP,Aa Dz r.2.1 D0,Aa A2_ r.2.2.1 DY] 66,H0_,H1_,H2_,bk AO #[iv r.2.2.2.1] 3,bk AP #[Aa A3_ r.2.2.2.2 DZ,Cf] 25,H3_,bk Em #[pt b0] 61,bk En #[iv El] 3])
def FM.C (fC:Bl→TyA→ByteArray→Ag→Ag→TyL→Int→TyU→Int→ByteArray→Int→Int→List Tree→Int→Int→Option (TyA×Ag×TyL×Int×TyU)):Prop:=∀ {Ai:Bl} {Au:TyA} {Bh As:ByteArray} {Al An:Ag} {BG:TyL} {BT Af Aq AC El Lc:Int} {BL:TyU} {Am:List Tree} {b0 AJ B2 AH AT C8 AO AP CW Bj Em En Lg:Nat} {Ay Az A2 AA Cf:Value} {CF BF C4 BS Dn Da Cs G:Ab} {AI B1 AG AR C6 CU Bi:Ar} {r:TyA×Ag×TyL×Int×TyU} (h:fC Ai Au Bh Al An BG BT BL Af As Aq AC Am El Lc=some r) (Cu:Bf Dt 3 CF (Aa AI Ai AJ) Ai) (Ck:Ah e48 48 4 BF (Aa B1 Au B2) Au) (Cm:Bf encS 1 C4 (Aa AG Al AH) Al) (Cg:Ah encS 9 1 BS (Aa AR An AT) An) (Ee:AL Et 81 Dn (Aa C6 BG C8) BG) (DX:AL (D3 D4) 41 Da (Aa CU BL CW) BL) (BJ:RdR (Bb 54) Cs (Aa Bi Am Bj) Am) (hG:E2 G),Ct Tryz.prog 78 #[pt b0,.agg #[iv Af,sv As,iv Aq,iv AC,Aa Bi Am Bj],.func (.func 82) #[] #[pt Em,pt En,pt Lg]] [bk b0 #[Ay,Az,A2,Aa AI Ai AJ,Aa B1 Au B2,sv Bh,Aa AG Al AH,AA,pt AO,pt AP,Aa AR An AT,Aa C6 BG C8] 66,BF,BS,Dn,bk AO #[iv BT] 3,bk AP #[Aa CU BL CW,Cf] 25,Da,bk Em #[pt b0] 61,bk En #[iv El] 3,bk Lg #[iv Lc] 3] [CF,C4,Cs,G] (fun e l1=>∃ (H0_:Ab) (A0_:Ar) (c0_:Nat) (H1_:Ab) (Dz:Ar) (D0:Nat) (H2_:Ab) (A2_:Ar) (DY:Nat) (H3_:Ab) (A3_:Ar) (DZ:Nat),Ah e48 48 4 H0_ (Aa A0_ r.1 c0_) r.1∧Ah encS 9 1 H1_ (Aa Dz r.2.1 D0) r.2.1∧AL Et 81 H2_ (Aa A2_ r.2.2.1 DY) r.2.2.1∧AL (D3 D4) 41 H3_ (Aa A3_ r.2.2.2.2 DZ) r.2.2.2.2∧e=.returned (.tuple #[])∧l1=[bk b0 #[Ay,Az,A2,Aa AI Ai AJ,Aa A0_ r.1 c0_,sv Bh,Aa AG Al AH,AA,pt AO,pt AP,Aa Dz r.2.1 D0,Aa A2_ r.2.2.1 DY] 66,H0_,H1_,H2_,bk AO #[iv r.2.2.2.1] 3,bk AP #[Aa A3_ r.2.2.2.2 DZ,Cf] 25,H3_,bk Em #[pt b0] 61,bk En #[iv El] 3,bk Lg #[iv Lc] 3])
def F4.C (fC:Bl→TyA→ByteArray→Ag→Ag→TyL→Int→TyU→Int→ByteArray→Int→Int→List Tree→Int→Option (TyA×Ag×TyL×Int×TyU)):Prop:=∀ {Ai:Bl} {Au:TyA} {Bh As:ByteArray} {Al An:Ag} {BG:TyL} {BT Af Aq AC El:Int} {BL:TyU} {Am:List Tree} {b0 AJ B2 AH AT C8 AO AP CW Bj Em En:Nat} {Ay Az A2 AA Cf:Value} {CF BF C4 BS Dn Da Cs G:Ab} {AI B1 AG AR C6 CU Bi:Ar} {r:TyA×Ag×TyL×Int×TyU} (h:fC Ai Au Bh Al An BG BT BL Af As Aq AC Am El=some r) (Cu:Bf Dt 3 CF (Aa AI Ai AJ) Ai) (Ck:Ah e48 48 4 BF (Aa B1 Au B2) Au) (Cm:Bf encS 1 C4 (Aa AG Al AH) Al) (Cg:Ah encS 9 1 BS (Aa AR An AT) An) (Ee:AL Et 81 Dn (Aa C6 BG C8) BG) (DX:AL (D3 D4) 41 Da (Aa CU BL CW) BL) (BJ:RdR (Bb 54) Cs (Aa Bi Am Bj) Am) (hG:E2 G),Ct Tryz.prog 78 #[pt b0,.agg #[iv Af,sv As,iv Aq,iv AC,Aa Bi Am Bj],.func (.func 112) #[] #[pt Em,pt En]] [bk b0 #[Ay,Az,A2,Aa AI Ai AJ,Aa B1 Au B2,sv Bh,Aa AG Al AH,AA,pt AO,pt AP,Aa AR An AT,Aa C6 BG C8] 66,BF,BS,Dn,bk AO #[iv BT] 3,bk AP #[Aa CU BL CW,Cf] 25,Da,bk Em #[pt b0] 61,bk En #[iv El] 3] [CF,C4,Cs,G] (fun e l1=>∃ (H0_:Ab) (A0_:Ar) (c0_:Nat) (H1_:Ab) (Dz:Ar) (D0:Nat) (H2_:Ab) (A2_:Ar) (DY:Nat) (H3_:Ab) (A3_:Ar) (DZ:Nat),Ah e48 48 4 H0_ (Aa A0_ r.1 c0_) r.1∧Ah encS 9 1 H1_ (Aa Dz r.2.1 D0) r.2.1∧AL Et 81 H2_ (Aa A2_ r.2.2.1 DY) r.2.2.1∧AL (D3 D4) 41 H3_ (Aa A3_ r.2.2.2.2 DZ) r.2.2.2.2∧e=.returned (.tuple #[])∧l1=[bk b0 #[Ay,Az,A2,Aa AI Ai AJ,Aa A0_ r.1 c0_,sv Bh,Aa AG Al AH,AA,pt AO,pt AP,Aa Dz r.2.1 D0,Aa A2_ r.2.2.1 DY] 66,H0_,H1_,H2_,bk AO #[iv r.2.2.2.1] 3,bk AP #[Aa A3_ r.2.2.2.2 DZ,Cf] 25,H3_,bk Em #[pt b0] 61,bk En #[iv El] 3])
def HJ.C (fC:Bl→TyA→ByteArray→Ag→Ag→TyL→Int→TyU→Int→ByteArray→Int→Int→List Tree→Int→Option (TyA×Ag×TyL×Int×TyU)):Prop:=∀ {Ai:Bl} {Au:TyA} {Bh As:ByteArray} {Al An:Ag} {BG:TyL} {BT Af Aq AC a2:Int} {BL:TyU} {Am:List Tree} {b0 AJ B2 AH AT C8 AO AP CW Bj:Nat} {Ay Az A2 AA Cf:Value} {CF BF C4 BS Dn Da Cs G:Ab} {AI B1 AG AR C6 CU Bi:Ar} {r:TyA×Ag×TyL×Int×TyU} (h:fC Ai Au Bh Al An BG BT BL Af As Aq AC Am a2=some r) (Cu:Bf Dt 3 CF (Aa AI Ai AJ) Ai) (Ck:Ah e48 48 4 BF (Aa B1 Au B2) Au) (Cm:Bf encS 1 C4 (Aa AG Al AH) Al) (Cg:Ah encS 9 1 BS (Aa AR An AT) An) (Ee:AL Et 81 Dn (Aa C6 BG C8) BG) (DX:AL (D3 D4) 41 Da (Aa CU BL CW) BL) (BJ:RdR (Bb 54) Cs (Aa Bi Am Bj) Am) (hG:E2 G),Ct Tryz.prog 84 #[pt b0,.agg #[iv Af,sv As,iv Aq,iv AC,Aa Bi Am Bj],iv a2] [bk b0 #[Ay,Az,A2,Aa AI Ai AJ,Aa B1 Au B2,sv Bh,Aa AG Al AH,AA,pt AO,pt AP,Aa AR An AT,Aa C6 BG C8] 66,BF,BS,Dn,bk AO #[iv BT] 3,bk AP #[Aa CU BL CW,Cf] 25,Da] [CF,C4,Cs,G] (fun e l1=>∃ (H0_:Ab) (A0_:Ar) (c0_:Nat) (H1_:Ab) (Dz:Ar) (D0:Nat) (H2_:Ab) (A2_:Ar) (DY:Nat) (H3_:Ab) (A3_:Ar) (DZ:Nat),Ah e48 48 4 H0_ (Aa A0_ r.1 c0_) r.1∧Ah encS 9 1 H1_ (Aa Dz r.2.1 D0) r.2.1∧AL Et 81 H2_ (Aa A2_ r.2.2.1 DY) r.2.2.1∧AL (D3 D4) 41 H3_ (Aa A3_ r.2.2.2.2 DZ) r.2.2.2.2∧e=.returned (.tuple #[])∧l1=[bk b0 #[Ay,Az,A2,Aa AI Ai AJ,Aa A0_ r.1 c0_,sv Bh,Aa AG Al AH,AA,pt AO,pt AP,Aa Dz r.2.1 D0,Aa A2_ r.2.2.1 DY] 66,H0_,H1_,H2_,bk AO #[iv r.2.2.2.1] 3,bk AP #[Aa A3_ r.2.2.2.2 DZ,Cf] 25,H3_])
def Iu.C (fC:ByteArray→Ag→Int→TyU→Int→ByteArray→Int→Int→List Tree→Option (Int×TyU)):Prop:=∀ {Bh As:ByteArray} {Al:Ag} {BT Af Aq AC:Int} {BL:TyU} {Am:List Tree} {b0 AH AO AP CW Bj:Nat} {Ay Az A2 DC EE AA FE Br Cf:Value} {C4 Da Cs G:Ab} {AG CU Bi:Ar} {r:Int×TyU} (h:fC Bh Al BT BL Af As Aq AC Am=some r) (Cm:Bf encS 1 C4 (Aa AG Al AH) Al) (DX:AL (D3 D4) 41 Da (Aa CU BL CW) BL) (BJ:RdR (Bb 54) Cs (Aa Bi Am Bj) Am) (hG:E2 G),Ct Tryz.prog 87 #[pt b0,.agg #[iv Af,sv As,iv Aq,iv AC,Aa Bi Am Bj]] [bk b0 #[Ay,Az,A2,DC,EE,sv Bh,Aa AG Al AH,AA,pt AO,pt AP,FE,Br] 66,bk AO #[iv BT] 3,bk AP #[Aa CU BL CW,Cf] 25,Da] [C4,Cs,G] (fun e l1=>∃ (H0_:Ab) (A0_:Ar) (c0_:Nat),AL (D3 D4) 41 H0_ (Aa A0_ r.2 c0_) r.2∧e=.returned (.tuple #[])∧l1=[bk b0 #[Ay,Az,A2,DC,EE,sv Bh,Aa AG Al AH,AA,pt AO,pt AP,FE,Br] 66,bk AO #[iv r.1] 3,bk AP #[Aa A0_ r.2 c0_,Cf] 25,H0_])
structure GS.Good (R:GS):Prop where
 D2:D2.C R.D2
 F3:F3.C R.F3
 Dx:Dx.C R.Dx
 DN:DN.C R.DN
 FL:FL.C R.FL
 FM:FM.C R.FM
 F4:F4.C R.F4
 HJ:HJ.C R.HJ
 Iu:Iu.C R.Iu
def D2.l0:Nat→(Rc:GS)→(Ai:Bl)→(Bh:ByteArray)→(Al:Ag)→(Am:List Tree)→(N1:TyA→Ag→TyL→Int→TyU→Option (TyA×Ag×TyL×Int×TyU))→(x26:Int)→(l27:TyA)→(l32:Ag)→(l37:TyL)→(x42:Int)→(E9:TyU)→Option (TyA×Ag×TyL×Int×TyU)
 | 0,_,_,_,_,_,_,_,_,_,_,_,_=>none
 | m48+1,Rc,Ai,Bh,Al,Am,N1,x26,l27,l32,l37,x42,E9=>cond (decide (x26 < ((Am.length:Nat):Int))) ((AZ Am x26).bind fun x50=>(IW.f m48 Bh x50.at_).bind fun r60=>(BC.f m48 l27 1 ([r60.1])).bind fun r62=>(Rc.Dx Ai r62.2 Bh Al l32 l37 x42 E9 x50.kind x50.text x50.n x50.at_ x50.kids).bind fun EQ=>D2.l0 m48 Rc Ai Bh Al Am N1 (IntKind.i64.wrap (x26+1)) EQ.1 EQ.2.1 EQ.2.2.1 EQ.2.2.2.1 EQ.2.2.2.2) (N1 l27 l32 l37 x42 E9)
def D2.g (Rc:GS) (k:Nat) (Ai:Bl) (Au:TyA) (Bh:ByteArray) (Al:Ag) (An:Ag) (BG:TyL) (BT:Int) (BL:TyU) (Af:Int) (As:ByteArray) (Aq:Int) (AC:Int) (Am:List Tree):Option (TyA×Ag×TyL×Int×TyU):=BA (fun (l2:TyA) (l7:Ag) (l12:TyL) (x17:Int) (l18:TyU)=>(D8 l7 0 ((An.length:Nat):Int)).bind fun l24=>some (l2,l24,l12,x17,l18)) (fun N1=>D2.l0 k Rc Ai Bh Al Am N1 0 Au An BG BT BL)
theorem D2.C0 {Rc:GS} (hR:Rc.Good) {k:Nat}:D2.C (D2.g Rc k):=by
 intro Ai Au Bh As Al An BG BT Af Aq AC BL Am b0 AJ B2 AH AT C8 AO AP CW Bj Ay Az A2 AA Cf CF BF C4 BS Dn Da Cs G AI B1 AG AR C6 CU Bi r h Cu Ck Cm Cg Ee DX BJ hG
 refine Cz (args:=[pt b0,.agg #[iv Af,sv As,iv Aq,iv AC,Aa Bi Am Bj]]) Tryz.func29 rfl (B0 rfl) ?_
 intro A X hh_
 obtain ⟨CX,CM,BD,BU,_⟩:=hh_
 unfold D2.g at h
 refine K.eq (env':=[(0,pt b0),(1,.agg #[iv Af,sv As,iv Aq,iv AC,Aa Bi Am Bj])]) (l':=bk b0 #[Ay,Az,A2,Aa AI Ai AJ,Aa B1 Au B2,sv Bh,Aa AG Al AH,AA,pt AO,pt AP,Aa AR An AT,Aa C6 BG C8] 66 :: BF :: BS :: Dn :: bk AO #[iv BT] 3 :: bk AP #[Aa CU BL CW,Cf] 25 :: Da :: X) rfl rfl (ksr (knp #[iv Af,sv As,iv Aq,iv AC,Aa Bi Am Bj] 54 fun b1=>(AY (kx 3 (kld 1 10 rfl (kx 2 (Ad ?_)))))))
 obtain ⟨N1,A9b,h⟩:=CG h
 refine CH (τ:=TyA×Ag×TyL×Int×TyU×Ab×Ar×Nat×Ab×Ar×Nat×Ab×Ar×Nat×Ab×Ar×Nat) (fun t=>[(0,pt b0),(4,iv ((An.length:Nat):Int))]) (fun t=>bk b0 #[Ay,Az,A2,Aa AI Ai AJ,Aa t.2.2.2.2.2.2.1 t.1 t.2.2.2.2.2.2.2.1,sv Bh,Aa AG Al AH,AA,pt AO,pt AP,Aa t.2.2.2.2.2.2.2.2.2.1 t.2.1 t.2.2.2.2.2.2.2.2.2.2.1,Aa t.2.2.2.2.2.2.2.2.2.2.2.2.1 t.2.2.1 t.2.2.2.2.2.2.2.2.2.2.2.2.2.1] 66 :: bk AO #[iv t.2.2.2.1] 3 :: bk AP #[Aa t.2.2.2.2.2.2.2.2.2.2.2.2.2.2.2.1 t.2.2.2.2.1 t.2.2.2.2.2.2.2.2.2.2.2.2.2.2.2.2,Cf] 25 :: t.2.2.2.2.2.1 :: t.2.2.2.2.2.2.2.2.1 :: t.2.2.2.2.2.2.2.2.2.2.2.1 :: t.2.2.2.2.2.2.2.2.2.2.2.2.2.2.1 :: X) (fun t=>N1 t.1 t.2.1 t.2.2.1 t.2.2.2.1 t.2.2.2.2.1=some r∧Ah e48 48 4 t.2.2.2.2.2.1 (Aa t.2.2.2.2.2.2.1 t.1 t.2.2.2.2.2.2.2.1) t.1∧Ah encS 9 1 t.2.2.2.2.2.2.2.2.1 (Aa t.2.2.2.2.2.2.2.2.2.1 t.2.1 t.2.2.2.2.2.2.2.2.2.2.1) t.2.1∧AL Et 81 t.2.2.2.2.2.2.2.2.2.2.2.1 (Aa t.2.2.2.2.2.2.2.2.2.2.2.2.1 t.2.2.1 t.2.2.2.2.2.2.2.2.2.2.2.2.2.1) t.2.2.1∧AL (D3 D4) 41 t.2.2.2.2.2.2.2.2.2.2.2.2.2.2.1 (Aa t.2.2.2.2.2.2.2.2.2.2.2.2.2.2.2.1 t.2.2.2.2.1 t.2.2.2.2.2.2.2.2.2.2.2.2.2.2.2.2) t.2.2.2.2.1) ?_ ?_
 ·rintro ⟨l2,l7,l12,x17,l18,h3,A4,k5,h8,A9,k10,h13,GN,k15,h19,A20,k21⟩ ⟨h,o6,GJ,o16,Gv⟩
  subst A9b
  refine Bc (kx 4 (kld 0 10 rfl (kx 1 (bnd h fun l24 Ba7 h=>(Aaa (T:=9) (sz:=1) (k:=.i64) (xs:=l7) ((An.length:Nat):Int) IZ rfl (by kernel_rfl) (by kernel_rfl) (by kernel_rfl) (by kernel_rfl) (by kernel_rfl) (by kernel_rfl) Ba7 GJ fun F9=>(kx 2 (AQ 10 1 #[Ay,Az,A2,Aa AI Ai AJ,Aa A4 l2 k5,sv Bh,Aa AG Al AH,AA,pt AO,pt AP,Aa A9 l24 k10,Aa GN l12 k15] (knl (Cw ?_)))))))))
  obtain rfl:=Ap h
  exact kdv (.tuple #[]) [bk b0 #[Ay,Az,A2,Aa AI Ai AJ,Aa A4 l2 k5,sv Bh,Aa AG Al AH,AA,pt AO,pt AP,Aa A9 l24 k10,Aa GN l12 k15] 66,h3,h8,h13,bk AO #[iv x17] 3,bk AP #[Aa A20 l18 k21,Cf] 25,h19] (K.mv6 (K.mv3 (K.mv3 (K.mv6 (K.mv6 (K.mv6 (K.mv6 (BH ⟨h3,A4,k5,h8,A9,k10,h13,GN,k15,h19,A20,k21,o6,F9,o16,Gv,rfl,rfl⟩))))))))
 ·skip
  refine ksr (kx 1 (kld 0 4 rfl (K.drop (kx 2 (Ad (Co (K.mv6 (K.Bq (K.Bq (K.Bq ?_))))))))))
  refine K.mv6 (K.mv6 (K.mv6 (EL (τ:=Int×TyA×Ag×TyL×Int×TyU×Ab×Ar×Nat×Ab×Ar×Nat×Ab×Ar×Nat×Ab×Ar×Nat) (fun t=>[(0,pt b0),(4,iv ((An.length:Nat):Int)),(16,Aa Bi Am Bj),(17,iv ((Am.length:Nat):Int)),(18,iv t.1)]) (fun t=>bk b0 #[Ay,Az,A2,Aa AI Ai AJ,Aa t.2.2.2.2.2.2.2.1 t.2.1 t.2.2.2.2.2.2.2.2.1,sv Bh,Aa AG Al AH,AA,pt AO,pt AP,Aa t.2.2.2.2.2.2.2.2.2.2.1 t.2.2.1 t.2.2.2.2.2.2.2.2.2.2.2.1,Aa t.2.2.2.2.2.2.2.2.2.2.2.2.2.1 t.2.2.2.1 t.2.2.2.2.2.2.2.2.2.2.2.2.2.2.1] 66 :: bk AO #[iv t.2.2.2.2.1] 3 :: bk AP #[Aa t.2.2.2.2.2.2.2.2.2.2.2.2.2.2.2.2.1 t.2.2.2.2.2.1 t.2.2.2.2.2.2.2.2.2.2.2.2.2.2.2.2.2,Cf] 25 :: t.2.2.2.2.2.2.1 :: t.2.2.2.2.2.2.2.2.2.1 :: t.2.2.2.2.2.2.2.2.2.2.2.2.1 :: t.2.2.2.2.2.2.2.2.2.2.2.2.2.2.2.1 :: X) (fun m t=>D2.l0 m Rc Ai Bh Al Am N1 t.1 t.2.1 t.2.2.1 t.2.2.2.1 t.2.2.2.2.1 t.2.2.2.2.2.1=some r∧Ah e48 48 4 t.2.2.2.2.2.2.1 (Aa t.2.2.2.2.2.2.2.1 t.2.1 t.2.2.2.2.2.2.2.2.1) t.2.1∧Ah encS 9 1 t.2.2.2.2.2.2.2.2.2.1 (Aa t.2.2.2.2.2.2.2.2.2.2.1 t.2.2.1 t.2.2.2.2.2.2.2.2.2.2.2.1) t.2.2.1∧AL Et 81 t.2.2.2.2.2.2.2.2.2.2.2.2.1 (Aa t.2.2.2.2.2.2.2.2.2.2.2.2.2.1 t.2.2.2.1 t.2.2.2.2.2.2.2.2.2.2.2.2.2.2.1) t.2.2.2.1∧AL (D3 D4) 41 t.2.2.2.2.2.2.2.2.2.2.2.2.2.2.2.1 (Aa t.2.2.2.2.2.2.2.2.2.2.2.2.2.2.2.2.1 t.2.2.2.2.2.1 t.2.2.2.2.2.2.2.2.2.2.2.2.2.2.2.2.2) t.2.2.2.2.2.1) k (0,Au,An,BG,BT,BL,BF,B1,B2,BS,AR,AT,Dn,C6,C8,Da,CU,CW) ⟨h,Ck,Cg,Ee,DX⟩ sb rfl ?_)))
  clear h
  rintro m48 ⟨x26,l27,l32,l37,x42,E9,h28,A29,k30,h33,A34,G4,h38,A39,Jc,h44,M0,MV⟩ ⟨h,GK,IV,o41,NT⟩
  cases m48 with
  | zero=>simp [D2.l0] at h
  | succ m48 =>
   simp only [D2.l0] at h
   refine ksr (kx 1 (Ad (Bz ?_)))
   refine AF h (fun h=>?_) fun h=>?_
   ·refine Bt (AB (Bz (Co (ksr (bnd h fun x50 Bf8 h=>(DL (T:=54) (kd:=.i64) (R:=(Bb 54)) rfl Bf8 BJ fun p51 u54 q55 e52 y53=>?_))))))
    obtain ⟨UR,VR,rfl,Px⟩:=DI 54 q55
    refine E8 rfl e52 (t7 BD) (knp #[iv 0,sv noS,iv 0,iv 0,nS] 54 fun b59=>(AQ 0 5 #[iv x50.kind,sv x50.text,iv x50.n,iv x50.at_,Aa UR x50.kids VR] (Ad (Bz (kpr [(0,0),(1,0),(2,0),(3,3),(4,0),(5,3),(6,2),(7,0),(8,0),(9,0),(10,0)] [0,1] (Ax 3 (AU 1 5 rfl (Ax 1 (AU 0 3 rfl (Bjk ?_))))))))))
    refine bnd h fun r60 OQ h=>(ocv (IW.ok OQ) trivial (Ax 4 (BY (kx 3 (AY (kx 2 (De #[iv r60.1] 3 1 fun b61=>(K.mv5 (K.mv3 (bnd h fun r62 OR h=>?_))))))))))
    refine B6 (BC.ok OR GK (Ah.rd (Ah.blk 3 (D7 .i64) b61 [r60.1] #[iv r60.1] 1 (by kernel_rfl) rfl (by decide)))) rfl ⟨(.head _),trivial⟩ ?_
    rintro _ _ ⟨h63,A64,k65,o66,rfl,rfl⟩
    refine Bn (K.Ak (K.drop (Fw (kx 1 (CE 2 0 5 rfl (K.Ak (K.drop (K.mv6 (K.Bq (K.Bq ?_))))))))))
    refine K.mv6 (K.mv6 (K.mv6 (K.mv6 (bnd h fun EQ MO h=>(B6 (hR.Dx MO Cu o66 Cm IV o41 NT Px hG) rfl ⟨CX,CM,BD,BU,trivial⟩ ?_)))))
    rintro _ _ ⟨h68,A69,k70,h72,A73,k74,h76,UT,VS,h80,X4,k82,Nc,o75,o79,o83,rfl,rfl⟩
    refine Er (knl (Bo (AB (Bc (kx 2 (Ad (K.mv6 (K.Bq (K.Bq (K.Bq ?_))))))))))
    exact K.mv6 (K.mv6 (K.mv6 (Ea m48 (IntKind.i64.wrap (x26+1),EQ.1,EQ.2.1,EQ.2.2.1,EQ.2.2.2.1,EQ.2.2.2.2,h68,A69,k70,h72,A73,k74,h76,UT,VS,h80,X4,k82) (Nat.lt_succ_self _) ⟨h,Nc,o75,o79,o83⟩ sb rfl)))
   ·exact E6 (CY (CY (E7 (AB (AV (l27,l32,l37,x42,E9,h28,A29,k30,h33,A34,G4,h38,A39,Jc,h44,M0,MV) ⟨h,GK,IV,o41,NT⟩ sb rfl)))))
def F3.g (Rc:GS) (k:Nat) (Ai:Bl) (Au:TyA) (Bh:ByteArray) (Al:Ag) (An:Ag) (BG:TyL) (BT:Int) (BL:TyU) (Af:Int) (As:ByteArray) (Aq:Int) (AC:Int) (Am:List Tree):Option (TyA×Ag×TyL×Int×TyU):=(Rc.D2 Ai Au Bh Al An BG BT BL Af As Aq AC Am).bind fun r2=>(BC.f k r2.1 22 ([])).bind fun r19=>(BC.f k r19.2 25 ([])).bind fun Fo=>some (Fo.2,r2.2.1,r2.2.2.1,r2.2.2.2.1,r2.2.2.2.2)
theorem F3.C0 {Rc:GS} (hR:Rc.Good) {k:Nat}:F3.C (F3.g Rc k):=by
 intro Ai Au Bh As Al An BG BT Af Aq AC BL Am b0 AJ B2 AH AT C8 AO AP CW Bj Ay Az A2 AA Cf CF BF C4 BS Dn Da Cs G AI B1 AG AR C6 CU Bi r h Cu Ck Cm Cg Ee DX BJ hG
 refine Cz (args:=[pt b0,.agg #[iv Af,sv As,iv Aq,iv AC,Aa Bi Am Bj]]) Tryz.func18 rfl (B0 rfl) ?_
 intro A X hh_
 obtain ⟨CX,CM,BD,BU,_⟩:=hh_
 unfold F3.g at h
 refine K.eq (env':=[(0,pt b0),(1,.agg #[iv Af,sv As,iv Aq,iv AC,Aa Bi Am Bj])]) (l':=bk b0 #[Ay,Az,A2,Aa AI Ai AJ,Aa B1 Au B2,sv Bh,Aa AG Al AH,AA,pt AO,pt AP,Aa AR An AT,Aa C6 BG C8] 66 :: BF :: BS :: Dn :: bk AO #[iv BT] 3 :: bk AP #[Aa CU BL CW,Cf] 25 :: Da :: X) rfl rfl (ksr (knp #[iv Af,sv As,iv Aq,iv AC,Aa Bi Am Bj] 54 fun b1=>(AY (kx 1 (CE 0 0 5 rfl (K.drop (K.mv6 (K.mv6 (K.mv6 (K.mv6 ?_))))))))))
 refine K.mv6 (K.mv6 (K.mv6 (bnd h fun r2 hr2 h=>(B6 (hR.D2 hr2 Cu Ck Cm Cg Ee DX BJ hG) rfl ⟨CX,CM,BD,BU,trivial⟩ ?_))))
 rintro _ _ ⟨h3,A4,k5,h7,A8,k9,h11,A12,k13,h15,F0,k17,o6,o10,IT,L3,rfl,rfl⟩
 refine Er (AY (kx 1 (Di (K.Ak (K.Ak (bnd h fun r19 hr19 h=>(B6 (BC.ok hr19 o6 (Bf.nil (encI .i64) 1 none_)) rfl ⟨(.head _),trivial⟩ ?_)))))))
 rintro _ _ ⟨h20,A21,k22,Hp,rfl,rfl⟩
 refine Bn (K.Ak (K.drop (Fw (kx 1 (Di (K.Ak (K.Ak (bnd h fun Fo OI h=>(B6 (BC.ok OI Hp (Bf.nil (encI .i64) 1 none_)) rfl ⟨(.head _),trivial⟩ ?_)))))))))
 rintro _ _ ⟨h25,A26,k27,TK,rfl,rfl⟩
 refine Bn (K.Ak (K.drop (knl (Cw ?_))))
 obtain rfl:=Ap h
 exact kdv (.tuple #[]) [bk b0 #[Ay,Az,A2,Aa AI Ai AJ,Aa A26 Fo.2 k27,sv Bh,Aa AG Al AH,AA,pt AO,pt AP,Aa A8 r2.2.1 k9,Aa A12 r2.2.2.1 k13] 66,h25,h7,h11,bk AO #[iv r2.2.2.2.1] 3,bk AP #[Aa F0 r2.2.2.2.2 k17,Cf] 25,h15] (BH ⟨h25,A26,k27,h7,A8,k9,h11,A12,k13,h15,F0,k17,TK,o10,IT,L3,rfl,rfl⟩)
def Dx.l0:Nat→(An:Ag)→(BG:TyL)→(BT:Int)→(BL:TyU)→(E0:Ag)→(x22:Int)→(l23:TyA)→Option (TyA×Ag×TyL×Int×TyU)
 | 0,_,_,_,_,_,_,_=>none
 | QX+1,An,BG,BT,BL,E0,x22,l23=>cond (decide (x22 > 0)) ((BC.f QX l23 7 ([IntKind.i64.wrap (((An.length:Nat):Int)+x22)])).bind fun r31=>Dx.l0 QX An BG BT BL E0 (IntKind.i64.wrap (x22 - 1)) r31.2) (some (l23,E0,BG,BT,BL))
def Dx.g (Rc:GS) (k:Nat) (Ai:Bl) (Au:TyA) (Bh:ByteArray) (Al:Ag) (An:Ag) (BG:TyL) (BT:Int) (BL:TyU) (Af:Int) (As:ByteArray) (Aq:Int) (AC:Int) (Am:List Tree):Option (TyA×Ag×TyL×Int×TyU):=cond (Af == 21) ((D8 Am Aq ((Am.length:Nat):Int)).bind fun l4=>(GT.f k Ai Au Al An l4 Aq).bind fun r8=>(D8 Am 0 Aq).bind fun l13=>(Hj.f k An l13).bind fun E0=>Dx.l0 k An BG BT BL E0 Aq r8) (cond (Af == 22) ((D8 Am 0 Aq).bind fun l37=>(D8 Am Aq ((Am.length:Nat):Int)).bind fun l41=>(FK.f k Ai Au Al An l37 l41).bind fun r45=>some (r45,An,BG,BT,BL)) (cond (Af == 23) ((AZ Am 0).bind fun x51=>(EJ.f k Ai Au Al An x51.kind x51.text x51.n x51.at_ x51.kids 0).bind fun r60=>some (r60,An,BG,BT,BL)) (cond (Af == 24) ((Rc.DN Ai Au Bh Al An BG BT BL Am).bind fun EP=>some (EP.1,EP.2.1,EP.2.2.1,EP.2.2.2.1,EP.2.2.2.2)) (cond (Af == 25) ((EK.f k Au).bind fun Ff=>(AZ Am 0).bind fun x86=>(Dl.f k Ai Au Al An x86.kind x86.text x86.n x86.at_ x86.kids).bind fun r95=>(BC.f k r95 19 ([])).bind fun WP=>(BC.f k WP.2 34 ([])).bind fun Avh=>(AZ Am 1).bind fun RM=>(Rc.FL Ai Avh.2 Bh Al An BG BT BL RM.kind RM.text RM.n RM.at_ RM.kids Ff).bind fun Fe=>(EK.f k Fe.1).bind fun Ud=>(AZ Fe.1 WP.1).bind fun Hf=>(Du Fe.1 WP.1 (Hf.1,Ud,Hf.2.2.1,Hf.2.2.2)).bind fun Wn=>some (Wn,Fe.2.1,Fe.2.2.1,Fe.2.2.2.1,Fe.2.2.2.2)) (cond (Af == 26) ((D8 Am 1 (IntKind.i64.wrap (((Am.length:Nat):Int) - 1))).bind fun Ar7=>(DD.f k Ai Au Al An Ar7).bind fun Nk=>BA (fun (x159:Int) (Ar8:Ag)=>(BC.f k Nk 30 ([x159,0,IntKind.i64.wrap ((IntKind.i64.wrap (((Am.length:Nat):Int) - 1)) - 3)])).bind fun FC=>(AZ Am (IntKind.i64.wrap (((Am.length:Nat):Int) - 1))).bind fun Mw=>(Rc.FM Ai FC.2 Bh Al Ar8 BG BT BL Mw.kind Mw.text Mw.n Mw.at_ Mw.kids x159 FC.1).bind fun Jh=>(EK.f k Jh.1).bind fun L8=>(AZ Jh.1 FC.1).bind fun x200=>(Du Jh.1 FC.1 (x200.1,x200.2.1,L8,x200.2.2.2)).bind fun MX=>(MI.f k Jh.2.1 x159).bind fun Adz=>some (MX,Adz,Jh.2.2.1,Jh.2.2.2.1,Jh.2.2.2.2)) (fun XB=>(D8 Am 0 1).bind fun Asa=>(LY.f k An Asa).bind fun Rx=>XB Rx.1 Rx.2)) (cond (Af == 27) ((Rc.HJ Ai Au Bh Al An BG BT BL Af As Aq AC Am (IntKind.i64.wrap (((Am.length:Nat):Int) - 1))).bind fun L9=>some (L9.1,L9.2.1,L9.2.2.1,L9.2.2.2.1,L9.2.2.2.2)) (cond (Af == 28) ((AZ Am 0).bind fun RT=>(Rc.D2 Ai Au Bh Al An BG BT BL RT.kind RT.text RT.n RT.at_ RT.kids).bind fun LA=>some (LA.1,LA.2.1,LA.2.2.1,LA.2.2.2.1,LA.2.2.2.2)) (cond (Af == 29) ((AZ BG (IntKind.i64.wrap (((BG.length:Nat):Int) - 1))).bind fun Xp=>(BC.f k Au 18 ([])).bind fun LB=>(apd 8 Xp [LB.1]).bind fun QP=>(Du BG (IntKind.i64.wrap (((BG.length:Nat):Int) - 1)) (QP)).bind fun Wp=>some (LB.2,An,Wp,BT,BL)) (cond (Af == 30) ((BC.f k Au 22 ([])).bind fun Avq=>(F5.f k Ai Avq.2 Al An Am).bind fun Avr=>(BC.f k Avr 25 ([])).bind fun Ad2=>some (Ad2.2,An,BG,BT,BL)) (cond (Af == 31) ((BC.f k Au 11 ([BT])).bind fun Avu=>(Lp.f k Al As).bind fun Ue=>(BC.f k Avu.2 9 ([Ue])).bind fun Ad4=>(Rc.Iu Bh Al BT BL Af As Aq AC Am).bind fun Uf=>some (Ad4.2,An,BG,Uf.1,Uf.2)) (some (Au,An,BG,BT,BL))))))))))))
theorem Dx.C0 {Rc:GS} (hR:Rc.Good) {k:Nat}:Dx.C (Dx.g Rc k):=by
 intro Ai Au Bh As Al An BG BT Af Aq AC BL Am b0 AJ B2 AH AT C8 AO AP CW Bj Ay Az A2 AA Cf CF BF C4 BS Dn Da Cs G AI B1 AG AR C6 CU Bi r h Cu Ck Cm Cg Ee DX BJ hG
 refine Cz (args:=[pt b0,.agg #[iv Af,sv As,iv Aq,iv AC,Aa Bi Am Bj]]) Tryz.func47 rfl (B0 rfl) ?_
 intro A X hh_
 obtain ⟨CX,CM,BD,BU,_⟩:=hh_
 unfold Dx.g at h
 refine K.eq (env':=[(0,pt b0),(1,.agg #[iv Af,sv As,iv Aq,iv AC,Aa Bi Am Bj])]) (l':=bk b0 #[Ay,Az,A2,Aa AI Ai AJ,Aa B1 Au B2,sv Bh,Aa AG Al AH,AA,pt AO,pt AP,Aa AR An AT,Aa C6 BG C8] 66 :: BF :: BS :: Dn :: bk AO #[iv BT] 3 :: bk AP #[Aa CU BL CW,Cf] 25 :: Da :: X) rfl rfl (ksr (knp #[pt b0] 61 fun b1=>(knp #[iv Af,sv As,iv Aq,iv AC,Aa Bi Am Bj] 54 fun b2=>(AY (kx 1 (kld 0 4 rfl (kx 3 (AY (kx 1 (kld 0 0 rfl ?_))))))))))
 refine Ad (Co (ksr (kx 2 (Ad ?_))))
 refine AF h (fun h=>?_) fun h=>?_
 ·refine Bz (kpr [(0,3),(1,0),(2,3),(3,0),(4,3),(5,0),(6,0),(7,3)] [0,1] (AU 1 0 rfl (Ax 1 (AU 0 4 rfl (Ax 1 (AU 0 2 rfl (bnd h fun l4 hl4 h=>(KH (T:=54) (R:=(Bb 54)) (xs:=Am) Aq ((Am.length:Nat):Int) rfl (by kernel_rfl) (by kernel_rfl) (by kernel_rfl) (.inr ⟨_,.i64,rfl,(by kernel_rfl)⟩) (.inl ⟨rfl,rfl⟩) (by kernel_rfl) (by kernel_rfl) hl4 BJ fun A5 k6 o7=>(Ax 1 (AU 0 2 rfl ?_))))))))))
  refine BY (K.mv3 (K.mv3 (bnd h fun r8 hr8 h=>(B6 (GT.ok hr8 Cu Ck Cm (Ah.rd Cg) o7 hG) rfl ⟨(t7 CX),(t7 CM),(.tail _ (.tail _ (.head _))),(t7 BD),(t7 BU),trivial⟩ ?_))))
  rintro _ _ ⟨h9,Fz,k11,Hm,rfl,rfl⟩
  refine Bn (AY (kld 3 0 rfl (kx 2 (kld 0 10 rfl (kx 2 (Ad (Bz (kpr [(0,3),(1,0),(2,3),(3,0),(4,3),(5,0)] [2,3] (AU 1 0 rfl (Ax 1 ?_))))))))))
  refine AU 0 4 rfl (Ax 1 (AU 0 2 rfl (bnd h fun l13 YD h=>(KH (T:=54) (R:=(Bb 54)) (xs:=Am) 0 Aq rfl (by kernel_rfl) (by kernel_rfl) (by kernel_rfl) (.inl ⟨rfl,rfl⟩) (.inr ⟨_,.i64,rfl,(by kernel_rfl)⟩) (by kernel_rfl) (by kernel_rfl) YD BJ fun GN k15 o16=>(BY (K.Bq (K.Ao (bnd h fun E0 Kk h=>(B6 (Hj.ok Kk Cg o16) rfl ⟨(t7 BD),trivial⟩ ?_)))))))))
  rintro _ _ ⟨h18,A19,k20,o21,rfl,rfl⟩
  refine Bn (AY (kx 1 (kld 3 2 rfl (K.mv3 (K.drop (kx 1 (Ad (Co (K.Ak (K.mv7 ?_))))))))))
  refine K.mv7 (K.mv7 (K.mv7 (K.mv7 (K.mv7 (K.mv7 (EL (τ:=Int×TyA×Ab×Ar×Nat) (fun t=>[(2,pt b1),(5,iv ((An.length:Nat):Int)),(6,iv t.1)]) (fun t=>bk b0 #[Ay,Az,A2,Aa AI Ai AJ,Aa t.2.2.2.1 t.2.1 t.2.2.2.2,sv Bh,Aa AG Al AH,AA,pt AO,pt AP,Aa A19 E0 k20,Aa C6 BG C8] 66 :: h18 :: bk b1 #[pt b0] 61 :: Dn :: bk AO #[iv BT] 3 :: bk AP #[Aa CU BL CW,Cf] 25 :: Da :: t.2.2.1 :: X) (fun m t=>Dx.l0 m An BG BT BL E0 t.1 t.2.1=some r∧Ah e48 48 4 t.2.2.1 (Aa t.2.2.2.1 t.2.1 t.2.2.2.2) t.2.1) k (Aq,r8,h9,Fz,k11) ⟨h,Hm⟩ sb rfl ?_))))))
  clear h
  rintro QX ⟨x22,l23,h24,A25,k26⟩ ⟨h,JF⟩
  cases QX with
  | zero=>simp [Dx.l0] at h
  | succ QX =>
   simp only [Dx.l0] at h
   refine Bz (ksr (kx 2 (Ad ?_)))
   refine AF h (fun h=>?_) fun h=>?_
   ·refine Bt (AB (Bz (Co (Bc (kld 2 0 rfl (kx 3 (De #[iv (IntKind.i64.wrap (((An.length:Nat):Int)+x22))] 3 1 fun XI=>(K.CN (K.Ak (bnd h fun r31 Zf h=>?_))))))))))
    refine B6 (BC.ok Zf JF (Ah.rd (Ah.blk 3 (D7 .i64) XI [IntKind.i64.wrap (((An.length:Nat):Int)+x22)] #[iv (IntKind.i64.wrap (((An.length:Nat):Int)+x22))] 1 (by kernel_rfl) rfl (by decide)))) rfl ⟨(.head _),trivial⟩ ?_
    rintro _ _ ⟨h32,A33,k34,o35,rfl,rfl⟩
    refine Bn (K.Ak (K.drop (knl (Bo (AB (Bc (kx 3 (Ad (K.Ao (K.mv7 ?_))))))))))
    exact K.mv7 (K.mv7 (K.mv7 (K.mv7 (K.mv7 (K.mv7 (Ea QX (IntKind.i64.wrap (x22 - 1),r31.2,h32,A33,k34) (Nat.lt_succ_self _) ⟨h,o35⟩ sb rfl))))))
   ·refine E6 (CY (CY (E7 (Bo (Cw ?_)))))
    obtain rfl:=Ap h
    exact kdv (.tuple #[]) [bk b0 #[Ay,Az,A2,Aa AI Ai AJ,Aa A25 l23 k26,sv Bh,Aa AG Al AH,AA,pt AO,pt AP,Aa A19 E0 k20,Aa C6 BG C8] 66,h24,h18,Dn,bk AO #[iv BT] 3,bk AP #[Aa CU BL CW,Cf] 25,Da] (K.Ak (K.drop (K.mv5 (K.mv5 (K.mv5 (K.mv5 (K.mv5 (K.mv6 (K.mv6 (BH ⟨h24,A25,k26,h18,A19,k20,Dn,C6,C8,Da,CU,CW,JF,o21,Ee,DX,rfl,rfl⟩))))))))))
 ·refine ksr (kx 2 (Ad ?_))
  refine AF h (fun h=>?_) fun h=>?_
  ·refine kpr [(0,3),(1,0),(2,3),(3,0),(4,3),(5,0),(6,0),(7,3),(8,0),(9,3),(10,0)] [0,1] (AU 1 0 rfl (Ax 1 (AU 0 4 rfl (Ax 1 (AU 0 2 rfl (bnd h fun l37 Bbf h=>(KH (T:=54) (R:=(Bb 54)) (xs:=Am) 0 Aq rfl (by kernel_rfl) (by kernel_rfl) (by kernel_rfl) (.inl ⟨rfl,rfl⟩) (.inr ⟨_,.i64,rfl,(by kernel_rfl)⟩) (by kernel_rfl) (by kernel_rfl) Bbf BJ fun Jm k39 Mh=>(Ax 1 (AU 0 4 rfl (Ax 1 ?_))))))))))
   refine AU 0 2 rfl (bnd h fun l41 Bbg h=>(KH (T:=54) (R:=(Bb 54)) (xs:=Am) Aq ((Am.length:Nat):Int) rfl (by kernel_rfl) (by kernel_rfl) (by kernel_rfl) (.inr ⟨_,.i64,rfl,(by kernel_rfl)⟩) (.inl ⟨rfl,rfl⟩) (by kernel_rfl) (by kernel_rfl) Bbg BJ fun A42 ZT TL=>(BY (K.mv3 (K.mv3 (bnd h fun r45 Zi h=>(B6 (FK.ok Zi Cu Ck Cm (Ah.rd Cg) Mh TL hG) rfl ⟨(t7 CX),(t7 CM),(.tail _ (.tail _ (.head _))),(t7 BD),(t7 BD),(t7 BU),trivial⟩ ?_)))))))
   rintro _ _ ⟨h46,A47,k48,o49,rfl,rfl⟩
   refine Bn (K.Ak (K.drop (K.Ak (K.drop (knl (Bo (Cw ?_)))))))
   obtain rfl:=Ap h
   exact kdv (.tuple #[]) [bk b0 #[Ay,Az,A2,Aa AI Ai AJ,Aa A47 r45 k48,sv Bh,Aa AG Al AH,AA,pt AO,pt AP,Aa AR An AT,Aa C6 BG C8] 66,h46,BS,Dn,bk AO #[iv BT] 3,bk AP #[Aa CU BL CW,Cf] 25,Da] (BH ⟨h46,A47,k48,BS,AR,AT,Dn,C6,C8,Da,CU,CW,o49,Cg,Ee,DX,rfl,rfl⟩)
  ·refine ksr (kx 2 (Ad ?_))
   refine AF h (fun h=>?_) fun h=>?_
   ·refine IN [(0,3),(1,0),(2,3),(3,0),(4,3)] [bk b2 #[iv Af,sv As,iv Aq,iv AC,Aa Bi Am Bj] 54,bk b1 #[pt b0] 61,Cs] (fun w h_=>⟨h_.sat.on _ (.head _),h_.sat.on _ (.tail _ (.head _)),h_.sat.on _ (t9 BD),trivial⟩) (AU 1 0 rfl (Ax 1 (AU 0 4 rfl (bnd h fun x51 Bga h=>(Jd (T:=54) (kd:=.i64) (R:=(Bb 54)) rfl Bga BJ fun p52 u55 q56 e53 y54=>?_)))))
    obtain ⟨US,k58,rfl,o59⟩:=DI 54 q56
    refine IM rfl e53 (fun w h_=>h_.mem _ (.tail _ (.tail _ (.head _)))) (BY (K.mv3 (K.mv3 (bnd h fun r60 OQ h=>(B6 (EJ.ok OQ Cu Ck Cm (Ah.rd Cg) o59 hG) rfl ⟨(t7 CX),(t7 CM),(.tail _ (.tail _ (.head _))),(t7 BD),(t7 BU),trivial⟩ ?_)))))
    rintro _ _ ⟨h61,Se,k63,Rk,rfl,rfl⟩
    refine Bn (K.Ak (K.drop (K.Ak (K.drop (knl (Bo (Cw ?_)))))))
    obtain rfl:=Ap h
    exact kdv (.tuple #[]) [bk b0 #[Ay,Az,A2,Aa AI Ai AJ,Aa Se r60 k63,sv Bh,Aa AG Al AH,AA,pt AO,pt AP,Aa AR An AT,Aa C6 BG C8] 66,h61,BS,Dn,bk AO #[iv BT] 3,bk AP #[Aa CU BL CW,Cf] 25,Da] (BH ⟨h61,Se,k63,BS,AR,AT,Dn,C6,C8,Da,CU,CW,Rk,Cg,Ee,DX,rfl,rfl⟩)
   ·refine ksr (kx 2 (Ad ?_))
    refine AF h (fun h=>?_) fun h=>?_
    ·refine Bc (kld 1 0 rfl (K.Ao (K.drop (kx 1 (kld 0 4 rfl (K.drop (K.mv6 (K.mv6 (K.mv6 (K.mv6 ?_))))))))))
     refine K.mv6 (K.mv6 (K.mv6 (bnd h fun EP Zr h=>(B6 (hR.DN Zr Cu Ck Cm Cg Ee DX BJ hG) rfl ⟨CX,CM,BD,BU,trivial⟩ ?_))))
     rintro _ _ ⟨NG,GP,k69,h71,Sf,To,h75,KU,Lu,h79,A80,k81,Kr,Py,o78,o82,rfl,rfl⟩
     refine Er (knl (Bo (Cw ?_)))
     obtain rfl:=Ap h
     exact kdv (.tuple #[]) [bk b0 #[Ay,Az,A2,Aa AI Ai AJ,Aa GP EP.1 k69,sv Bh,Aa AG Al AH,AA,pt AO,pt AP,Aa Sf EP.2.1 To,Aa KU EP.2.2.1 Lu] 66,NG,h71,h75,bk AO #[iv EP.2.2.2.1] 3,bk AP #[Aa A80 EP.2.2.2.2 k81,Cf] 25,h79] (BH ⟨NG,GP,k69,h71,Sf,To,h75,KU,Lu,h79,A80,k81,Kr,Py,o78,o82,rfl,rfl⟩)
    ·refine ksr (kx 2 (Ad ?_))
     refine AF h (fun h=>?_) fun h=>?_
     ·refine ksr (kld 1 0 rfl (K.Ak (bnd h fun Ff Zw h=>(CI (EK.ok Zw (Ah.rd Ck)) rfl ⟨(.tail _ (.tail _ (.head _))),trivial⟩ (knp #[iv 0] 3 fun b85=>(AQ 0 1 #[iv Ff] (Ad (Bz (IN [(0,3),(1,0),(2,3),(3,0),(4,3)] [bk b2 #[iv Af,sv As,iv Aq,iv AC,Aa Bi Am Bj] 54,bk b1 #[pt b0] 61,Cs] (fun w h_=>⟨h_.sat.on _ (.tail _ (.tail _ (.head _))),h_.sat.on _ (.tail _ (.tail _ (.tail _ (.head _)))),h_.sat.on _ (t10 BD),trivial⟩) (AU 1 0 rfl ?_))))))))))
      refine Ax 1 (AU 0 4 rfl (bnd h fun x86 Bgn h=>(Jd (T:=54) (kd:=.i64) (R:=(Bb 54)) rfl Bgn BJ fun p87 u90 Ua e88 y89=>?_)))
      obtain ⟨A92,ZV,rfl,Rp⟩:=DI 54 Ua
      refine IM rfl e88 (fun w h_=>h_.mem _ (.tail _ (.tail _ (.head _)))) (BY (K.Bq (K.Ak (bnd h fun r95 MQ h=>(B6 (Dl.ok MQ Cu Ck Cm (Ah.rd Cg) Rp hG) rfl ⟨(t8 CX),(t8 CM),(.tail _ (.tail _ (.tail _ (.head _)))),(t8 BD),(t8 BU),trivial⟩ ?_)))))
      rintro _ _ ⟨h96,K3,KF,KN,rfl,rfl⟩
      refine Bn (AY (kld 4 0 rfl (Di (K.Ak (K.Ak (bnd h fun WP Bbz h=>(B6 (BC.ok Bbz KN (Bf.nil (encI .i64) 1 none_)) rfl ⟨(.head _),trivial⟩ ?_)))))))
      rintro _ _ ⟨Bvu,Buc,Bxd,Bkx,rfl,rfl⟩
      refine Bn (K.Ak (K.drop (kx 1 (AY (kld 4 0 rfl (Di (K.Ak (K.Ak (bnd h fun Avh Bb1 h=>(B6 (BC.ok Bb1 Bkx (Bf.nil (encI .i64) 1 none_)) rfl ⟨(.head _),trivial⟩ ?_))))))))))
      rintro _ _ ⟨V9,Ay7,Bha,Abe,rfl,rfl⟩
      refine Bn (K.Ak (K.drop (Ad (Bz (IN [(0,3),(1,0),(2,3),(3,0),(4,3),(5,0)] [bk b2 #[iv Af,sv As,iv Aq,iv AC,Aa Bi Am Bj] 54,bk b1 #[pt b0] 61,Cs] (fun w h_=>⟨h_.sat.on _ (.tail _ (.tail _ (.tail _ (.head _)))),h_.sat.on _ (.tail _ (.tail _ (.tail _ (.tail _ (.head _))))),h_.sat.on _ (t10 BD),trivial⟩) (AU 1 0 rfl (Ax 1 (AU 0 4 rfl (bnd h fun RM Bfb h=>(Jd (T:=54) (kd:=.i64) (R:=(Bb 54)) rfl Bfb BJ fun Byu Bzi Bpc A4h y113=>?_))))))))))
      obtain ⟨Bui,Bxh,rfl,Abj⟩:=DI 54 Bpc
      refine IM rfl A4h (fun w h_=>h_.mem _ (.tail _ (.tail _ (.head _)))) (Ax 1 (BY (K.Ak (K.Bq (K.mv9 (K.mv9 (K.mv9 (K.mv9 (K.mv9 (K.CN ?_))))))))))
      refine K.CN (bnd h fun Fe YZ h=>(B6 (hR.FL YZ Cu Abe Cm Cg Ee DX Abj hG) rfl ⟨(.tail _ CX),(.tail _ CM),(.tail _ BD),(.tail _ BU),trivial⟩ ?_))
      rintro _ _ ⟨Bv2,Xs,ZI,Yp,Xt,ZJ,h128,UQ,VQ,Yr,Xu,ZK,Pt,Bk7,Abp,Abq,rfl,rfl⟩
      refine Er (K.CN (K.drop (K.CN (K.drop (Ad (kpr [(0,3),(1,0),(2,0),(3,0),(4,3),(5,0),(6,3),(7,1)] [0,7] (AU 1 0 rfl (Ax 3 (AU 0 4 rfl (Ax 1 ?_))))))))))
      refine AU 1 0 rfl (kpt (bnd h fun Ud Bce h=>(Mj (EK.ok Bce (Ah.rd Pt)) rfl ⟨(.head _),trivial⟩ (Dp [0,7] rfl (BY (bnd h fun Hf Ta h=>(F8 (T:=48) (kd:=.i64) Fi rfl Ta (Ah.rd Pt) fun Ac1 Qn Agm=>?_)))))))
      have Qn:Elem _ Ac1 [iv Hf.1,iv Hf.2.1,iv Hf.2.2.1,iv Hf.2.2.2]:=Qn
      refine K.mv7 (K.drop (GV (off:=1) rfl Qn Agm fun Bn6 Aka Bt0=>?_))
      have Aka:Elem _ Bn6 [iv Hf.2.1,iv Hf.2.2.1,iv Hf.2.2.2]:=Aka
      refine K.Ao (bnd h fun Wn Anp h=>(JA (v:=iv Ud) (off:=1) (x':=(Hf.1,Ud,Hf.2.2.1,Hf.2.2.2)) Fi rfl (by kernel_rfl) (by kernel_rfl) (by kernel_rfl) (by kernel_rfl) (by kernel_rfl) Bt0 Pt Ta (by kernel_rfl) (by kernel_rfl) Anp fun Ys Abt=>?_))
      have A7l:=GH Anp
      refine K.weak (env':=[(109,iv Ud)]) ?_ ⟨gr,trivial⟩
      refine K.eq (l':=Ys :: bk b0 #[Ay,Az,A2,Aa AI Ai AJ,Aa Xs Wn ZI,sv Bh,Aa AG Al AH,AA,pt AO,pt AP,Aa Xt Fe.2.1 ZJ,Aa UQ Fe.2.2.1 VQ] 66 :: Yp :: h128 :: bk AO #[iv Fe.2.2.2.1] 3 :: bk AP #[Aa Xu Fe.2.2.2.2 ZK,Cf] 25 :: Yr :: X) rfl (by first | rfl | (unfold Aa;rw [A7l];first | done | rfl)) (knl (Bo (Cw ?_)))
      obtain rfl:=Ap h
      exact kdv (.tuple #[]) [bk b0 #[Ay,Az,A2,Aa AI Ai AJ,Aa Xs Wn ZI,sv Bh,Aa AG Al AH,AA,pt AO,pt AP,Aa Xt Fe.2.1 ZJ,Aa UQ Fe.2.2.1 VQ] 66,Ys,Yp,h128,bk AO #[iv Fe.2.2.2.1] 3,bk AP #[Aa Xu Fe.2.2.2.2 ZK,Cf] 25,Yr] (K.mv6 (K.mv6 (K.mv6 (K.mv6 (K.mv6 (K.mv5 (K.mv6 (BH ⟨Ys,Xs,ZI,Yp,Xt,ZJ,h128,UQ,VQ,Yr,Xu,ZK,Abt,Bk7,Abp,Abq,rfl,rfl⟩))))))))
     ·refine ksr (kx 2 (Ad ?_))
      refine AF h (fun h=>?_) fun h=>?_
      ·refine Bz (kpr [(0,3),(1,0),(2,3),(3,0),(4,0)] [0,1] (AU 1 0 rfl (Ax 1 (AU 0 4 rfl (Ax 1 (bnd h fun Ar7 Baz h=>(KH (T:=54) (R:=(Bb 54)) (xs:=Am) 1 (IntKind.i64.wrap (((Am.length:Nat):Int) - 1)) rfl (by kernel_rfl) (by kernel_rfl) (by kernel_rfl) (.inr ⟨_,.i64,rfl,(by kernel_rfl)⟩) (.inr ⟨_,.i64,rfl,(by kernel_rfl)⟩) (by kernel_rfl) (by kernel_rfl) Baz BJ fun Ag6 Apd TJ=>(BY (K.mv3 (K.mv3 ?_))))))))))
       refine bnd h fun Nk Za h=>(B6 (DD.ok Za Cu Ck Cm (Ah.rd Cg) TJ hG) rfl ⟨(t7 CX),(t7 CM),(.tail _ (.tail _ (.head _))),(t7 BD),(t7 BU),trivial⟩ ?_)
       rintro _ _ ⟨Al7,Ag7,Aph,Abu,rfl,rfl⟩
       refine Bn (Ad ?_)
       obtain ⟨XB,A8z,h⟩:=CG h
       refine CH (τ:=Int×Ag×Nat×Ab×Ar×Nat) (fun t=>[(2,pt b1),(3,pt b2),(4,iv (IntKind.i64.wrap (((Am.length:Nat):Int) - 1))),(9,pt t.2.2.1)]) (fun t=>bk t.2.2.1 #[iv t.1] 3 :: bk b0 #[Ay,Az,A2,Aa AI Ai AJ,Aa Ag7 Nk Aph,sv Bh,Aa AG Al AH,AA,pt AO,pt AP,Aa t.2.2.2.2.1 t.2.1 t.2.2.2.2.2,Aa C6 BG C8] 66 :: Al7 :: bk b2 #[iv Af,sv As,iv Aq,iv AC,Aa Bi Am Bj] 54 :: bk b1 #[pt b0] 61 :: Dn :: bk AO #[iv BT] 3 :: bk AP #[Aa CU BL CW,Cf] 25 :: Da :: t.2.2.2.1 :: X) (fun t=>XB t.1 t.2.1=some r∧Ah encS 9 1 t.2.2.2.1 (Aa t.2.2.2.2.1 t.2.1 t.2.2.2.2.2) t.2.1) ?_ ?_
       ·rintro ⟨x159,Ar8,Ai1,A8h,Azj,Bhn⟩ ⟨h,Abx⟩
        subst A8z
        refine ksr (kld 4 0 rfl (kld 0 0 rfl (kx 2 (De #[iv x159,iv 0,iv (IntKind.i64.wrap ((IntKind.i64.wrap (((Am.length:Nat):Int) - 1)) - 3))] 3 3 fun A0t=>(K.mv3 (K.mv3 (bnd h fun FC Zb h=>(B6 (BC.ok Zb Abu (Ah.rd (Ah.blk 3 (D7 .i64) A0t [x159,0,IntKind.i64.wrap ((IntKind.i64.wrap (((Am.length:Nat):Int) - 1)) - 3)] #[iv x159,iv 0,iv (IntKind.i64.wrap ((IntKind.i64.wrap (((Am.length:Nat):Int) - 1)) - 3))] 3 (by kernel_rfl) rfl (by decide)))) rfl ⟨(.head _),trivial⟩ ?_))))))))
        rintro _ _ ⟨Al8,RY,Ti,Re,rfl,rfl⟩
        refine Bn (K.Ak (K.drop (knp #[iv 0] 3 fun Bvl=>(AQ 0 1 #[iv FC.1] (Ad (Bz (IN [(0,3),(1,0),(2,3),(3,0),(4,0),(5,3),(6,0)] [bk b2 #[iv Af,sv As,iv Aq,iv AC,Aa Bi Am Bj] 54,bk b1 #[pt b0] 61,Cs] (fun w h_=>⟨h_.sat.on _ (.tail _ (.tail _ (.tail _ (.tail _ (.head _))))),h_.sat.on _ (.tail _ (.tail _ (.tail _ (.tail _ (.tail _ (.head _)))))),h_.sat.on _ (t11 BD),trivial⟩) (AU 1 0 rfl (Ax 1 (AU 0 4 rfl ?_))))))))))
        refine Ax 1 (bnd h fun Mw Z3 h=>(Jd (T:=54) (kd:=.i64) (R:=(Bb 54)) rfl Z3 BJ fun Aun Bzv Bpp Sw Bt4=>?_))
        obtain ⟨Bux,Bxu,rfl,Blv⟩:=DI 54 Bpp
        refine IM rfl Sw (fun w h_=>h_.mem _ (.tail _ (.tail _ (.head _)))) (Ax 1 (BY (K.mv3 (K.mv5 (K.mv9 (K.mv9 (K.mv9 (K.mv9 (K.Atb (K.mv9 ?_))))))))))
        refine K.mv9 (bnd h fun Jh Bcv h=>(B6 (hR.FM Bcv Cu Re Cm Abx Ee DX Blv hG) rfl ⟨(.tail _ CX),(.tail _ CM),(.tail _ BD),(.tail _ BU),trivial⟩ ?_))
        rintro _ _ ⟨Bv6,Xw,ZM,A8i,Azm,Bhp,Yu,Xx,ZN,Yv,Xy,ZO,Ab4,Bly,Bl4,Bl7,rfl,rfl⟩
        refine Er (K.Atb (K.drop (Ad (Bz (kpr [(0,3),(1,0),(2,0),(3,0),(4,3),(5,3),(6,3),(7,1)] [0,7,9] (AU 1 0 rfl (Ax 3 (AU 0 4 rfl (AU 2 0 rfl (AU 1 0 rfl ?_))))))))))
        refine kpt (bnd h fun L8 Zc h=>(Mj (EK.ok Zc (Ah.rd Ab4)) rfl ⟨(.head _),trivial⟩ (Dp [0,7,9] rfl (BY (bnd h fun x200 Tb h=>(F8 (T:=48) (kd:=.i64) Fi rfl Tb (Ah.rd Ab4) fun Ac3 O4 Agn=>?_))))))
        have O4:Elem _ Ac3 [iv x200.1,iv x200.2.1,iv x200.2.2.1,iv x200.2.2.2]:=O4
        refine K.mv9 (K.drop (GV (off:=2) rfl O4 Agn fun Ac5 Sx Agp=>?_))
        have Sx:Elem _ Ac5 [iv x200.2.2.1,iv x200.2.2.2]:=Sx
        refine K.Ao (bnd h fun MX SF h=>(JA (v:=iv L8) (off:=2) (x':=(x200.1,x200.2.1,L8,x200.2.2.2)) Fi rfl (by kernel_rfl) (by kernel_rfl) (by kernel_rfl) (by kernel_rfl) (by kernel_rfl) Agp Ab4 Tb (by kernel_rfl) (by kernel_rfl) SF fun Qy Acf=>?_))
        have S7:=GH SF
        refine K.weak (env':=[(2,pt b1),(9,pt Ai1),(146,iv L8)]) ?_ ⟨gr,gr,gr,trivial⟩
        refine K.eq (l':=Qy :: bk b0 #[Ay,Az,A2,Aa AI Ai AJ,Aa Xw MX ZM,sv Bh,Aa AG Al AH,AA,pt AO,pt AP,Aa Azm Jh.2.1 Bhp,Aa Xx Jh.2.2.1 ZN] 66 :: A8i :: Yu :: bk AO #[iv Jh.2.2.2.1] 3 :: bk AP #[Aa Xy Jh.2.2.2.2 ZO,Cf] 25 :: Yv :: bk b1 #[pt b0] 61 :: bk Ai1 #[iv x159] 3 :: X) rfl (by first | rfl | (unfold Aa;rw [S7];first | done | rfl)) (Fw (kld 7 0 rfl (K.mv7 (K.drop (kld 7 0 rfl (K.mv7 (K.drop (K.Ak (K.Ak (bnd h fun Adz Bc0 h=>?_))))))))))
        refine B6 (MI.ok Bc0 Bly) rfl trivial ?_
        rintro _ _ ⟨Amd,Ahi,Apo,Bme,rfl,rfl⟩
        refine Bn (knl (Bo (Cw ?_)))
        obtain rfl:=Ap h
        exact kdv (.tuple #[]) [bk b0 #[Ay,Az,A2,Aa AI Ai AJ,Aa Xw MX ZM,sv Bh,Aa AG Al AH,AA,pt AO,pt AP,Aa Ahi Adz Apo,Aa Xx Jh.2.2.1 ZN] 66,Qy,Amd,Yu,bk AO #[iv Jh.2.2.2.1] 3,bk AP #[Aa Xy Jh.2.2.2.2 ZO,Cf] 25,Yv] (K.mv6 (K.mv6 (K.mv6 (K.mv6 (K.mv5 (K.mv6 (K.mv6 (BH ⟨Qy,Xw,ZM,Amd,Ahi,Apo,Yu,Xx,ZN,Yv,Xy,ZO,Acf,Bme,Bl4,Bl7,rfl,rfl⟩))))))))
       ·skip
        refine Bh6 [(0,3),(1,0),(2,3),(3,0)] 4 5 6 (fun w=>FG [bk b2 #[iv Af,sv As,iv Aq,iv AC,Aa Bi Am Bj] 54,bk b1 #[pt b0] 61] w) (by kernel_rfl) (by kernel_rfl) (fun _ _ d _ _ h=>by cases d <;> exact h) (fun w h_=>⟨h_.sat.on _ (.tail _ (.tail _ (.head _))),h_.sat.on _ (.tail _ (.tail _ (.tail _ (.head _)))),trivial⟩) ?_
        simp only [EN,List.filterMap_cons,List.filterMap_nil,List.getElem?_toArray,List.getElem?_cons_zero,List.getElem?_cons_succ,Option.map_some,List.drop_succ_cons,List.drop_zero,AD,Be]
        refine AU 1 0 rfl (Ax 1 (AU 0 4 rfl (bnd h fun Asa Ba4 h=>(KH (T:=54) (R:=(Bb 54)) (xs:=Am) 0 1 rfl (by kernel_rfl) (by kernel_rfl) (by kernel_rfl) (.inl ⟨rfl,rfl⟩) (.inr ⟨_,.i64,rfl,(by kernel_rfl)⟩) (by kernel_rfl) (by kernel_rfl) Ba4 BJ fun Bu7 Bx4 At4=>(BY ?_)))))
        refine Bh1 ?_ ?_
        ·skip
         refine Arl rfl (by kernel_rfl) (K.Bq (K.Ao (bnd h fun Rx Bc5 h=>(ocl (LY.ok Bc5 Cg At4) rfl ⟨(t7 BD),trivial⟩ ?_))))
         rintro _ _ ⟨A8m,Azr,Bhx,Bmm,rfl,rfl⟩
         refine Bn (Arj (.cells #[iv 0] 3 (0,0)) (fun b=>pt b) rfl (fun _ h=>FG.alloc h) (by kernel_rfl) (by kernel_rfl) (fun _=>by kernel_rfl) fun A0u=>?_)
         simp only [List.drop_succ_cons,List.drop_zero]
         refine AQ 0 1 #[iv Rx.1] (Ad (K.Ak (K.mv9 (K.mv9 (K.mv9 (K.mv9 (K.mv9 (K.mv9 (K.mv9 (K.mv9 ?_))))))))))
         exact K.mv9 (AV (Rx.1,Rx.2,A0u,A8m,Azr,Bhx) ⟨h,Bmm⟩ sb rfl)
        ·skip
         refine Arj (.cells #[iv 0] 3 (0,0)) (fun b=>pt b) rfl (fun _ h=>FG.alloc h) (by kernel_rfl) (by kernel_rfl) (fun _=>by kernel_rfl) fun A0v=>(Arl rfl (by kernel_rfl) (K.mv5 (K.Ak (bnd h fun Ad1 Bc6 h=>(ocl (LY.ok Bc6 Cg At4) rfl ⟨(t8 BD),trivial⟩ ?_)))))
         rintro _ _ ⟨A8n,Azu,Bhz,Bmt,rfl,rfl⟩
         refine Bn ?_
         simp only [List.drop_succ_cons,List.drop_zero]
         refine K.Ak (AQ 0 1 #[iv Ad1.1] (Ad (K.Ak (K.mv9 (K.mv9 (K.mv9 (K.mv9 (K.mv9 (K.mv9 (K.mv9 ?_))))))))))
         exact K.mv9 (K.mv9 (AV (Ad1.1,Ad1.2,A0v,A8n,Azu,Bhz) ⟨h,Bmt⟩ sb rfl))
      ·refine ksr (kx 2 (Ad ?_))
       refine AF h (fun h=>?_) fun h=>?_
       ·refine Bc (kld 1 0 rfl (K.Ao (K.drop (CE 0 0 5 rfl (K.drop (kx 1 (K.mv6 (K.mv6 (K.mv6 (K.mv6 ?_))))))))))
        refine K.mv6 (K.mv6 (K.mv6 (bnd h fun L9 Bde h=>(B6 (hR.HJ Bde Cu Ck Cm Cg Ee DX BJ hG) rfl ⟨CX,CM,BD,BU,trivial⟩ ?_))))
        rintro _ _ ⟨S9,RZ,Tj,SA,Sa,Tl,SB,Sb,Tm,Ami,Ahk,Aps,Acg,Ach,Aci,Bmv,rfl,rfl⟩
        refine Er (knl (Bo (Cw ?_)))
        obtain rfl:=Ap h
        exact kdv (.tuple #[]) [bk b0 #[Ay,Az,A2,Aa AI Ai AJ,Aa RZ L9.1 Tj,sv Bh,Aa AG Al AH,AA,pt AO,pt AP,Aa Sa L9.2.1 Tl,Aa Sb L9.2.2.1 Tm] 66,S9,SA,SB,bk AO #[iv L9.2.2.2.1] 3,bk AP #[Aa Ahk L9.2.2.2.2 Aps,Cf] 25,Ami] (BH ⟨S9,RZ,Tj,SA,Sa,Tl,SB,Sb,Tm,Ami,Ahk,Aps,Acg,Ach,Aci,Bmv,rfl,rfl⟩)
       ·refine ksr (kx 2 (Ad ?_))
        refine AF h (fun h=>?_) fun h=>?_
        ·refine IN [(0,3),(1,0),(2,3),(3,0),(4,3)] [bk b2 #[iv Af,sv As,iv Aq,iv AC,Aa Bi Am Bj] 54,bk b1 #[pt b0] 61,Cs] (fun w h_=>⟨h_.sat.on _ (.head _),h_.sat.on _ (.tail _ (.head _)),h_.sat.on _ (t9 BD),trivial⟩) (AU 1 0 rfl (Ax 1 (AU 0 4 rfl (bnd h fun RT Bfy h=>(Jd (T:=54) (kd:=.i64) (R:=(Bb 54)) rfl Bfy BJ fun Bza Bzx Bpu A4p B0e=>?_)))))
         obtain ⟨Bvb,Bx8,rfl,Bmx⟩:=DI 54 Bpu
         refine IM rfl A4p (fun w h_=>h_.mem _ (.tail _ (.tail _ (.head _)))) (BY (K.CN (K.CN (K.CN (K.CN (K.CN (K.CN (K.CN (bnd h fun LA Bdk h=>(B6 (hR.D2 Bdk Cu Ck Cm Cg Ee DX Bmx hG) rfl ⟨(t2 CX),(t2 CM),(t2 BD),(t2 BU),trivial⟩ ?_))))))))))
         rintro _ _ ⟨Yw,Xz,ZP,Yx,X0,ZQ,Yy,X1,ZR,Amj,X2,ZS,Ack,Acn,Acp,Acs,rfl,rfl⟩
         refine Er (K.mv7 (K.drop (K.mv7 (K.drop (knl (Bo (Cw ?_)))))))
         obtain rfl:=Ap h
         exact kdv (.tuple #[]) [bk b0 #[Ay,Az,A2,Aa AI Ai AJ,Aa Xz LA.1 ZP,sv Bh,Aa AG Al AH,AA,pt AO,pt AP,Aa X0 LA.2.1 ZQ,Aa X1 LA.2.2.1 ZR] 66,Yw,Yx,Yy,bk AO #[iv LA.2.2.2.1] 3,bk AP #[Aa X2 LA.2.2.2.2 ZS,Cf] 25,Amj] (BH ⟨Yw,Xz,ZP,Yx,X0,ZQ,Yy,X1,ZR,Amj,X2,ZS,Ack,Acn,Acp,Acs,rfl,rfl⟩)
        ·refine ksr (kx 2 (Ad ?_))
         refine AF h (fun h=>?_) fun h=>?_
         ·refine ksr (kld 1 0 rfl (K.drop (kx 2 (kld 1 11 rfl (kx 3 (Ad (bnd h fun Xp Z7 h=>(K.Bq (QI (R:=Et) Ee (KL Z7).2.2 fun Bwi NF Bvt _ _ Bm2 e284=>?_)))))))))
          obtain ⟨Ahl,Apt,rfl,Bm6⟩:=Bm2
          refine Tv [(0,3),(1,0),(2,0),(3,3),(4,0),(5,3),(6,0),(7,0),(8,3),(9,0),(10,0),(11,3),(12,3),(13,1),(14,1),(15,1)] (fun w=>∃ (KS:Value),FG [NF,bk b1 #[pt b0] 61,bk b0 #[Ay,Az,A2,Aa AI Ai AJ,KS,sv Bh,Aa AG Al AH,AA,pt AO,pt AP,Aa AR An AT,Aa C6 BG C8] 66] w) (by kernel_rfl) (by kernel_rfl) (fun _ _ d _ _ h=>by cases d <;> exact h) (fun w h_=>⟨Aa B1 Au B2,h_.sat.on _ (.tail _ (.head _)),h_.sat.on _ (.tail _ (.tail _ (.head _))),h_.sat.on _ (.tail _ (.tail _ (.tail _ (.head _)))),trivial⟩) ?_
          simp only [EN,List.filterMap_cons,List.filterMap_nil,List.getElem?_toArray,List.getElem?_cons_zero,List.getElem?_cons_succ,Option.map_some,List.drop_succ_cons,List.drop_zero,AD,Be]
          refine Tx (v:=pt b0) [.val (pt b0)] [.ld ⟨b1,0,none⟩ (pt b0)] (by kernel_rfl) (by kernel_rfl) (by kernel_rfl) (fun _ h_=>h_.elim fun KS h_=>⟨[NF,bk b1 #[pt b0] 61,bk b0 #[Ay,Az,A2,Aa AI Ai AJ,KS,sv Bh,Aa AG Al AH,AA,pt AO,pt AP,Aa AR An AT,Aa C6 BG C8] 66],h_,⟨⟨1,_,_,_,rfl,rfl,rfl⟩,trivial⟩⟩) (Ax 2 (Tx (v:=Aa C6 BG C8) [.val (Aa C6 BG C8)] [.ld ⟨b0,11,none⟩ (Aa C6 BG C8)] (by kernel_rfl) (by kernel_rfl) (by kernel_rfl) (fun _ h_=>h_.elim fun KS h_=>⟨[NF,bk b1 #[pt b0] 61,bk b0 #[Ay,Az,A2,Aa AI Ai AJ,KS,sv Bh,Aa AG Al AH,AA,pt AO,pt AP,Aa AR An AT,Aa C6 BG C8] 66],h_,⟨⟨2,_,_,_,rfl,rfl,rfl⟩,trivial⟩⟩) (Ax 1 (Tx (v:=pt b0) [.val (pt b0)] [.ld ⟨b1,0,none⟩ (pt b0)] (by kernel_rfl) (by kernel_rfl) (by kernel_rfl) (fun _ h_=>h_.elim fun KS h_=>⟨[NF,bk b1 #[pt b0] 61,bk b0 #[Ay,Az,A2,Aa AI Ai AJ,KS,sv Bh,Aa AG Al AH,AA,pt AO,pt AP,Aa AR An AT,Aa C6 BG C8] 66],h_,⟨⟨1,_,_,_,rfl,rfl,rfl⟩,trivial⟩⟩) (Ax 2 (Tx (v:=Aa C6 BG C8) [.val (Aa C6 BG C8)] [.ld ⟨b0,11,none⟩ (Aa C6 BG C8)] (by kernel_rfl) (by kernel_rfl) (by kernel_rfl) (fun _ h_=>h_.elim fun KS h_=>⟨[NF,bk b1 #[pt b0] 61,bk b0 #[Ay,Az,A2,Aa AI Ai AJ,KS,sv Bh,Aa AG Al AH,AA,pt AO,pt AP,Aa AR An AT,Aa C6 BG C8] 66],h_,⟨⟨2,_,_,_,rfl,rfl,rfl⟩,trivial⟩⟩) (Ax 1 (Jd (T:=81) (kd:=.i64) (R:=Et) rfl Z7 (AL.rd Ee) fun Boe _ _ _ Bt6=>?_))))))))
          have e290:Elem NF Boe [Aa Ahl Xp Apt]:=Ip.elem e284 Bt6
          refine Pk rfl (by kernel_rfl) (by kernel_rfl) (by kernel_rfl) (by kernel_rfl) e290 (fun w h_=>h_.elim fun KS h_=>h_.mem _ (.head _)) (Tx (v:=pt b0) [.val (pt b0)] [.ld ⟨b1,0,none⟩ (pt b0)] (by kernel_rfl) (by kernel_rfl) (by kernel_rfl) (fun _ h_=>h_.elim fun KS h_=>⟨[NF,bk b1 #[pt b0] 61,bk b0 #[Ay,Az,A2,Aa AI Ai AJ,KS,sv Bh,Aa AG Al AH,AA,pt AO,pt AP,Aa AR An AT,Aa C6 BG C8] 66],h_,⟨⟨1,_,_,_,rfl,rfl,rfl⟩,trivial⟩⟩) (kpt (Di (K.mv5 (K.mv5 (bnd h fun LB Bdm h=>(ocl (BC.ok Bdm Ck (Bf.nil (encI .i64) 1 none_)) rfl ⟨(.head _),trivial⟩ ?_)))))))
          rintro _ _ ⟨Qz,My,MU,Acu,rfl,rfl⟩
          refine Bn (Pi (fun w h_=>⟨Aa My LB.2 MU,h_.sat.on _ (.tail _ (.tail _ (.tail _ (.tail _ (.head _))))),h_.sat.on _ (.tail _ (.tail _ (.tail _ (.tail _ (.tail _ (.head _)))))),h_.sat.on _ (.head _),trivial⟩) (kpt (Hq #[iv LB.1] 3 1 fun Bvs=>(Pi (fun w h_=>⟨Aa My LB.2 MU,h_.sat.on _ (.tail _ (.tail _ (.tail _ (.tail _ (.tail _ (.head _)))))),h_.sat.on _ (.tail _ (.tail _ (.tail _ (.tail _ (.tail _ (.tail _ (.head _))))))),h_.sat.on _ (.tail _ (.head _)),trivial⟩) (kpt (K.Bq (bnd h fun QP Bbd h=>(Acz (ys:=[LB.1]) (D7 .i64) rfl Vy (by kernel_rfl) (by kernel_rfl) (by kernel_rfl) (by kernel_rfl) Bbd Bm6 (NY (n:=1) (D7 .i64) [LB.1] (by kernel_rfl) rfl (by decide) 1 rfl) fun Bwj Ahu Apw Bm9=>(Pi (fun w h_=>⟨Aa My LB.2 MU,h_.sat.on _ (.tail _ (.tail _ (.tail _ (.tail _ (.tail _ (.head _)))))),h_.sat.on _ (.tail _ (.tail _ (.tail _ (.tail _ (.tail _ (.tail _ (.head _))))))),h_.sat.on _ (.tail _ (.tail _ (.head _))),trivial⟩) (BY ?_))))))))))
          refine DL (T:=81) (kd:=.i64) (R:=Et) rfl Z7 (AL.rd Ee) fun Boj _ _ _ Ay4=>?_
          have e304:Elem NF Boj [Aa Ahl Xp Apt]:=Ip.elem e284 Ay4
          refine K.Ao (K.drop (K.mv3 (K.drop (K.Bq (K.drop (K.mv3 (bnd h fun Wp Anr h=>(Aae (R:=Et) (v:=Aa Ahu QP Apw) (x':=(QP)) rfl (by kernel_rfl) (by kernel_rfl) (by kernel_rfl) (by kernel_rfl) (by kernel_rfl) Ay4 Anr e284 (Xb (x:=(QP)) Bm9) fun Yz Bnb=>?_))))))))
          have Alq:=GH Anr
          refine K.weak (env':=[(189,Aa Ahu QP Apw)]) ?_ ⟨(by first | rfl | (unfold Aa;rw [Alq];rfl)),trivial⟩
          refine K.eq (l':=Yz :: bk b0 #[Ay,Az,A2,Aa AI Ai AJ,Aa My LB.2 MU,sv Bh,Aa AG Al AH,AA,pt AO,pt AP,Aa AR An AT,Aa C6 Wp C8] 66 :: Qz :: BS :: bk AO #[iv BT] 3 :: bk AP #[Aa CU BL CW,Cf] 25 :: Da :: X) rfl (by first | rfl | (unfold Aa;rw [Alq];first | done | rfl)) (knl (Bo (Cw ?_)))
          obtain rfl:=Ap h
          exact kdv (.tuple #[]) [bk b0 #[Ay,Az,A2,Aa AI Ai AJ,Aa My LB.2 MU,sv Bh,Aa AG Al AH,AA,pt AO,pt AP,Aa AR An AT,Aa C6 Wp C8] 66,Qz,BS,Yz,bk AO #[iv BT] 3,bk AP #[Aa CU BL CW,Cf] 25,Da] (K.mv6 (K.mv6 (K.mv6 (K.mv3 (K.mv6 (K.mv6 (K.mv6 (BH ⟨Qz,My,MU,BS,AR,AT,Yz,C6,C8,Da,CU,CW,Acu,Cg,Bnb,DX,rfl,rfl⟩))))))))
         ·refine ksr (kx 2 (Ad ?_))
          refine AF h (fun h=>?_) fun h=>?_
          ·refine ksr (kld 1 0 rfl (Di (K.Bq (K.Bq (bnd h fun Avq Bdp h=>(B6 (BC.ok Bdp Ck (Bf.nil (encI .i64) 1 none_)) rfl ⟨(.head _),trivial⟩ ?_))))))
           rintro _ _ ⟨Bwl,Bve,Bye,Bne,rfl,rfl⟩
           refine Bn (K.Ak (K.drop (AY (kld 3 0 rfl (kx 1 (kld 2 4 rfl (K.Ak (K.drop (K.Ao (K.Ao ?_))))))))))
           refine bnd h fun Avr Bdq h=>(B6 (F5.ok Bdq Cu Bne Cm (Ah.rd Cg) BJ hG) rfl ⟨(t6 CX),(t6 CM),(.tail _ (.head _)),(t6 BD),(t6 BU),trivial⟩ ?_)
           rintro _ _ ⟨Bwm,Bvg,Byh,Bnk,rfl,rfl⟩
           refine Bn (Fw (kld 2 0 rfl (K.Ak (K.drop (Di (K.Ak (K.Ak (bnd h fun Ad2 Bdu h=>(B6 (BC.ok Bdu Bnk (Bf.nil (encI .i64) 1 none_)) rfl ⟨(.head _),trivial⟩ ?_)))))))))
           rintro _ _ ⟨Amx,Ahz,Ap3,Bnm,rfl,rfl⟩
           refine Bn (K.Ak (K.drop (knl (Bo (Cw ?_)))))
           obtain rfl:=Ap h
           exact kdv (.tuple #[]) [bk b0 #[Ay,Az,A2,Aa AI Ai AJ,Aa Ahz Ad2.2 Ap3,sv Bh,Aa AG Al AH,AA,pt AO,pt AP,Aa AR An AT,Aa C6 BG C8] 66,Amx,BS,Dn,bk AO #[iv BT] 3,bk AP #[Aa CU BL CW,Cf] 25,Da] (BH ⟨Amx,Ahz,Ap3,BS,AR,AT,Dn,C6,C8,Da,CU,CW,Bnm,Cg,Ee,DX,rfl,rfl⟩)
          ·refine ksr (kx 2 (Ad ?_))
           refine AF h (fun h=>?_) fun h=>?_
           ·refine Bz (kpr [(0,3),(1,3),(2,0),(3,0),(4,3),(5,0),(6,3),(7,1)] [1,2,6] (AU 0 0 rfl (AU 0 0 rfl (Ax 2 (AU 1 8 rfl (Ax 1 (AU 2 0 rfl (kpt (Hq #[iv BT] 3 1 fun A0y=>(Dp [2,3,7] rfl ?_))))))))))
            refine BY (K.Bq (K.Bq (bnd h fun Avu Bdx h=>(B6 (BC.ok Bdx Ck (Ah.rd (Ah.blk 3 (D7 .i64) A0y [BT] #[iv BT] 1 (by kernel_rfl) rfl (by decide)))) rfl ⟨(.head _),trivial⟩ ?_))))
            rintro _ _ ⟨Bwp,Bvh,Byi,Bns,rfl,rfl⟩
            refine Bn (K.Ak (K.drop (Ad (Bz (kpr [(0,3),(1,3),(2,0),(3,3),(4,1),(5,1)] [2,3] (AU 1 0 rfl (AU 1 0 rfl (Ax 1 (AU 0 1 rfl (kpt ?_))))))))))
            refine bnd h fun Ue Bdz h=>(Mj (Lp.ok Bdz Cm) rfl ⟨(t8 CM),trivial⟩ (Dp [2,3] rfl (kpt (Hq #[iv Ue] 3 1 fun A01=>(Dp [3,4] rfl (BY (K.Ak (K.Ak (bnd h fun Ad4 Bd2 h=>(B6 (BC.ok Bd2 Bns (Ah.rd (Ah.blk 3 (D7 .i64) A01 [Ue] #[iv Ue] 1 (by kernel_rfl) rfl (by decide)))) rfl ⟨(.head _),trivial⟩ ?_))))))))))
            rintro _ _ ⟨Am0,Ah1,Ap7,Bnt,rfl,rfl⟩
            refine Bn (K.Ak (K.drop (Fw (kld 3 0 rfl (K.mv3 (K.drop (CE 2 0 5 rfl (K.Ak (K.drop (K.mv6 ?_))))))))))
            refine K.mv6 (K.mv6 (K.mv3 (bnd h fun Uf Bd4 h=>(B6 (hR.Iu Bd4 Cm DX BJ hG) rfl ⟨(t3 CM),(t3 BD),(t3 BU),trivial⟩ ?_))))
            rintro _ _ ⟨Am2,Ah2,Ap8,Bnv,rfl,rfl⟩
            refine Aa9 (knl (Bo (Cw ?_)))
            obtain rfl:=Ap h
            exact kdv (.tuple #[]) [bk b0 #[Ay,Az,A2,Aa AI Ai AJ,Aa Ah1 Ad4.2 Ap7,sv Bh,Aa AG Al AH,AA,pt AO,pt AP,Aa AR An AT,Aa C6 BG C8] 66,Am0,BS,Dn,bk AO #[iv Uf.1] 3,bk AP #[Aa Ah2 Uf.2 Ap8,Cf] 25,Am2] (K.mv3 (K.mv3 (K.mv3 (K.mv6 (K.mv6 (K.mv6 (K.mv6 (BH ⟨Am0,Ah1,Ap7,BS,AR,AT,Dn,C6,C8,Am2,Ah2,Ap8,Bnt,Cg,Ee,Bnv,rfl,rfl⟩))))))))
           ·refine Bt (Bo (Cw ?_))
            obtain rfl:=Ap h
            exact kdv (.tuple #[]) [bk b0 #[Ay,Az,A2,Aa AI Ai AJ,Aa B1 Au B2,sv Bh,Aa AG Al AH,AA,pt AO,pt AP,Aa AR An AT,Aa C6 BG C8] 66,BF,BS,Dn,bk AO #[iv BT] 3,bk AP #[Aa CU BL CW,Cf] 25,Da] (K.drop (K.drop (BH ⟨BF,B1,B2,BS,AR,AT,Dn,C6,C8,Da,CU,CW,Ck,Cg,Ee,DX,rfl,rfl⟩)))
def DN.l1:Nat→(Rc:GS)→(Ai:Bl)→(Bh:ByteArray)→(Al:Ag)→(Kc:(List Tree)→(List Int)→TyA→Ag→TyL→Int→TyU→Option (TyA×Ag×TyL×Int×TyU))→(Lw:List Tree)→(Pl:List Int)→(Tz:TyA)→(QM:Ag)→(T2:TyL)→(UM:Int)→(T3:TyU)→Option (TyA×Ag×TyL×Int×TyU)
 | 0,_,_,_,_,_,_,_,_,_,_,_,_=>none
 | M_+1,Rc,Ai,Bh,Al,Kc,Lw,Pl,Tz,QM,T2,UM,T3=>cond (decide (((Lw.length:Nat):Int) > 1)) ((AZ Lw 0).bind fun RR=>(Dl.f M_ Ai Tz Al QM RR.kind RR.text RR.n RR.at_ RR.kids).bind fun Avl=>(BC.f M_ Avl 19 ([])).bind fun Nk=>(AZ Lw 1).bind fun x158=>(Rc.D2 Ai Nk.2 Bh Al QM T2 UM T3 x158.kind x158.text x158.n x158.at_ x158.kids).bind fun FC=>(D8 Lw 2 ((Lw.length:Nat):Int)).bind fun QN=>BA (fun (Wo:List Int) (Pm:TyA)=>(EK.f M_ Pm).bind fun L8=>(AZ Pm Nk.1).bind fun x200=>(Du Pm Nk.1 (x200.1,L8,x200.2.2.1,x200.2.2.2)).bind fun MX=>DN.l1 M_ Rc Ai Bh Al Kc QN Wo MX FC.2.1 FC.2.2.1 FC.2.2.2.1 FC.2.2.2.2) (fun Vc=>cond (decide (((QN.length:Nat):Int) > 0)) ((BC.f M_ FC.1 18 ([])).bind fun PA=>(apd 8 Pl [PA.1]).bind fun Aai=>Vc Aai PA.2) (Vc Pl FC.1))) (Kc Lw Pl Tz QM T2 UM T3)
def DN.l0:Nat→(l6:List Int)→(F_:Ag)→(E9:TyL)→(x48:Int)→(l49:TyU)→(x55:Int)→(l56:TyA)→Option (TyA×Ag×TyL×Int×TyU)
 | 0,_,_,_,_,_,_,_=>none
 | QY+1,l6,F_,E9,x48,l49,x55,l56=>cond (decide (x55 < ((l6.length:Nat):Int))) ((AZ l6 x55).bind fun x63=>(EK.f QY l56).bind fun EQ=>(AZ l56 x63).bind fun x68=>(Du l56 x63 (x68.1,EQ,x68.2.2.1,x68.2.2.2)).bind fun MZ=>DN.l0 QY l6 F_ E9 x48 l49 (IntKind.i64.wrap (x55+1)) MZ) (some (l56,F_,E9,x48,l49))
def DN.g (Rc:GS) (k:Nat) (Ai:Bl) (Au:TyA) (Bh:ByteArray) (Al:Ag) (An:Ag) (BG:TyL) (BT:Int) (BL:TyU) (a1:List Tree):Option (TyA×Ag×TyL×Int×TyU):=BA (fun (l1:List Tree) (l6:List Int) (Ly:TyA) (IP:Ag) (l21:TyL) (x26:Int) (l27:TyU)=>BA (fun (JB:TyA) (F_:Ag) (E9:TyL) (x48:Int) (l49:TyU)=>DN.l0 k l6 F_ E9 x48 l49 0 JB) (fun J54=>cond (decide (((l1.length:Nat):Int) > 0)) ((AZ l1 0).bind fun x80=>(Rc.D2 Ai Ly Bh Al IP l21 x26 l27 x80.kind x80.text x80.n x80.at_ x80.kids).bind fun Fp=>J54 Fp.1 Fp.2.1 Fp.2.2.1 Fp.2.2.2.1 Fp.2.2.2.2) (J54 Ly IP l21 x26 l27))) (fun Kc=>DN.l1 k Rc Ai Bh Al Kc a1 ([]) Au An BG BT BL)
theorem DN.C0 {Rc:GS} (hR:Rc.Good) {k:Nat}:DN.C (DN.g Rc k):=by
 intro Ai Au Bh Al An BG BT BL a1 b0 AJ B2 AH AT C8 AO AP CW C5 Ay Az A2 AA Cf CF BF C4 BS Dn Da DW G AI B1 AG AR C6 CU C3 r h Cu Ck Cm Cg Ee DX EW hG
 refine Cz (args:=[pt b0,Aa C3 a1 C5]) Tryz.func75 rfl (B0 rfl) ?_
 intro A X hh_
 obtain ⟨CX,CM,DS,BU,_⟩:=hh_
 unfold DN.g at h
 refine K.eq (env':=[(0,pt b0),(1,Aa C3 a1 C5)]) (l':=bk b0 #[Ay,Az,A2,Aa AI Ai AJ,Aa B1 Au B2,sv Bh,Aa AG Al AH,AA,pt AO,pt AP,Aa AR An AT,Aa C6 BG C8] 66 :: BF :: BS :: Dn :: bk AO #[iv BT] 3 :: bk AP #[Aa CU BL CW,Cf] 25 :: Da :: X) rfl rfl (ksr (kx 1 (Ad ?_)))
 obtain ⟨Kc,Y6,h⟩:=CG h
 refine CH (τ:=(List Tree)×(List Int)×TyA×Ag×TyL×Int×TyU×Ar×Nat×Ab×Ar×Nat×Ab×Ar×Nat×Ab×Ar×Nat×Ab×Ar×Nat×Ab×Ar×Nat) (fun t=>[(0,pt b0),(1,Aa t.2.2.2.2.2.2.2.1 t.1 t.2.2.2.2.2.2.2.2.1),(4,Aa t.2.2.2.2.2.2.2.2.2.2.1 t.2.1 t.2.2.2.2.2.2.2.2.2.2.2.1)]) (fun t=>bk b0 #[Ay,Az,A2,Aa AI Ai AJ,Aa t.2.2.2.2.2.2.2.2.2.2.2.2.2.1 t.2.2.1 t.2.2.2.2.2.2.2.2.2.2.2.2.2.2.1,sv Bh,Aa AG Al AH,AA,pt AO,pt AP,Aa t.2.2.2.2.2.2.2.2.2.2.2.2.2.2.2.2.1 t.2.2.2.1 t.2.2.2.2.2.2.2.2.2.2.2.2.2.2.2.2.2.1,Aa t.2.2.2.2.2.2.2.2.2.2.2.2.2.2.2.2.2.2.2.1 t.2.2.2.2.1 t.2.2.2.2.2.2.2.2.2.2.2.2.2.2.2.2.2.2.2.2.1] 66 :: bk AO #[iv t.2.2.2.2.2.1] 3 :: bk AP #[Aa t.2.2.2.2.2.2.2.2.2.2.2.2.2.2.2.2.2.2.2.2.2.2.1 t.2.2.2.2.2.2.1 t.2.2.2.2.2.2.2.2.2.2.2.2.2.2.2.2.2.2.2.2.2.2.2,Cf] 25 :: t.2.2.2.2.2.2.2.2.2.1 :: t.2.2.2.2.2.2.2.2.2.2.2.2.1 :: t.2.2.2.2.2.2.2.2.2.2.2.2.2.2.2.1 :: t.2.2.2.2.2.2.2.2.2.2.2.2.2.2.2.2.2.2.1 :: t.2.2.2.2.2.2.2.2.2.2.2.2.2.2.2.2.2.2.2.2.2.1 :: X) (fun t=>Kc t.1 t.2.1 t.2.2.1 t.2.2.2.1 t.2.2.2.2.1 t.2.2.2.2.2.1 t.2.2.2.2.2.2.1=some r∧RdR (Bb 54) DW (Aa t.2.2.2.2.2.2.2.1 t.1 t.2.2.2.2.2.2.2.2.1) t.1∧Ah (encI .i64) 3 1 t.2.2.2.2.2.2.2.2.2.1 (Aa t.2.2.2.2.2.2.2.2.2.2.1 t.2.1 t.2.2.2.2.2.2.2.2.2.2.2.1) t.2.1∧Ah e48 48 4 t.2.2.2.2.2.2.2.2.2.2.2.2.1 (Aa t.2.2.2.2.2.2.2.2.2.2.2.2.2.1 t.2.2.1 t.2.2.2.2.2.2.2.2.2.2.2.2.2.2.1) t.2.2.1∧Ah encS 9 1 t.2.2.2.2.2.2.2.2.2.2.2.2.2.2.2.1 (Aa t.2.2.2.2.2.2.2.2.2.2.2.2.2.2.2.2.1 t.2.2.2.1 t.2.2.2.2.2.2.2.2.2.2.2.2.2.2.2.2.2.1) t.2.2.2.1∧AL Et 81 t.2.2.2.2.2.2.2.2.2.2.2.2.2.2.2.2.2.2.1 (Aa t.2.2.2.2.2.2.2.2.2.2.2.2.2.2.2.2.2.2.2.1 t.2.2.2.2.1 t.2.2.2.2.2.2.2.2.2.2.2.2.2.2.2.2.2.2.2.2.1) t.2.2.2.2.1∧AL (D3 D4) 41 t.2.2.2.2.2.2.2.2.2.2.2.2.2.2.2.2.2.2.2.2.2.1 (Aa t.2.2.2.2.2.2.2.2.2.2.2.2.2.2.2.2.2.2.2.2.2.2.1 t.2.2.2.2.2.2.1 t.2.2.2.2.2.2.2.2.2.2.2.2.2.2.2.2.2.2.2.2.2.2.2) t.2.2.2.2.2.2.1) ?_ ?_
 ·rintro ⟨l1,l6,Ly,IP,l21,x26,l27,A3,k4,h7,A8,k9,h12,K0,k14,h17,Fh,k19,h22,A23,k24,h28,A29,k30⟩ ⟨h,o5,o10,o15,o20,F9,GK⟩
  subst Y6
  obtain ⟨J54,Y8,h⟩:=CG h
  refine CH (τ:=TyA×Ag×TyL×Int×TyU×Ab×Ar×Nat×Ab×Ar×Nat×Ab×Ar×Nat×Ab×Ar×Nat) (fun t=>[(0,pt b0),(4,Aa A8 l6 k9)]) (fun t=>bk b0 #[Ay,Az,A2,Aa AI Ai AJ,Aa t.2.2.2.2.2.2.1 t.1 t.2.2.2.2.2.2.2.1,sv Bh,Aa AG Al AH,AA,pt AO,pt AP,Aa t.2.2.2.2.2.2.2.2.2.1 t.2.1 t.2.2.2.2.2.2.2.2.2.2.1,Aa t.2.2.2.2.2.2.2.2.2.2.2.2.1 t.2.2.1 t.2.2.2.2.2.2.2.2.2.2.2.2.2.1] 66 :: bk AO #[iv t.2.2.2.1] 3 :: bk AP #[Aa t.2.2.2.2.2.2.2.2.2.2.2.2.2.2.2.1 t.2.2.2.2.1 t.2.2.2.2.2.2.2.2.2.2.2.2.2.2.2.2,Cf] 25 :: h7 :: t.2.2.2.2.2.1 :: t.2.2.2.2.2.2.2.2.1 :: t.2.2.2.2.2.2.2.2.2.2.2.1 :: t.2.2.2.2.2.2.2.2.2.2.2.2.2.2.1 :: X) (fun t=>J54 t.1 t.2.1 t.2.2.1 t.2.2.2.1 t.2.2.2.2.1=some r∧Ah e48 48 4 t.2.2.2.2.2.1 (Aa t.2.2.2.2.2.2.1 t.1 t.2.2.2.2.2.2.2.1) t.1∧Ah encS 9 1 t.2.2.2.2.2.2.2.2.1 (Aa t.2.2.2.2.2.2.2.2.2.1 t.2.1 t.2.2.2.2.2.2.2.2.2.2.1) t.2.1∧AL Et 81 t.2.2.2.2.2.2.2.2.2.2.2.1 (Aa t.2.2.2.2.2.2.2.2.2.2.2.2.1 t.2.2.1 t.2.2.2.2.2.2.2.2.2.2.2.2.2.1) t.2.2.1∧AL (D3 D4) 41 t.2.2.2.2.2.2.2.2.2.2.2.2.2.2.1 (Aa t.2.2.2.2.2.2.2.2.2.2.2.2.2.2.2.1 t.2.2.2.2.1 t.2.2.2.2.2.2.2.2.2.2.2.2.2.2.2.2) t.2.2.2.2.1) ?_ ?_
  ·rintro ⟨JB,F_,E9,x48,l49,h34,A35,QD,h39,LK,k41,h44,M0,MV,h50,Jn,k52⟩ ⟨h,Pv,Rf,NT,L6⟩
   subst Y8
   refine ksr (kx 3 (Ad (Co (K.Bq (K.mv7 (K.mv7 (K.mv7 (K.mv7 (K.mv7 (K.mv7 ?_))))))))))
   refine K.mv7 (EL (τ:=Int×TyA×Ab×Ar×Nat) (fun t=>[(0,pt b0),(51,Aa A8 l6 k9),(52,iv ((l6.length:Nat):Int)),(53,iv t.1)]) (fun t=>bk b0 #[Ay,Az,A2,Aa AI Ai AJ,Aa t.2.2.2.1 t.2.1 t.2.2.2.2,sv Bh,Aa AG Al AH,AA,pt AO,pt AP,Aa LK F_ k41,Aa M0 E9 MV] 66 :: bk AO #[iv x48] 3 :: bk AP #[Aa Jn l49 k52,Cf] 25 :: h7 :: h39 :: h44 :: h50 :: t.2.2.1 :: X) (fun m t=>DN.l0 m l6 F_ E9 x48 l49 t.1 t.2.1=some r∧Ah e48 48 4 t.2.2.1 (Aa t.2.2.2.1 t.2.1 t.2.2.2.2) t.2.1) k (0,JB,h34,A35,QD) ⟨h,Pv⟩ sb rfl ?_)
   clear h
   rintro QY ⟨x55,l56,h57,GO,k59⟩ ⟨h,o60⟩
   cases QY with
   | zero=>simp [DN.l0] at h
   | succ QY =>
    simp only [DN.l0] at h
    refine ksr (kx 1 (Ad (Bz ?_)))
    refine AF h (fun h=>?_) fun h=>?_
    ·refine Bt (AB (Bz (Co (ksr (bnd h fun x63 KD h=>(F8 (T:=3) (kd:=.i64) (D7 .i64) rfl KD (Ah.rd o10) fun p64 e65 y66=>?_))))))
     have e65:Elem _ p64 [iv x63]:=e65
     refine Hk rfl (by kernel_rfl) (by kernel_rfl) (by kernel_rfl) (by kernel_rfl) e65 (.tail _ (.tail _ (.tail _ (.head _)))) (kx 1 (Ad (kpr [(0,0),(1,0),(2,0),(3,0),(4,3),(5,0),(6,0),(7,1)] [0] (Ax 4 (AU 0 4 rfl (Ax 2 (kpt (bnd h fun EQ MO h=>(Mj (EK.ok MO (Ah.rd o60)) rfl ⟨(.tail _ (.tail _ (.tail _ (.tail _ (.tail _ (.tail _ (.head _))))))),trivial⟩ (Dp [0] rfl ?_))))))))))
     refine BY (bnd h fun x68 Aod h=>(F8 (T:=48) (kd:=.i64) Fi rfl Aod (Ah.rd o60) fun p69 e70 y71=>?_))
     have e70:Elem _ p69 [iv x68.1,iv x68.2.1,iv x68.2.2.1,iv x68.2.2.2]:=e70
     refine GV (off:=1) rfl e70 y71 fun p72 e73 y74=>?_
     have e73:Elem _ p72 [iv x68.2.1,iv x68.2.2.1,iv x68.2.2.2]:=e73
     refine K.mv7 (bnd h fun MZ VI h=>(JA (v:=iv EQ) (off:=1) (x':=(x68.1,EQ,x68.2.2.1,x68.2.2.2)) Fi rfl (by kernel_rfl) (by kernel_rfl) (by kernel_rfl) (by kernel_rfl) (by kernel_rfl) y74 o60 Aod (by kernel_rfl) (by kernel_rfl) VI fun h76 NU=>?_))
     have g78:=GH VI
     refine K.weak (env':=[(0,pt b0),(51,Aa A8 l6 k9),(52,iv ((l6.length:Nat):Int)),(53,iv x55),(64,iv EQ)]) ?_ ⟨gr,(by first | rfl | (unfold Aa;rw [g78];rfl)),gr,gr,gr,trivial⟩
     refine K.eq (l':=h76 :: bk b0 #[Ay,Az,A2,Aa AI Ai AJ,Aa GO MZ k59,sv Bh,Aa AG Al AH,AA,pt AO,pt AP,Aa LK F_ k41,Aa M0 E9 MV] 66 :: bk AO #[iv x48] 3 :: bk AP #[Aa Jn l49 k52,Cf] 25 :: h7 :: h39 :: h44 :: h50 :: X) rfl (by first | rfl | (unfold Aa;rw [g78];first | done | rfl)) (knl (Bo (AB (Bc (kx 2 (Ad (K.mv7 (K.mv7 (K.mv7 (K.mv7 ?_))))))))))
     exact K.mv7 (K.mv7 (K.mv7 (Ea QY (IntKind.i64.wrap (x55+1),MZ,h76,GO,k59) (Nat.lt_succ_self _) ⟨h,NU⟩ sb rfl)))
    ·refine E6 (CY (CY (E7 (Cw ?_))))
     obtain rfl:=Ap h
     exact kdv (.tuple #[]) [bk b0 #[Ay,Az,A2,Aa AI Ai AJ,Aa GO l56 k59,sv Bh,Aa AG Al AH,AA,pt AO,pt AP,Aa LK F_ k41,Aa M0 E9 MV] 66,h57,h39,h44,bk AO #[iv x48] 3,bk AP #[Aa Jn l49 k52,Cf] 25,h50] (K.mv3 (K.drop (K.mv5 (K.mv3 (K.mv3 (K.mv5 (K.mv5 (K.mv6 (K.mv6 (BH ⟨h57,GO,k59,h39,LK,k41,h44,M0,MV,h50,Jn,k52,o60,Rf,NT,L6,rfl,rfl⟩))))))))))
  ·skip
   refine ksr (kx 3 (Ad ?_))
   refine AF h (fun h=>?_) fun h=>?_
   ·refine Bc (kx 2 (bnd h fun x80 Bgm h=>(DL (T:=54) (kd:=.i64) (R:=(Bb 54)) rfl Bgm o5 fun p81 u84 T_ e82 y83=>?_)))
    obtain ⟨A86,QE,rfl,o88⟩:=DI 54 T_
    refine E8 rfl e82 (t8 DS) (K.mv7 (K.mv3 (K.mv3 (K.mv7 (K.mv7 (K.mv7 (K.mv6 (bnd h fun Fp Zy h=>(B6 (hR.D2 Zy Cu o15 Cm o20 F9 GK o88 hG) rfl ⟨(.tail _ CX),(.tail _ CM),(.tail _ DS),(.tail _ BU),trivial⟩ ?_)))))))))
    rintro _ _ ⟨h90,PY,QF,h94,A95,k96,h98,A99,Bg7,OB,Oj,Pd,Ro,NV,Bkt,Q_,rfl,rfl⟩
    exact Er (Ad (K.mv6 (K.Bq (K.Bq (K.Bq (K.mv7 (K.mv7 (K.mv7 (K.mv7 (AV (Fp.1,Fp.2.1,Fp.2.2.1,Fp.2.2.2.1,Fp.2.2.2.2,h90,PY,QF,h94,A95,k96,h98,A99,Bg7,OB,Oj,Pd) ⟨h,Ro,NV,Bkt,Q_⟩ sb rfl))))))))))
   ·exact Bt (AB (AV (Ly,IP,l21,x26,l27,h12,K0,k14,h17,Fh,k19,h22,A23,k24,h28,A29,k30) ⟨h,o15,o20,F9,GK⟩ sb rfl))
 ·skip
  refine Co (Di (K.mv7 (K.mv5 (K.mv5 (K.mv5 (K.Bq (K.mv7 (K.mv7 (K.mv7 (EL (τ:=(List Tree)×(List Int)×TyA×Ag×TyL×Int×TyU×Ar×Nat×Ab×Ar×Nat×Ab×Ar×Nat×Ab×Ar×Nat×Ab×Ar×Nat×Ab×Ar×Nat) (fun t=>[(0,pt b0),(1,Aa t.2.2.2.2.2.2.2.1 t.1 t.2.2.2.2.2.2.2.2.1),(4,Aa t.2.2.2.2.2.2.2.2.2.2.1 t.2.1 t.2.2.2.2.2.2.2.2.2.2.2.1)]) (fun t=>bk b0 #[Ay,Az,A2,Aa AI Ai AJ,Aa t.2.2.2.2.2.2.2.2.2.2.2.2.2.1 t.2.2.1 t.2.2.2.2.2.2.2.2.2.2.2.2.2.2.1,sv Bh,Aa AG Al AH,AA,pt AO,pt AP,Aa t.2.2.2.2.2.2.2.2.2.2.2.2.2.2.2.2.1 t.2.2.2.1 t.2.2.2.2.2.2.2.2.2.2.2.2.2.2.2.2.2.1,Aa t.2.2.2.2.2.2.2.2.2.2.2.2.2.2.2.2.2.2.2.1 t.2.2.2.2.1 t.2.2.2.2.2.2.2.2.2.2.2.2.2.2.2.2.2.2.2.2.1] 66 :: bk AO #[iv t.2.2.2.2.2.1] 3 :: bk AP #[Aa t.2.2.2.2.2.2.2.2.2.2.2.2.2.2.2.2.2.2.2.2.2.2.1 t.2.2.2.2.2.2.1 t.2.2.2.2.2.2.2.2.2.2.2.2.2.2.2.2.2.2.2.2.2.2.2,Cf] 25 :: t.2.2.2.2.2.2.2.2.2.1 :: t.2.2.2.2.2.2.2.2.2.2.2.2.1 :: t.2.2.2.2.2.2.2.2.2.2.2.2.2.2.2.1 :: t.2.2.2.2.2.2.2.2.2.2.2.2.2.2.2.2.2.2.1 :: t.2.2.2.2.2.2.2.2.2.2.2.2.2.2.2.2.2.2.2.2.2.1 :: X) (fun m t=>DN.l1 m Rc Ai Bh Al Kc t.1 t.2.1 t.2.2.1 t.2.2.2.1 t.2.2.2.2.1 t.2.2.2.2.2.1 t.2.2.2.2.2.2.1=some r∧RdR (Bb 54) DW (Aa t.2.2.2.2.2.2.2.1 t.1 t.2.2.2.2.2.2.2.2.1) t.1∧Ah (encI .i64) 3 1 t.2.2.2.2.2.2.2.2.2.1 (Aa t.2.2.2.2.2.2.2.2.2.2.1 t.2.1 t.2.2.2.2.2.2.2.2.2.2.2.1) t.2.1∧Ah e48 48 4 t.2.2.2.2.2.2.2.2.2.2.2.2.1 (Aa t.2.2.2.2.2.2.2.2.2.2.2.2.2.1 t.2.2.1 t.2.2.2.2.2.2.2.2.2.2.2.2.2.2.1) t.2.2.1∧Ah encS 9 1 t.2.2.2.2.2.2.2.2.2.2.2.2.2.2.2.1 (Aa t.2.2.2.2.2.2.2.2.2.2.2.2.2.2.2.2.1 t.2.2.2.1 t.2.2.2.2.2.2.2.2.2.2.2.2.2.2.2.2.2.1) t.2.2.2.1∧AL Et 81 t.2.2.2.2.2.2.2.2.2.2.2.2.2.2.2.2.2.2.1 (Aa t.2.2.2.2.2.2.2.2.2.2.2.2.2.2.2.2.2.2.2.1 t.2.2.2.2.1 t.2.2.2.2.2.2.2.2.2.2.2.2.2.2.2.2.2.2.2.2.1) t.2.2.2.2.1∧AL (D3 D4) 41 t.2.2.2.2.2.2.2.2.2.2.2.2.2.2.2.2.2.2.2.2.2.1 (Aa t.2.2.2.2.2.2.2.2.2.2.2.2.2.2.2.2.2.2.2.2.2.2.1 t.2.2.2.2.2.2.1 t.2.2.2.2.2.2.2.2.2.2.2.2.2.2.2.2.2.2.2.2.2.2.2) t.2.2.2.2.2.2.1) k (a1,[],Au,An,BG,BT,BL,C3,C5,none_,none,0,BF,B1,B2,BS,AR,AT,Dn,C6,C8,Da,CU,CW) ⟨h,EW,(Ah.nil (encI .i64) 3 1 none_),Ck,Cg,Ee,DX⟩ sb rfl ?_))))))))))
  clear h
  rintro M_ ⟨Lw,Pl,Tz,QM,T2,UM,T3,Xq,ZG,h112,Agt,Ao5,A7x,Aza,Bhc,h122,Azc,Bhe,h127,Aze,Bhh,S8,RX,Th⟩ ⟨h,Ra,Abf,Aty,Abm,Atz,Pu⟩
  cases M_ with
  | zero=>simp [DN.l1] at h
  | succ M_ =>
   simp only [DN.l1] at h
   refine Bz (ksr (kx 3 (Ad ?_)))
   refine AF h (fun h=>?_) fun h=>?_
   ·refine Bt (AB (Co (ksr (kx 2 (bnd h fun RR Bfl h=>(DL (T:=54) (kd:=.i64) (R:=(Bb 54)) rfl Bfl Ra fun By2 Bzq Bpk A4k Bz5=>?_))))))
    obtain ⟨Bum,Bxo,rfl,Blk⟩:=DI 54 Bpk
    refine E8 rfl A4k (t8 DS) (K.Bq (K.Ao (bnd h fun Avl Bcn h=>(B6 (Dl.ok Bcn Cu Aty Cm (Ah.rd Abm) Blk hG) rfl ⟨(t6 CX),(t6 CM),(.tail _ (.tail _ (.tail _ (.head _)))),(t6 DS),(t6 BU),trivial⟩ ?_))))
    rintro _ _ ⟨A8f,Ag6,Apd,TJ,rfl,rfl⟩
    refine Bn (AY (kx 1 (Di (K.Ak (K.Ak (bnd h fun Nk Za h=>(B6 (BC.ok Za TJ (Bf.nil (encI .i64) 1 none_)) rfl ⟨(.head _),trivial⟩ ?_)))))))
    rintro _ _ ⟨Al7,Ag7,Aph,Abu,rfl,rfl⟩
    refine Bn (K.Ak (K.drop (kx 1 (AY (kx 2 (bnd h fun x158 hx158 h=>(DL (T:=54) (kd:=.i64) (R:=(Bb 54)) rfl hx158 Ra fun p159 u162 P6 e160 Ay3=>?_)))))))
    obtain ⟨Ahb,Api,rfl,Aby⟩:=DI 54 P6
    refine E8 rfl e160 (t8 DS) (K.mv7 (K.Bq (K.Bq (K.mv7 (K.mv7 (K.mv6 (K.mv6 (bnd h fun FC Zb h=>(B6 (hR.D2 Zb Cu Abu Cm Abm Atz Pu Aby hG) rfl ⟨(.tail _ CX),(.tail _ CM),(.tail _ DS),(.tail _ BU),trivial⟩ ?_)))))))))
    rintro _ _ ⟨Al8,RY,Ti,Yt,Xv,ZL,Qw,PQ,QA,Qx,PT,QB,Re,Bls,Abz,Ab1,rfl,rfl⟩
    refine Er (AY (kx 1 (bnd h fun QN Ba0 h=>(Pj (T:=54) (R:=(Bb 54)) (xs:=Lw) 2 ((Lw.length:Nat):Int) rfl (by kernel_rfl) (by kernel_rfl) (by kernel_rfl) (.inr ⟨_,.i64,rfl,(by kernel_rfl)⟩) (.inl ⟨rfl,rfl⟩) (by kernel_rfl) (by kernel_rfl) Ba0 Ra fun PU QC Ab5=>(kx 1 (Ad ?_))))))
    obtain ⟨Vc,A85,h⟩:=CG h
    refine CH (τ:=(List Int)×TyA×Ab×Ar×Nat×Ab×Ar×Nat) (fun t=>[(0,pt b0),(1,Aa PU QN QC),(4,Aa t.2.2.2.1 t.1 t.2.2.2.2.1),(5,iv Nk.1)]) (fun t=>bk b0 #[Ay,Az,A2,Aa AI Ai AJ,Aa t.2.2.2.2.2.2.1 t.2.1 t.2.2.2.2.2.2.2,sv Bh,Aa AG Al AH,AA,pt AO,pt AP,Aa Xv FC.2.1 ZL,Aa PQ FC.2.2.1 QA] 66 :: Yt :: Qw :: bk AO #[iv FC.2.2.2.1] 3 :: bk AP #[Aa PT FC.2.2.2.2 QB,Cf] 25 :: Qx :: t.2.2.1 :: t.2.2.2.2.2.1 :: X) (fun t=>Vc t.1 t.2.1=some r∧Ah (encI .i64) 3 1 t.2.2.1 (Aa t.2.2.2.1 t.1 t.2.2.2.2.1) t.1∧Ah e48 48 4 t.2.2.2.2.2.1 (Aa t.2.2.2.2.2.2.1 t.2.1 t.2.2.2.2.2.2.2) t.2.1) ?_ ?_
    ·rintro ⟨Wo,Pm,Amc,Ahe,Apl,Bv8,Ahg,Apm⟩ ⟨h,Bl2,Ab6⟩
     subst A85
     refine kpr [(0,0),(1,0),(2,0),(3,0),(4,3),(5,0),(6,0),(7,1)] [0] (Ax 4 (AU 0 4 rfl (Ax 2 (kpt (bnd h fun L8 Zc h=>(Mj (EK.ok Zc (Ah.rd Ab6)) rfl ⟨(.tail _ (.tail _ (.tail _ (.tail _ (.tail _ (.tail _ (.head _))))))),trivial⟩ (Dp [0] rfl (BY (bnd h fun x200 Tb h=>(F8 (T:=48) (kd:=.i64) Fi rfl Tb (Ah.rd Ab6) fun Ac3 O4 Agn=>?_))))))))))
     have O4:Elem _ Ac3 [iv x200.1,iv x200.2.1,iv x200.2.2.1,iv x200.2.2.2]:=O4
     refine GV (off:=1) rfl O4 Agn fun Ac5 Sx Agp=>?_
     have Sx:Elem _ Ac5 [iv x200.2.1,iv x200.2.2.1,iv x200.2.2.2]:=Sx
     refine K.mv7 (bnd h fun MX SF h=>(JA (v:=iv L8) (off:=1) (x':=(x200.1,L8,x200.2.2.1,x200.2.2.2)) Fi rfl (by kernel_rfl) (by kernel_rfl) (by kernel_rfl) (by kernel_rfl) (by kernel_rfl) Agp Ab6 Tb (by kernel_rfl) (by kernel_rfl) SF fun Qy Acf=>?_))
     have S7:=GH SF
     refine K.weak (env':=[(0,pt b0),(1,Aa PU QN QC),(4,Aa Ahe Wo Apl),(40,iv L8)]) ?_ ⟨gr,(by first | rfl | (unfold Aa;rw [S7];rfl)),(by first | rfl | (unfold Aa;rw [S7];rfl)),gr,trivial⟩
     refine K.eq (l':=Qy :: bk b0 #[Ay,Az,A2,Aa AI Ai AJ,Aa Ahg MX Apm,sv Bh,Aa AG Al AH,AA,pt AO,pt AP,Aa Xv FC.2.1 ZL,Aa PQ FC.2.2.1 QA] 66 :: Yt :: Qw :: bk AO #[iv FC.2.2.2.1] 3 :: bk AP #[Aa PT FC.2.2.2.2 QB,Cf] 25 :: Qx :: Amc :: X) rfl (by first | rfl | (unfold Aa;rw [S7];first | done | rfl)) (knl (Bo (AB (K.mv6 (K.Bq (K.Bq (K.mv3 (K.mv7 (K.mv7 (K.mv7 ?_))))))))))
     exact K.mv7 (Ea M_ (QN,Wo,MX,FC.2.1,FC.2.2.1,FC.2.2.2.1,FC.2.2.2.2,PU,QC,Amc,Ahe,Apl,Qy,Ahg,Apm,Yt,Xv,ZL,Qw,PQ,QA,Qx,PT,QB) (Nat.lt_succ_self _) ⟨h,Ab5,Bl2,Acf,Bls,Abz,Ab1⟩ sb rfl)
    ·skip
     refine ksr (kx 3 (Ad ?_))
     refine AF h (fun h=>?_) fun h=>?_
     ·refine Bc (kx 2 (Di (K.Ak (K.Ak (bnd h fun PA Bc2 h=>(B6 (BC.ok Bc2 Re (Bf.nil (encI .i64) 1 none_)) rfl ⟨(.head _),trivial⟩ ?_))))))
      rintro _ _ ⟨A8j,Azo,Bht,Bmh,rfl,rfl⟩
      refine Bn (K.Ak (K.drop (De #[iv PA.1] 3 1 fun Bvn=>(K.CN (bnd h fun Aai Ba5 h=>(QJ (ys:=[PA.1]) (D7 .i64) rfl Vy Ba5 Abf (NY (n:=1) (D7 .i64) [PA.1] (by kernel_rfl) rfl (by decide) 1 rfl) fun A8l Azq Bhv Bmk=>(K.Ao (K.drop (kx 1 (Ad ?_))))))))))
      exact K.Ak (K.Ao (K.mv7 (K.mv7 (K.mv7 (K.mv7 (K.mv7 (K.mv7 (AV (Aai,PA.2,A8l,Azq,Bhv,A8j,Azo,Bht) ⟨h,Bmk,Bmh⟩ sb rfl))))))))
     ·exact Bt (AB (K.Ao (K.mv7 (K.mv7 (K.mv7 (K.mv7 (K.mv7 (K.mv7 (K.mv7 (AV (Pl,FC.1,h112,Agt,Ao5,Al8,RY,Ti) ⟨h,Abf,Re⟩ sb rfl))))))))))
   ·exact E6 (CY (CY (E7 (AB (AV (Lw,Pl,Tz,QM,T2,UM,T3,Xq,ZG,h112,Agt,Ao5,A7x,Aza,Bhc,h122,Azc,Bhe,h127,Aze,Bhh,S8,RX,Th) ⟨h,Ra,Abf,Aty,Abm,Atz,Pu⟩ sb rfl)))))
def FL.l0:Nat→(x41:List Int)→(FF:TyA→Option (TyA×Ag×TyL×Int×TyU))→(x50:Int)→(l51:TyA)→Option (TyA×Ag×TyL×Int×TyU)
 | 0,_,_,_,_=>none
 | GZ+1,x41,FF,x50,l51=>cond (decide (x50 < ((x41.length:Nat):Int))) ((AZ x41 x50).bind fun x58=>(EK.f GZ l51).bind fun r62=>(AZ l51 x58).bind fun x63=>(Du l51 x58 (x63.1,r62,x63.2.2.1,x63.2.2.2)).bind fun l70=>FL.l0 GZ x41 FF (IntKind.i64.wrap (x50+1)) l70) (FF l51)
def FL.g (Rc:GS) (k:Nat) (Ai:Bl) (Au:TyA) (Bh:ByteArray) (Al:Ag) (An:Ag) (BG:TyL) (BT:Int) (BL:TyU) (Af:Int) (As:ByteArray) (Aq:Int) (AC:Int) (Am:List Tree) (El:Int):Option (TyA×Ag×TyL×Int×TyU):=(apd 24 BG [([])]).bind fun l5=>(Rc.D2 Ai Au Bh Al An l5 BT BL Af As Aq AC Am).bind fun r10=>(Qf.f k r10.1 El).bind fun r27=>BA (fun (l32:TyA)=>(D8 r10.2.2.1 0 (IntKind.i64.wrap (((r10.2.2.1.length:Nat):Int) - 1))).bind fun F_=>some (l32,r10.2.1,F_,r10.2.2.2.1,r10.2.2.2.2)) (fun FF=>(AZ r10.2.2.1 (IntKind.i64.wrap (((r10.2.2.1.length:Nat):Int) - 1))).bind fun x41=>FL.l0 k x41 FF 0 r27)
theorem FL.C0 {Rc:GS} (hR:Rc.Good) {k:Nat}:FL.C (FL.g Rc k):=by
 intro Ai Au Bh As Al An BG BT Af Aq AC El BL Am b0 AJ B2 AH AT C8 AO AP CW Bj Em En Ay Az A2 AA Cf CF BF C4 BS Dn Da Cs G AI B1 AG AR C6 CU Bi r h Cu Ck Cm Cg Ee DX BJ hG
 refine Cz (args:=[pt b0,.agg #[iv Af,sv As,iv Aq,iv AC,Aa Bi Am Bj],.func (.func 79) #[] #[pt Em,pt En]]) Tryz.func78 rfl (B0 rfl) ?_
 intro A X hh_
 obtain ⟨CX,CM,BD,BU,_⟩:=hh_
 unfold FL.g at h
 refine K.eq (env':=[(0,pt b0),(1,.agg #[iv Af,sv As,iv Aq,iv AC,Aa Bi Am Bj]),(2,.func (.func 79) #[] #[pt Em,pt En])]) (l':=bk b0 #[Ay,Az,A2,Aa AI Ai AJ,Aa B1 Au B2,sv Bh,Aa AG Al AH,AA,pt AO,pt AP,Aa AR An AT,Aa C6 BG C8] 66 :: BF :: BS :: Dn :: bk AO #[iv BT] 3 :: bk AP #[Aa CU BL CW,Cf] 25 :: Da :: bk Em #[pt b0] 61 :: bk En #[iv El] 3 :: X) rfl rfl (ksr (knp #[iv Af,sv As,iv Aq,iv AC,Aa Bi Am Bj] 54 fun b1=>(AY (kx 4 (kld 1 11 rfl (De #[nS] 81 1 fun b2=>(Di (K.Ao (DO (T:=81) (n:=1) (xs:=[([])]) (Ci.one (Xb (x:=([])) (Ah.nil (encI .i64) 3 1 none_))) rfl rfl (B0 rfl) fun h3 o4=>(K.mv5 ?_))))))))))
 refine bnd h fun l5 hl5 h=>(F7 rfl Ye rfl hl5 Ee o4 fun h6 A7 k8 o9=>(kx 2 (K.Ak (AQ 11 1 #[Ay,Az,A2,Aa AI Ai AJ,Aa B1 Au B2,sv Bh,Aa AG Al AH,AA,pt AO,pt AP,Aa AR An AT,Aa A7 l5 k8] (AY (kx 1 (CE 2 0 5 rfl (K.Ak (K.drop (K.mv6 ?_))))))))))
 refine K.mv6 (K.mv6 (K.Bq (K.mv6 (K.mv6 (K.mv6 (bnd h fun r10 Lq h=>(B6 (hR.D2 Lq Cu Ck Cm Cg o9 DX BJ hG) rfl ⟨(t2 CX),(t2 CM),(t2 BD),(t2 BU),trivial⟩ ?_)))))))
 rintro _ _ ⟨h11,A12,k13,h15,F0,k17,h19,A20,k21,h23,Fs,k25,IT,L3,Gv,JE,rfl,rfl⟩
 refine Er (AY (kx 1 (K.CN (K.Ak (K.Ak (K.CN (bnd h fun r27 Km h=>(B6 (Qf.ok Km IT) rfl trivial ?_))))))))
 rintro _ _ ⟨h28,A29,k30,GK,rfl,rfl⟩
 refine Aa9 (AY (kx 3 (kld 1 11 rfl (kx 3 (Ad ?_)))))
 obtain ⟨FF,SD,h⟩:=CG h
 refine CH (τ:=TyA×Ab×Ar×Nat) (fun t=>[(0,pt b0),(6,iv (IntKind.i64.wrap (((r10.2.2.1.length:Nat):Int) - 1)))]) (fun t=>bk Em #[pt b0] 61 :: bk b0 #[Ay,Az,A2,Aa AI Ai AJ,Aa t.2.2.1 t.1 t.2.2.2,sv Bh,Aa AG Al AH,AA,pt AO,pt AP,Aa F0 r10.2.1 k17,Aa A20 r10.2.2.1 k21] 66 :: bk En #[iv El] 3 :: h15 :: h19 :: bk AO #[iv r10.2.2.2.1] 3 :: bk AP #[Aa Fs r10.2.2.2.2 k25,Cf] 25 :: h23 :: t.2.1 :: X) (fun t=>FF t.1=some r∧Ah e48 48 4 t.2.1 (Aa t.2.2.1 t.1 t.2.2.2) t.1) ?_ ?_
 ·rintro ⟨l32,h33,A34,G4⟩ ⟨h,IV⟩
  subst SD
  refine Bc (kx 4 (kld 1 11 rfl (kx 1 (K.Bq (bnd h fun F_ SI h=>(Aac (T:=81) (R:=Et) (k:=.i64) (xs:=r10.2.2.1) (IntKind.i64.wrap (((r10.2.2.1.length:Nat):Int) - 1)) rfl (by kernel_rfl) (by kernel_rfl) (by kernel_rfl) (by kernel_rfl) (by kernel_rfl) (by kernel_rfl) SI Gv fun h40 o39=>(kx 2 (K.Ak (AQ 11 1 #[Ay,Az,A2,Aa AI Ai AJ,Aa A34 l32 G4,sv Bh,Aa AG Al AH,AA,pt AO,pt AP,Aa F0 r10.2.1 k17,Aa A20 F_ k21] (knl ?_))))))))))
  refine Cw ?_
  obtain rfl:=Ap h
  exact kdv (.tuple #[]) [bk b0 #[Ay,Az,A2,Aa AI Ai AJ,Aa A34 l32 G4,sv Bh,Aa AG Al AH,AA,pt AO,pt AP,Aa F0 r10.2.1 k17,Aa A20 F_ k21] 66,h33,h15,h40,bk AO #[iv r10.2.2.2.1] 3,bk AP #[Aa Fs r10.2.2.2.2 k25,Cf] 25,h23,bk Em #[pt b0] 61,bk En #[iv El] 3] (K.mv3 (K.mv3 (K.mv7 (K.mv7 (K.mv7 (K.mv6 (K.mv7 (K.CN (K.CN (BH ⟨h33,A34,G4,h15,F0,k17,h40,A20,k21,h23,Fs,k25,IV,L3,o39,JE,rfl,rfl⟩))))))))))
 ·skip
  refine ksr (kx 3 (kld 1 11 rfl (kx 1 (bnd h fun x41 OX h=>(DL (T:=81) (kd:=.i64) (R:=Et) rfl OX (AL.rd Gv) fun p42 u45 q46 e43 y44=>?_)))))
  obtain ⟨A47,k48,rfl,o49⟩:=Aeb q46
  refine Hk rfl (by kernel_rfl) (by kernel_rfl) (by kernel_rfl) (by kernel_rfl) e43 (.tail _ (.tail _ (.tail _ (.tail _ (.tail _ (.head _)))))) (kx 2 (Ad (Co (K.Ak (K.CN (K.CN (K.CN (K.CN (K.CN (K.CN ?_))))))))))
  refine K.CN (K.CN (EL (τ:=Int×TyA×Ab×Ar×Nat) (fun t=>[(0,pt b0),(6,iv (IntKind.i64.wrap (((r10.2.2.1.length:Nat):Int) - 1))),(35,Aa A47 x41 k48),(36,iv ((x41.length:Nat):Int)),(37,iv t.1)]) (fun t=>bk Em #[pt b0] 61 :: bk b0 #[Ay,Az,A2,Aa AI Ai AJ,Aa t.2.2.2.1 t.2.1 t.2.2.2.2,sv Bh,Aa AG Al AH,AA,pt AO,pt AP,Aa F0 r10.2.1 k17,Aa A20 r10.2.2.1 k21] 66 :: bk En #[iv El] 3 :: h15 :: h19 :: bk AO #[iv r10.2.2.2.1] 3 :: bk AP #[Aa Fs r10.2.2.2.2 k25,Cf] 25 :: h23 :: t.2.2.1 :: X) (fun m t=>FL.l0 m x41 FF t.1 t.2.1=some r∧Ah e48 48 4 t.2.2.1 (Aa t.2.2.2.1 t.2.1 t.2.2.2.2) t.2.1) k (0,r27,h28,A29,k30) ⟨h,GK⟩ sb rfl ?_))
  clear h
  rintro GZ ⟨x50,l51,h52,J_,k54⟩ ⟨h,Hb⟩
  cases GZ with
  | zero=>simp [FL.l0] at h
  | succ GZ =>
   simp only [FL.l0] at h
   refine ksr (kx 1 (Ad (Bz ?_)))
   refine AF h (fun h=>?_) fun h=>?_
   ·refine Bt (AB (Bz (Co (ksr (bnd h fun x58 Tc h=>(F8 (T:=3) (kd:=.i64) (D7 .i64) rfl Tc o49 fun p59 e60 y61=>?_))))))
    have e60:Elem _ p59 [iv x58]:=e60
    refine Hk rfl (by kernel_rfl) (by kernel_rfl) (by kernel_rfl) (by kernel_rfl) e60 (.tail _ (.tail _ (.tail _ (.tail _ (.head _))))) (kx 1 (Ad (kpr [(0,0),(1,0),(2,0),(3,0),(4,3),(5,0),(6,0),(7,1)] [1] (Ax 4 (AU 0 4 rfl (Ax 2 (kpt (K.Ao (bnd h fun r62 OR h=>(Mj (EK.ok OR (Ah.rd Hb)) rfl ⟨(.tail _ (.tail _ (.tail _ (.tail _ (.tail _ (.tail _ (.tail _ (.head _)))))))),trivial⟩ ?_))))))))))
    refine Dp [0] rfl (BY (bnd h fun x63 KD h=>(F8 (T:=48) (kd:=.i64) Fi rfl KD (Ah.rd Hb) fun p64 e65 y66=>?_)))
    have e65:Elem _ p64 [iv x63.1,iv x63.2.1,iv x63.2.2.1,iv x63.2.2.2]:=e65
    refine GV (off:=1) rfl e65 y66 fun p67 e68 y69=>?_
    have e68:Elem _ p67 [iv x63.2.1,iv x63.2.2.1,iv x63.2.2.2]:=e68
    refine K.CN (bnd h fun l70 NJ h=>(JA (v:=iv r62) (off:=1) (x':=(x63.1,r62,x63.2.2.1,x63.2.2.2)) Fi rfl (by kernel_rfl) (by kernel_rfl) (by kernel_rfl) (by kernel_rfl) (by kernel_rfl) y69 Hb KD (by kernel_rfl) (by kernel_rfl) NJ fun h71 o72=>?_))
    have ND:=GH NJ
    refine K.weak (env':=[(0,pt b0),(6,iv (IntKind.i64.wrap (((r10.2.2.1.length:Nat):Int) - 1))),(35,Aa A47 x41 k48),(36,iv ((x41.length:Nat):Int)),(37,iv x50),(48,iv r62)]) ?_ ⟨gr,gr,(by first | rfl | (unfold Aa;rw [ND];rfl)),gr,gr,gr,trivial⟩
    refine K.eq (l':=h71 :: bk b0 #[Ay,Az,A2,Aa AI Ai AJ,Aa J_ l70 k54,sv Bh,Aa AG Al AH,AA,pt AO,pt AP,Aa F0 r10.2.1 k17,Aa A20 r10.2.2.1 k21] 66 :: bk Em #[pt b0] 61 :: bk En #[iv El] 3 :: h15 :: h19 :: bk AO #[iv r10.2.2.2.1] 3 :: bk AP #[Aa Fs r10.2.2.2.2 k25,Cf] 25 :: h23 :: X) rfl (by first | rfl | (unfold Aa;rw [ND];first | done | rfl)) (knl (Bo (AB (Bc (kx 2 (Ad (K.CN (K.CN (K.CN (K.CN ?_))))))))))
    exact K.CN (K.CN (K.mv7 (K.CN (Ea GZ (IntKind.i64.wrap (x50+1),l70,h71,J_,k54) (Nat.lt_succ_self _) ⟨h,o72⟩ sb rfl))))
   ·exact E6 (CY (CY (E7 (AB (AV (l51,h52,J_,k54) ⟨h,Hb⟩ sb rfl)))))
def FM.l0:Nat→(x41:List Int)→(FF:TyA→Option (TyA×Ag×TyL×Int×TyU))→(x50:Int)→(l51:TyA)→Option (TyA×Ag×TyL×Int×TyU)
 | 0,_,_,_,_=>none
 | GZ+1,x41,FF,x50,l51=>cond (decide (x50 < ((x41.length:Nat):Int))) ((AZ x41 x50).bind fun x58=>(EK.f GZ l51).bind fun r62=>(AZ l51 x58).bind fun x63=>(Du l51 x58 (x63.1,r62,x63.2.2.1,x63.2.2.2)).bind fun l70=>FM.l0 GZ x41 FF (IntKind.i64.wrap (x50+1)) l70) (FF l51)
def FM.g (Rc:GS) (k:Nat) (Ai:Bl) (Au:TyA) (Bh:ByteArray) (Al:Ag) (An:Ag) (BG:TyL) (BT:Int) (BL:TyU) (Af:Int) (As:ByteArray) (Aq:Int) (AC:Int) (Am:List Tree) (El:Int) (Lc:Int):Option (TyA×Ag×TyL×Int×TyU):=(apd 24 BG [([])]).bind fun l5=>(Rc.D2 Ai Au Bh Al An l5 BT BL Af As Aq AC Am).bind fun r10=>(Qg.f k r10.1 El Lc).bind fun r27=>BA (fun (l32:TyA)=>(D8 r10.2.2.1 0 (IntKind.i64.wrap (((r10.2.2.1.length:Nat):Int) - 1))).bind fun F_=>some (l32,r10.2.1,F_,r10.2.2.2.1,r10.2.2.2.2)) (fun FF=>(AZ r10.2.2.1 (IntKind.i64.wrap (((r10.2.2.1.length:Nat):Int) - 1))).bind fun x41=>FM.l0 k x41 FF 0 r27)
theorem FM.C0 {Rc:GS} (hR:Rc.Good) {k:Nat}:FM.C (FM.g Rc k):=by
 intro Ai Au Bh As Al An BG BT Af Aq AC El Lc BL Am b0 AJ B2 AH AT C8 AO AP CW Bj Em En Lg Ay Az A2 AA Cf CF BF C4 BS Dn Da Cs G AI B1 AG AR C6 CU Bi r h Cu Ck Cm Cg Ee DX BJ hG
 refine Cz (args:=[pt b0,.agg #[iv Af,sv As,iv Aq,iv AC,Aa Bi Am Bj],.func (.func 82) #[] #[pt Em,pt En,pt Lg]]) Tryz.func78 rfl (B0 rfl) ?_
 intro A X hh_
 obtain ⟨CX,CM,BD,BU,_⟩:=hh_
 unfold FM.g at h
 refine K.eq (env':=[(0,pt b0),(1,.agg #[iv Af,sv As,iv Aq,iv AC,Aa Bi Am Bj]),(2,.func (.func 82) #[] #[pt Em,pt En,pt Lg])]) (l':=bk b0 #[Ay,Az,A2,Aa AI Ai AJ,Aa B1 Au B2,sv Bh,Aa AG Al AH,AA,pt AO,pt AP,Aa AR An AT,Aa C6 BG C8] 66 :: BF :: BS :: Dn :: bk AO #[iv BT] 3 :: bk AP #[Aa CU BL CW,Cf] 25 :: Da :: bk Em #[pt b0] 61 :: bk En #[iv El] 3 :: bk Lg #[iv Lc] 3 :: X) rfl rfl (ksr (knp #[iv Af,sv As,iv Aq,iv AC,Aa Bi Am Bj] 54 fun b1=>(AY (kx 4 (kld 1 11 rfl (De #[nS] 81 1 fun b2=>(Di (K.Ao (DO (T:=81) (n:=1) (xs:=[([])]) (Ci.one (Xb (x:=([])) (Ah.nil (encI .i64) 3 1 none_))) rfl rfl (B0 rfl) fun h3 o4=>(K.mv5 ?_))))))))))
 refine bnd h fun l5 hl5 h=>(F7 rfl Ye rfl hl5 Ee o4 fun h6 A7 k8 o9=>(kx 2 (K.Ak (AQ 11 1 #[Ay,Az,A2,Aa AI Ai AJ,Aa B1 Au B2,sv Bh,Aa AG Al AH,AA,pt AO,pt AP,Aa AR An AT,Aa A7 l5 k8] (AY (kx 1 (CE 2 0 5 rfl (K.Ak (K.drop (K.mv6 ?_))))))))))
 refine K.mv6 (K.mv6 (K.Bq (K.mv6 (K.mv6 (K.mv6 (bnd h fun r10 Lq h=>(B6 (hR.D2 Lq Cu Ck Cm Cg o9 DX BJ hG) rfl ⟨(t3 CX),(t3 CM),(t3 BD),(t3 BU),trivial⟩ ?_)))))))
 rintro _ _ ⟨h11,A12,k13,h15,F0,k17,h19,A20,k21,h23,Fs,k25,IT,L3,Gv,JE,rfl,rfl⟩
 refine Er (AY (kx 1 (K.mv9 (K.mv9 (K.mv3 (K.mv3 (K.mv9 (bnd h fun r27 Km h=>(B6 (Qg.ok Km IT) rfl trivial ?_)))))))))
 rintro _ _ ⟨h28,A29,k30,GK,rfl,rfl⟩
 refine Er (AY (kx 3 (kld 1 11 rfl (kx 3 (Ad ?_)))))
 obtain ⟨FF,SD,h⟩:=CG h
 refine CH (τ:=TyA×Ab×Ar×Nat) (fun t=>[(0,pt b0),(6,iv (IntKind.i64.wrap (((r10.2.2.1.length:Nat):Int) - 1)))]) (fun t=>bk Em #[pt b0] 61 :: bk b0 #[Ay,Az,A2,Aa AI Ai AJ,Aa t.2.2.1 t.1 t.2.2.2,sv Bh,Aa AG Al AH,AA,pt AO,pt AP,Aa F0 r10.2.1 k17,Aa A20 r10.2.2.1 k21] 66 :: bk En #[iv El] 3 :: bk Lg #[iv Lc] 3 :: h15 :: h19 :: bk AO #[iv r10.2.2.2.1] 3 :: bk AP #[Aa Fs r10.2.2.2.2 k25,Cf] 25 :: h23 :: t.2.1 :: X) (fun t=>FF t.1=some r∧Ah e48 48 4 t.2.1 (Aa t.2.2.1 t.1 t.2.2.2) t.1) ?_ ?_
 ·rintro ⟨l32,h33,A34,G4⟩ ⟨h,IV⟩
  subst SD
  refine Bc (kx 4 (kld 1 11 rfl (kx 1 (K.mv5 (bnd h fun F_ SI h=>(Aac (T:=81) (R:=Et) (k:=.i64) (xs:=r10.2.2.1) (IntKind.i64.wrap (((r10.2.2.1.length:Nat):Int) - 1)) rfl (by kernel_rfl) (by kernel_rfl) (by kernel_rfl) (by kernel_rfl) (by kernel_rfl) (by kernel_rfl) SI Gv fun h40 o39=>(kx 2 (K.Ak (AQ 11 1 #[Ay,Az,A2,Aa AI Ai AJ,Aa A34 l32 G4,sv Bh,Aa AG Al AH,AA,pt AO,pt AP,Aa F0 r10.2.1 k17,Aa A20 F_ k21] (knl ?_))))))))))
  refine Cw ?_
  obtain rfl:=Ap h
  refine kdv (.tuple #[]) [bk b0 #[Ay,Az,A2,Aa AI Ai AJ,Aa A34 l32 G4,sv Bh,Aa AG Al AH,AA,pt AO,pt AP,Aa F0 r10.2.1 k17,Aa A20 F_ k21] 66,h33,h15,h40,bk AO #[iv r10.2.2.2.1] 3,bk AP #[Aa Fs r10.2.2.2.2 k25,Cf] 25,h23,bk Em #[pt b0] 61,bk En #[iv El] 3,bk Lg #[iv Lc] 3] (K.Bq (K.Bq (K.Bq (K.CN (K.CN (K.CN (K.mv7 (K.CN (K.mv9 (K.mv9 ?_))))))))))
  exact BH ⟨h33,A34,G4,h15,F0,k17,h40,A20,k21,h23,Fs,k25,IV,L3,o39,JE,rfl,rfl⟩
 ·skip
  refine ksr (kx 3 (kld 1 11 rfl (kx 1 (bnd h fun x41 OX h=>(DL (T:=81) (kd:=.i64) (R:=Et) rfl OX (AL.rd Gv) fun p42 u45 q46 e43 y44=>?_)))))
  obtain ⟨A47,k48,rfl,o49⟩:=Aeb q46
  refine Hk rfl (by kernel_rfl) (by kernel_rfl) (by kernel_rfl) (by kernel_rfl) e43 (.tail _ (.tail _ (.tail _ (.tail _ (.tail _ (.tail _ (.head _))))))) (kx 2 (Ad (Co (K.Ak (K.mv9 (K.mv9 (K.mv9 (K.mv9 (K.mv9 (K.mv9 ?_))))))))))
  refine K.mv9 (K.mv9 (K.mv9 (EL (τ:=Int×TyA×Ab×Ar×Nat) (fun t=>[(0,pt b0),(6,iv (IntKind.i64.wrap (((r10.2.2.1.length:Nat):Int) - 1))),(35,Aa A47 x41 k48),(36,iv ((x41.length:Nat):Int)),(37,iv t.1)]) (fun t=>bk Em #[pt b0] 61 :: bk b0 #[Ay,Az,A2,Aa AI Ai AJ,Aa t.2.2.2.1 t.2.1 t.2.2.2.2,sv Bh,Aa AG Al AH,AA,pt AO,pt AP,Aa F0 r10.2.1 k17,Aa A20 r10.2.2.1 k21] 66 :: bk En #[iv El] 3 :: bk Lg #[iv Lc] 3 :: h15 :: h19 :: bk AO #[iv r10.2.2.2.1] 3 :: bk AP #[Aa Fs r10.2.2.2.2 k25,Cf] 25 :: h23 :: t.2.2.1 :: X) (fun m t=>FM.l0 m x41 FF t.1 t.2.1=some r∧Ah e48 48 4 t.2.2.1 (Aa t.2.2.2.1 t.2.1 t.2.2.2.2) t.2.1) k (0,r27,h28,A29,k30) ⟨h,GK⟩ sb rfl ?_)))
  clear h
  rintro GZ ⟨x50,l51,h52,J_,k54⟩ ⟨h,Hb⟩
  cases GZ with
  | zero=>simp [FM.l0] at h
  | succ GZ =>
   simp only [FM.l0] at h
   refine ksr (kx 1 (Ad (Bz ?_)))
   refine AF h (fun h=>?_) fun h=>?_
   ·refine Bt (AB (Bz (Co (ksr (bnd h fun x58 Tc h=>(F8 (T:=3) (kd:=.i64) (D7 .i64) rfl Tc o49 fun p59 e60 y61=>?_))))))
    have e60:Elem _ p59 [iv x58]:=e60
    refine Hk rfl (by kernel_rfl) (by kernel_rfl) (by kernel_rfl) (by kernel_rfl) e60 (.tail _ (.tail _ (.tail _ (.tail _ (.tail _ (.head _)))))) (kx 1 (Ad (kpr [(0,0),(1,0),(2,0),(3,0),(4,3),(5,0),(6,0),(7,1)] [1] (Ax 4 (AU 0 4 rfl (Ax 2 (kpt (K.Ao (bnd h fun r62 OR h=>(Mj (EK.ok OR (Ah.rd Hb)) rfl ⟨(.tail _ (.tail _ (.tail _ (.tail _ (.tail _ (.tail _ (.tail _ (.tail _ (.head _))))))))),trivial⟩ ?_))))))))))
    refine Dp [0] rfl (BY (bnd h fun x63 KD h=>(F8 (T:=48) (kd:=.i64) Fi rfl KD (Ah.rd Hb) fun p64 e65 y66=>?_)))
    have e65:Elem _ p64 [iv x63.1,iv x63.2.1,iv x63.2.2.1,iv x63.2.2.2]:=e65
    refine GV (off:=1) rfl e65 y66 fun p67 e68 y69=>?_
    have e68:Elem _ p67 [iv x63.2.1,iv x63.2.2.1,iv x63.2.2.2]:=e68
    refine K.mv9 (bnd h fun l70 NJ h=>(JA (v:=iv r62) (off:=1) (x':=(x63.1,r62,x63.2.2.1,x63.2.2.2)) Fi rfl (by kernel_rfl) (by kernel_rfl) (by kernel_rfl) (by kernel_rfl) (by kernel_rfl) y69 Hb KD (by kernel_rfl) (by kernel_rfl) NJ fun h71 o72=>?_))
    have ND:=GH NJ
    refine K.weak (env':=[(0,pt b0),(6,iv (IntKind.i64.wrap (((r10.2.2.1.length:Nat):Int) - 1))),(35,Aa A47 x41 k48),(36,iv ((x41.length:Nat):Int)),(37,iv x50),(48,iv r62)]) ?_ ⟨gr,gr,(by first | rfl | (unfold Aa;rw [ND];rfl)),gr,gr,gr,trivial⟩
    refine K.eq (l':=h71 :: bk b0 #[Ay,Az,A2,Aa AI Ai AJ,Aa J_ l70 k54,sv Bh,Aa AG Al AH,AA,pt AO,pt AP,Aa F0 r10.2.1 k17,Aa A20 r10.2.2.1 k21] 66 :: bk Em #[pt b0] 61 :: bk En #[iv El] 3 :: bk Lg #[iv Lc] 3 :: h15 :: h19 :: bk AO #[iv r10.2.2.2.1] 3 :: bk AP #[Aa Fs r10.2.2.2.2 k25,Cf] 25 :: h23 :: X) rfl (by first | rfl | (unfold Aa;rw [ND];first | done | rfl)) (knl (Bo (AB (Bc (kx 2 (Ad (K.mv9 (K.mv9 (K.mv9 (K.mv9 ?_))))))))))
    exact K.mv9 (K.mv9 (K.mv9 (K.CN (K.mv9 (Ea GZ (IntKind.i64.wrap (x50+1),l70,h71,J_,k54) (Nat.lt_succ_self _) ⟨h,o72⟩ sb rfl)))))
   ·exact E6 (CY (CY (E7 (AB (AV (l51,h52,J_,k54) ⟨h,Hb⟩ sb rfl)))))
def F4.l0:Nat→(x41:List Int)→(FF:TyA→Option (TyA×Ag×TyL×Int×TyU))→(x50:Int)→(l51:TyA)→Option (TyA×Ag×TyL×Int×TyU)
 | 0,_,_,_,_=>none
 | GZ+1,x41,FF,x50,l51=>cond (decide (x50 < ((x41.length:Nat):Int))) ((AZ x41 x50).bind fun x58=>(EK.f GZ l51).bind fun r62=>(AZ l51 x58).bind fun x63=>(Du l51 x58 (x63.1,r62,x63.2.2.1,x63.2.2.2)).bind fun l70=>F4.l0 GZ x41 FF (IntKind.i64.wrap (x50+1)) l70) (FF l51)
def F4.g (Rc:GS) (k:Nat) (Ai:Bl) (Au:TyA) (Bh:ByteArray) (Al:Ag) (An:Ag) (BG:TyL) (BT:Int) (BL:TyU) (Af:Int) (As:ByteArray) (Aq:Int) (AC:Int) (Am:List Tree) (El:Int):Option (TyA×Ag×TyL×Int×TyU):=(apd 24 BG [([])]).bind fun l5=>(Rc.D2 Ai Au Bh Al An l5 BT BL Af As Aq AC Am).bind fun r10=>(Qe.f k r10.1 El).bind fun r27=>BA (fun (l32:TyA)=>(D8 r10.2.2.1 0 (IntKind.i64.wrap (((r10.2.2.1.length:Nat):Int) - 1))).bind fun F_=>some (l32,r10.2.1,F_,r10.2.2.2.1,r10.2.2.2.2)) (fun FF=>(AZ r10.2.2.1 (IntKind.i64.wrap (((r10.2.2.1.length:Nat):Int) - 1))).bind fun x41=>F4.l0 k x41 FF 0 r27)
theorem F4.C0 {Rc:GS} (hR:Rc.Good) {k:Nat}:F4.C (F4.g Rc k):=by
 intro Ai Au Bh As Al An BG BT Af Aq AC El BL Am b0 AJ B2 AH AT C8 AO AP CW Bj Em En Ay Az A2 AA Cf CF BF C4 BS Dn Da Cs G AI B1 AG AR C6 CU Bi r h Cu Ck Cm Cg Ee DX BJ hG
 refine Cz (args:=[pt b0,.agg #[iv Af,sv As,iv Aq,iv AC,Aa Bi Am Bj],.func (.func 112) #[] #[pt Em,pt En]]) Tryz.func78 rfl (B0 rfl) ?_
 intro A X hh_
 obtain ⟨CX,CM,BD,BU,_⟩:=hh_
 unfold F4.g at h
 refine K.eq (env':=[(0,pt b0),(1,.agg #[iv Af,sv As,iv Aq,iv AC,Aa Bi Am Bj]),(2,.func (.func 112) #[] #[pt Em,pt En])]) (l':=bk b0 #[Ay,Az,A2,Aa AI Ai AJ,Aa B1 Au B2,sv Bh,Aa AG Al AH,AA,pt AO,pt AP,Aa AR An AT,Aa C6 BG C8] 66 :: BF :: BS :: Dn :: bk AO #[iv BT] 3 :: bk AP #[Aa CU BL CW,Cf] 25 :: Da :: bk Em #[pt b0] 61 :: bk En #[iv El] 3 :: X) rfl rfl (ksr (knp #[iv Af,sv As,iv Aq,iv AC,Aa Bi Am Bj] 54 fun b1=>(AY (kx 4 (kld 1 11 rfl (De #[nS] 81 1 fun b2=>(Di (K.Ao (DO (T:=81) (n:=1) (xs:=[([])]) (Ci.one (Xb (x:=([])) (Ah.nil (encI .i64) 3 1 none_))) rfl rfl (B0 rfl) fun h3 o4=>(K.mv5 ?_))))))))))
 refine bnd h fun l5 hl5 h=>(F7 rfl Ye rfl hl5 Ee o4 fun h6 A7 k8 o9=>(kx 2 (K.Ak (AQ 11 1 #[Ay,Az,A2,Aa AI Ai AJ,Aa B1 Au B2,sv Bh,Aa AG Al AH,AA,pt AO,pt AP,Aa AR An AT,Aa A7 l5 k8] (AY (kx 1 (CE 2 0 5 rfl (K.Ak (K.drop (K.mv6 ?_))))))))))
 refine K.mv6 (K.mv6 (K.Bq (K.mv6 (K.mv6 (K.mv6 (bnd h fun r10 Lq h=>(B6 (hR.D2 Lq Cu Ck Cm Cg o9 DX BJ hG) rfl ⟨(t2 CX),(t2 CM),(t2 BD),(t2 BU),trivial⟩ ?_)))))))
 rintro _ _ ⟨h11,A12,k13,h15,F0,k17,h19,A20,k21,h23,Fs,k25,IT,L3,Gv,JE,rfl,rfl⟩
 refine Er (AY (kx 1 (K.CN (K.Ak (K.Ak (K.CN (bnd h fun r27 Km h=>(B6 (Qe.ok Km IT) rfl trivial ?_))))))))
 rintro _ _ ⟨h28,A29,k30,GK,rfl,rfl⟩
 refine Aa9 (AY (kx 3 (kld 1 11 rfl (kx 3 (Ad ?_)))))
 obtain ⟨FF,SD,h⟩:=CG h
 refine CH (τ:=TyA×Ab×Ar×Nat) (fun t=>[(0,pt b0),(6,iv (IntKind.i64.wrap (((r10.2.2.1.length:Nat):Int) - 1)))]) (fun t=>bk Em #[pt b0] 61 :: bk b0 #[Ay,Az,A2,Aa AI Ai AJ,Aa t.2.2.1 t.1 t.2.2.2,sv Bh,Aa AG Al AH,AA,pt AO,pt AP,Aa F0 r10.2.1 k17,Aa A20 r10.2.2.1 k21] 66 :: bk En #[iv El] 3 :: h15 :: h19 :: bk AO #[iv r10.2.2.2.1] 3 :: bk AP #[Aa Fs r10.2.2.2.2 k25,Cf] 25 :: h23 :: t.2.1 :: X) (fun t=>FF t.1=some r∧Ah e48 48 4 t.2.1 (Aa t.2.2.1 t.1 t.2.2.2) t.1) ?_ ?_
 ·rintro ⟨l32,h33,A34,G4⟩ ⟨h,IV⟩
  subst SD
  refine Bc (kx 4 (kld 1 11 rfl (kx 1 (K.Bq (bnd h fun F_ SI h=>(Aac (T:=81) (R:=Et) (k:=.i64) (xs:=r10.2.2.1) (IntKind.i64.wrap (((r10.2.2.1.length:Nat):Int) - 1)) rfl (by kernel_rfl) (by kernel_rfl) (by kernel_rfl) (by kernel_rfl) (by kernel_rfl) (by kernel_rfl) SI Gv fun h40 o39=>(kx 2 (K.Ak (AQ 11 1 #[Ay,Az,A2,Aa AI Ai AJ,Aa A34 l32 G4,sv Bh,Aa AG Al AH,AA,pt AO,pt AP,Aa F0 r10.2.1 k17,Aa A20 F_ k21] (knl ?_))))))))))
  refine Cw ?_
  obtain rfl:=Ap h
  exact kdv (.tuple #[]) [bk b0 #[Ay,Az,A2,Aa AI Ai AJ,Aa A34 l32 G4,sv Bh,Aa AG Al AH,AA,pt AO,pt AP,Aa F0 r10.2.1 k17,Aa A20 F_ k21] 66,h33,h15,h40,bk AO #[iv r10.2.2.2.1] 3,bk AP #[Aa Fs r10.2.2.2.2 k25,Cf] 25,h23,bk Em #[pt b0] 61,bk En #[iv El] 3] (K.mv3 (K.mv3 (K.mv7 (K.mv7 (K.mv7 (K.mv6 (K.mv7 (K.CN (K.CN (BH ⟨h33,A34,G4,h15,F0,k17,h40,A20,k21,h23,Fs,k25,IV,L3,o39,JE,rfl,rfl⟩))))))))))
 ·skip
  refine ksr (kx 3 (kld 1 11 rfl (kx 1 (bnd h fun x41 OX h=>(DL (T:=81) (kd:=.i64) (R:=Et) rfl OX (AL.rd Gv) fun p42 u45 q46 e43 y44=>?_)))))
  obtain ⟨A47,k48,rfl,o49⟩:=Aeb q46
  refine Hk rfl (by kernel_rfl) (by kernel_rfl) (by kernel_rfl) (by kernel_rfl) e43 (.tail _ (.tail _ (.tail _ (.tail _ (.tail _ (.head _)))))) (kx 2 (Ad (Co (K.Ak (K.CN (K.CN (K.CN (K.CN (K.CN (K.CN ?_))))))))))
  refine K.CN (K.CN (EL (τ:=Int×TyA×Ab×Ar×Nat) (fun t=>[(0,pt b0),(6,iv (IntKind.i64.wrap (((r10.2.2.1.length:Nat):Int) - 1))),(35,Aa A47 x41 k48),(36,iv ((x41.length:Nat):Int)),(37,iv t.1)]) (fun t=>bk Em #[pt b0] 61 :: bk b0 #[Ay,Az,A2,Aa AI Ai AJ,Aa t.2.2.2.1 t.2.1 t.2.2.2.2,sv Bh,Aa AG Al AH,AA,pt AO,pt AP,Aa F0 r10.2.1 k17,Aa A20 r10.2.2.1 k21] 66 :: bk En #[iv El] 3 :: h15 :: h19 :: bk AO #[iv r10.2.2.2.1] 3 :: bk AP #[Aa Fs r10.2.2.2.2 k25,Cf] 25 :: h23 :: t.2.2.1 :: X) (fun m t=>F4.l0 m x41 FF t.1 t.2.1=some r∧Ah e48 48 4 t.2.2.1 (Aa t.2.2.2.1 t.2.1 t.2.2.2.2) t.2.1) k (0,r27,h28,A29,k30) ⟨h,GK⟩ sb rfl ?_))
  clear h
  rintro GZ ⟨x50,l51,h52,J_,k54⟩ ⟨h,Hb⟩
  cases GZ with
  | zero=>simp [F4.l0] at h
  | succ GZ =>
   simp only [F4.l0] at h
   refine ksr (kx 1 (Ad (Bz ?_)))
   refine AF h (fun h=>?_) fun h=>?_
   ·refine Bt (AB (Bz (Co (ksr (bnd h fun x58 Tc h=>(F8 (T:=3) (kd:=.i64) (D7 .i64) rfl Tc o49 fun p59 e60 y61=>?_))))))
    have e60:Elem _ p59 [iv x58]:=e60
    refine Hk rfl (by kernel_rfl) (by kernel_rfl) (by kernel_rfl) (by kernel_rfl) e60 (.tail _ (.tail _ (.tail _ (.tail _ (.head _))))) (kx 1 (Ad (kpr [(0,0),(1,0),(2,0),(3,0),(4,3),(5,0),(6,0),(7,1)] [1] (Ax 4 (AU 0 4 rfl (Ax 2 (kpt (K.Ao (bnd h fun r62 OR h=>(Mj (EK.ok OR (Ah.rd Hb)) rfl ⟨(.tail _ (.tail _ (.tail _ (.tail _ (.tail _ (.tail _ (.tail _ (.head _)))))))),trivial⟩ ?_))))))))))
    refine Dp [0] rfl (BY (bnd h fun x63 KD h=>(F8 (T:=48) (kd:=.i64) Fi rfl KD (Ah.rd Hb) fun p64 e65 y66=>?_)))
    have e65:Elem _ p64 [iv x63.1,iv x63.2.1,iv x63.2.2.1,iv x63.2.2.2]:=e65
    refine GV (off:=1) rfl e65 y66 fun p67 e68 y69=>?_
    have e68:Elem _ p67 [iv x63.2.1,iv x63.2.2.1,iv x63.2.2.2]:=e68
    refine K.CN (bnd h fun l70 NJ h=>(JA (v:=iv r62) (off:=1) (x':=(x63.1,r62,x63.2.2.1,x63.2.2.2)) Fi rfl (by kernel_rfl) (by kernel_rfl) (by kernel_rfl) (by kernel_rfl) (by kernel_rfl) y69 Hb KD (by kernel_rfl) (by kernel_rfl) NJ fun h71 o72=>?_))
    have ND:=GH NJ
    refine K.weak (env':=[(0,pt b0),(6,iv (IntKind.i64.wrap (((r10.2.2.1.length:Nat):Int) - 1))),(35,Aa A47 x41 k48),(36,iv ((x41.length:Nat):Int)),(37,iv x50),(48,iv r62)]) ?_ ⟨gr,gr,(by first | rfl | (unfold Aa;rw [ND];rfl)),gr,gr,gr,trivial⟩
    refine K.eq (l':=h71 :: bk b0 #[Ay,Az,A2,Aa AI Ai AJ,Aa J_ l70 k54,sv Bh,Aa AG Al AH,AA,pt AO,pt AP,Aa F0 r10.2.1 k17,Aa A20 r10.2.2.1 k21] 66 :: bk Em #[pt b0] 61 :: bk En #[iv El] 3 :: h15 :: h19 :: bk AO #[iv r10.2.2.2.1] 3 :: bk AP #[Aa Fs r10.2.2.2.2 k25,Cf] 25 :: h23 :: X) rfl (by first | rfl | (unfold Aa;rw [ND];first | done | rfl)) (knl (Bo (AB (Bc (kx 2 (Ad (K.CN (K.CN (K.CN (K.CN ?_))))))))))
    exact K.CN (K.CN (K.mv7 (K.CN (Ea GZ (IntKind.i64.wrap (x50+1),l70,h71,J_,k54) (Nat.lt_succ_self _) ⟨h,o72⟩ sb rfl))))
   ·exact E6 (CY (CY (E7 (AB (AV (l51,h52,J_,k54) ⟨h,Hb⟩ sb rfl)))))
def HJ.g (Rc:GS) (k:Nat) (Ai:Bl) (Au:TyA) (Bh:ByteArray) (Al:Ag) (An:Ag) (BG:TyL) (BT:Int) (BL:TyU) (Af:Int) (As:ByteArray) (Aq:Int) (AC:Int) (Am:List Tree) (a2:Int):Option (TyA×Ag×TyL×Int×TyU):=(D8 Am Aq a2).bind fun l3=>(GT.f k Ai Au Al An l3 3).bind fun r7=>(D8 Am 0 Aq).bind fun l12=>(LY.f k An l12).bind fun r16=>(BC.f k r7 32 ([r16.1])).bind fun r22=>(BC.f k r22.2 6 ([r16.1])).bind fun r28=>(BC.f k r28.2 22 ([])).bind fun r34=>(BC.f k r34.2 6 ([IntKind.i64.wrap (r16.1+1)])).bind fun r40=>(BC.f k r40.2 6 ([IntKind.i64.wrap (r16.1+2)])).bind fun Mn=>(BC.f k Mn.2 24 ([Aq])).bind fun r52=>(BC.f k r52.2 33 ([r16.1,0,Aq])).bind fun JK=>(AZ Am a2).bind fun x63=>(Rc.F4 Ai JK.2 Bh Al r16.2 BG BT BL x63.kind x63.text x63.n x63.at_ x63.kids r28.1).bind fun FU=>(EK.f k FU.1).bind fun Fp=>(AZ FU.1 JK.1).bind fun x90=>(Du FU.1 JK.1 (x90.1,x90.2.1,Fp,x90.2.2.2)).bind fun Wq=>(MI.f k FU.2.1 r16.1).bind fun Ei=>some (Wq,Ei,FU.2.2.1,FU.2.2.2.1,FU.2.2.2.2)
theorem HJ.C0 {Rc:GS} (hR:Rc.Good) {k:Nat}:HJ.C (HJ.g Rc k):=by
 intro Ai Au Bh As Al An BG BT Af Aq AC a2 BL Am b0 AJ B2 AH AT C8 AO AP CW Bj Ay Az A2 AA Cf CF BF C4 BS Dn Da Cs G AI B1 AG AR C6 CU Bi r h Cu Ck Cm Cg Ee DX BJ hG
 refine Cz (args:=[pt b0,.agg #[iv Af,sv As,iv Aq,iv AC,Aa Bi Am Bj],iv a2]) Tryz.func84 rfl (B0 rfl) ?_
 intro A X hh_
 obtain ⟨CX,CM,BD,BU,_⟩:=hh_
 unfold HJ.g at h
 refine K.eq (env':=[(0,pt b0),(1,.agg #[iv Af,sv As,iv Aq,iv AC,Aa Bi Am Bj]),(2,iv a2)]) (l':=bk b0 #[Ay,Az,A2,Aa AI Ai AJ,Aa B1 Au B2,sv Bh,Aa AG Al AH,AA,pt AO,pt AP,Aa AR An AT,Aa C6 BG C8] 66 :: BF :: BS :: Dn :: bk AO #[iv BT] 3 :: bk AP #[Aa CU BL CW,Cf] 25 :: Da :: X) rfl rfl (ksr (knp #[pt b0] 61 fun b1=>(knp #[iv Af,sv As,iv Aq,iv AC,Aa Bi Am Bj] 54 fun b2=>(Ad (Bz (kpr [(0,3),(1,0),(2,3),(3,0),(4,3),(5,0),(6,0)] [0,1] (AU 1 0 rfl (Ax 1 (AU 0 4 rfl (Ax 1 ?_))))))))))
 refine AU 0 2 rfl (Ax 1 (bnd h fun l3 hl3 h=>(KH (T:=54) (R:=(Bb 54)) (xs:=Am) Aq a2 rfl (by kernel_rfl) (by kernel_rfl) (by kernel_rfl) (.inr ⟨_,.i64,rfl,(by kernel_rfl)⟩) (.inr ⟨_,.i64,rfl,(by kernel_rfl)⟩) (by kernel_rfl) (by kernel_rfl) hl3 BJ fun A4 k5 o6=>(BY (K.mv3 (K.mv3 (bnd h fun r7 hr7 h=>(B6 (GT.ok hr7 Cu Ck Cm (Ah.rd Cg) o6 hG) rfl ⟨(t7 CX),(t7 CM),(.tail _ (.tail _ (.head _))),(t7 BD),(t7 BU),trivial⟩ ?_))))))))
 rintro _ _ ⟨h8,A9,k10,GJ,rfl,rfl⟩
 refine Bn (Ad (Bz (kpr [(0,3),(1,0),(2,3),(3,0),(4,3),(5,0)] [2,3] (AU 1 0 rfl (Ax 1 (AU 0 4 rfl (Ax 1 (AU 0 2 rfl (bnd h fun l12 hl12 h=>(KH (T:=54) (R:=(Bb 54)) (xs:=Am) 0 Aq rfl (by kernel_rfl) (by kernel_rfl) (by kernel_rfl) (.inl ⟨rfl,rfl⟩) (.inr ⟨_,.i64,rfl,(by kernel_rfl)⟩) (by kernel_rfl) (by kernel_rfl) hl12 BJ fun K0 k14 o15=>?_))))))))))
 refine BY (K.Bq (K.Ao (bnd h fun r16 Kj h=>(B6 (LY.ok Kj Cg o15) rfl ⟨(t7 BD),trivial⟩ ?_))))
 rintro _ _ ⟨h17,Fh,k19,o20,rfl,rfl⟩
 refine Bn (kx 1 (AY (kld 4 0 rfl (kx 1 (De #[iv r16.1] 3 1 fun b21=>(K.mv3 (K.Ak (bnd h fun r22 Bc3 h=>(B6 (BC.ok Bc3 GJ (Ah.rd (Ah.blk 3 (D7 .i64) b21 [r16.1] #[iv r16.1] 1 (by kernel_rfl) rfl (by decide)))) rfl ⟨(.head _),trivial⟩ ?_)))))))))
 rintro _ _ ⟨h23,Fs,k25,JE,rfl,rfl⟩
 refine Bn (K.Ak (K.drop (AY (kld 4 0 rfl (kx 1 (De #[iv r16.1] 3 1 fun b27=>(K.Ak (K.Ak (bnd h fun r28 SP h=>(B6 (BC.ok SP JE (Ah.rd (Ah.blk 3 (D7 .i64) b27 [r16.1] #[iv r16.1] 1 (by kernel_rfl) rfl (by decide)))) rfl ⟨(.head _),trivial⟩ ?_))))))))))
 rintro _ _ ⟨h29,Jl,k31,o32,rfl,rfl⟩
 refine Bn (K.Ak (K.drop (knp #[iv 0] 3 fun b33=>(AQ 0 1 #[iv r28.1] (AY (kld 5 0 rfl (Di (K.mv3 (K.mv3 (bnd h fun r34 SR h=>?_))))))))))
 refine B6 (BC.ok SR o32 (Bf.nil (encI .i64) 1 none_)) rfl ⟨(.head _),trivial⟩ ?_
 rintro _ _ ⟨h35,A36,k37,o38,rfl,rfl⟩
 refine Bn (K.Ak (K.drop (AY (kld 5 0 rfl (kx 2 (De #[iv (IntKind.i64.wrap (r16.1+1))] 3 1 fun b39=>(K.Ak (K.Ak (bnd h fun r40 SS h=>(B6 (BC.ok SS o38 (Ah.rd (Ah.blk 3 (D7 .i64) b39 [IntKind.i64.wrap (r16.1+1)] #[iv (IntKind.i64.wrap (r16.1+1))] 1 (by kernel_rfl) rfl (by decide)))) rfl ⟨(.head _),trivial⟩ ?_))))))))))
 rintro _ _ ⟨h41,A42,ZT,TL,rfl,rfl⟩
 refine Bn (K.Ak (K.drop (AY (kld 5 0 rfl (kx 2 (De #[iv (IntKind.i64.wrap (r16.1+2))] 3 1 fun b45=>(K.Ak (K.Ak (bnd h fun Mn Zj h=>(B6 (BC.ok Zj TL (Ah.rd (Ah.blk 3 (D7 .i64) b45 [IntKind.i64.wrap (r16.1+2)] #[iv (IntKind.i64.wrap (r16.1+2))] 1 (by kernel_rfl) rfl (by decide)))) rfl ⟨(.head _),trivial⟩ ?_))))))))))
 rintro _ _ ⟨h47,A48,k49,Ri,rfl,rfl⟩
 refine Bn (K.Ak (K.drop (AY (kld 5 0 rfl (kx 1 (kld 4 2 rfl (De #[iv Aq] 3 1 fun Vl=>(K.Ak (K.Ak (bnd h fun r52 Zm h=>?_))))))))))
 refine B6 (BC.ok Zm Ri (Ah.rd (Ah.blk 3 (D7 .i64) Vl [Aq] #[iv Aq] 1 (by kernel_rfl) rfl (by decide)))) rfl ⟨(.head _),trivial⟩ ?_
 rintro _ _ ⟨h53,Om,Pf,Mi,rfl,rfl⟩
 refine Bn (K.Ak (K.drop (AY (kld 5 0 rfl (kx 2 (kld 4 2 rfl (De #[iv r16.1,iv 0,iv Aq] 3 3 fun b57=>(K.Ak (K.Ak (bnd h fun JK SW h=>?_))))))))))
 refine B6 (BC.ok SW Mi (Ah.rd (Ah.blk 3 (D7 .i64) b57 [r16.1,0,Aq] #[iv r16.1,iv 0,iv Aq] 3 (by kernel_rfl) rfl (by decide)))) rfl ⟨(.head _),trivial⟩ ?_
 rintro _ _ ⟨h59,Sd,Tn,TM,rfl,rfl⟩
 refine Bn (K.Ak (K.drop (kx 1 (Ad (Bz (IN [(0,3),(1,0),(2,3),(3,0),(4,0),(5,3),(6,0)] [bk b2 #[iv Af,sv As,iv Aq,iv AC,Aa Bi Am Bj] 54,bk b1 #[pt b0] 61,Cs] (fun w h_=>⟨h_.sat.on _ (.tail _ (.tail _ (.tail _ (.tail _ (.head _))))),h_.sat.on _ (.tail _ (.tail _ (.tail _ (.tail _ (.tail _ (.head _)))))),h_.sat.on _ (t10 BD),trivial⟩) (AU 1 0 rfl (Ax 1 (AU 0 4 rfl (Ax 1 ?_))))))))))
 refine bnd h fun x63 KD h=>(Jd (T:=54) (kd:=.i64) (R:=(Bb 54)) rfl KD BJ fun p64 u67 q68 e65 y66=>?_)
 obtain ⟨A69,k70,rfl,Nc⟩:=DI 54 q68
 refine IM rfl e65 (fun w h_=>h_.mem _ (.tail _ (.tail _ (.head _)))) (Ax 1 (BY (K.Ak (K.mv5 (K.mv9 (K.mv9 (K.mv9 (K.mv9 (K.CN (K.CN ?_))))))))))
 refine K.CN (bnd h fun FU SX h=>(B6 (hR.F4 SX Cu TM Cm o20 Ee DX Nc hG) rfl ⟨(.tail _ CX),(.tail _ CM),(.tail _ BD),(.tail _ BU),trivial⟩ ?_))
 rintro _ _ ⟨h73,PX,k75,h77,A78,k79,h81,A82,VT,h85,A86,QE,Rm,o80,TO,o88,rfl,rfl⟩
 refine Er (K.CN (K.drop (K.CN (K.drop (Ad (Bz (kpr [(0,3),(1,0),(2,0),(3,0),(4,3),(5,0),(6,3),(7,1)] [0,7] (AU 1 0 rfl (Ax 3 (AU 0 4 rfl ?_))))))))))
 refine Ax 1 (AU 1 0 rfl (kpt (bnd h fun Fp Zy h=>(Mj (EK.ok Zy (Ah.rd Rm)) rfl ⟨(.head _),trivial⟩ (Dp [0,7] rfl (BY (bnd h fun x90 hx90 h=>(F8 (T:=48) (kd:=.i64) Fi rfl hx90 (Ah.rd Rm) fun p91 e92 y93=>?_))))))))
 have e92:Elem _ p91 [iv x90.1,iv x90.2.1,iv x90.2.2.1,iv x90.2.2.2]:=e92
 refine GV (off:=2) rfl e92 y93 fun p94 e95 y96=>?_
 have e95:Elem _ p94 [iv x90.2.2.1,iv x90.2.2.2]:=e95
 refine K.Ao (bnd h fun Wq An1 h=>(JA (v:=iv Fp) (off:=2) (x':=(x90.1,x90.2.1,Fp,x90.2.2.2)) Fi rfl (by kernel_rfl) (by kernel_rfl) (by kernel_rfl) (by kernel_rfl) (by kernel_rfl) y96 Rm hx90 (by kernel_rfl) (by kernel_rfl) An1 fun h98 KN=>?_))
 have A7k:=GH An1
 refine K.weak (env':=[(3,pt b1),(6,iv r16.1),(70,iv Fp)]) ?_ ⟨gr,gr,gr,trivial⟩
 refine K.eq (l':=h98 :: bk b0 #[Ay,Az,A2,Aa AI Ai AJ,Aa PX Wq k75,sv Bh,Aa AG Al AH,AA,pt AO,pt AP,Aa A78 FU.2.1 k79,Aa A82 FU.2.2.1 VT] 66 :: h77 :: h81 :: bk AO #[iv FU.2.2.2.1] 3 :: bk AP #[Aa A86 FU.2.2.2.2 QE,Cf] 25 :: h85 :: bk b1 #[pt b0] 61 :: X) rfl (by first | rfl | (unfold Aa;rw [A7k];first | done | rfl)) (Fw (kld 7 0 rfl (K.mv7 (K.drop (kx 1 (K.Ak (K.Ak (bnd h fun Ei YY h=>(B6 (MI.ok YY o80) rfl trivial ?_)))))))))
 rintro _ _ ⟨OB,Oj,Pd,Q_,rfl,rfl⟩
 refine Bn (knl (Cw ?_))
 obtain rfl:=Ap h
 exact kdv (.tuple #[]) [bk b0 #[Ay,Az,A2,Aa AI Ai AJ,Aa PX Wq k75,sv Bh,Aa AG Al AH,AA,pt AO,pt AP,Aa Oj Ei Pd,Aa A82 FU.2.2.1 VT] 66,h98,OB,h81,bk AO #[iv FU.2.2.2.1] 3,bk AP #[Aa A86 FU.2.2.2.2 QE,Cf] 25,h85] (K.mv6 (K.mv6 (K.mv6 (K.mv6 (K.mv5 (K.mv6 (K.mv6 (BH ⟨h98,PX,k75,OB,Oj,Pd,h81,A82,VT,h85,A86,QE,KN,Q_,TO,o88,rfl,rfl⟩))))))))
def Iu.g (Rc:GS) (k:Nat) (Bh:ByteArray) (Al:Ag) (BT:Int) (BL:TyU) (Af:Int) (As:ByteArray) (Aq:Int) (AC:Int) (Am:List Tree):Option (Int×TyU):=(AZ BL BT).bind fun x2=>x2.bind fun x4=>(Du BL BT none).bind fun l23=>(D8 Am 0 Aq).bind fun l26=>(Hj.f k ([]) l26).bind fun PD=>(AZ Am Aq).bind fun x35=>(Rc.F3 x4.2.2.2.1 x4.2.2.2.2 Bh Al PD ([]) (IntKind.i64.wrap (BT+1)) l23 x35.kind x35.text x35.n x35.at_ x35.kids).bind fun r44=>(AZ r44.2.2.2.2 BT).bind fun x61=>(Du r44.2.2.2.2 BT (some (x4.1,x4.2.1,x4.2.2.1,x4.2.2.2.1,r44.1))).bind fun MY=>some (r44.2.2.2.1,MY)
theorem Iu.C0 {Rc:GS} (hR:Rc.Good) {k:Nat}:Iu.C (Iu.g Rc k):=by
 intro Bh As Al BT Af Aq AC BL Am b0 AH AO AP CW Bj Ay Az A2 DC EE AA FE Br Cf C4 Da Cs G AG CU Bi r h Cm DX BJ hG
 refine Cz (args:=[pt b0,.agg #[iv Af,sv As,iv Aq,iv AC,Aa Bi Am Bj]]) Tryz.func87 rfl (B0 rfl) ?_
 intro A X hh_
 obtain ⟨CM,BD,BU,_⟩:=hh_
 unfold Iu.g at h
 refine K.eq (env':=[(0,pt b0),(1,.agg #[iv Af,sv As,iv Aq,iv AC,Aa Bi Am Bj])]) (l':=bk b0 #[Ay,Az,A2,DC,EE,sv Bh,Aa AG Al AH,AA,pt AO,pt AP,FE,Br] 66 :: bk AO #[iv BT] 3 :: bk AP #[Aa CU BL CW,Cf] 25 :: Da :: X) rfl rfl (ksr (knp #[iv Af,sv As,iv Aq,iv AC,Aa Bi Am Bj] 54 fun b1=>(AY (kx 3 (kld 1 8 rfl (kx 1 (kld 2 0 rfl (kx 1 (AY (kx 3 ?_))))))))))
 refine kld 1 8 rfl (kx 1 (kld 2 0 rfl (kx 2 (K.Ak (AQ 0 1 #[iv (IntKind.i64.wrap (BT+1))] (Ad ?_))))))
 obtain ⟨x4,i3,h⟩:=XL h
 refine K.Bq (QI (R:=(D3 D4)) DX (KL i3).2.2 fun h5 h6 c7 _ _ o8 e9=>?_)
 obtain ⟨Fz,k11,K0,k14,h17,h18,rfl,rfl,p16,Hm,o15⟩:=Av4 o8
 refine NM p16 (Bz (kpr [(0,0),(1,0),(2,0),(3,3),(4,0),(5,3),(6,0),(7,0),(8,3),(9,0),(10,0),(11,0),(12,3),(13,0),(14,0),(15,0),(16,3),(17,0),(18,0),(19,0),(20,3),(21,0),(22,0),(23,0),(24,3)] [2,5,6] (Ax 3 (AU 1 9 rfl (Ax 1 (AU 2 0 rfl (Ax 1 (Jd (T:=41) (kd:=.i64) (R:=(D3 D4)) rfl i3 (AL.rd DX) fun p19 _ _ _ y20=>?_))))))))
 have e21:Elem h6 p19 [sv x4.1,iv x4.2.1,iv x4.2.2.1,Aa Fz x4.2.2.2.1 k11,Aa K0 x4.2.2.2.2 k14]:=Ip.elem e9 y20
 refine IM rfl e21 (fun w h_=>h_.mem _ (.head _)) (Ax 3 (AU 1 5 rfl (Ax 3 (AU 1 6 rfl (Ax 3 (AU 1 8 rfl (Ax 3 (AU 1 9 rfl (BY (kx 1 ?_))))))))))
 refine knp #[sv x4.1,iv x4.2.1,iv x4.2.2.1,Aa Fz x4.2.2.2.1 k11,Aa K0 x4.2.2.2.2 k14,sv Bh,Aa AG Al AH,nS,pt AO,pt AP,nS,nS] 66 fun b22=>(kx 1 (knl (bnd h fun l23 Anq h=>(K.mv3 (ZZ Anq e9 (Ad7 (Ul Hm o15 p16)) fun IU=>?_)))))
 have g25:=GH Anq
 refine K.weak (env':=[(0,pt b0),(3,pt b1),(4,iv BT),(5,pt b22)]) ?_ ⟨gr,gr,gr,gr,trivial⟩
 refine K.eq (l':=h6 :: bk b22 #[sv x4.1,iv x4.2.1,iv x4.2.2.1,Aa Fz x4.2.2.2.1 k11,Aa K0 x4.2.2.2.2 k14,sv Bh,Aa AG Al AH,nS,pt AO,pt AP,nS,nS] 66 :: h17 :: h18 :: bk AO #[iv (IntKind.i64.wrap (BT+1))] 3 :: bk b1 #[iv Af,sv As,iv Aq,iv AC,Aa Bi Am Bj] 54 :: bk b0 #[Ay,Az,A2,DC,EE,sv Bh,Aa AG Al AH,AA,pt AO,pt AP,FE,Br] 66 :: bk AP #[Aa CU l23 CW,Cf] 25 :: X) rfl (by first | rfl | (unfold Aa;rw [g25];first | done | rfl)) (AB (ksr (kx 2 (kld 5 4 rfl (kx 1 (kld 5 2 rfl (bnd h fun l26 Ba9 h=>(Pj (T:=54) (R:=(Bb 54)) (xs:=Am) 0 Aq rfl (by kernel_rfl) (by kernel_rfl) (by kernel_rfl) (.inl ⟨rfl,rfl⟩) (.inr ⟨_,.i64,rfl,(by kernel_rfl)⟩) (by kernel_rfl) (by kernel_rfl) Ba9 BJ fun A27 k28 o29=>(Di (K.Ak ?_))))))))))
 refine bnd h fun PD Ze h=>(B6 (Hj.ok Ze (Ah.nil encS 9 1 none_) o29) rfl ⟨(t7 BD),trivial⟩ ?_)
 rintro _ _ ⟨h31,Mz,k33,Ic,rfl,rfl⟩
 refine Bn (AY (kx 2 (kld 6 4 rfl (kx 1 (kld 6 2 rfl (K.mv6 (K.drop (bnd h fun x35 Z5 h=>(DL (T:=54) (kd:=.i64) (R:=(Bb 54)) rfl Z5 BJ fun p36 u39 q40 e37 y38=>?_)))))))))
 obtain ⟨PW,k42,rfl,Rh⟩:=DI 54 q40
 refine E8 rfl e37 (t8 BD) (Di (K.mv3 (K.CN (K.mv7 (K.mv3 (K.mv5 (K.mv7 (K.mv6 (bnd h fun r44 OO h=>(B6 (hR.F3 OO (Ah.rd Hm) o15 Cm Ic (AL.nil Et 81 none_) IU Rh hG) rfl ⟨(.head _),(t2 CM),(t2 BD),(t2 BU),trivial⟩ ?_))))))))))
 rintro _ _ ⟨h45,Nw,k47,h49,A50,k51,h53,Om,Pf,h57,GO,k59,Nb,Rj,Mi,o60,rfl,rfl⟩
 refine Er (Ad (bnd h fun x61 i62 h=>(K.mv6 (QI (R:=(D3 D4)) o60 (KL i62).2.2 fun h63 h64 c65 _ _ o66 e67=>(K.drop (kpr [(0,0),(1,0),(2,0),(3,3),(4,0),(5,3),(6,0),(7,0),(8,0),(9,0),(10,3)] [1,6,8] (Ax 3 (AU 2 9 rfl (Ax 1 (AU 1 0 rfl ?_))))))))))
 refine Ax 4 (Gt 0 0 5 rfl (BY (DL (T:=41) (kd:=.i64) (R:=(D3 D4)) rfl i62 (AL.rd o60) fun p68 _ _ _ y69=>(K.Ao (K.drop (K.Ak (K.drop (K.Ak (K.drop (K.Ao ?_))))))))))
 refine K.Bq (J9 fun p71=>(K.Ao (bnd h fun MY VH h=>(Aae (R:=(D3 D4)) (v:=.agg #[sv x4.1,iv x4.2.1,iv x4.2.2.1,Aa Fz x4.2.2.2.1 k11,Aa Nw r44.1 k47]) (x':=(some (x4.1,x4.2.1,x4.2.2.1,x4.2.2.2.1,r44.1))) rfl (by kernel_rfl) (by kernel_rfl) (by kernel_rfl) (by kernel_rfl) (by kernel_rfl) y69 VH e67 (Ul (x:=(x4.1,x4.2.1,x4.2.2.1,x4.2.2.2.1,r44.1)) Hm Nb p71) fun h73 Py=>?_))))
 have g75:=GH VH
 refine K.weak (env':=[(72,.agg #[sv x4.1,iv x4.2.1,iv x4.2.2.1,Aa Fz x4.2.2.2.1 k11,Aa Nw r44.1 k47])]) ?_ ⟨(by first | rfl | (unfold Aa;rw [g75];rfl)),trivial⟩
 refine K.eq (l':=h73 :: bk AO #[iv r44.2.2.2.1] 3 :: bk AP #[Aa GO MY k59,Cf] 25 :: bk b0 #[Ay,Az,A2,DC,EE,sv Bh,Aa AG Al AH,AA,pt AO,pt AP,FE,Br] 66 :: X) rfl (by first | rfl | (unfold Aa;rw [g75];first | done | rfl)) (knl (Cw ?_))
 obtain rfl:=Ap h
 exact kdv (.tuple #[]) [bk b0 #[Ay,Az,A2,DC,EE,sv Bh,Aa AG Al AH,AA,pt AO,pt AP,FE,Br] 66,bk AO #[iv r44.2.2.2.1] 3,bk AP #[Aa GO MY k59,Cf] 25,h73] (K.Ak (K.Ak (K.mv3 (BH ⟨h73,GO,k59,Py,rfl,rfl⟩))))
def GS.at:Nat→GS
 | 0=>⟨fun _ _ _ _ _ _ _ _ _ _ _ _ _=>none,fun _ _ _ _ _ _ _ _ _ _ _ _ _=>none,fun _ _ _ _ _ _ _ _ _ _ _ _ _=>none,fun _ _ _ _ _ _ _ _ _=>none,fun _ _ _ _ _ _ _ _ _ _ _ _ _ _=>none,fun _ _ _ _ _ _ _ _ _ _ _ _ _ _ _=>none,fun _ _ _ _ _ _ _ _ _ _ _ _ _ _=>none,fun _ _ _ _ _ _ _ _ _ _ _ _ _ _=>none,fun _ _ _ _ _ _ _ _ _=>none⟩
 | k+1=>⟨D2.g (GS.at k) k,F3.g (GS.at k) k,Dx.g (GS.at k) k,DN.g (GS.at k) k,FL.g (GS.at k) k,FM.g (GS.at k) k,F4.g (GS.at k) k,HJ.g (GS.at k) k,Iu.g (GS.at k) k⟩
theorem GS.good:∀ k,(GS.at k).Good
 | 0=>⟨(by unfold D2.C;intros;rename_i h _ _ _ _ _ _ _ _;cases (show (none:Option _)=some _ from h)),(by unfold F3.C;intros;rename_i h _ _ _ _ _ _ _ _;cases (show (none:Option _)=some _ from h)),(by unfold Dx.C;intros;rename_i h _ _ _ _ _ _ _ _;cases (show (none:Option _)=some _ from h)),(by unfold DN.C;intros;rename_i h _ _ _ _ _ _ _ _;cases (show (none:Option _)=some _ from h)),(by unfold FL.C;intros;rename_i h _ _ _ _ _ _ _ _;cases (show (none:Option _)=some _ from h)),(by unfold FM.C;intros;rename_i h _ _ _ _ _ _ _ _;cases (show (none:Option _)=some _ from h)),(by unfold F4.C;intros;rename_i h _ _ _ _ _ _ _ _;cases (show (none:Option _)=some _ from h)),(by unfold HJ.C;intros;rename_i h _ _ _ _ _ _ _ _;cases (show (none:Option _)=some _ from h)),(by unfold Iu.C;intros;rename_i h _ _ _ _;cases (show (none:Option _)=some _ from h))⟩
 | k+1=>⟨D2.C0 (k:=k) (GS.good k),F3.C0 (k:=k) (GS.good k),Dx.C0 (k:=k) (GS.good k),DN.C0 (k:=k) (GS.good k),FL.C0 (k:=k) (GS.good k),FM.C0 (k:=k) (GS.good k),F4.C0 (k:=k) (GS.good k),HJ.C0 (k:=k) (GS.good k),Iu.C0 (k:=k) (GS.good k)⟩
def F3.f (k:Nat):=F3.g (GS.at k) k
theorem F3.ok {k:Nat}:F3.C (F3.f k):=F3.C0 (k:=k) (GS.good k)
end
end Go.Proofs.YtkdjiehclahliaaGreatDoor
