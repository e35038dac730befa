/- Texts of mine for genBlocks_card, part 7. -/
import Derived.Test.YtkdjiehclahliaaGreatDoorGkF
set_option linter.unusedSimpArgs false
set_option linter.unusedVariables false
set_option linter.unusedSectionVars false
namespace Go.Proofs.YtkdjiehclahliaaGreatDoor
set_option maxRecDepth 100000
section
open Go Go.RowKit
def E5:FX (List Int):=rS1 0 (fun x=>[]) (fun _=>⟨rfl,rfl⟩) (encI .i64) 3 1 (fun x=>x)
theorem Xn {x:List Int} {H:Ab} {A:Option Addr} {c:Nat} (h:Ah (encI .i64) 3 1 H (.slice A (x).length c) (x)):E5.own x H [.slice A (x).length c]:=⟨A,c,rfl,h⟩
theorem Afc {x:List Int} {H:Ab} {cs:List Value} (h:E5.rd x H cs):∃ A c,cs=[.slice A (x).length c]∧Bl (encI .i64) 1 H (.slice A (x).length c) (x):=h
def Dr:FX (ByteArray×Int×Int×Bg×TyA):=rS2 3 (fun x=>[.string x.1,.int .i64 x.2.1,.int .i64 x.2.2.1]) (fun _=>⟨rfl,rfl⟩) Dv 78 3 (fun x=>x.2.2.2.1) e48 48 4 (fun x=>x.2.2.2.2)
theorem U0 {x:ByteArray×Int×Int×Bg×TyA} {H1 H2:Ab} {A:Aq} {c:Nat} {B:Aq} {d:Nat} (h1:Ah Dv 78 3 H1 (.slice A (x.2.2.2.1).length c) (x.2.2.2.1)) (h2:Ah e48 48 4 H2 (.slice B (x.2.2.2.2).length d) (x.2.2.2.2)) (ha:H1.Apart H2):Dr.own x (H1.or H2) [sv x.1,iv x.2.1,iv x.2.2.1,.slice A (x.2.2.2.1).length c,.slice B (x.2.2.2.2).length d]:=⟨A,c,B,d,H1,H2,rfl,rfl,ha,h1,h2⟩
theorem Av7 {x:ByteArray×Int×Int×Bg×TyA} {H:Ab} {cs:List Value} (h:Dr.own x H cs):∃ A c B d H1 H2,cs=[sv x.1,iv x.2.1,iv x.2.2.1,.slice A (x.2.2.2.1).length c,.slice B (x.2.2.2.2).length d]∧H=H1.or H2∧H1.Apart H2∧Ah Dv 78 3 H1 (.slice A (x.2.2.2.1).length c) (x.2.2.2.1)∧Ah e48 48 4 H2 (.slice B (x.2.2.2.2).length d) (x.2.2.2.2):=h
theorem MB {x:ByteArray×Int×Int×Bg×TyA} {H:Ab} {cs:List Value} (h:Dr.rd x H cs):∃ A c B d,cs=[sv x.1,iv x.2.1,iv x.2.2.1,.slice A (x.2.2.2.1).length c,.slice B (x.2.2.2.2).length d]∧Bl Dv 3 H (.slice A (x.2.2.2.1).length c) (x.2.2.2.1)∧Bl e48 4 H (.slice B (x.2.2.2.2).length d) (x.2.2.2.2):=h
theorem Ali:Gy Tryz.prog 81 3 1 8 Tryz.t3 (iv 0):=⟨by kernel_rfl,by kernel_rfl,by kernel_rfl,by kernel_rfl,by kernel_rfl,by kernel_rfl,by decide⟩
theorem Y7:Gy Tryz.prog 64 81 1 24 Tryz.t81 (nS):=⟨by kernel_rfl,by kernel_rfl,by kernel_rfl,by kernel_rfl,by kernel_rfl,by kernel_rfl,by decide⟩
structure GS where
 D4:Bg→TyA→ByteArray→Ae→Ae→TyL→Int→TyU→Int→ByteArray→Int→Int→List Tree→Option (TyA×Ae×TyL×Int×TyU)
 FM:Bg→TyA→ByteArray→Ae→Ae→TyL→Int→TyU→Int→ByteArray→Int→Int→List Tree→Option (TyA×Ae×TyL×Int×TyU)
 Dz:Bg→TyA→ByteArray→Ae→Ae→TyL→Int→TyU→Int→ByteArray→Int→Int→List Tree→Option (TyA×Ae×TyL×Int×TyU)
 DO:Bg→TyA→ByteArray→Ae→Ae→TyL→Int→TyU→List Tree→Option (TyA×Ae×TyL×Int×TyU)
 Gd:Bg→TyA→ByteArray→Ae→Ae→TyL→Int→TyU→Int→ByteArray→Int→Int→List Tree→Int→Option (TyA×Ae×TyL×Int×TyU)
 Ge:Bg→TyA→ByteArray→Ae→Ae→TyL→Int→TyU→Int→ByteArray→Int→Int→List Tree→Int→Int→Option (TyA×Ae×TyL×Int×TyU)
 FN:Bg→TyA→ByteArray→Ae→Ae→TyL→Int→TyU→Int→ByteArray→Int→Int→List Tree→Int→Option (TyA×Ae×TyL×Int×TyU)
 Ik:Bg→TyA→ByteArray→Ae→Ae→TyL→Int→TyU→Int→ByteArray→Int→Int→List Tree→Int→Option (TyA×Ae×TyL×Int×TyU)
 IC:ByteArray→Ae→Int→TyU→Int→ByteArray→Int→Int→List Tree→Option (Int×TyU)
def D4.C (fC:Bg→TyA→ByteArray→Ae→Ae→TyL→Int→TyU→Int→ByteArray→Int→Int→List Tree→Option (TyA×Ae×TyL×Int×TyU)):Prop:=∀ {Af:Bg} {At:TyA} {Bb Av:ByteArray} {Ai Am:Ae} {BD:TyL} {BW Ao Ap AF:Int} {BJ:TyU} {Ak:List Tree} {b0 AH Bt AD AT C8 AN AO CS Be:Nat} {Ay Az A2 AA Cg:Value} {CF B9 C5 BT Dn CY Cs G:Ab} {AG Bm AC AR C7 CR Bc:Aq} {r:TyA×Ae×TyL×Int×TyU} (h:fC Af At Bb Ai Am BD BW BJ Ao Av Ap AF Ak=some r) (Cu:Bl Dv 3 CF (Aa AG Af AH) Af) (Cj:Ah e48 48 4 B9 (Aa Bm At Bt) At) (Co:Bl encS 1 C5 (Aa AC Ai AD) Ai) (Ci:Ah encS 9 1 BT (Aa AR Am AT) Am) (Ep:AK E5 81 Dn (Aa C7 BD C8) BD) (DZ:AK (D5 Dr) 41 CY (Aa CR BJ CS) BJ) (BE:RdR (AX 54) Cs (Aa Bc Ak Be) Ak) (hG:EE G),Ct Tryz.prog 29 #[pt b0,.agg #[iv Ao,sv Av,iv Ap,iv AF,Aa Bc Ak Be]] [bk b0 #[Ay,Az,A2,Aa AG Af AH,Aa Bm At Bt,sv Bb,Aa AC Ai AD,AA,pt AN,pt AO,Aa AR Am AT,Aa C7 BD C8] 66,B9,BT,Dn,bk AN #[iv BW] 3,bk AO #[Aa CR BJ CS,Cg] 25,CY] [CF,C5,Cs,G] (fun e l1=>∃ (H0_:Ab) (A0_:Aq) (c0_:Nat) (H1_:Ab) (D1:Aq) (D3:Nat) (H2_:Ab) (A2_:Aq) (Ea:Nat) (H3_:Ab) (A3_:Aq) (Eb:Nat),Ah e48 48 4 H0_ (Aa A0_ r.1 c0_) r.1∧Ah encS 9 1 H1_ (Aa D1 r.2.1 D3) r.2.1∧AK E5 81 H2_ (Aa A2_ r.2.2.1 Ea) r.2.2.1∧AK (D5 Dr) 41 H3_ (Aa A3_ r.2.2.2.2 Eb) r.2.2.2.2∧e=.returned (.tuple #[])∧l1=[bk b0 #[Ay,Az,A2,Aa AG Af AH,Aa A0_ r.1 c0_,sv Bb,Aa AC Ai AD,AA,pt AN,pt AO,Aa D1 r.2.1 D3,Aa A2_ r.2.2.1 Ea] 66,H0_,H1_,H2_,bk AN #[iv r.2.2.2.1] 3,bk AO #[Aa A3_ r.2.2.2.2 Eb,Cg] 25,H3_])
def FM.C (fC:Bg→TyA→ByteArray→Ae→Ae→TyL→Int→TyU→Int→ByteArray→Int→Int→List Tree→Option (TyA×Ae×TyL×Int×TyU)):Prop:=∀ {Af:Bg} {At:TyA} {Bb Av:ByteArray} {Ai Am:Ae} {BD:TyL} {BW Ao Ap AF:Int} {BJ:TyU} {Ak:List Tree} {b0 AH Bt AD AT C8 AN AO CS Be:Nat} {Ay Az A2 AA Cg:Value} {CF B9 C5 BT Dn CY Cs G:Ab} {AG Bm AC AR C7 CR Bc:Aq} {r:TyA×Ae×TyL×Int×TyU} (h:fC Af At Bb Ai Am BD BW BJ Ao Av Ap AF Ak=some r) (Cu:Bl Dv 3 CF (Aa AG Af AH) Af) (Cj:Ah e48 48 4 B9 (Aa Bm At Bt) At) (Co:Bl encS 1 C5 (Aa AC Ai AD) Ai) (Ci:Ah encS 9 1 BT (Aa AR Am AT) Am) (Ep:AK E5 81 Dn (Aa C7 BD C8) BD) (DZ:AK (D5 Dr) 41 CY (Aa CR BJ CS) BJ) (BE:RdR (AX 54) Cs (Aa Bc Ak Be) Ak) (hG:EE G),Ct Tryz.prog 18 #[pt b0,.agg #[iv Ao,sv Av,iv Ap,iv AF,Aa Bc Ak Be]] [bk b0 #[Ay,Az,A2,Aa AG Af AH,Aa Bm At Bt,sv Bb,Aa AC Ai AD,AA,pt AN,pt AO,Aa AR Am AT,Aa C7 BD C8] 66,B9,BT,Dn,bk AN #[iv BW] 3,bk AO #[Aa CR BJ CS,Cg] 25,CY] [CF,C5,Cs,G] (fun e l1=>∃ (H0_:Ab) (A0_:Aq) (c0_:Nat) (H1_:Ab) (D1:Aq) (D3:Nat) (H2_:Ab) (A2_:Aq) (Ea:Nat) (H3_:Ab) (A3_:Aq) (Eb:Nat),Ah e48 48 4 H0_ (Aa A0_ r.1 c0_) r.1∧Ah encS 9 1 H1_ (Aa D1 r.2.1 D3) r.2.1∧AK E5 81 H2_ (Aa A2_ r.2.2.1 Ea) r.2.2.1∧AK (D5 Dr) 41 H3_ (Aa A3_ r.2.2.2.2 Eb) r.2.2.2.2∧e=.returned (.tuple #[])∧l1=[bk b0 #[Ay,Az,A2,Aa AG Af AH,Aa A0_ r.1 c0_,sv Bb,Aa AC Ai AD,AA,pt AN,pt AO,Aa D1 r.2.1 D3,Aa A2_ r.2.2.1 Ea] 66,H0_,H1_,H2_,bk AN #[iv r.2.2.2.1] 3,bk AO #[Aa A3_ r.2.2.2.2 Eb,Cg] 25,H3_])
def Dz.C (fC:Bg→TyA→ByteArray→Ae→Ae→TyL→Int→TyU→Int→ByteArray→Int→Int→List Tree→Option (TyA×Ae×TyL×Int×TyU)):Prop:=∀ {Af:Bg} {At:TyA} {Bb Av:ByteArray} {Ai Am:Ae} {BD:TyL} {BW Ao Ap AF:Int} {BJ:TyU} {Ak:List Tree} {b0 AH Bt AD AT C8 AN AO CS Be:Nat} {Ay Az A2 AA Cg:Value} {CF B9 C5 BT Dn CY Cs G:Ab} {AG Bm AC AR C7 CR Bc:Aq} {r:TyA×Ae×TyL×Int×TyU} (h:fC Af At Bb Ai Am BD BW BJ Ao Av Ap AF Ak=some r) (Cu:Bl Dv 3 CF (Aa AG Af AH) Af) (Cj:Ah e48 48 4 B9 (Aa Bm At Bt) At) (Co:Bl encS 1 C5 (Aa AC Ai AD) Ai) (Ci:Ah encS 9 1 BT (Aa AR Am AT) Am) (Ep:AK E5 81 Dn (Aa C7 BD C8) BD) (DZ:AK (D5 Dr) 41 CY (Aa CR BJ CS) BJ) (BE:RdR (AX 54) Cs (Aa Bc Ak Be) Ak) (hG:EE G),Ct Tryz.prog 47 #[pt b0,.agg #[iv Ao,sv Av,iv Ap,iv AF,Aa Bc Ak Be]] [bk b0 #[Ay,Az,A2,Aa AG Af AH,Aa Bm At Bt,sv Bb,Aa AC Ai AD,AA,pt AN,pt AO,Aa AR Am AT,Aa C7 BD C8] 66,B9,BT,Dn,bk AN #[iv BW] 3,bk AO #[Aa CR BJ CS,Cg] 25,CY] [CF,C5,Cs,G] (fun e l1=>∃ (H0_:Ab) (A0_:Aq) (c0_:Nat) (H1_:Ab) (D1:Aq) (D3:Nat) (H2_:Ab) (A2_:Aq) (Ea:Nat) (H3_:Ab) (A3_:Aq) (Eb:Nat),Ah e48 48 4 H0_ (Aa A0_ r.1 c0_) r.1∧Ah encS 9 1 H1_ (Aa D1 r.2.1 D3) r.2.1∧AK E5 81 H2_ (Aa A2_ r.2.2.1 Ea) r.2.2.1∧AK (D5 Dr) 41 H3_ (Aa A3_ r.2.2.2.2 Eb) r.2.2.2.2∧e=.returned (.tuple #[])∧l1=[bk b0 #[Ay,Az,A2,Aa AG Af AH,Aa A0_ r.1 c0_,sv Bb,Aa AC Ai AD,AA,pt AN,pt AO,Aa D1 r.2.1 D3,Aa A2_ r.2.2.1 Ea] 66,H0_,H1_,H2_,bk AN #[iv r.2.2.2.1] 3,bk AO #[Aa A3_ r.2.2.2.2 Eb,Cg] 25,H3_])
def DO.C (fC:Bg→TyA→ByteArray→Ae→Ae→TyL→Int→TyU→List Tree→Option (TyA×Ae×TyL×Int×TyU)):Prop:=∀ {Af:Bg} {At:TyA} {Bb:ByteArray} {Ai Am:Ae} {BD:TyL} {BW:Int} {BJ:TyU} {a1:List Tree} {b0 AH Bt AD AT C8 AN AO CS C6:Nat} {Ay Az A2 AA Cg:Value} {CF B9 C5 BT Dn CY DY G:Ab} {AG Bm AC AR C7 CR C4:Aq} {r:TyA×Ae×TyL×Int×TyU} (h:fC Af At Bb Ai Am BD BW BJ a1=some r) (Cu:Bl Dv 3 CF (Aa AG Af AH) Af) (Cj:Ah e48 48 4 B9 (Aa Bm At Bt) At) (Co:Bl encS 1 C5 (Aa AC Ai AD) Ai) (Ci:Ah encS 9 1 BT (Aa AR Am AT) Am) (Ep:AK E5 81 Dn (Aa C7 BD C8) BD) (DZ:AK (D5 Dr) 41 CY (Aa CR BJ CS) BJ) (Fk:RdR (AX 54) DY (Aa C4 a1 C6) a1) (hG:EE G),Ct Tryz.prog 75 #[pt b0,Aa C4 a1 C6] [bk b0 #[Ay,Az,A2,Aa AG Af AH,Aa Bm At Bt,sv Bb,Aa AC Ai AD,AA,pt AN,pt AO,Aa AR Am AT,Aa C7 BD C8] 66,B9,BT,Dn,bk AN #[iv BW] 3,bk AO #[Aa CR BJ CS,Cg] 25,CY] [CF,C5,DY,G] (fun e l1=>∃ (H0_:Ab) (A0_:Aq) (c0_:Nat) (H1_:Ab) (D1:Aq) (D3:Nat) (H2_:Ab) (A2_:Aq) (Ea:Nat) (H3_:Ab) (A3_:Aq) (Eb:Nat),Ah e48 48 4 H0_ (Aa A0_ r.1 c0_) r.1∧Ah encS 9 1 H1_ (Aa D1 r.2.1 D3) r.2.1∧AK E5 81 H2_ (Aa A2_ r.2.2.1 Ea) r.2.2.1∧AK (D5 Dr) 41 H3_ (Aa A3_ r.2.2.2.2 Eb) r.2.2.2.2∧e=.returned (.tuple #[])∧l1=[bk b0 #[Ay,Az,A2,Aa AG Af AH,Aa A0_ r.1 c0_,sv Bb,Aa AC Ai AD,AA,pt AN,pt AO,Aa D1 r.2.1 D3,Aa A2_ r.2.2.1 Ea] 66,H0_,H1_,H2_,bk AN #[iv r.2.2.2.1] 3,bk AO #[Aa A3_ r.2.2.2.2 Eb,Cg] 25,H3_])
def Gd.C (fC:Bg→TyA→ByteArray→Ae→Ae→TyL→Int→TyU→Int→ByteArray→Int→Int→List Tree→Int→Option (TyA×Ae×TyL×Int×TyU)):Prop:=∀ {Af:Bg} {At:TyA} {Bb Av:ByteArray} {Ai Am:Ae} {BD:TyL} {BW Ao Ap AF Ey:Int} {BJ:TyU} {Ak:List Tree} {b0 AH Bt AD AT C8 AN AO CS Be Ez E0:Nat} {Ay Az A2 AA Cg:Value} {CF B9 C5 BT Dn CY Cs G:Ab} {AG Bm AC AR C7 CR Bc:Aq} {r:TyA×Ae×TyL×Int×TyU} (h:fC Af At Bb Ai Am BD BW BJ Ao Av Ap AF Ak Ey=some r) (Cu:Bl Dv 3 CF (Aa AG Af AH) Af) (Cj:Ah e48 48 4 B9 (Aa Bm At Bt) At) (Co:Bl encS 1 C5 (Aa AC Ai AD) Ai) (Ci:Ah encS 9 1 BT (Aa AR Am AT) Am) (Ep:AK E5 81 Dn (Aa C7 BD C8) BD) (DZ:AK (D5 Dr) 41 CY (Aa CR BJ CS) BJ) (BE:RdR (AX 54) Cs (Aa Bc Ak Be) Ak) (hG:EE G),Ct Tryz.prog 78 #[pt b0,.agg #[iv Ao,sv Av,iv Ap,iv AF,Aa Bc Ak Be],.func (.func 79) #[] #[pt Ez,pt E0]] [bk b0 #[Ay,Az,A2,Aa AG Af AH,Aa Bm At Bt,sv Bb,Aa AC Ai AD,AA,pt AN,pt AO,Aa AR Am AT,Aa C7 BD C8] 66,B9,BT,Dn,bk AN #[iv BW] 3,bk AO #[Aa CR BJ CS,Cg] 25,CY,bk Ez #[pt b0] 61,bk E0 #[iv Ey] 3] [CF,C5,Cs,G] (fun e l1=>∃ (H0_:Ab) (A0_:Aq) (c0_:Nat) (H1_:Ab) (D1:Aq) (D3:Nat) (H2_:Ab) (A2_:Aq) (Ea:Nat) (H3_:Ab) (A3_:Aq) (Eb:Nat),Ah e48 48 4 H0_ (Aa A0_ r.1 c0_) r.1∧Ah encS 9 1 H1_ (Aa D1 r.2.1 D3) r.2.1∧AK E5 81 H2_ (Aa A2_ r.2.2.1 Ea) r.2.2.1∧AK (D5 Dr) 41 H3_ (Aa A3_ r.2.2.2.2 Eb) r.2.2.2.2∧e=.returned (.tuple #[])∧l1=[bk b0 #[Ay,Az,A2,Aa AG Af AH,Aa A0_ r.1 c0_,sv Bb,Aa AC Ai AD,AA,pt AN,pt AO,Aa D1 r.2.1 D3,Aa A2_ r.2.2.1 Ea] 66,H0_,H1_,H2_,bk AN #[iv r.2.2.2.1] 3,bk AO #[Aa A3_ r.2.2.2.2 Eb,Cg] 25,H3_,bk Ez #[pt b0] 61,bk E0 #[iv Ey] 3])
def Ge.C (fC:Bg→TyA→ByteArray→Ae→Ae→TyL→Int→TyU→Int→ByteArray→Int→Int→List Tree→Int→Int→Option (TyA×Ae×TyL×Int×TyU)):Prop:=∀ {Af:Bg} {At:TyA} {Bb Av:ByteArray} {Ai Am:Ae} {BD:TyL} {BW Ao Ap AF Ey Lw:Int} {BJ:TyU} {Ak:List Tree} {b0 AH Bt AD AT C8 AN AO CS Be Ez E0 L0:Nat} {Ay Az A2 AA Cg:Value} {CF B9 C5 BT Dn CY Cs G:Ab} {AG Bm AC AR C7 CR Bc:Aq} {r:TyA×Ae×TyL×Int×TyU} (h:fC Af At Bb Ai Am BD BW BJ Ao Av Ap AF Ak Ey Lw=some r) (Cu:Bl Dv 3 CF (Aa AG Af AH) Af) (Cj:Ah e48 48 4 B9 (Aa Bm At Bt) At) (Co:Bl encS 1 C5 (Aa AC Ai AD) Ai) (Ci:Ah encS 9 1 BT (Aa AR Am AT) Am) (Ep:AK E5 81 Dn (Aa C7 BD C8) BD) (DZ:AK (D5 Dr) 41 CY (Aa CR BJ CS) BJ) (BE:RdR (AX 54) Cs (Aa Bc Ak Be) Ak) (hG:EE G),Ct Tryz.prog 78 #[pt b0,.agg #[iv Ao,sv Av,iv Ap,iv AF,Aa Bc Ak Be],.func (.func 82) #[] #[pt Ez,pt E0,pt L0]] [bk b0 #[Ay,Az,A2,Aa AG Af AH,Aa Bm At Bt,sv Bb,Aa AC Ai AD,AA,pt AN,pt AO,Aa AR Am AT,Aa C7 BD C8] 66,B9,BT,Dn,bk AN #[iv BW] 3,bk AO #[Aa CR BJ CS,Cg] 25,CY,bk Ez #[pt b0] 61,bk E0 #[iv Ey] 3,bk L0 #[iv Lw] 3] [CF,C5,Cs,G] (fun e l1=>∃ (H0_:Ab) (A0_:Aq) (c0_:Nat) (H1_:Ab) (D1:Aq) (D3:Nat) (H2_:Ab) (A2_:Aq) (Ea:Nat) (H3_:Ab) (A3_:Aq) (Eb:Nat),Ah e48 48 4 H0_ (Aa A0_ r.1 c0_) r.1∧Ah encS 9 1 H1_ (Aa D1 r.2.1 D3) r.2.1∧AK E5 81 H2_ (Aa A2_ r.2.2.1 Ea) r.2.2.1∧AK (D5 Dr) 41 H3_ (Aa A3_ r.2.2.2.2 Eb) r.2.2.2.2∧e=.returned (.tuple #[])∧l1=[bk b0 #[Ay,Az,A2,Aa AG Af AH,Aa A0_ r.1 c0_,sv Bb,Aa AC Ai AD,AA,pt AN,pt AO,Aa D1 r.2.1 D3,Aa A2_ r.2.2.1 Ea] 66,H0_,H1_,H2_,bk AN #[iv r.2.2.2.1] 3,bk AO #[Aa A3_ r.2.2.2.2 Eb,Cg] 25,H3_,bk Ez #[pt b0] 61,bk E0 #[iv Ey] 3,bk L0 #[iv Lw] 3])
def FN.C (fC:Bg→TyA→ByteArray→Ae→Ae→TyL→Int→TyU→Int→ByteArray→Int→Int→List Tree→Int→Option (TyA×Ae×TyL×Int×TyU)):Prop:=∀ {Af:Bg} {At:TyA} {Bb Av:ByteArray} {Ai Am:Ae} {BD:TyL} {BW Ao Ap AF Ey:Int} {BJ:TyU} {Ak:List Tree} {b0 AH Bt AD AT C8 AN AO CS Be Ez E0:Nat} {Ay Az A2 AA Cg:Value} {CF B9 C5 BT Dn CY Cs G:Ab} {AG Bm AC AR C7 CR Bc:Aq} {r:TyA×Ae×TyL×Int×TyU} (h:fC Af At Bb Ai Am BD BW BJ Ao Av Ap AF Ak Ey=some r) (Cu:Bl Dv 3 CF (Aa AG Af AH) Af) (Cj:Ah e48 48 4 B9 (Aa Bm At Bt) At) (Co:Bl encS 1 C5 (Aa AC Ai AD) Ai) (Ci:Ah encS 9 1 BT (Aa AR Am AT) Am) (Ep:AK E5 81 Dn (Aa C7 BD C8) BD) (DZ:AK (D5 Dr) 41 CY (Aa CR BJ CS) BJ) (BE:RdR (AX 54) Cs (Aa Bc Ak Be) Ak) (hG:EE G),Ct Tryz.prog 78 #[pt b0,.agg #[iv Ao,sv Av,iv Ap,iv AF,Aa Bc Ak Be],.func (.func 112) #[] #[pt Ez,pt E0]] [bk b0 #[Ay,Az,A2,Aa AG Af AH,Aa Bm At Bt,sv Bb,Aa AC Ai AD,AA,pt AN,pt AO,Aa AR Am AT,Aa C7 BD C8] 66,B9,BT,Dn,bk AN #[iv BW] 3,bk AO #[Aa CR BJ CS,Cg] 25,CY,bk Ez #[pt b0] 61,bk E0 #[iv Ey] 3] [CF,C5,Cs,G] (fun e l1=>∃ (H0_:Ab) (A0_:Aq) (c0_:Nat) (H1_:Ab) (D1:Aq) (D3:Nat) (H2_:Ab) (A2_:Aq) (Ea:Nat) (H3_:Ab) (A3_:Aq) (Eb:Nat),Ah e48 48 4 H0_ (Aa A0_ r.1 c0_) r.1∧Ah encS 9 1 H1_ (Aa D1 r.2.1 D3) r.2.1∧AK E5 81 H2_ (Aa A2_ r.2.2.1 Ea) r.2.2.1∧AK (D5 Dr) 41 H3_ (Aa A3_ r.2.2.2.2 Eb) r.2.2.2.2∧e=.returned (.tuple #[])∧l1=[bk b0 #[Ay,Az,A2,Aa AG Af AH,Aa A0_ r.1 c0_,sv Bb,Aa AC Ai AD,AA,pt AN,pt AO,Aa D1 r.2.1 D3,Aa A2_ r.2.2.1 Ea] 66,H0_,H1_,H2_,bk AN #[iv r.2.2.2.1] 3,bk AO #[Aa A3_ r.2.2.2.2 Eb,Cg] 25,H3_,bk Ez #[pt b0] 61,bk E0 #[iv Ey] 3])
def Ik.C (fC:Bg→TyA→ByteArray→Ae→Ae→TyL→Int→TyU→Int→ByteArray→Int→Int→List Tree→Int→Option (TyA×Ae×TyL×Int×TyU)):Prop:=∀ {Af:Bg} {At:TyA} {Bb Av:ByteArray} {Ai Am:Ae} {BD:TyL} {BW Ao Ap AF a2:Int} {BJ:TyU} {Ak:List Tree} {b0 AH Bt AD AT C8 AN AO CS Be:Nat} {Ay Az A2 AA Cg:Value} {CF B9 C5 BT Dn CY Cs G:Ab} {AG Bm AC AR C7 CR Bc:Aq} {r:TyA×Ae×TyL×Int×TyU} (h:fC Af At Bb Ai Am BD BW BJ Ao Av Ap AF Ak a2=some r) (Cu:Bl Dv 3 CF (Aa AG Af AH) Af) (Cj:Ah e48 48 4 B9 (Aa Bm At Bt) At) (Co:Bl encS 1 C5 (Aa AC Ai AD) Ai) (Ci:Ah encS 9 1 BT (Aa AR Am AT) Am) (Ep:AK E5 81 Dn (Aa C7 BD C8) BD) (DZ:AK (D5 Dr) 41 CY (Aa CR BJ CS) BJ) (BE:RdR (AX 54) Cs (Aa Bc Ak Be) Ak) (hG:EE G),Ct Tryz.prog 84 #[pt b0,.agg #[iv Ao,sv Av,iv Ap,iv AF,Aa Bc Ak Be],iv a2] [bk b0 #[Ay,Az,A2,Aa AG Af AH,Aa Bm At Bt,sv Bb,Aa AC Ai AD,AA,pt AN,pt AO,Aa AR Am AT,Aa C7 BD C8] 66,B9,BT,Dn,bk AN #[iv BW] 3,bk AO #[Aa CR BJ CS,Cg] 25,CY] [CF,C5,Cs,G] (fun e l1=>∃ (H0_:Ab) (A0_:Aq) (c0_:Nat) (H1_:Ab) (D1:Aq) (D3:Nat) (H2_:Ab) (A2_:Aq) (Ea:Nat) (H3_:Ab) (A3_:Aq) (Eb:Nat),Ah e48 48 4 H0_ (Aa A0_ r.1 c0_) r.1∧Ah encS 9 1 H1_ (Aa D1 r.2.1 D3) r.2.1∧AK E5 81 H2_ (Aa A2_ r.2.2.1 Ea) r.2.2.1∧AK (D5 Dr) 41 H3_ (Aa A3_ r.2.2.2.2 Eb) r.2.2.2.2∧e=.returned (.tuple #[])∧l1=[bk b0 #[Ay,Az,A2,Aa AG Af AH,Aa A0_ r.1 c0_,sv Bb,Aa AC Ai AD,AA,pt AN,pt AO,Aa D1 r.2.1 D3,Aa A2_ r.2.2.1 Ea] 66,H0_,H1_,H2_,bk AN #[iv r.2.2.2.1] 3,bk AO #[Aa A3_ r.2.2.2.2 Eb,Cg] 25,H3_])
def IC.C (fC:ByteArray→Ae→Int→TyU→Int→ByteArray→Int→Int→List Tree→Option (Int×TyU)):Prop:=∀ {Bb Av:ByteArray} {Ai:Ae} {BW Ao Ap AF:Int} {BJ:TyU} {Ak:List Tree} {b0 AD AN AO CS Be:Nat} {Ay Az A2 DC EP AA FW Bk Cg:Value} {C5 CY Cs G:Ab} {AC CR Bc:Aq} {r:Int×TyU} (h:fC Bb Ai BW BJ Ao Av Ap AF Ak=some r) (Co:Bl encS 1 C5 (Aa AC Ai AD) Ai) (DZ:AK (D5 Dr) 41 CY (Aa CR BJ CS) BJ) (BE:RdR (AX 54) Cs (Aa Bc Ak Be) Ak) (hG:EE G),Ct Tryz.prog 87 #[pt b0,.agg #[iv Ao,sv Av,iv Ap,iv AF,Aa Bc Ak Be]] [bk b0 #[Ay,Az,A2,DC,EP,sv Bb,Aa AC Ai AD,AA,pt AN,pt AO,FW,Bk] 66,bk AN #[iv BW] 3,bk AO #[Aa CR BJ CS,Cg] 25,CY] [C5,Cs,G] (fun e l1=>∃ (H0_:Ab) (A0_:Aq) (c0_:Nat),AK (D5 Dr) 41 H0_ (Aa A0_ r.2 c0_) r.2∧e=.returned (.tuple #[])∧l1=[bk b0 #[Ay,Az,A2,DC,EP,sv Bb,Aa AC Ai AD,AA,pt AN,pt AO,FW,Bk] 66,bk AN #[iv r.1] 3,bk AO #[Aa A0_ r.2 c0_,Cg] 25,H0_])
structure GS.Good (R:GS):Prop where
 D4:D4.C R.D4
 FM:FM.C R.FM
 Dz:Dz.C R.Dz
 DO:DO.C R.DO
 Gd:Gd.C R.Gd
 Ge:Ge.C R.Ge
 FN:FN.C R.FN
 Ik:Ik.C R.Ik
 IC:IC.C R.IC
def D4.l0:Nat→(Rc:GS)→(Af:Bg)→(Bb:ByteArray)→(Ai:Ae)→(Ak:List Tree)→(NL:TyA→Ae→TyL→Int→TyU→Option (TyA×Ae×TyL×Int×TyU))→(x26:Int)→(l27:TyA)→(l32:Ae)→(l37:TyL)→(x42:Int)→(EI:TyU)→Option (TyA×Ae×TyL×Int×TyU)
 | 0,_,_,_,_,_,_,_,_,_,_,_,_=>none
 | m48+1,Rc,Af,Bb,Ai,Ak,NL,x26,l27,l32,l37,x42,EI=>cond (decide (x26 < ((Ak.length:Nat):Int))) ((Bh Ak x26).bind fun x50=>(Jk.f m48 Bb x50.at_).bind fun r60=>(BA.f m48 l27 1 ([r60.1])).bind fun r62=>(Rc.Dz Af r62.2 Bb Ai l32 l37 x42 EI x50.kind x50.text x50.n x50.at_ x50.kids).bind fun Fc=>D4.l0 m48 Rc Af Bb Ai Ak NL (IntKind.i64.wrap (x26+1)) Fc.1 Fc.2.1 Fc.2.2.1 Fc.2.2.2.1 Fc.2.2.2.2) (NL l27 l32 l37 x42 EI)
def D4.g (Rc:GS) (k:Nat) (Af:Bg) (At:TyA) (Bb:ByteArray) (Ai:Ae) (Am:Ae) (BD:TyL) (BW:Int) (BJ:TyU) (Ao:Int) (Av:ByteArray) (Ap:Int) (AF:Int) (Ak:List Tree):Option (TyA×Ae×TyL×Int×TyU):=BG (fun (l2:TyA) (l7:Ae) (l12:TyL) (x17:Int) (l18:TyU)=>(DR l7 0 ((Am.length:Nat):Int)).bind fun l24=>some (l2,l24,l12,x17,l18)) (fun NL=>D4.l0 k Rc Af Bb Ai Ak NL 0 At Am BD BW BJ)
theorem D4.C2 {Rc:GS} (hR:Rc.Good) {k:Nat}:D4.C (D4.g Rc k):=by
 intro Af At Bb Av Ai Am BD BW Ao Ap AF BJ Ak b0 AH Bt AD AT C8 AN AO CS Be Ay Az A2 AA Cg CF B9 C5 BT Dn CY Cs G AG Bm AC AR C7 CR Bc r h Cu Cj Co Ci Ep DZ BE hG
 refine C3 (args:=[pt b0,.agg #[iv Ao,sv Av,iv Ap,iv AF,Aa Bc Ak Be]]) Tryz.func29 rfl (By rfl) ?_
 intro A X hh_
 obtain ⟨CU,CJ,BC,BU,_⟩:=hh_
 unfold D4.g at h
 refine K.eq (env':=[(0,pt b0),(1,.agg #[iv Ao,sv Av,iv Ap,iv AF,Aa Bc Ak Be])]) (l':=bk b0 #[Ay,Az,A2,Aa AG Af AH,Aa Bm At Bt,sv Bb,Aa AC Ai AD,AA,pt AN,pt AO,Aa AR Am AT,Aa C7 BD C8] 66 :: B9 :: BT :: Dn :: bk AN #[iv BW] 3 :: bk AO #[Aa CR BJ CS,Cg] 25 :: CY :: X) rfl rfl (ksr (knp #[iv Ao,sv Av,iv Ap,iv AF,Aa Bc Ak Be] 54 fun b1=>(Ba (kx 3 (kld 1 10 rfl (kx 2 (Ad ?_)))))))
 obtain ⟨NL,Ban,h⟩:=De h
 refine Df (τ:=TyA×Ae×TyL×Int×TyU×Ab×Aq×Nat×Ab×Aq×Nat×Ab×Aq×Nat×Ab×Aq×Nat) (fun t=>[(0,pt b0),(4,iv ((Am.length:Nat):Int))]) (fun t=>bk b0 #[Ay,Az,A2,Aa AG Af AH,Aa t.2.2.2.2.2.2.1 t.1 t.2.2.2.2.2.2.2.1,sv Bb,Aa AC Ai AD,AA,pt AN,pt AO,Aa t.2.2.2.2.2.2.2.2.2.1 t.2.1 t.2.2.2.2.2.2.2.2.2.2.1,Aa t.2.2.2.2.2.2.2.2.2.2.2.2.1 t.2.2.1 t.2.2.2.2.2.2.2.2.2.2.2.2.2.1] 66 :: bk AN #[iv t.2.2.2.1] 3 :: bk AO #[Aa t.2.2.2.2.2.2.2.2.2.2.2.2.2.2.2.1 t.2.2.2.2.1 t.2.2.2.2.2.2.2.2.2.2.2.2.2.2.2.2,Cg] 25 :: t.2.2.2.2.2.1 :: t.2.2.2.2.2.2.2.2.1 :: t.2.2.2.2.2.2.2.2.2.2.2.1 :: t.2.2.2.2.2.2.2.2.2.2.2.2.2.2.1 :: X) (fun t=>NL t.1 t.2.1 t.2.2.1 t.2.2.2.1 t.2.2.2.2.1=some r∧Ah e48 48 4 t.2.2.2.2.2.1 (Aa t.2.2.2.2.2.2.1 t.1 t.2.2.2.2.2.2.2.1) t.1∧Ah encS 9 1 t.2.2.2.2.2.2.2.2.1 (Aa t.2.2.2.2.2.2.2.2.2.1 t.2.1 t.2.2.2.2.2.2.2.2.2.2.1) t.2.1∧AK E5 81 t.2.2.2.2.2.2.2.2.2.2.2.1 (Aa t.2.2.2.2.2.2.2.2.2.2.2.2.1 t.2.2.1 t.2.2.2.2.2.2.2.2.2.2.2.2.2.1) t.2.2.1∧AK (D5 Dr) 41 t.2.2.2.2.2.2.2.2.2.2.2.2.2.2.1 (Aa t.2.2.2.2.2.2.2.2.2.2.2.2.2.2.2.1 t.2.2.2.2.1 t.2.2.2.2.2.2.2.2.2.2.2.2.2.2.2.2) t.2.2.2.2.1) ?_ ?_
 ·rintro ⟨l2,l7,l12,x17,l18,h3,A4,k5,h8,A9,k10,h13,Hf,k15,h19,A20,k21⟩ ⟨h,o6,HU,o16,GU⟩
  subst Ban
  refine Bu (kx 4 (kld 0 10 rfl (kx 1 (bnd h fun l24 Bb6 h=>(Arz (T:=9) (sz:=1) (k:=.i64) (xs:=l7) ((Am.length:Nat):Int) Jp rfl (by kernel_rfl) (by kernel_rfl) (by kernel_rfl) (by kernel_rfl) (by kernel_rfl) (by kernel_rfl) Bb6 HU fun Hc=>(kx 2 (AQ 10 1 #[Ay,Az,A2,Aa AG Af AH,Aa A4 l2 k5,sv Bb,Aa AC Ai AD,AA,pt AN,pt AO,Aa A9 l24 k10,Aa Hf l12 k15] (knl (Cw ?_)))))))))
  obtain rfl:=As h
  exact kdv (.tuple #[]) [bk b0 #[Ay,Az,A2,Aa AG Af AH,Aa A4 l2 k5,sv Bb,Aa AC Ai AD,AA,pt AN,pt AO,Aa A9 l24 k10,Aa Hf l12 k15] 66,h3,h8,h13,bk AN #[iv x17] 3,bk AO #[Aa A20 l18 k21,Cg] 25,h19] (K.mv6 (K.mv3 (K.mv3 (K.mv6 (K.mv6 (K.mv6 (K.mv6 (BH ⟨h3,A4,k5,h8,A9,k10,h13,Hf,k15,h19,A20,k21,o6,Hc,o16,GU,rfl,rfl⟩))))))))
 ·skip
  refine ksr (kx 1 (kld 0 4 rfl (K.drop (kx 2 (Ad (C1 (K.mv6 (K.Bx (K.Bx (K.Bx ?_))))))))))
  refine K.mv6 (K.mv6 (K.mv6 (Fx (τ:=Int×TyA×Ae×TyL×Int×TyU×Ab×Aq×Nat×Ab×Aq×Nat×Ab×Aq×Nat×Ab×Aq×Nat) (fun t=>[(0,pt b0),(4,iv ((Am.length:Nat):Int)),(16,Aa Bc Ak Be),(17,iv ((Ak.length:Nat):Int)),(18,iv t.1)]) (fun t=>bk b0 #[Ay,Az,A2,Aa AG Af AH,Aa t.2.2.2.2.2.2.2.1 t.2.1 t.2.2.2.2.2.2.2.2.1,sv Bb,Aa AC Ai AD,AA,pt AN,pt AO,Aa t.2.2.2.2.2.2.2.2.2.2.1 t.2.2.1 t.2.2.2.2.2.2.2.2.2.2.2.1,Aa t.2.2.2.2.2.2.2.2.2.2.2.2.2.1 t.2.2.2.1 t.2.2.2.2.2.2.2.2.2.2.2.2.2.2.1] 66 :: bk AN #[iv t.2.2.2.2.1] 3 :: bk AO #[Aa t.2.2.2.2.2.2.2.2.2.2.2.2.2.2.2.2.1 t.2.2.2.2.2.1 t.2.2.2.2.2.2.2.2.2.2.2.2.2.2.2.2.2,Cg] 25 :: t.2.2.2.2.2.2.1 :: t.2.2.2.2.2.2.2.2.2.1 :: t.2.2.2.2.2.2.2.2.2.2.2.2.1 :: t.2.2.2.2.2.2.2.2.2.2.2.2.2.2.2.1 :: X) (fun m t=>D4.l0 m Rc Af Bb Ai Ak NL t.1 t.2.1 t.2.2.1 t.2.2.2.1 t.2.2.2.2.1 t.2.2.2.2.2.1=some r∧Ah e48 48 4 t.2.2.2.2.2.2.1 (Aa t.2.2.2.2.2.2.2.1 t.2.1 t.2.2.2.2.2.2.2.2.1) t.2.1∧Ah encS 9 1 t.2.2.2.2.2.2.2.2.2.1 (Aa t.2.2.2.2.2.2.2.2.2.2.1 t.2.2.1 t.2.2.2.2.2.2.2.2.2.2.2.1) t.2.2.1∧AK E5 81 t.2.2.2.2.2.2.2.2.2.2.2.2.1 (Aa t.2.2.2.2.2.2.2.2.2.2.2.2.2.1 t.2.2.2.1 t.2.2.2.2.2.2.2.2.2.2.2.2.2.2.1) t.2.2.2.1∧AK (D5 Dr) 41 t.2.2.2.2.2.2.2.2.2.2.2.2.2.2.2.1 (Aa t.2.2.2.2.2.2.2.2.2.2.2.2.2.2.2.2.1 t.2.2.2.2.2.1 t.2.2.2.2.2.2.2.2.2.2.2.2.2.2.2.2.2) t.2.2.2.2.2.1) k (0,At,Am,BD,BW,BJ,B9,Bm,Bt,BT,AR,AT,Dn,C7,C8,CY,CR,CS) ⟨h,Cj,Ci,Ep,DZ⟩ sb rfl ?_)))
  clear h
  rintro m48 ⟨x26,l27,l32,l37,x42,EI,h28,A29,k30,h33,A34,GD,h38,A39,K4,h44,MO,Ns⟩ ⟨h,Hd,Jj,o41,Ol⟩
  cases m48 with
  | zero=>simp [D4.l0] at h
  | succ m48 =>
   simp only [D4.l0] at h
   refine ksr (kx 1 (Ad (B8 ?_)))
   refine AU h (fun h=>?_) fun h=>?_
   ·refine BV (AM (B8 (C1 (ksr (bnd h fun x50 Bhm h=>(DI (T:=54) (kd:=.i64) (R:=(AX 54)) rfl Bhm BE fun p51 u54 q55 e52 y53=>?_))))))
    obtain ⟨U_,Wb,rfl,o58⟩:=DF 54 q55
    refine Fq rfl e52 (t7 BC) (knp #[iv 0,sv noS,iv 0,iv 0,nS] 54 fun b59=>(AQ 0 5 #[iv x50.kind,sv x50.text,iv x50.n,iv x50.at_,Aa U_ x50.kids Wb] (Ad (B8 (kpr [(0,0),(1,0),(2,0),(3,3),(4,0),(5,3),(6,2),(7,0),(8,0),(9,0),(10,0)] [0,1] (Ar 3 (AP 1 5 rfl (Ar 1 (AP 0 3 rfl (Bk0 ?_))))))))))
    refine bnd h fun r60 Po h=>(ocv (Jk.ok Po) trivial (Ar 4 (Ca (kx 3 (Ba (kx 2 (Dh #[iv r60.1] 3 1 fun NR=>(K.mv5 (K.mv3 (bnd h fun r62 Pp h=>?_))))))))))
    refine Bz (BA.ok Pp Hd (Ah.rd (Ah.blk 3 (Ec .i64) NR [r60.1] #[iv r60.1] 1 (by kernel_rfl) rfl (by decide)))) rfl ⟨(.head _),trivial⟩ ?_
    rintro _ _ ⟨h63,A64,k65,o66,rfl,rfl⟩
    refine Bi (K.Al (K.drop (FG (kx 1 (CV 2 0 5 rfl (K.Al (K.drop (K.mv6 (K.Bx (K.Bx ?_))))))))))
    refine K.mv6 (K.mv6 (K.mv6 (K.mv6 (bnd h fun Fc Ni h=>(Bz (hR.Dz Ni Cu o66 Co Jj o41 Ol o58 hG) rfl ⟨CU,CJ,BC,BU,trivial⟩ ?_)))))
    rintro _ _ ⟨h68,A69,k70,h72,A73,k74,h76,Vb,Wc,h80,XO,k82,N4,o75,o79,o83,rfl,rfl⟩
    refine E4 (knl (B7 (AM (Bu (kx 2 (Ad (K.mv6 (K.Bx (K.Bx (K.Bx ?_))))))))))
    exact K.mv6 (K.mv6 (K.mv6 (E3 m48 (IntKind.i64.wrap (x26+1),Fc.1,Fc.2.1,Fc.2.2.1,Fc.2.2.2.1,Fc.2.2.2.2,h68,A69,k70,h72,A73,k74,h76,Vb,Wc,h80,XO,k82) (Nat.lt_succ_self _) ⟨h,N4,o75,o79,o83⟩ sb rfl)))
   ·exact Fv (Dg (Dg (Fw (AM (B4 (l27,l32,l37,x42,EI,h28,A29,k30,h33,A34,GD,h38,A39,K4,h44,MO,Ns) ⟨h,Hd,Jj,o41,Ol⟩ sb rfl)))))
def FM.g (Rc:GS) (k:Nat) (Af:Bg) (At:TyA) (Bb:ByteArray) (Ai:Ae) (Am:Ae) (BD:TyL) (BW:Int) (BJ:TyU) (Ao:Int) (Av:ByteArray) (Ap:Int) (AF:Int) (Ak:List Tree):Option (TyA×Ae×TyL×Int×TyU):=(Rc.D4 Af At Bb Ai Am BD BW BJ Ao Av Ap AF Ak).bind fun r2=>(BA.f k r2.1 22 ([])).bind fun r19=>(BA.f k r19.2 25 ([])).bind fun FB=>some (FB.2,r2.2.1,r2.2.2.1,r2.2.2.2.1,r2.2.2.2.2)
theorem FM.C2 {Rc:GS} (hR:Rc.Good) {k:Nat}:FM.C (FM.g Rc k):=by
 intro Af At Bb Av Ai Am BD BW Ao Ap AF BJ Ak b0 AH Bt AD AT C8 AN AO CS Be Ay Az A2 AA Cg CF B9 C5 BT Dn CY Cs G AG Bm AC AR C7 CR Bc r h Cu Cj Co Ci Ep DZ BE hG
 refine C3 (args:=[pt b0,.agg #[iv Ao,sv Av,iv Ap,iv AF,Aa Bc Ak Be]]) Tryz.func18 rfl (By rfl) ?_
 intro A X hh_
 obtain ⟨CU,CJ,BC,BU,_⟩:=hh_
 unfold FM.g at h
 refine K.eq (env':=[(0,pt b0),(1,.agg #[iv Ao,sv Av,iv Ap,iv AF,Aa Bc Ak Be])]) (l':=bk b0 #[Ay,Az,A2,Aa AG Af AH,Aa Bm At Bt,sv Bb,Aa AC Ai AD,AA,pt AN,pt AO,Aa AR Am AT,Aa C7 BD C8] 66 :: B9 :: BT :: Dn :: bk AN #[iv BW] 3 :: bk AO #[Aa CR BJ CS,Cg] 25 :: CY :: X) rfl rfl (ksr (knp #[iv Ao,sv Av,iv Ap,iv AF,Aa Bc Ak Be] 54 fun b1=>(Ba (kx 1 (CV 0 0 5 rfl (K.drop (K.mv6 (K.mv6 (K.mv6 (K.mv6 ?_))))))))))
 refine K.mv6 (K.mv6 (K.mv6 (bnd h fun r2 hr2 h=>(Bz (hR.D4 hr2 Cu Cj Co Ci Ep DZ BE hG) rfl ⟨CU,CJ,BC,BU,trivial⟩ ?_))))
 rintro _ _ ⟨h3,A4,k5,h7,A8,k9,h11,A12,k13,h15,F6,k17,o6,o10,JP,JQ,rfl,rfl⟩
 refine E4 (Ba (kx 1 (Dl (K.Al (K.Al (bnd h fun r19 hr19 h=>(Bz (BA.ok hr19 o6 (Bl.nil (encI .i64) 1 none_)) rfl ⟨(.head _),trivial⟩ ?_)))))))
 rintro _ _ ⟨h20,A21,k22,II,rfl,rfl⟩
 refine Bi (K.Al (K.drop (FG (kx 1 (Dl (K.Al (K.Al (bnd h fun FB Pg h=>(Bz (BA.ok Pg II (Bl.nil (encI .i64) 1 none_)) rfl ⟨(.head _),trivial⟩ ?_)))))))))
 rintro _ _ ⟨h25,A26,k27,TZ,rfl,rfl⟩
 refine Bi (K.Al (K.drop (knl (Cw ?_))))
 obtain rfl:=As h
 exact kdv (.tuple #[]) [bk b0 #[Ay,Az,A2,Aa AG Af AH,Aa A26 FB.2 k27,sv Bb,Aa AC Ai AD,AA,pt AN,pt AO,Aa A8 r2.2.1 k9,Aa A12 r2.2.2.1 k13] 66,h25,h7,h11,bk AN #[iv r2.2.2.2.1] 3,bk AO #[Aa F6 r2.2.2.2.2 k17,Cg] 25,h15] (BH ⟨h25,A26,k27,h7,A8,k9,h11,A12,k13,h15,F6,k17,TZ,o10,JP,JQ,rfl,rfl⟩)
def Dz.l0:Nat→(Am:Ae)→(BD:TyL)→(BW:Int)→(BJ:TyU)→(EC:Ae)→(x22:Int)→(l23:TyA)→Option (TyA×Ae×TyL×Int×TyU)
 | 0,_,_,_,_,_,_,_=>none
 | Rt+1,Am,BD,BW,BJ,EC,x22,l23=>cond (decide (x22 > 0)) ((BA.f Rt l23 7 ([IntKind.i64.wrap (((Am.length:Nat):Int)+x22)])).bind fun r31=>Dz.l0 Rt Am BD BW BJ EC (IntKind.i64.wrap (x22 - 1)) r31.2) (some (l23,EC,BD,BW,BJ))
def Dz.g (Rc:GS) (k:Nat) (Af:Bg) (At:TyA) (Bb:ByteArray) (Ai:Ae) (Am:Ae) (BD:TyL) (BW:Int) (BJ:TyU) (Ao:Int) (Av:ByteArray) (Ap:Int) (AF:Int) (Ak:List Tree):Option (TyA×Ae×TyL×Int×TyU):=cond (Ao == 21) ((DR Ak Ap ((Ak.length:Nat):Int)).bind fun l4=>(Hl.f k Af At Ai Am l4 Ap).bind fun r8=>(DR Ak 0 Ap).bind fun l13=>(HJ.f k Am l13).bind fun EC=>Dz.l0 k Am BD BW BJ EC Ap r8) (cond (Ao == 22) ((DR Ak 0 Ap).bind fun l37=>(DR Ak Ap ((Ak.length:Nat):Int)).bind fun l41=>(Gc.f k Af At Ai Am l37 l41).bind fun r45=>some (r45,Am,BD,BW,BJ)) (cond (Ao == 23) ((Bh Ak 0).bind fun x51=>(ET.f k Af At Ai Am x51.kind x51.text x51.n x51.at_ x51.kids 0).bind fun r60=>some (r60,Am,BD,BW,BJ)) (cond (Ao == 24) ((Rc.DO Af At Bb Ai Am BD BW BJ Ak).bind fun Fb=>some (Fb.1,Fb.2.1,Fb.2.2.1,Fb.2.2.2.1,Fb.2.2.2.2)) (cond (Ao == 25) ((EU.f k At).bind fun F3=>(Bh Ak 0).bind fun x86=>(Dk.f k Af At Ai Am x86.kind x86.text x86.n x86.at_ x86.kids).bind fun r95=>(BA.f k r95 19 ([])).bind fun Xd=>(BA.f k Xd.2 34 ([])).bind fun Avi=>(Bh Ak 1).bind fun So=>(Rc.Gd Af Avi.2 Bb Ai Am BD BW BJ So.kind So.text So.n So.at_ So.kids F3).bind fun F2=>(EU.f k F2.1).bind fun Us=>(Bh F2.1 Xd.1).bind fun Kk=>(EW F2.1 Xd.1 (Kk.1,Us,Kk.2.2.1,Kk.2.2.2)).bind fun Ww=>some (Ww,F2.2.1,F2.2.2.1,F2.2.2.2.1,F2.2.2.2.2)) (cond (Ao == 26) ((DR Ak 1 (IntKind.i64.wrap (((Ak.length:Nat):Int) - 1))).bind fun Ar9=>(DD.f k Af At Ai Am Ar9).bind fun N8=>BG (fun (x159:Int) (Asa:Ae)=>(BA.f k N8 30 ([x159,0,IntKind.i64.wrap ((IntKind.i64.wrap (((Ak.length:Nat):Int) - 1)) - 3)])).bind fun FT=>(Bh Ak (IntKind.i64.wrap (((Ak.length:Nat):Int) - 1))).bind fun Su=>(Rc.Ge Af FT.2 Bb Ai Asa BD BW BJ Su.kind Su.text Su.n Su.at_ Su.kids x159 FT.1).bind fun Jz=>(EU.f k Jz.1).bind fun L_=>(Bh Jz.1 FT.1).bind fun x200=>(EW Jz.1 FT.1 (x200.1,x200.2.1,L_,x200.2.2.2)).bind fun Nw=>(Nc.f k Jz.2.1 x159).bind fun Aew=>some (Nw,Aew,Jz.2.2.1,Jz.2.2.2.1,Jz.2.2.2.2)) (fun XU=>(DR Ak 0 1).bind fun Ase=>(Ms.f k Am Ase).bind fun RH=>XU RH.1 RH.2)) (cond (Ao == 27) ((Rc.Ik Af At Bb Ai Am BD BW BJ Ao Av Ap AF Ak (IntKind.i64.wrap (((Ak.length:Nat):Int) - 1))).bind fun Ma=>some (Ma.1,Ma.2.1,Ma.2.2.1,Ma.2.2.2.1,Ma.2.2.2.2)) (cond (Ao == 28) ((Bh Ak 0).bind fun Sw=>(Rc.D4 Af At Bb Ai Am BD BW BJ Sw.kind Sw.text Sw.n Sw.at_ Sw.kids).bind fun Mb=>some (Mb.1,Mb.2.1,Mb.2.2.1,Mb.2.2.2.1,Mb.2.2.2.2)) (cond (Ao == 29) ((Bh BD (IntKind.i64.wrap (((BD.length:Nat):Int) - 1))).bind fun X7=>(BA.f k At 18 ([])).bind fun Mc=>(apd 8 X7 [Mc.1]).bind fun Rj=>(EW BD (IntKind.i64.wrap (((BD.length:Nat):Int) - 1)) (Rj)).bind fun Wz=>some (Mc.2,Am,Wz,BW,BJ)) (cond (Ao == 30) ((BA.f k At 22 ([])).bind fun Avu=>(FO.f k Af Avu.2 Ai Am Ak).bind fun Avv=>(BA.f k Avv 25 ([])).bind fun Ae2=>some (Ae2.2,Am,BD,BW,BJ)) (cond (Ao == 31) ((BA.f k At 11 ([BW])).bind fun Avx=>(LC.f k Ai Av).bind fun Ut=>(BA.f k Avx.2 9 ([Ut])).bind fun Ae4=>(Rc.IC Bb Ai BW BJ Ao Av Ap AF Ak).bind fun Uu=>some (Ae4.2,Am,BD,Uu.1,Uu.2)) (some (At,Am,BD,BW,BJ))))))))))))
theorem Dz.C2 {Rc:GS} (hR:Rc.Good) {k:Nat}:Dz.C (Dz.g Rc k):=by
 intro Af At Bb Av Ai Am BD BW Ao Ap AF BJ Ak b0 AH Bt AD AT C8 AN AO CS Be Ay Az A2 AA Cg CF B9 C5 BT Dn CY Cs G AG Bm AC AR C7 CR Bc r h Cu Cj Co Ci Ep DZ BE hG
 refine C3 (args:=[pt b0,.agg #[iv Ao,sv Av,iv Ap,iv AF,Aa Bc Ak Be]]) Tryz.func47 rfl (By rfl) ?_
 intro A X hh_
 obtain ⟨CU,CJ,BC,BU,_⟩:=hh_
 unfold Dz.g at h
 refine K.eq (env':=[(0,pt b0),(1,.agg #[iv Ao,sv Av,iv Ap,iv AF,Aa Bc Ak Be])]) (l':=bk b0 #[Ay,Az,A2,Aa AG Af AH,Aa Bm At Bt,sv Bb,Aa AC Ai AD,AA,pt AN,pt AO,Aa AR Am AT,Aa C7 BD C8] 66 :: B9 :: BT :: Dn :: bk AN #[iv BW] 3 :: bk AO #[Aa CR BJ CS,Cg] 25 :: CY :: X) rfl rfl (ksr (knp #[pt b0] 61 fun b1=>(knp #[iv Ao,sv Av,iv Ap,iv AF,Aa Bc Ak Be] 54 fun b2=>(Ba (kx 1 (kld 0 4 rfl (kx 3 (Ba (kx 1 (kld 0 0 rfl ?_))))))))))
 refine Ad (C1 (ksr (kx 2 (Ad ?_))))
 refine AU h (fun h=>?_) fun h=>?_
 ·refine B8 (kpr [(0,3),(1,0),(2,3),(3,0),(4,3),(5,0),(6,0),(7,3)] [0,1] (AP 1 0 rfl (Ar 1 (AP 0 4 rfl (Ar 1 (AP 0 2 rfl (bnd h fun l4 hl4 h=>(KY (T:=54) (R:=(AX 54)) (xs:=Ak) Ap ((Ak.length:Nat):Int) rfl (by kernel_rfl) (by kernel_rfl) (by kernel_rfl) (.inr ⟨_,.i64,rfl,(by kernel_rfl)⟩) (.inl ⟨rfl,rfl⟩) (by kernel_rfl) (by kernel_rfl) hl4 BE fun A5 k6 o7=>(Ar 1 (AP 0 2 rfl ?_))))))))))
  refine Ca (K.mv3 (K.mv3 (bnd h fun r8 hr8 h=>(Bz (Hl.ok hr8 Cu Cj Co (Ah.rd Ci) o7 hG) rfl ⟨(t7 CU),(t7 CJ),(.tail _ (.tail _ (.head _))),(t7 BC),(t7 BU),trivial⟩ ?_))))
  rintro _ _ ⟨h9,F5,k11,Ht,rfl,rfl⟩
  refine Bi (Ba (kld 3 0 rfl (kx 2 (kld 0 10 rfl (kx 2 (Ad (B8 (kpr [(0,3),(1,0),(2,3),(3,0),(4,3),(5,0)] [2,3] (AP 1 0 rfl (Ar 1 ?_))))))))))
  refine AP 0 4 rfl (Ar 1 (AP 0 2 rfl (bnd h fun l13 Zd h=>(KY (T:=54) (R:=(AX 54)) (xs:=Ak) 0 Ap rfl (by kernel_rfl) (by kernel_rfl) (by kernel_rfl) (.inl ⟨rfl,rfl⟩) (.inr ⟨_,.i64,rfl,(by kernel_rfl)⟩) (by kernel_rfl) (by kernel_rfl) Zd BE fun Hf k15 o16=>(Ca (K.Bx (K.An (bnd h fun EC Kz h=>(Bz (HJ.ok Kz Ci o16) rfl ⟨(t7 BC),trivial⟩ ?_)))))))))
  rintro _ _ ⟨h18,A19,k20,o21,rfl,rfl⟩
  refine Bi (Ba (kx 1 (kld 3 2 rfl (K.mv3 (K.drop (kx 1 (Ad (C1 (K.Al (K.mv7 ?_))))))))))
  refine K.mv7 (K.mv7 (K.mv7 (K.mv7 (K.mv7 (K.mv7 (Fx (τ:=Int×TyA×Ab×Aq×Nat) (fun t=>[(2,pt b1),(5,iv ((Am.length:Nat):Int)),(6,iv t.1)]) (fun t=>bk b0 #[Ay,Az,A2,Aa AG Af AH,Aa t.2.2.2.1 t.2.1 t.2.2.2.2,sv Bb,Aa AC Ai AD,AA,pt AN,pt AO,Aa A19 EC k20,Aa C7 BD C8] 66 :: h18 :: bk b1 #[pt b0] 61 :: Dn :: bk AN #[iv BW] 3 :: bk AO #[Aa CR BJ CS,Cg] 25 :: CY :: t.2.2.1 :: X) (fun m t=>Dz.l0 m Am BD BW BJ EC t.1 t.2.1=some r∧Ah e48 48 4 t.2.2.1 (Aa t.2.2.2.1 t.2.1 t.2.2.2.2) t.2.1) k (Ap,r8,h9,F5,k11) ⟨h,Ht⟩ sb rfl ?_))))))
  clear h
  rintro Rt ⟨x22,l23,h24,A25,k26⟩ ⟨h,K9⟩
  cases Rt with
  | zero=>simp [Dz.l0] at h
  | succ Rt =>
   simp only [Dz.l0] at h
   refine B8 (ksr (kx 2 (Ad ?_)))
   refine AU h (fun h=>?_) fun h=>?_
   ·refine BV (AM (B8 (C1 (Bu (kld 2 0 rfl (kx 3 (Dh #[iv (IntKind.i64.wrap (((Am.length:Nat):Int)+x22))] 3 1 fun Yc=>(K.CM (K.Al (bnd h fun r31 Z3 h=>?_))))))))))
    refine Bz (BA.ok Z3 K9 (Ah.rd (Ah.blk 3 (Ec .i64) Yc [IntKind.i64.wrap (((Am.length:Nat):Int)+x22)] #[iv (IntKind.i64.wrap (((Am.length:Nat):Int)+x22))] 1 (by kernel_rfl) rfl (by decide)))) rfl ⟨(.head _),trivial⟩ ?_
    rintro _ _ ⟨h32,A33,k34,o35,rfl,rfl⟩
    refine Bi (K.Al (K.drop (knl (B7 (AM (Bu (kx 3 (Ad (K.An (K.mv7 ?_))))))))))
    exact K.mv7 (K.mv7 (K.mv7 (K.mv7 (K.mv7 (K.mv7 (E3 Rt (IntKind.i64.wrap (x22 - 1),r31.2,h32,A33,k34) (Nat.lt_succ_self _) ⟨h,o35⟩ sb rfl))))))
   ·refine Fv (Dg (Dg (Fw (B7 (Cw ?_)))))
    obtain rfl:=As h
    exact kdv (.tuple #[]) [bk b0 #[Ay,Az,A2,Aa AG Af AH,Aa A25 l23 k26,sv Bb,Aa AC Ai AD,AA,pt AN,pt AO,Aa A19 EC k20,Aa C7 BD C8] 66,h24,h18,Dn,bk AN #[iv BW] 3,bk AO #[Aa CR BJ CS,Cg] 25,CY] (K.Al (K.drop (K.mv5 (K.mv5 (K.mv5 (K.mv5 (K.mv5 (K.mv6 (K.mv6 (BH ⟨h24,A25,k26,h18,A19,k20,Dn,C7,C8,CY,CR,CS,K9,o21,Ep,DZ,rfl,rfl⟩))))))))))
 ·refine ksr (kx 2 (Ad ?_))
  refine AU h (fun h=>?_) fun h=>?_
  ·refine kpr [(0,3),(1,0),(2,3),(3,0),(4,3),(5,0),(6,0),(7,3),(8,0),(9,3),(10,0)] [0,1] (AP 1 0 rfl (Ar 1 (AP 0 4 rfl (Ar 1 (AP 0 2 rfl (bnd h fun l37 Bce h=>(KY (T:=54) (R:=(AX 54)) (xs:=Ak) 0 Ap rfl (by kernel_rfl) (by kernel_rfl) (by kernel_rfl) (.inl ⟨rfl,rfl⟩) (.inr ⟨_,.i64,rfl,(by kernel_rfl)⟩) (by kernel_rfl) (by kernel_rfl) Bce BE fun JC k39 M2=>(Ar 1 (AP 0 4 rfl (Ar 1 ?_))))))))))
   refine AP 0 2 rfl (bnd h fun l41 Bcf h=>(KY (T:=54) (R:=(AX 54)) (xs:=Ak) Ap ((Ak.length:Nat):Int) rfl (by kernel_rfl) (by kernel_rfl) (by kernel_rfl) (.inr ⟨_,.i64,rfl,(by kernel_rfl)⟩) (.inl ⟨rfl,rfl⟩) (by kernel_rfl) (by kernel_rfl) Bcf BE fun A42 k43 T_=>(Ca (K.mv3 (K.mv3 (bnd h fun r45 Z7 h=>(Bz (Gc.ok Z7 Cu Cj Co (Ah.rd Ci) M2 T_ hG) rfl ⟨(t7 CU),(t7 CJ),(.tail _ (.tail _ (.head _))),(t7 BC),(t7 BC),(t7 BU),trivial⟩ ?_)))))))
   rintro _ _ ⟨h46,A47,k48,o49,rfl,rfl⟩
   refine Bi (K.Al (K.drop (K.Al (K.drop (knl (B7 (Cw ?_)))))))
   obtain rfl:=As h
   exact kdv (.tuple #[]) [bk b0 #[Ay,Az,A2,Aa AG Af AH,Aa A47 r45 k48,sv Bb,Aa AC Ai AD,AA,pt AN,pt AO,Aa AR Am AT,Aa C7 BD C8] 66,h46,BT,Dn,bk AN #[iv BW] 3,bk AO #[Aa CR BJ CS,Cg] 25,CY] (BH ⟨h46,A47,k48,BT,AR,AT,Dn,C7,C8,CY,CR,CS,o49,Ci,Ep,DZ,rfl,rfl⟩)
  ·refine ksr (kx 2 (Ad ?_))
   refine AU h (fun h=>?_) fun h=>?_
   ·refine Js [(0,3),(1,0),(2,3),(3,0),(4,3)] [bk b2 #[iv Ao,sv Av,iv Ap,iv AF,Aa Bc Ak Be] 54,bk b1 #[pt b0] 61,Cs] (fun w h_=>⟨h_.sat.on _ (.head _),h_.sat.on _ (.tail _ (.head _)),h_.sat.on _ (t9 BC),trivial⟩) (AP 1 0 rfl (Ar 1 (AP 0 4 rfl (bnd h fun x51 Bhn h=>(GT (T:=54) (kd:=.i64) (R:=(AX 54)) rfl Bhn BE fun p52 u55 q56 e53 y54=>?_)))))
    obtain ⟨Va,k58,rfl,o59⟩:=DF 54 q56
    refine IE rfl e53 (fun w h_=>h_.mem _ (.tail _ (.tail _ (.head _)))) (Ca (K.mv3 (K.mv3 (bnd h fun r60 Po h=>(Bz (ET.ok Po Cu Cj Co (Ah.rd Ci) o59 hG) rfl ⟨(t7 CU),(t7 CJ),(.tail _ (.tail _ (.head _))),(t7 BC),(t7 BU),trivial⟩ ?_)))))
    rintro _ _ ⟨h61,S3,k63,R6,rfl,rfl⟩
    refine Bi (K.Al (K.drop (K.Al (K.drop (knl (B7 (Cw ?_)))))))
    obtain rfl:=As h
    exact kdv (.tuple #[]) [bk b0 #[Ay,Az,A2,Aa AG Af AH,Aa S3 r60 k63,sv Bb,Aa AC Ai AD,AA,pt AN,pt AO,Aa AR Am AT,Aa C7 BD C8] 66,h61,BT,Dn,bk AN #[iv BW] 3,bk AO #[Aa CR BJ CS,Cg] 25,CY] (BH ⟨h61,S3,k63,BT,AR,AT,Dn,C7,C8,CY,CR,CS,R6,Ci,Ep,DZ,rfl,rfl⟩)
   ·refine ksr (kx 2 (Ad ?_))
    refine AU h (fun h=>?_) fun h=>?_
    ·refine Bu (kld 1 0 rfl (K.An (K.drop (kx 1 (kld 0 4 rfl (K.drop (K.mv6 (K.mv6 (K.mv6 (K.mv6 ?_))))))))))
     refine K.mv6 (K.mv6 (K.mv6 (bnd h fun Fb ZG h=>(Bz (hR.DO ZG Cu Cj Co Ci Ep DZ BE hG) rfl ⟨CU,CJ,BC,BU,trivial⟩ ?_))))
     rintro _ _ ⟨N_,Hh,k69,h71,S4,T3,h75,Lm,LL,h79,A80,k81,KA,PG,o78,o82,rfl,rfl⟩
     refine E4 (knl (B7 (Cw ?_)))
     obtain rfl:=As h
     exact kdv (.tuple #[]) [bk b0 #[Ay,Az,A2,Aa AG Af AH,Aa Hh Fb.1 k69,sv Bb,Aa AC Ai AD,AA,pt AN,pt AO,Aa S4 Fb.2.1 T3,Aa Lm Fb.2.2.1 LL] 66,N_,h71,h75,bk AN #[iv Fb.2.2.2.1] 3,bk AO #[Aa A80 Fb.2.2.2.2 k81,Cg] 25,h79] (BH ⟨N_,Hh,k69,h71,S4,T3,h75,Lm,LL,h79,A80,k81,KA,PG,o78,o82,rfl,rfl⟩)
    ·refine ksr (kx 2 (Ad ?_))
     refine AU h (fun h=>?_) fun h=>?_
     ·refine ksr (kld 1 0 rfl (K.Al (bnd h fun F3 ZL h=>(CG (EU.ok ZL (Ah.rd Cj)) rfl ⟨(.tail _ (.tail _ (.head _))),trivial⟩ (knp #[iv 0] 3 fun b85=>(AQ 0 1 #[iv F3] (Ad (B8 (Js [(0,3),(1,0),(2,3),(3,0),(4,3)] [bk b2 #[iv Ao,sv Av,iv Ap,iv AF,Aa Bc Ak Be] 54,bk b1 #[pt b0] 61,Cs] (fun w h_=>⟨h_.sat.on _ (.tail _ (.tail _ (.head _))),h_.sat.on _ (.tail _ (.tail _ (.tail _ (.head _)))),h_.sat.on _ (t10 BC),trivial⟩) (AP 1 0 rfl ?_))))))))))
      refine Ar 1 (AP 0 4 rfl (bnd h fun x86 Bh0 h=>(GT (T:=54) (kd:=.i64) (R:=(AX 54)) rfl Bh0 BE fun p87 u90 Up e88 y89=>?_)))
      obtain ⟨A92,k93,rfl,R8⟩:=DF 54 Up
      refine IE rfl e88 (fun w h_=>h_.mem _ (.tail _ (.tail _ (.head _)))) (Ca (K.Bx (K.Al (bnd h fun r95 Nk h=>(Bz (Dk.ok Nk Cu Cj Co (Ah.rd Ci) R8 hG) rfl ⟨(t8 CU),(t8 CJ),(.tail _ (.tail _ (.tail _ (.head _)))),(t8 BC),(t8 BU),trivial⟩ ?_)))))
      rintro _ _ ⟨h96,KL,KW,Lc,rfl,rfl⟩
      refine Bi (Ba (kld 4 0 rfl (Dl (K.Al (K.Al (bnd h fun Xd Bc5 h=>(Bz (BA.ok Bc5 Lc (Bl.nil (encI .i64) 1 none_)) rfl ⟨(.head _),trivial⟩ ?_)))))))
      rintro _ _ ⟨Bx9,Bwy,Bz2,Bmt,rfl,rfl⟩
      refine Bi (K.Al (K.drop (kx 1 (Ba (kld 4 0 rfl (Dl (K.Al (K.Al (bnd h fun Avi Bdc h=>(Bz (BA.ok Bdc Bmt (Bl.nil (encI .i64) 1 none_)) rfl ⟨(.head _),trivial⟩ ?_))))))))))
      rintro _ _ ⟨VK,Ag7,Apl,WC,rfl,rfl⟩
      refine Bi (K.Al (K.drop (Ad (B8 (Js [(0,3),(1,0),(2,3),(3,0),(4,3),(5,0)] [bk b2 #[iv Ao,sv Av,iv Ap,iv AF,Aa Bc Ak Be] 54,bk b1 #[pt b0] 61,Cs] (fun w h_=>⟨h_.sat.on _ (.tail _ (.tail _ (.tail _ (.head _)))),h_.sat.on _ (.tail _ (.tail _ (.tail _ (.tail _ (.head _))))),h_.sat.on _ (t10 BC),trivial⟩) (AP 1 0 rfl (Ar 1 (AP 0 4 rfl (bnd h fun So Bgc h=>(GT (T:=54) (kd:=.i64) (R:=(AX 54)) rfl Bgc BE fun B1w B2y Brn A5h y113=>?_))))))))))
      obtain ⟨Bw4,Bz6,rfl,Acg⟩:=DF 54 Brn
      refine IE rfl A5h (fun w h_=>h_.mem _ (.tail _ (.tail _ (.head _)))) (Ar 1 (Ca (K.Al (K.Bx (K.mv9 (K.mv9 (K.mv9 (K.mv9 (K.mv9 (K.CM ?_))))))))))
      refine K.CM (bnd h fun F2 Zu h=>(Bz (hR.Gd Zu Cu WC Co Ci Ep DZ Acg hG) rfl ⟨(.tail _ CU),(.tail _ CJ),(.tail _ BC),(.tail _ BU),trivial⟩ ?_))
      rintro _ _ ⟨Byi,XA,Aad,YG,XB,Aae,h128,UX,VZ,YI,XC,Aaf,PA,Bm6,Acn,Bm9,rfl,rfl⟩
      refine E4 (K.CM (K.drop (K.CM (K.drop (Ad (kpr [(0,3),(1,0),(2,0),(3,0),(4,3),(5,0),(6,3),(7,1)] [0,7] (AP 1 0 rfl (Ar 3 (AP 0 4 rfl (Ar 1 ?_))))))))))
      refine AP 1 0 rfl (kpt (bnd h fun Us Bdq h=>(M4 (EU.ok Bdq (Ah.rd PA)) rfl ⟨(.head _),trivial⟩ (Dm [0,7] rfl (Ca (bnd h fun Kk Aoz h=>(GQ (T:=48) (kd:=.i64) Fo rfl Aoz (Ah.rd PA) fun Ado OQ Azc=>?_)))))))
      have OQ:Elem _ Ado [iv Kk.1,iv Kk.2.1,iv Kk.2.2.1,iv Kk.2.2.2]:=OQ
      refine K.mv7 (K.drop (Ha (off:=1) rfl OQ Azc fun Bpv Aky Bwl=>?_))
      have Aky:Elem _ Bpv [iv Kk.2.1,iv Kk.2.2.1,iv Kk.2.2.2]:=Aky
      refine K.An (bnd h fun Ww Aod h=>(LM (v:=iv Us) (off:=1) (x':=(Kk.1,Us,Kk.2.2.1,Kk.2.2.2)) Fo rfl (by kernel_rfl) (by kernel_rfl) (by kernel_rfl) (by kernel_rfl) (by kernel_rfl) Bwl PA Aoz (by kernel_rfl) (by kernel_rfl) Aod fun YJ Acp=>?_))
      have A8l:=IF Aod
      refine K.weak (env':=[(109,iv Us)]) ?_ ⟨gr,trivial⟩
      refine K.eq (l':=YJ :: bk b0 #[Ay,Az,A2,Aa AG Af AH,Aa XA Ww Aad,sv Bb,Aa AC Ai AD,AA,pt AN,pt AO,Aa XB F2.2.1 Aae,Aa UX F2.2.2.1 VZ] 66 :: YG :: h128 :: bk AN #[iv F2.2.2.2.1] 3 :: bk AO #[Aa XC F2.2.2.2.2 Aaf,Cg] 25 :: YI :: X) rfl (by first | rfl | (unfold Aa;rw [A8l];first | done | rfl)) (knl (B7 (Cw ?_)))
      obtain rfl:=As h
      exact kdv (.tuple #[]) [bk b0 #[Ay,Az,A2,Aa AG Af AH,Aa XA Ww Aad,sv Bb,Aa AC Ai AD,AA,pt AN,pt AO,Aa XB F2.2.1 Aae,Aa UX F2.2.2.1 VZ] 66,YJ,YG,h128,bk AN #[iv F2.2.2.2.1] 3,bk AO #[Aa XC F2.2.2.2.2 Aaf,Cg] 25,YI] (K.mv6 (K.mv6 (K.mv6 (K.mv6 (K.mv6 (K.mv5 (K.mv6 (BH ⟨YJ,XA,Aad,YG,XB,Aae,h128,UX,VZ,YI,XC,Aaf,Acp,Bm6,Acn,Bm9,rfl,rfl⟩))))))))
     ·refine ksr (kx 2 (Ad ?_))
      refine AU h (fun h=>?_) fun h=>?_
      ·refine B8 (kpr [(0,3),(1,0),(2,3),(3,0),(4,0)] [0,1] (AP 1 0 rfl (Ar 1 (AP 0 4 rfl (Ar 1 (bnd h fun Ar9 Bbv h=>(KY (T:=54) (R:=(AX 54)) (xs:=Ak) 1 (IntKind.i64.wrap (((Ak.length:Nat):Int) - 1)) rfl (by kernel_rfl) (by kernel_rfl) (by kernel_rfl) (.inr ⟨_,.i64,rfl,(by kernel_rfl)⟩) (.inr ⟨_,.i64,rfl,(by kernel_rfl)⟩) (by kernel_rfl) (by kernel_rfl) Bbv BE fun UZ Wa R0=>(Ca (K.mv3 (K.mv3 ?_))))))))))
       refine bnd h fun N8 Zx h=>(Bz (DD.ok Zx Cu Cj Co (Ah.rd Ci) R0 hG) rfl ⟨(t7 CU),(t7 CJ),(.tail _ (.tail _ (.head _))),(t7 BC),(t7 BU),trivial⟩ ?_)
       rintro _ _ ⟨Amy,Ahj,Apu,Acs,rfl,rfl⟩
       refine Bi (Ad ?_)
       obtain ⟨XU,Bah,h⟩:=De h
       refine Df (τ:=Int×Ae×Nat×Ab×Aq×Nat) (fun t=>[(2,pt b1),(3,pt b2),(4,iv (IntKind.i64.wrap (((Ak.length:Nat):Int) - 1))),(9,pt t.2.2.1)]) (fun t=>bk t.2.2.1 #[iv t.1] 3 :: bk b0 #[Ay,Az,A2,Aa AG Af AH,Aa Ahj N8 Apu,sv Bb,Aa AC Ai AD,AA,pt AN,pt AO,Aa t.2.2.2.2.1 t.2.1 t.2.2.2.2.2,Aa C7 BD C8] 66 :: Amy :: bk b2 #[iv Ao,sv Av,iv Ap,iv AF,Aa Bc Ak Be] 54 :: bk b1 #[pt b0] 61 :: Dn :: bk AN #[iv BW] 3 :: bk AO #[Aa CR BJ CS,Cg] 25 :: CY :: t.2.2.2.1 :: X) (fun t=>XU t.1 t.2.1=some r∧Ah encS 9 1 t.2.2.2.1 (Aa t.2.2.2.2.1 t.2.1 t.2.2.2.2.2) t.2.1) ?_ ?_
       ·rintro ⟨x159,Asa,Ajl,A9m,Azw,Bix⟩ ⟨h,Acu⟩
        subst Bah
        refine ksr (kld 4 0 rfl (kld 0 0 rfl (kx 2 (Dh #[iv x159,iv 0,iv (IntKind.i64.wrap ((IntKind.i64.wrap (((Ak.length:Nat):Int) - 1)) - 3))] 3 3 fun A1y=>(K.mv3 (K.mv3 (bnd h fun FT Zy h=>(Bz (BA.ok Zy Acs (Ah.rd (Ah.blk 3 (Ec .i64) A1y [x159,0,IntKind.i64.wrap ((IntKind.i64.wrap (((Ak.length:Nat):Int) - 1)) - 3)] #[iv x159,iv 0,iv (IntKind.i64.wrap ((IntKind.i64.wrap (((Ak.length:Nat):Int) - 1)) - 3))] 3 (by kernel_rfl) rfl (by decide)))) rfl ⟨(.head _),trivial⟩ ?_))))))))
        rintro _ _ ⟨Am0,Ahl,Apw,WF,rfl,rfl⟩
        refine Bi (K.Al (K.drop (knp #[iv 0] 3 fun Bx4=>(AQ 0 1 #[iv FT.1] (Ad (B8 (Js [(0,3),(1,0),(2,3),(3,0),(4,0),(5,3),(6,0)] [bk b2 #[iv Ao,sv Av,iv Ap,iv AF,Aa Bc Ak Be] 54,bk b1 #[pt b0] 61,Cs] (fun w h_=>⟨h_.sat.on _ (.tail _ (.tail _ (.tail _ (.tail _ (.head _))))),h_.sat.on _ (.tail _ (.tail _ (.tail _ (.tail _ (.tail _ (.head _)))))),h_.sat.on _ (t11 BC),trivial⟩) (AP 1 0 rfl (Ar 1 (AP 0 4 rfl ?_))))))))))
        refine Ar 1 (bnd h fun Su Bgu h=>(GT (T:=54) (kd:=.i64) (R:=(AX 54)) rfl Bgu BE fun B2i B3e Br3 A5r B37=>?_))
        obtain ⟨Bxg,B0i,rfl,Bnm⟩:=DF 54 Br3
        refine IE rfl A5r (fun w h_=>h_.mem _ (.tail _ (.tail _ (.head _)))) (Ar 1 (Ca (K.mv3 (K.mv5 (K.mv9 (K.mv9 (K.mv9 (K.mv9 (K.Atk (K.mv9 ?_))))))))))
        refine K.mv9 (bnd h fun Jz Bea h=>(Bz (hR.Ge Bea Cu WF Co Acu Ep DZ Bnm hG) rfl ⟨(.tail _ CU),(.tail _ CJ),(.tail _ BC),(.tail _ BU),trivial⟩ ?_))
        rintro _ _ ⟨Byq,XG,Aai,A9o,Az5,Bi6,YL,XH,Aal,YM,XI,Aam,Acz,Bnp,Bnv,Bnx,rfl,rfl⟩
        refine E4 (K.Atk (K.drop (Ad (B8 (kpr [(0,3),(1,0),(2,0),(3,0),(4,3),(5,3),(6,3),(7,1)] [0,7,9] (AP 1 0 rfl (Ar 3 (AP 0 4 rfl (AP 2 0 rfl (AP 1 0 rfl ?_))))))))))
        refine kpt (bnd h fun L_ Zz h=>(M4 (EU.ok Zz (Ah.rd Acz)) rfl ⟨(.head _),trivial⟩ (Dm [0,7,9] rfl (Ca (bnd h fun x200 Tr h=>(GQ (T:=48) (kd:=.i64) Fo rfl Tr (Ah.rd Acz) fun Adp OR Ag4=>?_))))))
        have OR:Elem _ Adp [iv x200.1,iv x200.2.1,iv x200.2.2.1,iv x200.2.2.2]:=OR
        refine K.mv9 (K.drop (Ha (off:=2) rfl OR Ag4 fun Uf Nb X8=>?_))
        have Nb:Elem _ Uf [iv x200.2.2.1,iv x200.2.2.2]:=Nb
        refine K.An (bnd h fun Nw Ta h=>(LM (v:=iv L_) (off:=2) (x':=(x200.1,x200.2.1,L_,x200.2.2.2)) Fo rfl (by kernel_rfl) (by kernel_rfl) (by kernel_rfl) (by kernel_rfl) (by kernel_rfl) X8 Acz Tr (by kernel_rfl) (by kernel_rfl) Ta fun QJ Ac2=>?_))
        have SU:=IF Ta
        refine K.weak (env':=[(2,pt b1),(9,pt Ajl),(146,iv L_)]) ?_ ⟨gr,gr,gr,trivial⟩
        refine K.eq (l':=QJ :: bk b0 #[Ay,Az,A2,Aa AG Af AH,Aa XG Nw Aai,sv Bb,Aa AC Ai AD,AA,pt AN,pt AO,Aa Az5 Jz.2.1 Bi6,Aa XH Jz.2.2.1 Aal] 66 :: A9o :: YL :: bk AN #[iv Jz.2.2.2.1] 3 :: bk AO #[Aa XI Jz.2.2.2.2 Aam,Cg] 25 :: YM :: bk b1 #[pt b0] 61 :: bk Ajl #[iv x159] 3 :: X) rfl (by first | rfl | (unfold Aa;rw [SU];first | done | rfl)) (FG (kld 7 0 rfl (K.mv7 (K.drop (kld 7 0 rfl (K.mv7 (K.drop (K.Al (K.Al (bnd h fun Aew Bed h=>?_))))))))))
        refine Bz (Nc.ok Bed Bnp) rfl trivial ?_
        rintro _ _ ⟨Am9,Ahv,Ap2,Bn5,rfl,rfl⟩
        refine Bi (knl (B7 (Cw ?_)))
        obtain rfl:=As h
        exact kdv (.tuple #[]) [bk b0 #[Ay,Az,A2,Aa AG Af AH,Aa XG Nw Aai,sv Bb,Aa AC Ai AD,AA,pt AN,pt AO,Aa Ahv Aew Ap2,Aa XH Jz.2.2.1 Aal] 66,QJ,Am9,YL,bk AN #[iv Jz.2.2.2.1] 3,bk AO #[Aa XI Jz.2.2.2.2 Aam,Cg] 25,YM] (K.mv6 (K.mv6 (K.mv6 (K.mv6 (K.mv5 (K.mv6 (K.mv6 (BH ⟨QJ,XG,Aai,Am9,Ahv,Ap2,YL,XH,Aal,YM,XI,Aam,Ac2,Bn5,Bnv,Bnx,rfl,rfl⟩))))))))
       ·skip
        refine Bjn [(0,3),(1,0),(2,3),(3,0)] 4 5 6 (fun w=>Fj [bk b2 #[iv Ao,sv Av,iv Ap,iv AF,Aa Bc Ak Be] 54,bk b1 #[pt b0] 61] w) (by kernel_rfl) (by kernel_rfl) (fun _ _ d _ _ h=>by cases d <;> exact h) (fun w h_=>⟨h_.sat.on _ (.tail _ (.tail _ (.head _))),h_.sat.on _ (.tail _ (.tail _ (.tail _ (.head _)))),trivial⟩) ?_
        simp only [Eg,List.filterMap_cons,List.filterMap_nil,List.getElem?_toArray,List.getElem?_cons_zero,List.getElem?_cons_succ,Option.map_some,List.drop_succ_cons,List.drop_zero,AI,Br]
        refine AP 1 0 rfl (Ar 1 (AP 0 4 rfl (bnd h fun Ase Bb3 h=>(KY (T:=54) (R:=(AX 54)) (xs:=Ak) 0 1 rfl (by kernel_rfl) (by kernel_rfl) (by kernel_rfl) (.inl ⟨rfl,rfl⟩) (.inr ⟨_,.i64,rfl,(by kernel_rfl)⟩) (by kernel_rfl) (by kernel_rfl) Bb3 BE fun Bxr B0t Aug=>(Ca ?_)))))
        refine Bjk ?_ ?_
        ·skip
         refine Arx rfl (by kernel_rfl) (K.Bx (K.An (bnd h fun RH Bek h=>(ocl (Ms.ok Bek Ci Aug) rfl ⟨(t7 BC),trivial⟩ ?_))))
         rintro _ _ ⟨A9z,A0e,Bjg,Bob,rfl,rfl⟩
         refine Bi (Ra (.cells #[iv 0] 3 (0,0)) (fun b=>pt b) rfl (fun _ h=>Fj.alloc h) (by kernel_rfl) (by kernel_rfl) (fun _=>by kernel_rfl) fun A2d=>?_)
         simp only [List.drop_succ_cons,List.drop_zero]
         refine AQ 0 1 #[iv RH.1] (Ad (K.Al (K.mv9 (K.mv9 (K.mv9 (K.mv9 (K.mv9 (K.mv9 (K.mv9 (K.mv9 ?_))))))))))
         exact K.mv9 (B4 (RH.1,RH.2,A2d,A9z,A0e,Bjg) ⟨h,Bob⟩ sb rfl)
        ·skip
         refine Ra (.cells #[iv 0] 3 (0,0)) (fun b=>pt b) rfl (fun _ h=>Fj.alloc h) (by kernel_rfl) (by kernel_rfl) (fun _=>by kernel_rfl) fun A2f=>(Arx rfl (by kernel_rfl) (K.mv5 (K.Al (bnd h fun Aez Bel h=>(ocl (Ms.ok Bel Ci Aug) rfl ⟨(t8 BC),trivial⟩ ?_)))))
         rintro _ _ ⟨A93,A0f,Bjj,Boe,rfl,rfl⟩
         refine Bi ?_
         simp only [List.drop_succ_cons,List.drop_zero]
         refine K.Al (AQ 0 1 #[iv Aez.1] (Ad (K.Al (K.mv9 (K.mv9 (K.mv9 (K.mv9 (K.mv9 (K.mv9 (K.mv9 ?_))))))))))
         exact K.mv9 (K.mv9 (B4 (Aez.1,Aez.2,A2f,A93,A0f,Bjj) ⟨h,Boe⟩ sb rfl))
      ·refine ksr (kx 2 (Ad ?_))
       refine AU h (fun h=>?_) fun h=>?_
       ·refine Bu (kld 1 0 rfl (K.An (K.drop (CV 0 0 5 rfl (K.drop (kx 1 (K.mv6 (K.mv6 (K.mv6 (K.mv6 ?_))))))))))
        refine K.mv6 (K.mv6 (K.mv6 (bnd h fun Ma Beo h=>(Bz (hR.Ik Beo Cu Cj Co Ci Ep DZ BE hG) rfl ⟨CU,CJ,BC,BU,trivial⟩ ?_))))
        rintro _ _ ⟨SW,Sz,Tx,SX,S0,Ty,SY,S1,Tz,Anb,Ahx,Ap6,Ac3,Ac5,Ac7,Bok,rfl,rfl⟩
        refine E4 (knl (B7 (Cw ?_)))
        obtain rfl:=As h
        exact kdv (.tuple #[]) [bk b0 #[Ay,Az,A2,Aa AG Af AH,Aa Sz Ma.1 Tx,sv Bb,Aa AC Ai AD,AA,pt AN,pt AO,Aa S0 Ma.2.1 Ty,Aa S1 Ma.2.2.1 Tz] 66,SW,SX,SY,bk AN #[iv Ma.2.2.2.1] 3,bk AO #[Aa Ahx Ma.2.2.2.2 Ap6,Cg] 25,Anb] (BH ⟨SW,Sz,Tx,SX,S0,Ty,SY,S1,Tz,Anb,Ahx,Ap6,Ac3,Ac5,Ac7,Bok,rfl,rfl⟩)
       ·refine ksr (kx 2 (Ad ?_))
        refine AU h (fun h=>?_) fun h=>?_
        ·refine Js [(0,3),(1,0),(2,3),(3,0),(4,3)] [bk b2 #[iv Ao,sv Av,iv Ap,iv AF,Aa Bc Ak Be] 54,bk b1 #[pt b0] 61,Cs] (fun w h_=>⟨h_.sat.on _ (.head _),h_.sat.on _ (.tail _ (.head _)),h_.sat.on _ (t9 BC),trivial⟩) (AP 1 0 rfl (Ar 1 (AP 0 4 rfl (bnd h fun Sw Bha h=>(GT (T:=54) (kd:=.i64) (R:=(AX 54)) rfl Bha BE fun B2o B3k Br6 A5v B4i=>?_)))))
         obtain ⟨Bxu,B02,rfl,Bom⟩:=DF 54 Br6
         refine IE rfl A5v (fun w h_=>h_.mem _ (.tail _ (.tail _ (.head _)))) (Ca (K.CM (K.CM (K.CM (K.CM (K.CM (K.CM (K.CM (bnd h fun Mb Bes h=>(Bz (hR.D4 Bes Cu Cj Co Ci Ep DZ Bom hG) rfl ⟨(t2 CU),(t2 CJ),(t2 BC),(t2 BU),trivial⟩ ?_))))))))))
         rintro _ _ ⟨YN,XJ,Aan,YO,XK,Aao,YP,XL,Aar,Anh,XM,Aas,Ada,Adb,Ade,Adf,rfl,rfl⟩
         refine E4 (K.mv7 (K.drop (K.mv7 (K.drop (knl (B7 (Cw ?_)))))))
         obtain rfl:=As h
         exact kdv (.tuple #[]) [bk b0 #[Ay,Az,A2,Aa AG Af AH,Aa XJ Mb.1 Aan,sv Bb,Aa AC Ai AD,AA,pt AN,pt AO,Aa XK Mb.2.1 Aao,Aa XL Mb.2.2.1 Aar] 66,YN,YO,YP,bk AN #[iv Mb.2.2.2.1] 3,bk AO #[Aa XM Mb.2.2.2.2 Aas,Cg] 25,Anh] (BH ⟨YN,XJ,Aan,YO,XK,Aao,YP,XL,Aar,Anh,XM,Aas,Ada,Adb,Ade,Adf,rfl,rfl⟩)
        ·refine ksr (kx 2 (Ad ?_))
         refine AU h (fun h=>?_) fun h=>?_
         ·refine ksr (kld 1 0 rfl (K.drop (kx 2 (kld 1 11 rfl (kx 3 (Ad (bnd h fun X7 ZW h=>(K.Bx (Q_ (R:=E5) Ep (LQ ZW).2.2 fun By2 NZ Bx8 _ _ Bop e284=>?_)))))))))
          obtain ⟨Ahy,Ap7,rfl,Bos⟩:=Bop
          refine TC [(0,3),(1,0),(2,0),(3,3),(4,0),(5,3),(6,0),(7,0),(8,3),(9,0),(10,0),(11,3),(12,3),(13,1),(14,1),(15,1)] (fun w=>∃ (Lk:Value),Fj [NZ,bk b1 #[pt b0] 61,bk b0 #[Ay,Az,A2,Aa AG Af AH,Lk,sv Bb,Aa AC Ai AD,AA,pt AN,pt AO,Aa AR Am AT,Aa C7 BD C8] 66] w) (by kernel_rfl) (by kernel_rfl) (fun _ _ d _ _ h=>by cases d <;> exact h) (fun w h_=>⟨Aa Bm At Bt,h_.sat.on _ (.tail _ (.head _)),h_.sat.on _ (.tail _ (.tail _ (.head _))),h_.sat.on _ (.tail _ (.tail _ (.tail _ (.head _)))),trivial⟩) ?_
          simp only [Eg,List.filterMap_cons,List.filterMap_nil,List.getElem?_toArray,List.getElem?_cons_zero,List.getElem?_cons_succ,Option.map_some,List.drop_succ_cons,List.drop_zero,AI,Br]
          refine TG (v:=pt b0) [.val (pt b0)] [.ld ⟨b1,0,none⟩ (pt b0)] (by kernel_rfl) (by kernel_rfl) (by kernel_rfl) (fun _ h_=>h_.elim fun Lk h_=>⟨[NZ,bk b1 #[pt b0] 61,bk b0 #[Ay,Az,A2,Aa AG Af AH,Lk,sv Bb,Aa AC Ai AD,AA,pt AN,pt AO,Aa AR Am AT,Aa C7 BD C8] 66],h_,⟨⟨1,_,_,_,rfl,rfl,rfl⟩,trivial⟩⟩) (Ar 2 (TG (v:=Aa C7 BD C8) [.val (Aa C7 BD C8)] [.ld ⟨b0,11,none⟩ (Aa C7 BD C8)] (by kernel_rfl) (by kernel_rfl) (by kernel_rfl) (fun _ h_=>h_.elim fun Lk h_=>⟨[NZ,bk b1 #[pt b0] 61,bk b0 #[Ay,Az,A2,Aa AG Af AH,Lk,sv Bb,Aa AC Ai AD,AA,pt AN,pt AO,Aa AR Am AT,Aa C7 BD C8] 66],h_,⟨⟨2,_,_,_,rfl,rfl,rfl⟩,trivial⟩⟩) (Ar 1 (TG (v:=pt b0) [.val (pt b0)] [.ld ⟨b1,0,none⟩ (pt b0)] (by kernel_rfl) (by kernel_rfl) (by kernel_rfl) (fun _ h_=>h_.elim fun Lk h_=>⟨[NZ,bk b1 #[pt b0] 61,bk b0 #[Ay,Az,A2,Aa AG Af AH,Lk,sv Bb,Aa AC Ai AD,AA,pt AN,pt AO,Aa AR Am AT,Aa C7 BD C8] 66],h_,⟨⟨1,_,_,_,rfl,rfl,rfl⟩,trivial⟩⟩) (Ar 2 (TG (v:=Aa C7 BD C8) [.val (Aa C7 BD C8)] [.ld ⟨b0,11,none⟩ (Aa C7 BD C8)] (by kernel_rfl) (by kernel_rfl) (by kernel_rfl) (fun _ h_=>h_.elim fun Lk h_=>⟨[NZ,bk b1 #[pt b0] 61,bk b0 #[Ay,Az,A2,Aa AG Af AH,Lk,sv Bb,Aa AC Ai AD,AA,pt AN,pt AO,Aa AR Am AT,Aa C7 BD C8] 66],h_,⟨⟨2,_,_,_,rfl,rfl,rfl⟩,trivial⟩⟩) (Ar 1 (GT (T:=81) (kd:=.i64) (R:=E5) rfl ZW (AK.rd Ep) fun Bqb _ _ _ Bwt=>?_))))))))
          have e290:Elem NZ Bqb [Aa Ahy X7 Ap7]:=I6.elem e284 Bwt
          refine Mw rfl (by kernel_rfl) (by kernel_rfl) (by kernel_rfl) (by kernel_rfl) e290 (fun w h_=>h_.elim fun Lk h_=>h_.mem _ (.head _)) (TG (v:=pt b0) [.val (pt b0)] [.ld ⟨b1,0,none⟩ (pt b0)] (by kernel_rfl) (by kernel_rfl) (by kernel_rfl) (fun _ h_=>h_.elim fun Lk h_=>⟨[NZ,bk b1 #[pt b0] 61,bk b0 #[Ay,Az,A2,Aa AG Af AH,Lk,sv Bb,Aa AC Ai AD,AA,pt AN,pt AO,Aa AR Am AT,Aa C7 BD C8] 66],h_,⟨⟨1,_,_,_,rfl,rfl,rfl⟩,trivial⟩⟩) (kpt (Dl (K.mv5 (K.mv5 (bnd h fun Mc Bex h=>(ocl (BA.ok Bex Cj (Bl.nil (encI .i64) 1 none_)) rfl ⟨(.head _),trivial⟩ ?_)))))))
          rintro _ _ ⟨QK,MM,Nr,Adg,rfl,rfl⟩
          refine Bi (P1 (fun w h_=>⟨Aa MM Mc.2 Nr,h_.sat.on _ (.tail _ (.tail _ (.tail _ (.tail _ (.head _))))),h_.sat.on _ (.tail _ (.tail _ (.tail _ (.tail _ (.tail _ (.head _)))))),h_.sat.on _ (.head _),trivial⟩) (kpt (HY #[iv Mc.1] 3 1 fun Bx7=>(P1 (fun w h_=>⟨Aa MM Mc.2 Nr,h_.sat.on _ (.tail _ (.tail _ (.tail _ (.tail _ (.tail _ (.head _)))))),h_.sat.on _ (.tail _ (.tail _ (.tail _ (.tail _ (.tail _ (.tail _ (.head _))))))),h_.sat.on _ (.tail _ (.head _)),trivial⟩) (kpt (K.Bx (bnd h fun Rj Bcc h=>(Adk (ys:=[Mc.1]) (Ec .i64) rfl Ali (by kernel_rfl) (by kernel_rfl) (by kernel_rfl) (by kernel_rfl) Bcc Bos (Qd (n:=1) (Ec .i64) [Mc.1] (by kernel_rfl) rfl (by decide) 1 rfl) fun By3 Ah1 Aqa Boy=>(P1 (fun w h_=>⟨Aa MM Mc.2 Nr,h_.sat.on _ (.tail _ (.tail _ (.tail _ (.tail _ (.tail _ (.head _)))))),h_.sat.on _ (.tail _ (.tail _ (.tail _ (.tail _ (.tail _ (.tail _ (.head _))))))),h_.sat.on _ (.tail _ (.tail _ (.head _))),trivial⟩) (Ca ?_))))))))))
          refine DI (T:=81) (kd:=.i64) (R:=E5) rfl ZW (AK.rd Ep) fun Bqc _ _ _ Azh=>?_
          have e304:Elem NZ Bqc [Aa Ahy X7 Ap7]:=I6.elem e284 Azh
          refine K.An (K.drop (K.mv3 (K.drop (K.Bx (K.drop (K.mv3 (bnd h fun Wz Aoj h=>(Aa3 (R:=E5) (v:=Aa Ah1 Rj Aqa) (x':=(Rj)) rfl (by kernel_rfl) (by kernel_rfl) (by kernel_rfl) (by kernel_rfl) (by kernel_rfl) Azh Aoj e284 (Xn (x:=(Rj)) Boy) fun YQ Bo0=>?_))))))))
          have Amj:=IF Aoj
          refine K.weak (env':=[(189,Aa Ah1 Rj Aqa)]) ?_ ⟨(by first | rfl | (unfold Aa;rw [Amj];rfl)),trivial⟩
          refine K.eq (l':=YQ :: bk b0 #[Ay,Az,A2,Aa AG Af AH,Aa MM Mc.2 Nr,sv Bb,Aa AC Ai AD,AA,pt AN,pt AO,Aa AR Am AT,Aa C7 Wz C8] 66 :: QK :: BT :: bk AN #[iv BW] 3 :: bk AO #[Aa CR BJ CS,Cg] 25 :: CY :: X) rfl (by first | rfl | (unfold Aa;rw [Amj];first | done | rfl)) (knl (B7 (Cw ?_)))
          obtain rfl:=As h
          exact kdv (.tuple #[]) [bk b0 #[Ay,Az,A2,Aa AG Af AH,Aa MM Mc.2 Nr,sv Bb,Aa AC Ai AD,AA,pt AN,pt AO,Aa AR Am AT,Aa C7 Wz C8] 66,QK,BT,YQ,bk AN #[iv BW] 3,bk AO #[Aa CR BJ CS,Cg] 25,CY] (K.mv6 (K.mv6 (K.mv6 (K.mv3 (K.mv6 (K.mv6 (K.mv6 (BH ⟨QK,MM,Nr,BT,AR,AT,YQ,C7,C8,CY,CR,CS,Adg,Ci,Bo0,DZ,rfl,rfl⟩))))))))
         ·refine ksr (kx 2 (Ad ?_))
          refine AU h (fun h=>?_) fun h=>?_
          ·refine ksr (kld 1 0 rfl (Dl (K.Bx (K.Bx (bnd h fun Avu Be0 h=>(Bz (BA.ok Be0 Cj (Bl.nil (encI .i64) 1 none_)) rfl ⟨(.head _),trivial⟩ ?_))))))
           rintro _ _ ⟨By4,Bxx,B1b,Bo3,rfl,rfl⟩
           refine Bi (K.Al (K.drop (Ba (kld 3 0 rfl (kx 1 (kld 2 4 rfl (K.Al (K.drop (K.An (K.An ?_))))))))))
           refine bnd h fun Avv Be1 h=>(Bz (FO.ok Be1 Cu Bo3 Co (Ah.rd Ci) BE hG) rfl ⟨(t6 CU),(t6 CJ),(.tail _ (.head _)),(t6 BC),(t6 BU),trivial⟩ ?_)
           rintro _ _ ⟨By5,Bxy,B1c,Bo7,rfl,rfl⟩
           refine Bi (FG (kld 2 0 rfl (K.Al (K.drop (Dl (K.Al (K.Al (bnd h fun Ae2 Be4 h=>(Bz (BA.ok Be4 Bo7 (Bl.nil (encI .i64) 1 none_)) rfl ⟨(.head _),trivial⟩ ?_)))))))))
           rintro _ _ ⟨Anw,Ah6,Aqk,Bpa,rfl,rfl⟩
           refine Bi (K.Al (K.drop (knl (B7 (Cw ?_)))))
           obtain rfl:=As h
           exact kdv (.tuple #[]) [bk b0 #[Ay,Az,A2,Aa AG Af AH,Aa Ah6 Ae2.2 Aqk,sv Bb,Aa AC Ai AD,AA,pt AN,pt AO,Aa AR Am AT,Aa C7 BD C8] 66,Anw,BT,Dn,bk AN #[iv BW] 3,bk AO #[Aa CR BJ CS,Cg] 25,CY] (BH ⟨Anw,Ah6,Aqk,BT,AR,AT,Dn,C7,C8,CY,CR,CS,Bpa,Ci,Ep,DZ,rfl,rfl⟩)
          ·refine ksr (kx 2 (Ad ?_))
           refine AU h (fun h=>?_) fun h=>?_
           ·refine B8 (kpr [(0,3),(1,3),(2,0),(3,0),(4,3),(5,0),(6,3),(7,1)] [1,2,6] (AP 0 0 rfl (AP 0 0 rfl (Ar 2 (AP 1 8 rfl (Ar 1 (AP 2 0 rfl (kpt (HY #[iv BW] 3 1 fun A2j=>(Dm [2,3,7] rfl ?_))))))))))
            refine Ca (K.Bx (K.Bx (bnd h fun Avx Be6 h=>(Bz (BA.ok Be6 Cj (Ah.rd (Ah.blk 3 (Ec .i64) A2j [BW] #[iv BW] 1 (by kernel_rfl) rfl (by decide)))) rfl ⟨(.head _),trivial⟩ ?_))))
            rintro _ _ ⟨By6,Bxz,B1d,Bpd,rfl,rfl⟩
            refine Bi (K.Al (K.drop (Ad (B8 (kpr [(0,3),(1,3),(2,0),(3,3),(4,1),(5,1)] [2,3] (AP 1 0 rfl (AP 1 0 rfl (Ar 1 (AP 0 1 rfl (kpt ?_))))))))))
            refine bnd h fun Ut Be8 h=>(M4 (LC.ok Be8 Co) rfl ⟨(t8 CJ),trivial⟩ (Dm [2,3] rfl (kpt (HY #[iv Ut] 3 1 fun A2k=>(Dm [3,4] rfl (Ca (K.Al (K.Al (bnd h fun Ae4 Bfa h=>(Bz (BA.ok Bfa Bpd (Ah.rd (Ah.blk 3 (Ec .i64) A2k [Ut] #[iv Ut] 1 (by kernel_rfl) rfl (by decide)))) rfl ⟨(.head _),trivial⟩ ?_))))))))))
            rintro _ _ ⟨An0,Aib,Aqq,Bpe,rfl,rfl⟩
            refine Bi (K.Al (K.drop (FG (kld 3 0 rfl (K.mv3 (K.drop (CV 2 0 5 rfl (K.Al (K.drop (K.mv6 ?_))))))))))
            refine K.mv6 (K.mv6 (K.mv3 (bnd h fun Uu Bfb h=>(Bz (hR.IC Bfb Co DZ BE hG) rfl ⟨(t3 CJ),(t3 BC),(t3 BU),trivial⟩ ?_))))
            rintro _ _ ⟨An1,Aie,Aqs,Bpi,rfl,rfl⟩
            refine Ab5 (knl (B7 (Cw ?_)))
            obtain rfl:=As h
            exact kdv (.tuple #[]) [bk b0 #[Ay,Az,A2,Aa AG Af AH,Aa Aib Ae4.2 Aqq,sv Bb,Aa AC Ai AD,AA,pt AN,pt AO,Aa AR Am AT,Aa C7 BD C8] 66,An0,BT,Dn,bk AN #[iv Uu.1] 3,bk AO #[Aa Aie Uu.2 Aqs,Cg] 25,An1] (K.mv3 (K.mv3 (K.mv3 (K.mv6 (K.mv6 (K.mv6 (K.mv6 (BH ⟨An0,Aib,Aqq,BT,AR,AT,Dn,C7,C8,An1,Aie,Aqs,Bpe,Ci,Ep,Bpi,rfl,rfl⟩))))))))
           ·refine BV (B7 (Cw ?_))
            obtain rfl:=As h
            exact kdv (.tuple #[]) [bk b0 #[Ay,Az,A2,Aa AG Af AH,Aa Bm At Bt,sv Bb,Aa AC Ai AD,AA,pt AN,pt AO,Aa AR Am AT,Aa C7 BD C8] 66,B9,BT,Dn,bk AN #[iv BW] 3,bk AO #[Aa CR BJ CS,Cg] 25,CY] (K.drop (K.drop (BH ⟨B9,Bm,Bt,BT,AR,AT,Dn,C7,C8,CY,CR,CS,Cj,Ci,Ep,DZ,rfl,rfl⟩)))
def DO.l1:Nat→(Rc:GS)→(Af:Bg)→(Bb:ByteArray)→(Ai:Ae)→(NN:(List Tree)→(List Int)→TyA→Ae→TyL→Int→TyU→Option (TyA×Ae×TyL×Int×TyU))→(LN:List Tree)→(P4:List Int)→(TJ:TyA)→(Rf:Ae)→(TK:TyL)→(US:Int)→(TL:TyU)→Option (TyA×Ae×TyL×Int×TyU)
 | 0,_,_,_,_,_,_,_,_,_,_,_,_=>none
 | N1+1,Rc,Af,Bb,Ai,NN,LN,P4,TJ,Rf,TK,US,TL=>cond (decide (((LN.length:Nat):Int) > 1)) ((Bh LN 0).bind fun Sr=>(Dk.f N1 Af TJ Ai Rf Sr.kind Sr.text Sr.n Sr.at_ Sr.kids).bind fun Avq=>(BA.f N1 Avq 19 ([])).bind fun N8=>(Bh LN 1).bind fun x158=>(Rc.D4 Af N8.2 Bb Ai Rf TK US TL x158.kind x158.text x158.n x158.at_ x158.kids).bind fun FT=>(DR LN 2 ((LN.length:Nat):Int)).bind fun Rh=>BG (fun (Wy:List Int) (P5:TyA)=>(EU.f N1 P5).bind fun L_=>(Bh P5 N8.1).bind fun x200=>(EW P5 N8.1 (x200.1,L_,x200.2.2.1,x200.2.2.2)).bind fun Nw=>DO.l1 N1 Rc Af Bb Ai NN Rh Wy Nw FT.2.1 FT.2.2.1 FT.2.2.2.1 FT.2.2.2.2) (fun Vj=>cond (decide (((Rh.length:Nat):Int) > 0)) ((BA.f N1 FT.1 18 ([])).bind fun M8=>(apd 8 P4 [M8.1]).bind fun Aa8=>Vj Aa8 M8.2) (Vj P4 FT.1))) (NN LN P4 TJ Rf TK US TL)
def DO.l0:Nat→(l6:List Int)→(Gm:Ae)→(EI:TyL)→(x48:Int)→(l49:TyU)→(x55:Int)→(l56:TyA)→Option (TyA×Ae×TyL×Int×TyU)
 | 0,_,_,_,_,_,_,_=>none
 | Ru+1,l6,Gm,EI,x48,l49,x55,l56=>cond (decide (x55 < ((l6.length:Nat):Int))) ((Bh l6 x55).bind fun x63=>(EU.f Ru l56).bind fun Fc=>(Bh l56 x63).bind fun x68=>(EW l56 x63 (x68.1,Fc,x68.2.2.1,x68.2.2.2)).bind fun Nz=>DO.l0 Ru l6 Gm EI x48 l49 (IntKind.i64.wrap (x55+1)) Nz) (some (l56,Gm,EI,x48,l49))
def DO.g (Rc:GS) (k:Nat) (Af:Bg) (At:TyA) (Bb:ByteArray) (Ai:Ae) (Am:Ae) (BD:TyL) (BW:Int) (BJ:TyU) (a1:List Tree):Option (TyA×Ae×TyL×Int×TyU):=BG (fun (l1:List Tree) (l6:List Int) (LO:TyA) (Wx:Ae) (l21:TyL) (x26:Int) (l27:TyU)=>BG (fun (JN:TyA) (Gm:Ae) (EI:TyL) (x48:Int) (l49:TyU)=>DO.l0 k l6 Gm EI x48 l49 0 JN) (fun J54=>cond (decide (((l1.length:Nat):Int) > 0)) ((Bh l1 0).bind fun x80=>(Rc.D4 Af LO Bb Ai Wx l21 x26 l27 x80.kind x80.text x80.n x80.at_ x80.kids).bind fun FC=>J54 FC.1 FC.2.1 FC.2.2.1 FC.2.2.2.1 FC.2.2.2.2) (J54 LO Wx l21 x26 l27))) (fun NN=>DO.l1 k Rc Af Bb Ai NN a1 ([]) At Am BD BW BJ)
theorem DO.C2 {Rc:GS} (hR:Rc.Good) {k:Nat}:DO.C (DO.g Rc k):=by
 intro Af At Bb Ai Am BD BW BJ a1 b0 AH Bt AD AT C8 AN AO CS C6 Ay Az A2 AA Cg CF B9 C5 BT Dn CY DY G AG Bm AC AR C7 CR C4 r h Cu Cj Co Ci Ep DZ Fk hG
 refine C3 (args:=[pt b0,Aa C4 a1 C6]) Tryz.func75 rfl (By rfl) ?_
 intro A X hh_
 obtain ⟨CU,CJ,DV,BU,_⟩:=hh_
 unfold DO.g at h
 refine K.eq (env':=[(0,pt b0),(1,Aa C4 a1 C6)]) (l':=bk b0 #[Ay,Az,A2,Aa AG Af AH,Aa Bm At Bt,sv Bb,Aa AC Ai AD,AA,pt AN,pt AO,Aa AR Am AT,Aa C7 BD C8] 66 :: B9 :: BT :: Dn :: bk AN #[iv BW] 3 :: bk AO #[Aa CR BJ CS,Cg] 25 :: CY :: X) rfl rfl (ksr (kx 1 (Ad ?_)))
 obtain ⟨NN,Bap,h⟩:=De h
 refine Df (τ:=(List Tree)×(List Int)×TyA×Ae×TyL×Int×TyU×Aq×Nat×Ab×Aq×Nat×Ab×Aq×Nat×Ab×Aq×Nat×Ab×Aq×Nat×Ab×Aq×Nat) (fun t=>[(0,pt b0),(1,Aa t.2.2.2.2.2.2.2.1 t.1 t.2.2.2.2.2.2.2.2.1),(4,Aa t.2.2.2.2.2.2.2.2.2.2.1 t.2.1 t.2.2.2.2.2.2.2.2.2.2.2.1)]) (fun t=>bk b0 #[Ay,Az,A2,Aa AG Af AH,Aa t.2.2.2.2.2.2.2.2.2.2.2.2.2.1 t.2.2.1 t.2.2.2.2.2.2.2.2.2.2.2.2.2.2.1,sv Bb,Aa AC Ai AD,AA,pt AN,pt AO,Aa t.2.2.2.2.2.2.2.2.2.2.2.2.2.2.2.2.1 t.2.2.2.1 t.2.2.2.2.2.2.2.2.2.2.2.2.2.2.2.2.2.1,Aa t.2.2.2.2.2.2.2.2.2.2.2.2.2.2.2.2.2.2.2.1 t.2.2.2.2.1 t.2.2.2.2.2.2.2.2.2.2.2.2.2.2.2.2.2.2.2.2.1] 66 :: bk AN #[iv t.2.2.2.2.2.1] 3 :: bk AO #[Aa t.2.2.2.2.2.2.2.2.2.2.2.2.2.2.2.2.2.2.2.2.2.2.1 t.2.2.2.2.2.2.1 t.2.2.2.2.2.2.2.2.2.2.2.2.2.2.2.2.2.2.2.2.2.2.2,Cg] 25 :: t.2.2.2.2.2.2.2.2.2.1 :: t.2.2.2.2.2.2.2.2.2.2.2.2.1 :: t.2.2.2.2.2.2.2.2.2.2.2.2.2.2.2.1 :: t.2.2.2.2.2.2.2.2.2.2.2.2.2.2.2.2.2.2.1 :: t.2.2.2.2.2.2.2.2.2.2.2.2.2.2.2.2.2.2.2.2.2.1 :: X) (fun t=>NN t.1 t.2.1 t.2.2.1 t.2.2.2.1 t.2.2.2.2.1 t.2.2.2.2.2.1 t.2.2.2.2.2.2.1=some r∧RdR (AX 54) DY (Aa t.2.2.2.2.2.2.2.1 t.1 t.2.2.2.2.2.2.2.2.1) t.1∧Ah (encI .i64) 3 1 t.2.2.2.2.2.2.2.2.2.1 (Aa t.2.2.2.2.2.2.2.2.2.2.1 t.2.1 t.2.2.2.2.2.2.2.2.2.2.2.1) t.2.1∧Ah e48 48 4 t.2.2.2.2.2.2.2.2.2.2.2.2.1 (Aa t.2.2.2.2.2.2.2.2.2.2.2.2.2.1 t.2.2.1 t.2.2.2.2.2.2.2.2.2.2.2.2.2.2.1) t.2.2.1∧Ah encS 9 1 t.2.2.2.2.2.2.2.2.2.2.2.2.2.2.2.1 (Aa t.2.2.2.2.2.2.2.2.2.2.2.2.2.2.2.2.1 t.2.2.2.1 t.2.2.2.2.2.2.2.2.2.2.2.2.2.2.2.2.2.1) t.2.2.2.1∧AK E5 81 t.2.2.2.2.2.2.2.2.2.2.2.2.2.2.2.2.2.2.1 (Aa t.2.2.2.2.2.2.2.2.2.2.2.2.2.2.2.2.2.2.2.1 t.2.2.2.2.1 t.2.2.2.2.2.2.2.2.2.2.2.2.2.2.2.2.2.2.2.2.1) t.2.2.2.2.1∧AK (D5 Dr) 41 t.2.2.2.2.2.2.2.2.2.2.2.2.2.2.2.2.2.2.2.2.2.1 (Aa t.2.2.2.2.2.2.2.2.2.2.2.2.2.2.2.2.2.2.2.2.2.2.1 t.2.2.2.2.2.2.1 t.2.2.2.2.2.2.2.2.2.2.2.2.2.2.2.2.2.2.2.2.2.2.2) t.2.2.2.2.2.2.1) ?_ ?_
 ·rintro ⟨l1,l6,LO,Wx,l21,x26,l27,A3,k4,h7,A8,k9,h12,KJ,k14,h17,Jm,k19,h22,A23,k24,h28,A29,k30⟩ ⟨h,o5,o10,o15,o20,Hc,Hd⟩
  subst Bap
  obtain ⟨J54,Bas,h⟩:=De h
  refine Df (τ:=TyA×Ae×TyL×Int×TyU×Ab×Aq×Nat×Ab×Aq×Nat×Ab×Aq×Nat×Ab×Aq×Nat) (fun t=>[(0,pt b0),(4,Aa A8 l6 k9)]) (fun t=>bk b0 #[Ay,Az,A2,Aa AG Af AH,Aa t.2.2.2.2.2.2.1 t.1 t.2.2.2.2.2.2.2.1,sv Bb,Aa AC Ai AD,AA,pt AN,pt AO,Aa t.2.2.2.2.2.2.2.2.2.1 t.2.1 t.2.2.2.2.2.2.2.2.2.2.1,Aa t.2.2.2.2.2.2.2.2.2.2.2.2.1 t.2.2.1 t.2.2.2.2.2.2.2.2.2.2.2.2.2.1] 66 :: bk AN #[iv t.2.2.2.1] 3 :: bk AO #[Aa t.2.2.2.2.2.2.2.2.2.2.2.2.2.2.2.1 t.2.2.2.2.1 t.2.2.2.2.2.2.2.2.2.2.2.2.2.2.2.2,Cg] 25 :: h7 :: t.2.2.2.2.2.1 :: t.2.2.2.2.2.2.2.2.1 :: t.2.2.2.2.2.2.2.2.2.2.2.1 :: t.2.2.2.2.2.2.2.2.2.2.2.2.2.2.1 :: X) (fun t=>J54 t.1 t.2.1 t.2.2.1 t.2.2.2.1 t.2.2.2.2.1=some r∧Ah e48 48 4 t.2.2.2.2.2.1 (Aa t.2.2.2.2.2.2.1 t.1 t.2.2.2.2.2.2.2.1) t.1∧Ah encS 9 1 t.2.2.2.2.2.2.2.2.1 (Aa t.2.2.2.2.2.2.2.2.2.1 t.2.1 t.2.2.2.2.2.2.2.2.2.2.1) t.2.1∧AK E5 81 t.2.2.2.2.2.2.2.2.2.2.2.1 (Aa t.2.2.2.2.2.2.2.2.2.2.2.2.1 t.2.2.1 t.2.2.2.2.2.2.2.2.2.2.2.2.2.1) t.2.2.1∧AK (D5 Dr) 41 t.2.2.2.2.2.2.2.2.2.2.2.2.2.2.1 (Aa t.2.2.2.2.2.2.2.2.2.2.2.2.2.2.2.1 t.2.2.2.2.1 t.2.2.2.2.2.2.2.2.2.2.2.2.2.2.2.2) t.2.2.2.2.1) ?_ ?_
  ·rintro ⟨JN,Gm,EI,x48,l49,h34,A35,QW,h39,Mj,k41,h44,MO,Ns,h50,KK,k52⟩ ⟨h,PD,R1,Ol,N3⟩
   subst Bas
   refine ksr (kx 3 (Ad (C1 (K.Bx (K.mv7 (K.mv7 (K.mv7 (K.mv7 (K.mv7 (K.mv7 ?_))))))))))
   refine K.mv7 (Fx (τ:=Int×TyA×Ab×Aq×Nat) (fun t=>[(0,pt b0),(51,Aa A8 l6 k9),(52,iv ((l6.length:Nat):Int)),(53,iv t.1)]) (fun t=>bk b0 #[Ay,Az,A2,Aa AG Af AH,Aa t.2.2.2.1 t.2.1 t.2.2.2.2,sv Bb,Aa AC Ai AD,AA,pt AN,pt AO,Aa Mj Gm k41,Aa MO EI Ns] 66 :: bk AN #[iv x48] 3 :: bk AO #[Aa KK l49 k52,Cg] 25 :: h7 :: h39 :: h44 :: h50 :: t.2.2.1 :: X) (fun m t=>DO.l0 m l6 Gm EI x48 l49 t.1 t.2.1=some r∧Ah e48 48 4 t.2.2.1 (Aa t.2.2.2.1 t.2.1 t.2.2.2.2) t.2.1) k (0,JN,h34,A35,QW) ⟨h,PD⟩ sb rfl ?_)
   clear h
   rintro Ru ⟨x55,l56,h57,Hg,k59⟩ ⟨h,o60⟩
   cases Ru with
   | zero=>simp [DO.l0] at h
   | succ Ru =>
    simp only [DO.l0] at h
    refine ksr (kx 1 (Ad (B8 ?_)))
    refine AU h (fun h=>?_) fun h=>?_
    ·refine BV (AM (B8 (C1 (ksr (bnd h fun x63 KV h=>(GQ (T:=3) (kd:=.i64) (Ec .i64) rfl KV (Ah.rd o10) fun p64 e65 y66=>?_))))))
     have e65:Elem _ p64 [iv x63]:=e65
     refine Ip rfl (by kernel_rfl) (by kernel_rfl) (by kernel_rfl) (by kernel_rfl) e65 (.tail _ (.tail _ (.tail _ (.head _)))) (kx 1 (Ad (kpr [(0,0),(1,0),(2,0),(3,0),(4,3),(5,0),(6,0),(7,1)] [0] (Ar 4 (AP 0 4 rfl (Ar 2 (kpt (bnd h fun Fc Ni h=>(M4 (EU.ok Ni (Ah.rd o60)) rfl ⟨(.tail _ (.tail _ (.tail _ (.tail _ (.tail _ (.tail _ (.head _))))))),trivial⟩ (Dm [0] rfl ?_))))))))))
     refine Ca (bnd h fun x68 Ao3 h=>(GQ (T:=48) (kd:=.i64) Fo rfl Ao3 (Ah.rd o60) fun p69 e70 y71=>?_))
     have e70:Elem _ p69 [iv x68.1,iv x68.2.1,iv x68.2.2.1,iv x68.2.2.2]:=e70
     refine Ha (off:=1) rfl e70 y71 fun p72 e73 y74=>?_
     have e73:Elem _ p72 [iv x68.2.1,iv x68.2.2.1,iv x68.2.2.2]:=e73
     refine K.mv7 (bnd h fun Nz VS h=>(LM (v:=iv Fc) (off:=1) (x':=(x68.1,Fc,x68.2.2.1,x68.2.2.2)) Fo rfl (by kernel_rfl) (by kernel_rfl) (by kernel_rfl) (by kernel_rfl) (by kernel_rfl) y74 o60 Ao3 (by kernel_rfl) (by kernel_rfl) VS fun h76 PH=>?_))
     have g78:=IF VS
     refine K.weak (env':=[(0,pt b0),(51,Aa A8 l6 k9),(52,iv ((l6.length:Nat):Int)),(53,iv x55),(64,iv Fc)]) ?_ ⟨gr,(by first | rfl | (unfold Aa;rw [g78];rfl)),gr,gr,gr,trivial⟩
     refine K.eq (l':=h76 :: bk b0 #[Ay,Az,A2,Aa AG Af AH,Aa Hg Nz k59,sv Bb,Aa AC Ai AD,AA,pt AN,pt AO,Aa Mj Gm k41,Aa MO EI Ns] 66 :: bk AN #[iv x48] 3 :: bk AO #[Aa KK l49 k52,Cg] 25 :: h7 :: h39 :: h44 :: h50 :: X) rfl (by first | rfl | (unfold Aa;rw [g78];first | done | rfl)) (knl (B7 (AM (Bu (kx 2 (Ad (K.mv7 (K.mv7 (K.mv7 (K.mv7 ?_))))))))))
     exact K.mv7 (K.mv7 (K.mv7 (E3 Ru (IntKind.i64.wrap (x55+1),Nz,h76,Hg,k59) (Nat.lt_succ_self _) ⟨h,PH⟩ sb rfl)))
    ·refine Fv (Dg (Dg (Fw (Cw ?_))))
     obtain rfl:=As h
     exact kdv (.tuple #[]) [bk b0 #[Ay,Az,A2,Aa AG Af AH,Aa Hg l56 k59,sv Bb,Aa AC Ai AD,AA,pt AN,pt AO,Aa Mj Gm k41,Aa MO EI Ns] 66,h57,h39,h44,bk AN #[iv x48] 3,bk AO #[Aa KK l49 k52,Cg] 25,h50] (K.mv3 (K.drop (K.mv5 (K.mv3 (K.mv3 (K.mv5 (K.mv5 (K.mv6 (K.mv6 (BH ⟨h57,Hg,k59,h39,Mj,k41,h44,MO,Ns,h50,KK,k52,o60,R1,Ol,N3,rfl,rfl⟩))))))))))
  ·skip
   refine ksr (kx 3 (Ad ?_))
   refine AU h (fun h=>?_) fun h=>?_
   ·refine Bu (kx 2 (bnd h fun x80 Bhx h=>(DI (T:=54) (kd:=.i64) (R:=(AX 54)) rfl Bhx o5 fun p81 u84 Uo e82 y83=>?_)))
    obtain ⟨A86,QY,rfl,o88⟩:=DF 54 Uo
    refine Fq rfl e82 (t8 DV) (K.mv7 (K.mv3 (K.mv3 (K.mv7 (K.mv7 (K.mv7 (K.mv6 (bnd h fun FC ZN h=>(Bz (hR.D4 ZN Cu o15 Co o20 Hc Hd o88 hG) rfl ⟨(.tail _ CU),(.tail _ CJ),(.tail _ DV),(.tail _ BU),trivial⟩ ?_)))))))))
    rintro _ _ ⟨h90,NH,Of,h94,A95,k96,h98,A99,Bih,OY,O4,Pw,Oo,o97,Bmk,Rx,rfl,rfl⟩
    exact E4 (Ad (K.mv6 (K.Bx (K.Bx (K.Bx (K.mv7 (K.mv7 (K.mv7 (K.mv7 (B4 (FC.1,FC.2.1,FC.2.2.1,FC.2.2.2.1,FC.2.2.2.2,h90,NH,Of,h94,A95,k96,h98,A99,Bih,OY,O4,Pw) ⟨h,Oo,o97,Bmk,Rx⟩ sb rfl))))))))))
   ·exact BV (AM (B4 (LO,Wx,l21,x26,l27,h12,KJ,k14,h17,Jm,k19,h22,A23,k24,h28,A29,k30) ⟨h,o15,o20,Hc,Hd⟩ sb rfl))
 ·skip
  refine C1 (Dl (K.mv7 (K.mv5 (K.mv5 (K.mv5 (K.Bx (K.mv7 (K.mv7 (K.mv7 (Fx (τ:=(List Tree)×(List Int)×TyA×Ae×TyL×Int×TyU×Aq×Nat×Ab×Aq×Nat×Ab×Aq×Nat×Ab×Aq×Nat×Ab×Aq×Nat×Ab×Aq×Nat) (fun t=>[(0,pt b0),(1,Aa t.2.2.2.2.2.2.2.1 t.1 t.2.2.2.2.2.2.2.2.1),(4,Aa t.2.2.2.2.2.2.2.2.2.2.1 t.2.1 t.2.2.2.2.2.2.2.2.2.2.2.1)]) (fun t=>bk b0 #[Ay,Az,A2,Aa AG Af AH,Aa t.2.2.2.2.2.2.2.2.2.2.2.2.2.1 t.2.2.1 t.2.2.2.2.2.2.2.2.2.2.2.2.2.2.1,sv Bb,Aa AC Ai AD,AA,pt AN,pt AO,Aa t.2.2.2.2.2.2.2.2.2.2.2.2.2.2.2.2.1 t.2.2.2.1 t.2.2.2.2.2.2.2.2.2.2.2.2.2.2.2.2.2.1,Aa t.2.2.2.2.2.2.2.2.2.2.2.2.2.2.2.2.2.2.2.1 t.2.2.2.2.1 t.2.2.2.2.2.2.2.2.2.2.2.2.2.2.2.2.2.2.2.2.1] 66 :: bk AN #[iv t.2.2.2.2.2.1] 3 :: bk AO #[Aa t.2.2.2.2.2.2.2.2.2.2.2.2.2.2.2.2.2.2.2.2.2.2.1 t.2.2.2.2.2.2.1 t.2.2.2.2.2.2.2.2.2.2.2.2.2.2.2.2.2.2.2.2.2.2.2,Cg] 25 :: t.2.2.2.2.2.2.2.2.2.1 :: t.2.2.2.2.2.2.2.2.2.2.2.2.1 :: t.2.2.2.2.2.2.2.2.2.2.2.2.2.2.2.1 :: t.2.2.2.2.2.2.2.2.2.2.2.2.2.2.2.2.2.2.1 :: t.2.2.2.2.2.2.2.2.2.2.2.2.2.2.2.2.2.2.2.2.2.1 :: X) (fun m t=>DO.l1 m Rc Af Bb Ai NN t.1 t.2.1 t.2.2.1 t.2.2.2.1 t.2.2.2.2.1 t.2.2.2.2.2.1 t.2.2.2.2.2.2.1=some r∧RdR (AX 54) DY (Aa t.2.2.2.2.2.2.2.1 t.1 t.2.2.2.2.2.2.2.2.1) t.1∧Ah (encI .i64) 3 1 t.2.2.2.2.2.2.2.2.2.1 (Aa t.2.2.2.2.2.2.2.2.2.2.1 t.2.1 t.2.2.2.2.2.2.2.2.2.2.2.1) t.2.1∧Ah e48 48 4 t.2.2.2.2.2.2.2.2.2.2.2.2.1 (Aa t.2.2.2.2.2.2.2.2.2.2.2.2.2.1 t.2.2.1 t.2.2.2.2.2.2.2.2.2.2.2.2.2.2.1) t.2.2.1∧Ah encS 9 1 t.2.2.2.2.2.2.2.2.2.2.2.2.2.2.2.1 (Aa t.2.2.2.2.2.2.2.2.2.2.2.2.2.2.2.2.1 t.2.2.2.1 t.2.2.2.2.2.2.2.2.2.2.2.2.2.2.2.2.2.1) t.2.2.2.1∧AK E5 81 t.2.2.2.2.2.2.2.2.2.2.2.2.2.2.2.2.2.2.1 (Aa t.2.2.2.2.2.2.2.2.2.2.2.2.2.2.2.2.2.2.2.1 t.2.2.2.2.1 t.2.2.2.2.2.2.2.2.2.2.2.2.2.2.2.2.2.2.2.2.1) t.2.2.2.2.1∧AK (D5 Dr) 41 t.2.2.2.2.2.2.2.2.2.2.2.2.2.2.2.2.2.2.2.2.2.1 (Aa t.2.2.2.2.2.2.2.2.2.2.2.2.2.2.2.2.2.2.2.2.2.2.1 t.2.2.2.2.2.2.1 t.2.2.2.2.2.2.2.2.2.2.2.2.2.2.2.2.2.2.2.2.2.2.2) t.2.2.2.2.2.2.1) k (a1,[],At,Am,BD,BW,BJ,C4,C6,none_,none,0,B9,Bm,Bt,BT,AR,AT,Dn,C7,C8,CY,CR,CS) ⟨h,Fk,(Ah.nil (encI .i64) 3 1 none_),Cj,Ci,Ep,DZ⟩ sb rfl ?_))))))))))
  clear h
  rintro N1 ⟨LN,P4,TJ,Rf,TK,US,TL,X9,Aac,h112,Ahc,Apo,A85,Azk,Bil,h122,Azo,Bip,h127,Azq,Biq,SV,Sy,Tw⟩ ⟨h,Ry,Ab6,At4,Aci,At7,PB⟩
  cases N1 with
  | zero=>simp [DO.l1] at h
  | succ N1 =>
   simp only [DO.l1] at h
   refine B8 (ksr (kx 3 (Ad ?_)))
   refine AU h (fun h=>?_) fun h=>?_
   ·refine BV (AM (C1 (ksr (kx 2 (bnd h fun Sr Bgk h=>(DI (T:=54) (kd:=.i64) (R:=(AX 54)) rfl Bgk Ry fun B12 B23 Brv A5j B3z=>?_))))))
    obtain ⟨Bw9,B0d,rfl,Bnd⟩:=DF 54 Brv
    refine Fq rfl A5j (t8 DV) (K.Bx (K.An (bnd h fun Avq Bd2 h=>(Bz (Dk.ok Bd2 Cu At4 Co (Ah.rd Aci) Bnd hG) rfl ⟨(t6 CU),(t6 CJ),(.tail _ (.tail _ (.tail _ (.head _)))),(t6 DV),(t6 BU),trivial⟩ ?_))))
    rintro _ _ ⟨A9l,UZ,Wa,R0,rfl,rfl⟩
    refine Bi (Ba (kx 1 (Dl (K.Al (K.Al (bnd h fun N8 Zx h=>(Bz (BA.ok Zx R0 (Bl.nil (encI .i64) 1 none_)) rfl ⟨(.head _),trivial⟩ ?_)))))))
    rintro _ _ ⟨Amy,Ahj,Apu,Acs,rfl,rfl⟩
    refine Bi (K.Al (K.drop (kx 1 (Ba (kx 2 (bnd h fun x158 hx158 h=>(DI (T:=54) (kd:=.i64) (R:=(AX 54)) rfl hx158 Ry fun p159 u162 Aei e160 Aze=>?_)))))))
    obtain ⟨Ahk,Apv,rfl,Acv⟩:=DF 54 Aei
    refine Fq rfl e160 (t8 DV) (K.mv7 (K.Bx (K.Bx (K.mv7 (K.mv7 (K.mv6 (K.mv6 (bnd h fun FT Zy h=>(Bz (hR.D4 Zy Cu Acs Co Aci At7 PB Acv hG) rfl ⟨(.tail _ CU),(.tail _ CJ),(.tail _ DV),(.tail _ BU),trivial⟩ ?_)))))))))
    rintro _ _ ⟨Am0,Ahl,Apw,YK,XF,Aah,QH,Qo,QU,QI,NG,Oe,WF,Bnl,Acx,WG,rfl,rfl⟩
    refine E4 (Ba (kx 1 (bnd h fun Rh Bbw h=>(P3 (T:=54) (R:=(AX 54)) (xs:=LN) 2 ((LN.length:Nat):Int) rfl (by kernel_rfl) (by kernel_rfl) (by kernel_rfl) (.inr ⟨_,.i64,rfl,(by kernel_rfl)⟩) (.inl ⟨rfl,rfl⟩) (by kernel_rfl) (by kernel_rfl) Bbw Ry fun Qp QV Ac0=>(kx 1 (Ad ?_))))))
    obtain ⟨Vj,Bak,h⟩:=De h
    refine Df (τ:=(List Int)×TyA×Ab×Aq×Nat×Ab×Aq×Nat) (fun t=>[(0,pt b0),(1,Aa Qp Rh QV),(4,Aa t.2.2.2.1 t.1 t.2.2.2.2.1),(5,iv N8.1)]) (fun t=>bk b0 #[Ay,Az,A2,Aa AG Af AH,Aa t.2.2.2.2.2.2.1 t.2.1 t.2.2.2.2.2.2.2,sv Bb,Aa AC Ai AD,AA,pt AN,pt AO,Aa XF FT.2.1 Aah,Aa Qo FT.2.2.1 QU] 66 :: YK :: QH :: bk AN #[iv FT.2.2.2.1] 3 :: bk AO #[Aa NG FT.2.2.2.2 Oe,Cg] 25 :: QI :: t.2.2.1 :: t.2.2.2.2.2.1 :: X) (fun t=>Vj t.1 t.2.1=some r∧Ah (encI .i64) 3 1 t.2.2.1 (Aa t.2.2.2.1 t.1 t.2.2.2.2.1) t.1∧Ah e48 48 4 t.2.2.2.2.2.1 (Aa t.2.2.2.2.2.2.1 t.2.1 t.2.2.2.2.2.2.2) t.2.1) ?_ ?_
    ·rintro ⟨Wy,P5,Am6,Aht,Apz,Byt,Ahu,Ap0⟩ ⟨h,Bnt,Ac1⟩
     subst Bak
     refine kpr [(0,0),(1,0),(2,0),(3,0),(4,3),(5,0),(6,0),(7,1)] [0] (Ar 4 (AP 0 4 rfl (Ar 2 (kpt (bnd h fun L_ Zz h=>(M4 (EU.ok Zz (Ah.rd Ac1)) rfl ⟨(.tail _ (.tail _ (.tail _ (.tail _ (.tail _ (.tail _ (.head _))))))),trivial⟩ (Dm [0] rfl (Ca (bnd h fun x200 Tr h=>(GQ (T:=48) (kd:=.i64) Fo rfl Tr (Ah.rd Ac1) fun Adp OR Ag4=>?_))))))))))
     have OR:Elem _ Adp [iv x200.1,iv x200.2.1,iv x200.2.2.1,iv x200.2.2.2]:=OR
     refine Ha (off:=1) rfl OR Ag4 fun Uf Nb X8=>?_
     have Nb:Elem _ Uf [iv x200.2.1,iv x200.2.2.1,iv x200.2.2.2]:=Nb
     refine K.mv7 (bnd h fun Nw Ta h=>(LM (v:=iv L_) (off:=1) (x':=(x200.1,L_,x200.2.2.1,x200.2.2.2)) Fo rfl (by kernel_rfl) (by kernel_rfl) (by kernel_rfl) (by kernel_rfl) (by kernel_rfl) X8 Ac1 Tr (by kernel_rfl) (by kernel_rfl) Ta fun QJ Ac2=>?_))
     have SU:=IF Ta
     refine K.weak (env':=[(0,pt b0),(1,Aa Qp Rh QV),(4,Aa Aht Wy Apz),(40,iv L_)]) ?_ ⟨gr,(by first | rfl | (unfold Aa;rw [SU];rfl)),(by first | rfl | (unfold Aa;rw [SU];rfl)),gr,trivial⟩
     refine K.eq (l':=QJ :: bk b0 #[Ay,Az,A2,Aa AG Af AH,Aa Ahu Nw Ap0,sv Bb,Aa AC Ai AD,AA,pt AN,pt AO,Aa XF FT.2.1 Aah,Aa Qo FT.2.2.1 QU] 66 :: YK :: QH :: bk AN #[iv FT.2.2.2.1] 3 :: bk AO #[Aa NG FT.2.2.2.2 Oe,Cg] 25 :: QI :: Am6 :: X) rfl (by first | rfl | (unfold Aa;rw [SU];first | done | rfl)) (knl (B7 (AM (K.mv6 (K.Bx (K.Bx (K.mv3 (K.mv7 (K.mv7 (K.mv7 ?_))))))))))
     exact K.mv7 (E3 N1 (Rh,Wy,Nw,FT.2.1,FT.2.2.1,FT.2.2.2.1,FT.2.2.2.2,Qp,QV,Am6,Aht,Apz,QJ,Ahu,Ap0,YK,XF,Aah,QH,Qo,QU,QI,NG,Oe) (Nat.lt_succ_self _) ⟨h,Ac0,Bnt,Ac2,Bnl,Acx,WG⟩ sb rfl)
    ·skip
     refine ksr (kx 3 (Ad ?_))
     refine AU h (fun h=>?_) fun h=>?_
     ·refine Bu (kx 2 (Dl (K.Al (K.Al (bnd h fun M8 Z0 h=>(Bz (BA.ok Z0 WF (Bl.nil (encI .i64) 1 none_)) rfl ⟨(.head _),trivial⟩ ?_))))))
      rintro _ _ ⟨A9q,Az8,Bjc,Bn6,rfl,rfl⟩
      refine Bi (K.Al (K.drop (Dh #[iv M8.1] 3 1 fun Bx6=>(K.CM (bnd h fun Aa8 Bb4 h=>(Wj (ys:=[M8.1]) (Ec .i64) rfl Ali Bb4 Ab6 (Qd (n:=1) (Ec .i64) [M8.1] (by kernel_rfl) rfl (by decide) 1 rfl) fun A9s A0c Bjd Bn9=>(K.An (K.drop (kx 1 (Ad ?_))))))))))
      exact K.Al (K.An (K.mv7 (K.mv7 (K.mv7 (K.mv7 (K.mv7 (K.mv7 (B4 (Aa8,M8.2,A9s,A0c,Bjd,A9q,Az8,Bjc) ⟨h,Bn9,Bn6⟩ sb rfl))))))))
     ·exact BV (AM (K.An (K.mv7 (K.mv7 (K.mv7 (K.mv7 (K.mv7 (K.mv7 (K.mv7 (B4 (P4,FT.1,h112,Ahc,Apo,Am0,Ahl,Apw) ⟨h,Ab6,WF⟩ sb rfl))))))))))
   ·exact Fv (Dg (Dg (Fw (AM (B4 (LN,P4,TJ,Rf,TK,US,TL,X9,Aac,h112,Ahc,Apo,A85,Azk,Bil,h122,Azo,Bip,h127,Azq,Biq,SV,Sy,Tw) ⟨h,Ry,Ab6,At4,Aci,At7,PB⟩ sb rfl)))))
def Gd.l0:Nat→(x41:List Int)→(Ei:TyA→Option (TyA×Ae×TyL×Int×TyU))→(x50:Int)→(l51:TyA)→Option (TyA×Ae×TyL×Int×TyU)
 | 0,_,_,_,_=>none
 | Hp+1,x41,Ei,x50,l51=>cond (decide (x50 < ((x41.length:Nat):Int))) ((Bh x41 x50).bind fun x58=>(EU.f Hp l51).bind fun r62=>(Bh l51 x58).bind fun x63=>(EW l51 x58 (x63.1,r62,x63.2.2.1,x63.2.2.2)).bind fun l70=>Gd.l0 Hp x41 Ei (IntKind.i64.wrap (x50+1)) l70) (Ei l51)
def Gd.g (Rc:GS) (k:Nat) (Af:Bg) (At:TyA) (Bb:ByteArray) (Ai:Ae) (Am:Ae) (BD:TyL) (BW:Int) (BJ:TyU) (Ao:Int) (Av:ByteArray) (Ap:Int) (AF:Int) (Ak:List Tree) (Ey:Int):Option (TyA×Ae×TyL×Int×TyU):=(apd 24 BD [([])]).bind fun l5=>(Rc.D4 Af At Bb Ai Am l5 BW BJ Ao Av Ap AF Ak).bind fun r10=>(Q3.f k r10.1 Ey).bind fun r27=>BG (fun (l32:TyA)=>(DR r10.2.2.1 0 (IntKind.i64.wrap (((r10.2.2.1.length:Nat):Int) - 1))).bind fun Gm=>some (l32,r10.2.1,Gm,r10.2.2.2.1,r10.2.2.2.2)) (fun Ei=>(Bh r10.2.2.1 (IntKind.i64.wrap (((r10.2.2.1.length:Nat):Int) - 1))).bind fun x41=>Gd.l0 k x41 Ei 0 r27)
theorem Gd.C2 {Rc:GS} (hR:Rc.Good) {k:Nat}:Gd.C (Gd.g Rc k):=by
 intro Af At Bb Av Ai Am BD BW Ao Ap AF Ey BJ Ak b0 AH Bt AD AT C8 AN AO CS Be Ez E0 Ay Az A2 AA Cg CF B9 C5 BT Dn CY Cs G AG Bm AC AR C7 CR Bc r h Cu Cj Co Ci Ep DZ BE hG
 refine C3 (args:=[pt b0,.agg #[iv Ao,sv Av,iv Ap,iv AF,Aa Bc Ak Be],.func (.func 79) #[] #[pt Ez,pt E0]]) Tryz.func78 rfl (By rfl) ?_
 intro A X hh_
 obtain ⟨CU,CJ,BC,BU,_⟩:=hh_
 unfold Gd.g at h
 refine K.eq (env':=[(0,pt b0),(1,.agg #[iv Ao,sv Av,iv Ap,iv AF,Aa Bc Ak Be]),(2,.func (.func 79) #[] #[pt Ez,pt E0])]) (l':=bk b0 #[Ay,Az,A2,Aa AG Af AH,Aa Bm At Bt,sv Bb,Aa AC Ai AD,AA,pt AN,pt AO,Aa AR Am AT,Aa C7 BD C8] 66 :: B9 :: BT :: Dn :: bk AN #[iv BW] 3 :: bk AO #[Aa CR BJ CS,Cg] 25 :: CY :: bk Ez #[pt b0] 61 :: bk E0 #[iv Ey] 3 :: X) rfl rfl (ksr (knp #[iv Ao,sv Av,iv Ap,iv AF,Aa Bc Ak Be] 54 fun b1=>(Ba (kx 4 (kld 1 11 rfl (Dh #[nS] 81 1 fun b2=>(Dl (K.An (DP (T:=81) (n:=1) (xs:=[([])]) (Cn.one (Xn (x:=([])) (Ah.nil (encI .i64) 3 1 none_))) rfl rfl (By rfl) fun h3 o4=>(K.mv5 ?_))))))))))
 refine bnd h fun l5 hl5 h=>(FQ rfl Y7 rfl hl5 Ep o4 fun h6 A7 k8 o9=>(kx 2 (K.Al (AQ 11 1 #[Ay,Az,A2,Aa AG Af AH,Aa Bm At Bt,sv Bb,Aa AC Ai AD,AA,pt AN,pt AO,Aa AR Am AT,Aa A7 l5 k8] (Ba (kx 1 (CV 2 0 5 rfl (K.Al (K.drop (K.mv6 ?_))))))))))
 refine K.mv6 (K.mv6 (K.Bx (K.mv6 (K.mv6 (K.mv6 (bnd h fun r10 LF h=>(Bz (hR.D4 LF Cu Cj Co Ci o9 DZ BE hG) rfl ⟨(t2 CU),(t2 CJ),(t2 BC),(t2 BU),trivial⟩ ?_)))))))
 rintro _ _ ⟨h11,A12,k13,h15,F6,k17,h19,A20,k21,h23,FF,k25,JP,JQ,GU,JS,rfl,rfl⟩
 refine E4 (Ba (kx 1 (K.CM (K.Al (K.Al (K.CM (bnd h fun r27 K3 h=>(Bz (Q3.ok K3 JP) rfl trivial ?_))))))))
 rintro _ _ ⟨h28,A29,k30,Hd,rfl,rfl⟩
 refine Ab5 (Ba (kx 3 (kld 1 11 rfl (kx 3 (Ad ?_)))))
 obtain ⟨Ei,O_,h⟩:=De h
 refine Df (τ:=TyA×Ab×Aq×Nat) (fun t=>[(0,pt b0),(6,iv (IntKind.i64.wrap (((r10.2.2.1.length:Nat):Int) - 1)))]) (fun t=>bk Ez #[pt b0] 61 :: bk b0 #[Ay,Az,A2,Aa AG Af AH,Aa t.2.2.1 t.1 t.2.2.2,sv Bb,Aa AC Ai AD,AA,pt AN,pt AO,Aa F6 r10.2.1 k17,Aa A20 r10.2.2.1 k21] 66 :: bk E0 #[iv Ey] 3 :: h15 :: h19 :: bk AN #[iv r10.2.2.2.1] 3 :: bk AO #[Aa FF r10.2.2.2.2 k25,Cg] 25 :: h23 :: t.2.1 :: X) (fun t=>Ei t.1=some r∧Ah e48 48 4 t.2.1 (Aa t.2.2.1 t.1 t.2.2.2) t.1) ?_ ?_
 ·rintro ⟨l32,h33,A34,GD⟩ ⟨h,Jj⟩
  subst O_
  refine Bu (kx 4 (kld 1 11 rfl (kx 1 (K.Bx (bnd h fun Gm Tc h=>(Aa0 (T:=81) (R:=E5) (k:=.i64) (xs:=r10.2.2.1) (IntKind.i64.wrap (((r10.2.2.1.length:Nat):Int) - 1)) rfl (by kernel_rfl) (by kernel_rfl) (by kernel_rfl) (by kernel_rfl) (by kernel_rfl) (by kernel_rfl) Tc GU fun h40 o39=>(kx 2 (K.Al (AQ 11 1 #[Ay,Az,A2,Aa AG Af AH,Aa A34 l32 GD,sv Bb,Aa AC Ai AD,AA,pt AN,pt AO,Aa F6 r10.2.1 k17,Aa A20 Gm k21] (knl ?_))))))))))
  refine Cw ?_
  obtain rfl:=As h
  exact kdv (.tuple #[]) [bk b0 #[Ay,Az,A2,Aa AG Af AH,Aa A34 l32 GD,sv Bb,Aa AC Ai AD,AA,pt AN,pt AO,Aa F6 r10.2.1 k17,Aa A20 Gm k21] 66,h33,h15,h40,bk AN #[iv r10.2.2.2.1] 3,bk AO #[Aa FF r10.2.2.2.2 k25,Cg] 25,h23,bk Ez #[pt b0] 61,bk E0 #[iv Ey] 3] (K.mv3 (K.mv3 (K.mv7 (K.mv7 (K.mv7 (K.mv6 (K.mv7 (K.CM (K.CM (BH ⟨h33,A34,GD,h15,F6,k17,h40,A20,k21,h23,FF,k25,Jj,JQ,o39,JS,rfl,rfl⟩))))))))))
 ·skip
  refine ksr (kx 3 (kld 1 11 rfl (kx 1 (bnd h fun x41 Ps h=>(DI (T:=81) (kd:=.i64) (R:=E5) rfl Ps (AK.rd GU) fun p42 u45 q46 e43 y44=>?_)))))
  obtain ⟨A47,k48,rfl,o49⟩:=Afc q46
  refine Ip rfl (by kernel_rfl) (by kernel_rfl) (by kernel_rfl) (by kernel_rfl) e43 (.tail _ (.tail _ (.tail _ (.tail _ (.tail _ (.head _)))))) (kx 2 (Ad (C1 (K.Al (K.CM (K.CM (K.CM (K.CM (K.CM (K.CM ?_))))))))))
  refine K.CM (K.CM (Fx (τ:=Int×TyA×Ab×Aq×Nat) (fun t=>[(0,pt b0),(6,iv (IntKind.i64.wrap (((r10.2.2.1.length:Nat):Int) - 1))),(35,Aa A47 x41 k48),(36,iv ((x41.length:Nat):Int)),(37,iv t.1)]) (fun t=>bk Ez #[pt b0] 61 :: bk b0 #[Ay,Az,A2,Aa AG Af AH,Aa t.2.2.2.1 t.2.1 t.2.2.2.2,sv Bb,Aa AC Ai AD,AA,pt AN,pt AO,Aa F6 r10.2.1 k17,Aa A20 r10.2.2.1 k21] 66 :: bk E0 #[iv Ey] 3 :: h15 :: h19 :: bk AN #[iv r10.2.2.2.1] 3 :: bk AO #[Aa FF r10.2.2.2.2 k25,Cg] 25 :: h23 :: t.2.2.1 :: X) (fun m t=>Gd.l0 m x41 Ei t.1 t.2.1=some r∧Ah e48 48 4 t.2.2.1 (Aa t.2.2.2.1 t.2.1 t.2.2.2.2) t.2.1) k (0,r27,h28,A29,k30) ⟨h,Hd⟩ sb rfl ?_))
  clear h
  rintro Hp ⟨x50,l51,h52,Kl,k54⟩ ⟨h,Hu⟩
  cases Hp with
  | zero=>simp [Gd.l0] at h
  | succ Hp =>
   simp only [Gd.l0] at h
   refine ksr (kx 1 (Ad (B8 ?_)))
   refine AU h (fun h=>?_) fun h=>?_
   ·refine BV (AM (B8 (C1 (ksr (bnd h fun x58 Ts h=>(GQ (T:=3) (kd:=.i64) (Ec .i64) rfl Ts o49 fun p59 e60 y61=>?_))))))
    have e60:Elem _ p59 [iv x58]:=e60
    refine Ip rfl (by kernel_rfl) (by kernel_rfl) (by kernel_rfl) (by kernel_rfl) e60 (.tail _ (.tail _ (.tail _ (.tail _ (.head _))))) (kx 1 (Ad (kpr [(0,0),(1,0),(2,0),(3,0),(4,3),(5,0),(6,0),(7,1)] [1] (Ar 4 (AP 0 4 rfl (Ar 2 (kpt (K.An (bnd h fun r62 Pp h=>(M4 (EU.ok Pp (Ah.rd Hu)) rfl ⟨(.tail _ (.tail _ (.tail _ (.tail _ (.tail _ (.tail _ (.tail _ (.head _)))))))),trivial⟩ ?_))))))))))
    refine Dm [0] rfl (Ca (bnd h fun x63 KV h=>(GQ (T:=48) (kd:=.i64) Fo rfl KV (Ah.rd Hu) fun p64 e65 y66=>?_)))
    have e65:Elem _ p64 [iv x63.1,iv x63.2.1,iv x63.2.2.1,iv x63.2.2.2]:=e65
    refine Ha (off:=1) rfl e65 y66 fun p67 e68 y69=>?_
    have e68:Elem _ p67 [iv x63.2.1,iv x63.2.2.1,iv x63.2.2.2]:=e68
    refine K.CM (bnd h fun l70 Oc h=>(LM (v:=iv r62) (off:=1) (x':=(x63.1,r62,x63.2.2.1,x63.2.2.2)) Fo rfl (by kernel_rfl) (by kernel_rfl) (by kernel_rfl) (by kernel_rfl) (by kernel_rfl) y69 Hu KV (by kernel_rfl) (by kernel_rfl) Oc fun h71 o72=>?_))
    have NW:=IF Oc
    refine K.weak (env':=[(0,pt b0),(6,iv (IntKind.i64.wrap (((r10.2.2.1.length:Nat):Int) - 1))),(35,Aa A47 x41 k48),(36,iv ((x41.length:Nat):Int)),(37,iv x50),(48,iv r62)]) ?_ ⟨gr,gr,(by first | rfl | (unfold Aa;rw [NW];rfl)),gr,gr,gr,trivial⟩
    refine K.eq (l':=h71 :: bk b0 #[Ay,Az,A2,Aa AG Af AH,Aa Kl l70 k54,sv Bb,Aa AC Ai AD,AA,pt AN,pt AO,Aa F6 r10.2.1 k17,Aa A20 r10.2.2.1 k21] 66 :: bk Ez #[pt b0] 61 :: bk E0 #[iv Ey] 3 :: h15 :: h19 :: bk AN #[iv r10.2.2.2.1] 3 :: bk AO #[Aa FF r10.2.2.2.2 k25,Cg] 25 :: h23 :: X) rfl (by first | rfl | (unfold Aa;rw [NW];first | done | rfl)) (knl (B7 (AM (Bu (kx 2 (Ad (K.CM (K.CM (K.CM (K.CM ?_))))))))))
    exact K.CM (K.CM (K.mv7 (K.CM (E3 Hp (IntKind.i64.wrap (x50+1),l70,h71,Kl,k54) (Nat.lt_succ_self _) ⟨h,o72⟩ sb rfl))))
   ·exact Fv (Dg (Dg (Fw (AM (B4 (l51,h52,Kl,k54) ⟨h,Hu⟩ sb rfl)))))
def Ge.l0:Nat→(x41:List Int)→(Ei:TyA→Option (TyA×Ae×TyL×Int×TyU))→(x50:Int)→(l51:TyA)→Option (TyA×Ae×TyL×Int×TyU)
 | 0,_,_,_,_=>none
 | Hp+1,x41,Ei,x50,l51=>cond (decide (x50 < ((x41.length:Nat):Int))) ((Bh x41 x50).bind fun x58=>(EU.f Hp l51).bind fun r62=>(Bh l51 x58).bind fun x63=>(EW l51 x58 (x63.1,r62,x63.2.2.1,x63.2.2.2)).bind fun l70=>Ge.l0 Hp x41 Ei (IntKind.i64.wrap (x50+1)) l70) (Ei l51)
def Ge.g (Rc:GS) (k:Nat) (Af:Bg) (At:TyA) (Bb:ByteArray) (Ai:Ae) (Am:Ae) (BD:TyL) (BW:Int) (BJ:TyU) (Ao:Int) (Av:ByteArray) (Ap:Int) (AF:Int) (Ak:List Tree) (Ey:Int) (Lw:Int):Option (TyA×Ae×TyL×Int×TyU):=(apd 24 BD [([])]).bind fun l5=>(Rc.D4 Af At Bb Ai Am l5 BW BJ Ao Av Ap AF Ak).bind fun r10=>(Q4.f k r10.1 Ey Lw).bind fun r27=>BG (fun (l32:TyA)=>(DR r10.2.2.1 0 (IntKind.i64.wrap (((r10.2.2.1.length:Nat):Int) - 1))).bind fun Gm=>some (l32,r10.2.1,Gm,r10.2.2.2.1,r10.2.2.2.2)) (fun Ei=>(Bh r10.2.2.1 (IntKind.i64.wrap (((r10.2.2.1.length:Nat):Int) - 1))).bind fun x41=>Ge.l0 k x41 Ei 0 r27)
theorem Ge.C2 {Rc:GS} (hR:Rc.Good) {k:Nat}:Ge.C (Ge.g Rc k):=by
 intro Af At Bb Av Ai Am BD BW Ao Ap AF Ey Lw BJ Ak b0 AH Bt AD AT C8 AN AO CS Be Ez E0 L0 Ay Az A2 AA Cg CF B9 C5 BT Dn CY Cs G AG Bm AC AR C7 CR Bc r h Cu Cj Co Ci Ep DZ BE hG
 refine C3 (args:=[pt b0,.agg #[iv Ao,sv Av,iv Ap,iv AF,Aa Bc Ak Be],.func (.func 82) #[] #[pt Ez,pt E0,pt L0]]) Tryz.func78 rfl (By rfl) ?_
 intro A X hh_
 obtain ⟨CU,CJ,BC,BU,_⟩:=hh_
 unfold Ge.g at h
 refine K.eq (env':=[(0,pt b0),(1,.agg #[iv Ao,sv Av,iv Ap,iv AF,Aa Bc Ak Be]),(2,.func (.func 82) #[] #[pt Ez,pt E0,pt L0])]) (l':=bk b0 #[Ay,Az,A2,Aa AG Af AH,Aa Bm At Bt,sv Bb,Aa AC Ai AD,AA,pt AN,pt AO,Aa AR Am AT,Aa C7 BD C8] 66 :: B9 :: BT :: Dn :: bk AN #[iv BW] 3 :: bk AO #[Aa CR BJ CS,Cg] 25 :: CY :: bk Ez #[pt b0] 61 :: bk E0 #[iv Ey] 3 :: bk L0 #[iv Lw] 3 :: X) rfl rfl (ksr (knp #[iv Ao,sv Av,iv Ap,iv AF,Aa Bc Ak Be] 54 fun b1=>(Ba (kx 4 (kld 1 11 rfl (Dh #[nS] 81 1 fun b2=>(Dl (K.An (DP (T:=81) (n:=1) (xs:=[([])]) (Cn.one (Xn (x:=([])) (Ah.nil (encI .i64) 3 1 none_))) rfl rfl (By rfl) fun h3 o4=>(K.mv5 ?_))))))))))
 refine bnd h fun l5 hl5 h=>(FQ rfl Y7 rfl hl5 Ep o4 fun h6 A7 k8 o9=>(kx 2 (K.Al (AQ 11 1 #[Ay,Az,A2,Aa AG Af AH,Aa Bm At Bt,sv Bb,Aa AC Ai AD,AA,pt AN,pt AO,Aa AR Am AT,Aa A7 l5 k8] (Ba (kx 1 (CV 2 0 5 rfl (K.Al (K.drop (K.mv6 ?_))))))))))
 refine K.mv6 (K.mv6 (K.Bx (K.mv6 (K.mv6 (K.mv6 (bnd h fun r10 LF h=>(Bz (hR.D4 LF Cu Cj Co Ci o9 DZ BE hG) rfl ⟨(t3 CU),(t3 CJ),(t3 BC),(t3 BU),trivial⟩ ?_)))))))
 rintro _ _ ⟨h11,A12,k13,h15,F6,k17,h19,A20,k21,h23,FF,k25,JP,JQ,GU,JS,rfl,rfl⟩
 refine E4 (Ba (kx 1 (K.mv9 (K.mv9 (K.mv3 (K.mv3 (K.mv9 (bnd h fun r27 K3 h=>(Bz (Q4.ok K3 JP) rfl trivial ?_)))))))))
 rintro _ _ ⟨h28,A29,k30,Hd,rfl,rfl⟩
 refine E4 (Ba (kx 3 (kld 1 11 rfl (kx 3 (Ad ?_)))))
 obtain ⟨Ei,O_,h⟩:=De h
 refine Df (τ:=TyA×Ab×Aq×Nat) (fun t=>[(0,pt b0),(6,iv (IntKind.i64.wrap (((r10.2.2.1.length:Nat):Int) - 1)))]) (fun t=>bk Ez #[pt b0] 61 :: bk b0 #[Ay,Az,A2,Aa AG Af AH,Aa t.2.2.1 t.1 t.2.2.2,sv Bb,Aa AC Ai AD,AA,pt AN,pt AO,Aa F6 r10.2.1 k17,Aa A20 r10.2.2.1 k21] 66 :: bk E0 #[iv Ey] 3 :: bk L0 #[iv Lw] 3 :: h15 :: h19 :: bk AN #[iv r10.2.2.2.1] 3 :: bk AO #[Aa FF r10.2.2.2.2 k25,Cg] 25 :: h23 :: t.2.1 :: X) (fun t=>Ei t.1=some r∧Ah e48 48 4 t.2.1 (Aa t.2.2.1 t.1 t.2.2.2) t.1) ?_ ?_
 ·rintro ⟨l32,h33,A34,GD⟩ ⟨h,Jj⟩
  subst O_
  refine Bu (kx 4 (kld 1 11 rfl (kx 1 (K.mv5 (bnd h fun Gm Tc h=>(Aa0 (T:=81) (R:=E5) (k:=.i64) (xs:=r10.2.2.1) (IntKind.i64.wrap (((r10.2.2.1.length:Nat):Int) - 1)) rfl (by kernel_rfl) (by kernel_rfl) (by kernel_rfl) (by kernel_rfl) (by kernel_rfl) (by kernel_rfl) Tc GU fun h40 o39=>(kx 2 (K.Al (AQ 11 1 #[Ay,Az,A2,Aa AG Af AH,Aa A34 l32 GD,sv Bb,Aa AC Ai AD,AA,pt AN,pt AO,Aa F6 r10.2.1 k17,Aa A20 Gm k21] (knl ?_))))))))))
  refine Cw ?_
  obtain rfl:=As h
  refine kdv (.tuple #[]) [bk b0 #[Ay,Az,A2,Aa AG Af AH,Aa A34 l32 GD,sv Bb,Aa AC Ai AD,AA,pt AN,pt AO,Aa F6 r10.2.1 k17,Aa A20 Gm k21] 66,h33,h15,h40,bk AN #[iv r10.2.2.2.1] 3,bk AO #[Aa FF r10.2.2.2.2 k25,Cg] 25,h23,bk Ez #[pt b0] 61,bk E0 #[iv Ey] 3,bk L0 #[iv Lw] 3] (K.Bx (K.Bx (K.Bx (K.CM (K.CM (K.CM (K.mv7 (K.CM (K.mv9 (K.mv9 ?_))))))))))
  exact BH ⟨h33,A34,GD,h15,F6,k17,h40,A20,k21,h23,FF,k25,Jj,JQ,o39,JS,rfl,rfl⟩
 ·skip
  refine ksr (kx 3 (kld 1 11 rfl (kx 1 (bnd h fun x41 Ps h=>(DI (T:=81) (kd:=.i64) (R:=E5) rfl Ps (AK.rd GU) fun p42 u45 q46 e43 y44=>?_)))))
  obtain ⟨A47,k48,rfl,o49⟩:=Afc q46
  refine Ip rfl (by kernel_rfl) (by kernel_rfl) (by kernel_rfl) (by kernel_rfl) e43 (.tail _ (.tail _ (.tail _ (.tail _ (.tail _ (.tail _ (.head _))))))) (kx 2 (Ad (C1 (K.Al (K.mv9 (K.mv9 (K.mv9 (K.mv9 (K.mv9 (K.mv9 ?_))))))))))
  refine K.mv9 (K.mv9 (K.mv9 (Fx (τ:=Int×TyA×Ab×Aq×Nat) (fun t=>[(0,pt b0),(6,iv (IntKind.i64.wrap (((r10.2.2.1.length:Nat):Int) - 1))),(35,Aa A47 x41 k48),(36,iv ((x41.length:Nat):Int)),(37,iv t.1)]) (fun t=>bk Ez #[pt b0] 61 :: bk b0 #[Ay,Az,A2,Aa AG Af AH,Aa t.2.2.2.1 t.2.1 t.2.2.2.2,sv Bb,Aa AC Ai AD,AA,pt AN,pt AO,Aa F6 r10.2.1 k17,Aa A20 r10.2.2.1 k21] 66 :: bk E0 #[iv Ey] 3 :: bk L0 #[iv Lw] 3 :: h15 :: h19 :: bk AN #[iv r10.2.2.2.1] 3 :: bk AO #[Aa FF r10.2.2.2.2 k25,Cg] 25 :: h23 :: t.2.2.1 :: X) (fun m t=>Ge.l0 m x41 Ei t.1 t.2.1=some r∧Ah e48 48 4 t.2.2.1 (Aa t.2.2.2.1 t.2.1 t.2.2.2.2) t.2.1) k (0,r27,h28,A29,k30) ⟨h,Hd⟩ sb rfl ?_)))
  clear h
  rintro Hp ⟨x50,l51,h52,Kl,k54⟩ ⟨h,Hu⟩
  cases Hp with
  | zero=>simp [Ge.l0] at h
  | succ Hp =>
   simp only [Ge.l0] at h
   refine ksr (kx 1 (Ad (B8 ?_)))
   refine AU h (fun h=>?_) fun h=>?_
   ·refine BV (AM (B8 (C1 (ksr (bnd h fun x58 Ts h=>(GQ (T:=3) (kd:=.i64) (Ec .i64) rfl Ts o49 fun p59 e60 y61=>?_))))))
    have e60:Elem _ p59 [iv x58]:=e60
    refine Ip rfl (by kernel_rfl) (by kernel_rfl) (by kernel_rfl) (by kernel_rfl) e60 (.tail _ (.tail _ (.tail _ (.tail _ (.tail _ (.head _)))))) (kx 1 (Ad (kpr [(0,0),(1,0),(2,0),(3,0),(4,3),(5,0),(6,0),(7,1)] [1] (Ar 4 (AP 0 4 rfl (Ar 2 (kpt (K.An (bnd h fun r62 Pp h=>(M4 (EU.ok Pp (Ah.rd Hu)) rfl ⟨(.tail _ (.tail _ (.tail _ (.tail _ (.tail _ (.tail _ (.tail _ (.tail _ (.head _))))))))),trivial⟩ ?_))))))))))
    refine Dm [0] rfl (Ca (bnd h fun x63 KV h=>(GQ (T:=48) (kd:=.i64) Fo rfl KV (Ah.rd Hu) fun p64 e65 y66=>?_)))
    have e65:Elem _ p64 [iv x63.1,iv x63.2.1,iv x63.2.2.1,iv x63.2.2.2]:=e65
    refine Ha (off:=1) rfl e65 y66 fun p67 e68 y69=>?_
    have e68:Elem _ p67 [iv x63.2.1,iv x63.2.2.1,iv x63.2.2.2]:=e68
    refine K.mv9 (bnd h fun l70 Oc h=>(LM (v:=iv r62) (off:=1) (x':=(x63.1,r62,x63.2.2.1,x63.2.2.2)) Fo rfl (by kernel_rfl) (by kernel_rfl) (by kernel_rfl) (by kernel_rfl) (by kernel_rfl) y69 Hu KV (by kernel_rfl) (by kernel_rfl) Oc fun h71 o72=>?_))
    have NW:=IF Oc
    refine K.weak (env':=[(0,pt b0),(6,iv (IntKind.i64.wrap (((r10.2.2.1.length:Nat):Int) - 1))),(35,Aa A47 x41 k48),(36,iv ((x41.length:Nat):Int)),(37,iv x50),(48,iv r62)]) ?_ ⟨gr,gr,(by first | rfl | (unfold Aa;rw [NW];rfl)),gr,gr,gr,trivial⟩
    refine K.eq (l':=h71 :: bk b0 #[Ay,Az,A2,Aa AG Af AH,Aa Kl l70 k54,sv Bb,Aa AC Ai AD,AA,pt AN,pt AO,Aa F6 r10.2.1 k17,Aa A20 r10.2.2.1 k21] 66 :: bk Ez #[pt b0] 61 :: bk E0 #[iv Ey] 3 :: bk L0 #[iv Lw] 3 :: h15 :: h19 :: bk AN #[iv r10.2.2.2.1] 3 :: bk AO #[Aa FF r10.2.2.2.2 k25,Cg] 25 :: h23 :: X) rfl (by first | rfl | (unfold Aa;rw [NW];first | done | rfl)) (knl (B7 (AM (Bu (kx 2 (Ad (K.mv9 (K.mv9 (K.mv9 (K.mv9 ?_))))))))))
    exact K.mv9 (K.mv9 (K.mv9 (K.CM (K.mv9 (E3 Hp (IntKind.i64.wrap (x50+1),l70,h71,Kl,k54) (Nat.lt_succ_self _) ⟨h,o72⟩ sb rfl)))))
   ·exact Fv (Dg (Dg (Fw (AM (B4 (l51,h52,Kl,k54) ⟨h,Hu⟩ sb rfl)))))
def FN.l0:Nat→(x41:List Int)→(Ei:TyA→Option (TyA×Ae×TyL×Int×TyU))→(x50:Int)→(l51:TyA)→Option (TyA×Ae×TyL×Int×TyU)
 | 0,_,_,_,_=>none
 | Hp+1,x41,Ei,x50,l51=>cond (decide (x50 < ((x41.length:Nat):Int))) ((Bh x41 x50).bind fun x58=>(EU.f Hp l51).bind fun r62=>(Bh l51 x58).bind fun x63=>(EW l51 x58 (x63.1,r62,x63.2.2.1,x63.2.2.2)).bind fun l70=>FN.l0 Hp x41 Ei (IntKind.i64.wrap (x50+1)) l70) (Ei l51)
def FN.g (Rc:GS) (k:Nat) (Af:Bg) (At:TyA) (Bb:ByteArray) (Ai:Ae) (Am:Ae) (BD:TyL) (BW:Int) (BJ:TyU) (Ao:Int) (Av:ByteArray) (Ap:Int) (AF:Int) (Ak:List Tree) (Ey:Int):Option (TyA×Ae×TyL×Int×TyU):=(apd 24 BD [([])]).bind fun l5=>(Rc.D4 Af At Bb Ai Am l5 BW BJ Ao Av Ap AF Ak).bind fun r10=>(Q0.f k r10.1 Ey).bind fun r27=>BG (fun (l32:TyA)=>(DR r10.2.2.1 0 (IntKind.i64.wrap (((r10.2.2.1.length:Nat):Int) - 1))).bind fun Gm=>some (l32,r10.2.1,Gm,r10.2.2.2.1,r10.2.2.2.2)) (fun Ei=>(Bh r10.2.2.1 (IntKind.i64.wrap (((r10.2.2.1.length:Nat):Int) - 1))).bind fun x41=>FN.l0 k x41 Ei 0 r27)
theorem FN.C2 {Rc:GS} (hR:Rc.Good) {k:Nat}:FN.C (FN.g Rc k):=by
 intro Af At Bb Av Ai Am BD BW Ao Ap AF Ey BJ Ak b0 AH Bt AD AT C8 AN AO CS Be Ez E0 Ay Az A2 AA Cg CF B9 C5 BT Dn CY Cs G AG Bm AC AR C7 CR Bc r h Cu Cj Co Ci Ep DZ BE hG
 refine C3 (args:=[pt b0,.agg #[iv Ao,sv Av,iv Ap,iv AF,Aa Bc Ak Be],.func (.func 112) #[] #[pt Ez,pt E0]]) Tryz.func78 rfl (By rfl) ?_
 intro A X hh_
 obtain ⟨CU,CJ,BC,BU,_⟩:=hh_
 unfold FN.g at h
 refine K.eq (env':=[(0,pt b0),(1,.agg #[iv Ao,sv Av,iv Ap,iv AF,Aa Bc Ak Be]),(2,.func (.func 112) #[] #[pt Ez,pt E0])]) (l':=bk b0 #[Ay,Az,A2,Aa AG Af AH,Aa Bm At Bt,sv Bb,Aa AC Ai AD,AA,pt AN,pt AO,Aa AR Am AT,Aa C7 BD C8] 66 :: B9 :: BT :: Dn :: bk AN #[iv BW] 3 :: bk AO #[Aa CR BJ CS,Cg] 25 :: CY :: bk Ez #[pt b0] 61 :: bk E0 #[iv Ey] 3 :: X) rfl rfl (ksr (knp #[iv Ao,sv Av,iv Ap,iv AF,Aa Bc Ak Be] 54 fun b1=>(Ba (kx 4 (kld 1 11 rfl (Dh #[nS] 81 1 fun b2=>(Dl (K.An (DP (T:=81) (n:=1) (xs:=[([])]) (Cn.one (Xn (x:=([])) (Ah.nil (encI .i64) 3 1 none_))) rfl rfl (By rfl) fun h3 o4=>(K.mv5 ?_))))))))))
 refine bnd h fun l5 hl5 h=>(FQ rfl Y7 rfl hl5 Ep o4 fun h6 A7 k8 o9=>(kx 2 (K.Al (AQ 11 1 #[Ay,Az,A2,Aa AG Af AH,Aa Bm At Bt,sv Bb,Aa AC Ai AD,AA,pt AN,pt AO,Aa AR Am AT,Aa A7 l5 k8] (Ba (kx 1 (CV 2 0 5 rfl (K.Al (K.drop (K.mv6 ?_))))))))))
 refine K.mv6 (K.mv6 (K.Bx (K.mv6 (K.mv6 (K.mv6 (bnd h fun r10 LF h=>(Bz (hR.D4 LF Cu Cj Co Ci o9 DZ BE hG) rfl ⟨(t2 CU),(t2 CJ),(t2 BC),(t2 BU),trivial⟩ ?_)))))))
 rintro _ _ ⟨h11,A12,k13,h15,F6,k17,h19,A20,k21,h23,FF,k25,JP,JQ,GU,JS,rfl,rfl⟩
 refine E4 (Ba (kx 1 (K.CM (K.Al (K.Al (K.CM (bnd h fun r27 K3 h=>(Bz (Q0.ok K3 JP) rfl trivial ?_))))))))
 rintro _ _ ⟨h28,A29,k30,Hd,rfl,rfl⟩
 refine Ab5 (Ba (kx 3 (kld 1 11 rfl (kx 3 (Ad ?_)))))
 obtain ⟨Ei,O_,h⟩:=De h
 refine Df (τ:=TyA×Ab×Aq×Nat) (fun t=>[(0,pt b0),(6,iv (IntKind.i64.wrap (((r10.2.2.1.length:Nat):Int) - 1)))]) (fun t=>bk Ez #[pt b0] 61 :: bk b0 #[Ay,Az,A2,Aa AG Af AH,Aa t.2.2.1 t.1 t.2.2.2,sv Bb,Aa AC Ai AD,AA,pt AN,pt AO,Aa F6 r10.2.1 k17,Aa A20 r10.2.2.1 k21] 66 :: bk E0 #[iv Ey] 3 :: h15 :: h19 :: bk AN #[iv r10.2.2.2.1] 3 :: bk AO #[Aa FF r10.2.2.2.2 k25,Cg] 25 :: h23 :: t.2.1 :: X) (fun t=>Ei t.1=some r∧Ah e48 48 4 t.2.1 (Aa t.2.2.1 t.1 t.2.2.2) t.1) ?_ ?_
 ·rintro ⟨l32,h33,A34,GD⟩ ⟨h,Jj⟩
  subst O_
  refine Bu (kx 4 (kld 1 11 rfl (kx 1 (K.Bx (bnd h fun Gm Tc h=>(Aa0 (T:=81) (R:=E5) (k:=.i64) (xs:=r10.2.2.1) (IntKind.i64.wrap (((r10.2.2.1.length:Nat):Int) - 1)) rfl (by kernel_rfl) (by kernel_rfl) (by kernel_rfl) (by kernel_rfl) (by kernel_rfl) (by kernel_rfl) Tc GU fun h40 o39=>(kx 2 (K.Al (AQ 11 1 #[Ay,Az,A2,Aa AG Af AH,Aa A34 l32 GD,sv Bb,Aa AC Ai AD,AA,pt AN,pt AO,Aa F6 r10.2.1 k17,Aa A20 Gm k21] (knl ?_))))))))))
  refine Cw ?_
  obtain rfl:=As h
  exact kdv (.tuple #[]) [bk b0 #[Ay,Az,A2,Aa AG Af AH,Aa A34 l32 GD,sv Bb,Aa AC Ai AD,AA,pt AN,pt AO,Aa F6 r10.2.1 k17,Aa A20 Gm k21] 66,h33,h15,h40,bk AN #[iv r10.2.2.2.1] 3,bk AO #[Aa FF r10.2.2.2.2 k25,Cg] 25,h23,bk Ez #[pt b0] 61,bk E0 #[iv Ey] 3] (K.mv3 (K.mv3 (K.mv7 (K.mv7 (K.mv7 (K.mv6 (K.mv7 (K.CM (K.CM (BH ⟨h33,A34,GD,h15,F6,k17,h40,A20,k21,h23,FF,k25,Jj,JQ,o39,JS,rfl,rfl⟩))))))))))
 ·skip
  refine ksr (kx 3 (kld 1 11 rfl (kx 1 (bnd h fun x41 Ps h=>(DI (T:=81) (kd:=.i64) (R:=E5) rfl Ps (AK.rd GU) fun p42 u45 q46 e43 y44=>?_)))))
  obtain ⟨A47,k48,rfl,o49⟩:=Afc q46
  refine Ip rfl (by kernel_rfl) (by kernel_rfl) (by kernel_rfl) (by kernel_rfl) e43 (.tail _ (.tail _ (.tail _ (.tail _ (.tail _ (.head _)))))) (kx 2 (Ad (C1 (K.Al (K.CM (K.CM (K.CM (K.CM (K.CM (K.CM ?_))))))))))
  refine K.CM (K.CM (Fx (τ:=Int×TyA×Ab×Aq×Nat) (fun t=>[(0,pt b0),(6,iv (IntKind.i64.wrap (((r10.2.2.1.length:Nat):Int) - 1))),(35,Aa A47 x41 k48),(36,iv ((x41.length:Nat):Int)),(37,iv t.1)]) (fun t=>bk Ez #[pt b0] 61 :: bk b0 #[Ay,Az,A2,Aa AG Af AH,Aa t.2.2.2.1 t.2.1 t.2.2.2.2,sv Bb,Aa AC Ai AD,AA,pt AN,pt AO,Aa F6 r10.2.1 k17,Aa A20 r10.2.2.1 k21] 66 :: bk E0 #[iv Ey] 3 :: h15 :: h19 :: bk AN #[iv r10.2.2.2.1] 3 :: bk AO #[Aa FF r10.2.2.2.2 k25,Cg] 25 :: h23 :: t.2.2.1 :: X) (fun m t=>FN.l0 m x41 Ei t.1 t.2.1=some r∧Ah e48 48 4 t.2.2.1 (Aa t.2.2.2.1 t.2.1 t.2.2.2.2) t.2.1) k (0,r27,h28,A29,k30) ⟨h,Hd⟩ sb rfl ?_))
  clear h
  rintro Hp ⟨x50,l51,h52,Kl,k54⟩ ⟨h,Hu⟩
  cases Hp with
  | zero=>simp [FN.l0] at h
  | succ Hp =>
   simp only [FN.l0] at h
   refine ksr (kx 1 (Ad (B8 ?_)))
   refine AU h (fun h=>?_) fun h=>?_
   ·refine BV (AM (B8 (C1 (ksr (bnd h fun x58 Ts h=>(GQ (T:=3) (kd:=.i64) (Ec .i64) rfl Ts o49 fun p59 e60 y61=>?_))))))
    have e60:Elem _ p59 [iv x58]:=e60
    refine Ip rfl (by kernel_rfl) (by kernel_rfl) (by kernel_rfl) (by kernel_rfl) e60 (.tail _ (.tail _ (.tail _ (.tail _ (.head _))))) (kx 1 (Ad (kpr [(0,0),(1,0),(2,0),(3,0),(4,3),(5,0),(6,0),(7,1)] [1] (Ar 4 (AP 0 4 rfl (Ar 2 (kpt (K.An (bnd h fun r62 Pp h=>(M4 (EU.ok Pp (Ah.rd Hu)) rfl ⟨(.tail _ (.tail _ (.tail _ (.tail _ (.tail _ (.tail _ (.tail _ (.head _)))))))),trivial⟩ ?_))))))))))
    refine Dm [0] rfl (Ca (bnd h fun x63 KV h=>(GQ (T:=48) (kd:=.i64) Fo rfl KV (Ah.rd Hu) fun p64 e65 y66=>?_)))
    have e65:Elem _ p64 [iv x63.1,iv x63.2.1,iv x63.2.2.1,iv x63.2.2.2]:=e65
    refine Ha (off:=1) rfl e65 y66 fun p67 e68 y69=>?_
    have e68:Elem _ p67 [iv x63.2.1,iv x63.2.2.1,iv x63.2.2.2]:=e68
    refine K.CM (bnd h fun l70 Oc h=>(LM (v:=iv r62) (off:=1) (x':=(x63.1,r62,x63.2.2.1,x63.2.2.2)) Fo rfl (by kernel_rfl) (by kernel_rfl) (by kernel_rfl) (by kernel_rfl) (by kernel_rfl) y69 Hu KV (by kernel_rfl) (by kernel_rfl) Oc fun h71 o72=>?_))
    have NW:=IF Oc
    refine K.weak (env':=[(0,pt b0),(6,iv (IntKind.i64.wrap (((r10.2.2.1.length:Nat):Int) - 1))),(35,Aa A47 x41 k48),(36,iv ((x41.length:Nat):Int)),(37,iv x50),(48,iv r62)]) ?_ ⟨gr,gr,(by first | rfl | (unfold Aa;rw [NW];rfl)),gr,gr,gr,trivial⟩
    refine K.eq (l':=h71 :: bk b0 #[Ay,Az,A2,Aa AG Af AH,Aa Kl l70 k54,sv Bb,Aa AC Ai AD,AA,pt AN,pt AO,Aa F6 r10.2.1 k17,Aa A20 r10.2.2.1 k21] 66 :: bk Ez #[pt b0] 61 :: bk E0 #[iv Ey] 3 :: h15 :: h19 :: bk AN #[iv r10.2.2.2.1] 3 :: bk AO #[Aa FF r10.2.2.2.2 k25,Cg] 25 :: h23 :: X) rfl (by first | rfl | (unfold Aa;rw [NW];first | done | rfl)) (knl (B7 (AM (Bu (kx 2 (Ad (K.CM (K.CM (K.CM (K.CM ?_))))))))))
    exact K.CM (K.CM (K.mv7 (K.CM (E3 Hp (IntKind.i64.wrap (x50+1),l70,h71,Kl,k54) (Nat.lt_succ_self _) ⟨h,o72⟩ sb rfl))))
   ·exact Fv (Dg (Dg (Fw (AM (B4 (l51,h52,Kl,k54) ⟨h,Hu⟩ sb rfl)))))
def Ik.g (Rc:GS) (k:Nat) (Af:Bg) (At:TyA) (Bb:ByteArray) (Ai:Ae) (Am:Ae) (BD:TyL) (BW:Int) (BJ:TyU) (Ao:Int) (Av:ByteArray) (Ap:Int) (AF:Int) (Ak:List Tree) (a2:Int):Option (TyA×Ae×TyL×Int×TyU):=(DR Ak Ap a2).bind fun l3=>(Hl.f k Af At Ai Am l3 3).bind fun r7=>(DR Ak 0 Ap).bind fun l12=>(Ms.f k Am l12).bind fun r16=>(BA.f k r7 32 ([r16.1])).bind fun r22=>(BA.f k r22.2 6 ([r16.1])).bind fun r28=>(BA.f k r28.2 22 ([])).bind fun r34=>(BA.f k r34.2 6 ([IntKind.i64.wrap (r16.1+1)])).bind fun r40=>(BA.f k r40.2 6 ([IntKind.i64.wrap (r16.1+2)])).bind fun M9=>(BA.f k M9.2 24 ([Ap])).bind fun r52=>(BA.f k r52.2 33 ([r16.1,0,Ap])).bind fun JV=>(Bh Ak a2).bind fun x63=>(Rc.FN Af JV.2 Bb Ai r16.2 BD BW BJ x63.kind x63.text x63.n x63.at_ x63.kids r28.1).bind fun Gh=>(EU.f k Gh.1).bind fun FC=>(Bh Gh.1 JV.1).bind fun x90=>(EW Gh.1 JV.1 (x90.1,x90.2.1,FC,x90.2.2.2)).bind fun W0=>(Nc.f k Gh.2.1 r16.1).bind fun Aek=>some (W0,Aek,Gh.2.2.1,Gh.2.2.2.1,Gh.2.2.2.2)
theorem Ik.C2 {Rc:GS} (hR:Rc.Good) {k:Nat}:Ik.C (Ik.g Rc k):=by
 intro Af At Bb Av Ai Am BD BW Ao Ap AF a2 BJ Ak b0 AH Bt AD AT C8 AN AO CS Be Ay Az A2 AA Cg CF B9 C5 BT Dn CY Cs G AG Bm AC AR C7 CR Bc r h Cu Cj Co Ci Ep DZ BE hG
 refine C3 (args:=[pt b0,.agg #[iv Ao,sv Av,iv Ap,iv AF,Aa Bc Ak Be],iv a2]) Tryz.func84 rfl (By rfl) ?_
 intro A X hh_
 obtain ⟨CU,CJ,BC,BU,_⟩:=hh_
 unfold Ik.g at h
 refine K.eq (env':=[(0,pt b0),(1,.agg #[iv Ao,sv Av,iv Ap,iv AF,Aa Bc Ak Be]),(2,iv a2)]) (l':=bk b0 #[Ay,Az,A2,Aa AG Af AH,Aa Bm At Bt,sv Bb,Aa AC Ai AD,AA,pt AN,pt AO,Aa AR Am AT,Aa C7 BD C8] 66 :: B9 :: BT :: Dn :: bk AN #[iv BW] 3 :: bk AO #[Aa CR BJ CS,Cg] 25 :: CY :: X) rfl rfl (ksr (knp #[pt b0] 61 fun b1=>(knp #[iv Ao,sv Av,iv Ap,iv AF,Aa Bc Ak Be] 54 fun b2=>(Ad (B8 (kpr [(0,3),(1,0),(2,3),(3,0),(4,3),(5,0),(6,0)] [0,1] (AP 1 0 rfl (Ar 1 (AP 0 4 rfl (Ar 1 ?_))))))))))
 refine AP 0 2 rfl (Ar 1 (bnd h fun l3 hl3 h=>(KY (T:=54) (R:=(AX 54)) (xs:=Ak) Ap a2 rfl (by kernel_rfl) (by kernel_rfl) (by kernel_rfl) (.inr ⟨_,.i64,rfl,(by kernel_rfl)⟩) (.inr ⟨_,.i64,rfl,(by kernel_rfl)⟩) (by kernel_rfl) (by kernel_rfl) hl3 BE fun A4 k5 o6=>(Ca (K.mv3 (K.mv3 (bnd h fun r7 hr7 h=>(Bz (Hl.ok hr7 Cu Cj Co (Ah.rd Ci) o6 hG) rfl ⟨(t7 CU),(t7 CJ),(.tail _ (.tail _ (.head _))),(t7 BC),(t7 BU),trivial⟩ ?_))))))))
 rintro _ _ ⟨h8,A9,k10,HU,rfl,rfl⟩
 refine Bi (Ad (B8 (kpr [(0,3),(1,0),(2,3),(3,0),(4,3),(5,0)] [2,3] (AP 1 0 rfl (Ar 1 (AP 0 4 rfl (Ar 1 (AP 0 2 rfl (bnd h fun l12 hl12 h=>(KY (T:=54) (R:=(AX 54)) (xs:=Ak) 0 Ap rfl (by kernel_rfl) (by kernel_rfl) (by kernel_rfl) (.inl ⟨rfl,rfl⟩) (.inr ⟨_,.i64,rfl,(by kernel_rfl)⟩) (by kernel_rfl) (by kernel_rfl) hl12 BE fun KJ k14 o15=>?_))))))))))
 refine Ca (K.Bx (K.An (bnd h fun r16 Ky h=>(Bz (Ms.ok Ky Ci o15) rfl ⟨(t7 BC),trivial⟩ ?_))))
 rintro _ _ ⟨h17,Jm,k19,o20,rfl,rfl⟩
 refine Bi (kx 1 (Ba (kld 4 0 rfl (kx 1 (Dh #[iv r16.1] 3 1 fun b21=>(K.mv3 (K.Al (bnd h fun r22 Bei h=>(Bz (BA.ok Bei HU (Ah.rd (Ah.blk 3 (Ec .i64) b21 [r16.1] #[iv r16.1] 1 (by kernel_rfl) rfl (by decide)))) rfl ⟨(.head _),trivial⟩ ?_)))))))))
 rintro _ _ ⟨h23,FF,k25,JS,rfl,rfl⟩
 refine Bi (K.Al (K.drop (Ba (kld 4 0 rfl (kx 1 (Dh #[iv r16.1] 3 1 fun b27=>(K.Al (K.Al (bnd h fun r28 Tg h=>(Bz (BA.ok Tg JS (Ah.rd (Ah.blk 3 (Ec .i64) b27 [r16.1] #[iv r16.1] 1 (by kernel_rfl) rfl (by decide)))) rfl ⟨(.head _),trivial⟩ ?_))))))))))
 rintro _ _ ⟨h29,JB,k31,o32,rfl,rfl⟩
 refine Bi (K.Al (K.drop (knp #[iv 0] 3 fun b33=>(AQ 0 1 #[iv r28.1] (Ba (kld 5 0 rfl (Dl (K.mv3 (K.mv3 (bnd h fun r34 Z4 h=>?_))))))))))
 refine Bz (BA.ok Z4 o32 (Bl.nil (encI .i64) 1 none_)) rfl ⟨(.head _),trivial⟩ ?_
 rintro _ _ ⟨h35,A36,k37,o38,rfl,rfl⟩
 refine Bi (K.Al (K.drop (Ba (kld 5 0 rfl (kx 2 (Dh #[iv (IntKind.i64.wrap (r16.1+1))] 3 1 fun b39=>(K.Al (K.Al (bnd h fun r40 Ti h=>(Bz (BA.ok Ti o38 (Ah.rd (Ah.blk 3 (Ec .i64) b39 [IntKind.i64.wrap (r16.1+1)] #[iv (IntKind.i64.wrap (r16.1+1))] 1 (by kernel_rfl) rfl (by decide)))) rfl ⟨(.head _),trivial⟩ ?_))))))))))
 rintro _ _ ⟨h41,A42,k43,T_,rfl,rfl⟩
 refine Bi (K.Al (K.drop (Ba (kld 5 0 rfl (kx 2 (Dh #[iv (IntKind.i64.wrap (r16.1+2))] 3 1 fun b45=>(K.Al (K.Al (bnd h fun M9 Z8 h=>(Bz (BA.ok Z8 T_ (Ah.rd (Ah.blk 3 (Ec .i64) b45 [IntKind.i64.wrap (r16.1+2)] #[iv (IntKind.i64.wrap (r16.1+2))] 1 (by kernel_rfl) rfl (by decide)))) rfl ⟨(.head _),trivial⟩ ?_))))))))))
 rintro _ _ ⟨h47,A48,k49,R4,rfl,rfl⟩
 refine Bi (K.Al (K.drop (Ba (kld 5 0 rfl (kx 1 (kld 4 2 rfl (Dh #[iv Ap] 3 1 fun Vs=>(K.Al (K.Al (bnd h fun r52 ZB h=>?_))))))))))
 refine Bz (BA.ok ZB R4 (Ah.rd (Ah.blk 3 (Ec .i64) Vs [Ap] #[iv Ap] 1 (by kernel_rfl) rfl (by decide)))) rfl ⟨(.head _),trivial⟩ ?_
 rintro _ _ ⟨h53,O8,Py,M3,rfl,rfl⟩
 refine Bi (K.Al (K.drop (Ba (kld 5 0 rfl (kx 2 (kld 4 2 rfl (Dh #[iv r16.1,iv 0,iv Ap] 3 3 fun b57=>(K.Al (K.Al (bnd h fun JV Tm h=>?_))))))))))
 refine Bz (BA.ok Tm M3 (Ah.rd (Ah.blk 3 (Ec .i64) b57 [r16.1,0,Ap] #[iv r16.1,iv 0,iv Ap] 3 (by kernel_rfl) rfl (by decide)))) rfl ⟨(.head _),trivial⟩ ?_
 rintro _ _ ⟨h59,S2,T2,Ub,rfl,rfl⟩
 refine Bi (K.Al (K.drop (kx 1 (Ad (B8 (Js [(0,3),(1,0),(2,3),(3,0),(4,0),(5,3),(6,0)] [bk b2 #[iv Ao,sv Av,iv Ap,iv AF,Aa Bc Ak Be] 54,bk b1 #[pt b0] 61,Cs] (fun w h_=>⟨h_.sat.on _ (.tail _ (.tail _ (.tail _ (.tail _ (.head _))))),h_.sat.on _ (.tail _ (.tail _ (.tail _ (.tail _ (.tail _ (.head _)))))),h_.sat.on _ (t10 BC),trivial⟩) (AP 1 0 rfl (Ar 1 (AP 0 4 rfl (Ar 1 ?_))))))))))
 refine bnd h fun x63 KV h=>(GT (T:=54) (kd:=.i64) (R:=(AX 54)) rfl KV BE fun p64 u67 q68 e65 y66=>?_)
 obtain ⟨A69,k70,rfl,N4⟩:=DF 54 q68
 refine IE rfl e65 (fun w h_=>h_.mem _ (.tail _ (.tail _ (.head _)))) (Ar 1 (Ca (K.Al (K.mv5 (K.mv9 (K.mv9 (K.mv9 (K.mv9 (K.CM (K.CM ?_))))))))))
 refine K.CM (bnd h fun Gh Tn h=>(Bz (hR.FN Tn Cu Ub Co o20 Ep DZ N4 hG) rfl ⟨(.tail _ CU),(.tail _ CJ),(.tail _ BC),(.tail _ BU),trivial⟩ ?_))
 rintro _ _ ⟨h73,Qr,k75,h77,A78,k79,h81,A82,Wd,h85,A86,QY,R7,o80,Ud,o88,rfl,rfl⟩
 refine E4 (K.CM (K.drop (K.CM (K.drop (Ad (B8 (kpr [(0,3),(1,0),(2,0),(3,0),(4,3),(5,0),(6,3),(7,1)] [0,7] (AP 1 0 rfl (Ar 3 (AP 0 4 rfl ?_))))))))))
 refine Ar 1 (AP 1 0 rfl (kpt (bnd h fun FC ZN h=>(M4 (EU.ok ZN (Ah.rd R7)) rfl ⟨(.head _),trivial⟩ (Dm [0,7] rfl (Ca (bnd h fun x90 hx90 h=>(GQ (T:=48) (kd:=.i64) Fo rfl hx90 (Ah.rd R7) fun p91 e92 y93=>?_))))))))
 have e92:Elem _ p91 [iv x90.1,iv x90.2.1,iv x90.2.2.1,iv x90.2.2.2]:=e92
 refine Ha (off:=2) rfl e92 y93 fun p94 e95 y96=>?_
 have e95:Elem _ p94 [iv x90.2.2.1,iv x90.2.2.2]:=e95
 refine K.An (bnd h fun W0 Aot h=>(LM (v:=iv FC) (off:=2) (x':=(x90.1,x90.2.1,FC,x90.2.2.2)) Fo rfl (by kernel_rfl) (by kernel_rfl) (by kernel_rfl) (by kernel_rfl) (by kernel_rfl) y96 R7 hx90 (by kernel_rfl) (by kernel_rfl) Aot fun h98 Lc=>?_))
 have A8j:=IF Aot
 refine K.weak (env':=[(3,pt b1),(6,iv r16.1),(70,iv FC)]) ?_ ⟨gr,gr,gr,trivial⟩
 refine K.eq (l':=h98 :: bk b0 #[Ay,Az,A2,Aa AG Af AH,Aa Qr W0 k75,sv Bb,Aa AC Ai AD,AA,pt AN,pt AO,Aa A78 Gh.2.1 k79,Aa A82 Gh.2.2.1 Wd] 66 :: h77 :: h81 :: bk AN #[iv Gh.2.2.2.1] 3 :: bk AO #[Aa A86 Gh.2.2.2.2 QY,Cg] 25 :: h85 :: bk b1 #[pt b0] 61 :: X) rfl (by first | rfl | (unfold Aa;rw [A8j];first | done | rfl)) (FG (kld 7 0 rfl (K.mv7 (K.drop (kx 1 (K.Al (K.Al (bnd h fun Aek Bc6 h=>(Bz (Nc.ok Bc6 o80) rfl trivial ?_)))))))))
 rintro _ _ ⟨OY,O4,Pw,Rx,rfl,rfl⟩
 refine Bi (knl (Cw ?_))
 obtain rfl:=As h
 exact kdv (.tuple #[]) [bk b0 #[Ay,Az,A2,Aa AG Af AH,Aa Qr W0 k75,sv Bb,Aa AC Ai AD,AA,pt AN,pt AO,Aa O4 Aek Pw,Aa A82 Gh.2.2.1 Wd] 66,h98,OY,h81,bk AN #[iv Gh.2.2.2.1] 3,bk AO #[Aa A86 Gh.2.2.2.2 QY,Cg] 25,h85] (K.mv6 (K.mv6 (K.mv6 (K.mv6 (K.mv5 (K.mv6 (K.mv6 (BH ⟨h98,Qr,k75,OY,O4,Pw,h81,A82,Wd,h85,A86,QY,Lc,Rx,Ud,o88,rfl,rfl⟩))))))))
def IC.g (Rc:GS) (k:Nat) (Bb:ByteArray) (Ai:Ae) (BW:Int) (BJ:TyU) (Ao:Int) (Av:ByteArray) (Ap:Int) (AF:Int) (Ak:List Tree):Option (Int×TyU):=(Bh BJ BW).bind fun x2=>x2.bind fun x4=>(EW BJ BW none).bind fun l23=>(DR Ak 0 Ap).bind fun l26=>(HJ.f k ([]) l26).bind fun PU=>(Bh Ak Ap).bind fun x35=>(Rc.FM x4.2.2.2.1 x4.2.2.2.2 Bb Ai PU ([]) (IntKind.i64.wrap (BW+1)) l23 x35.kind x35.text x35.n x35.at_ x35.kids).bind fun r44=>(Bh r44.2.2.2.2 BW).bind fun x61=>(EW r44.2.2.2.2 BW (some (x4.1,x4.2.1,x4.2.2.1,x4.2.2.2.1,r44.1))).bind fun Ny=>some (r44.2.2.2.1,Ny)
theorem IC.C2 {Rc:GS} (hR:Rc.Good) {k:Nat}:IC.C (IC.g Rc k):=by
 intro Bb Av Ai BW Ao Ap AF BJ Ak b0 AD AN AO CS Be Ay Az A2 DC EP AA FW Bk Cg C5 CY Cs G AC CR Bc r h Co DZ BE hG
 refine C3 (args:=[pt b0,.agg #[iv Ao,sv Av,iv Ap,iv AF,Aa Bc Ak Be]]) Tryz.func87 rfl (By rfl) ?_
 intro A X hh_
 obtain ⟨CJ,BC,BU,_⟩:=hh_
 unfold IC.g at h
 refine K.eq (env':=[(0,pt b0),(1,.agg #[iv Ao,sv Av,iv Ap,iv AF,Aa Bc Ak Be])]) (l':=bk b0 #[Ay,Az,A2,DC,EP,sv Bb,Aa AC Ai AD,AA,pt AN,pt AO,FW,Bk] 66 :: bk AN #[iv BW] 3 :: bk AO #[Aa CR BJ CS,Cg] 25 :: CY :: X) rfl rfl (ksr (knp #[iv Ao,sv Av,iv Ap,iv AF,Aa Bc Ak Be] 54 fun b1=>(Ba (kx 3 (kld 1 8 rfl (kx 1 (kld 2 0 rfl (kx 1 (Ba (kx 3 ?_))))))))))
 refine kld 1 8 rfl (kx 1 (kld 2 0 rfl (kx 2 (K.Al (AQ 0 1 #[iv (IntKind.i64.wrap (BW+1))] (Ad ?_))))))
 obtain ⟨x4,i3,h⟩:=Ye h
 refine K.Bx (Q_ (R:=(D5 Dr)) DZ (LQ i3).2.2 fun h5 h6 c7 _ _ o8 e9=>?_)
 obtain ⟨F5,k11,KJ,k14,h17,h18,rfl,rfl,p16,Ht,o15⟩:=Av7 o8
 refine Og p16 (B8 (kpr [(0,0),(1,0),(2,0),(3,3),(4,0),(5,3),(6,0),(7,0),(8,3),(9,0),(10,0),(11,0),(12,3),(13,0),(14,0),(15,0),(16,3),(17,0),(18,0),(19,0),(20,3),(21,0),(22,0),(23,0),(24,3)] [2,5,6] (Ar 3 (AP 1 9 rfl (Ar 1 (AP 2 0 rfl (Ar 1 (GT (T:=41) (kd:=.i64) (R:=(D5 Dr)) rfl i3 (AK.rd DZ) fun p19 _ _ _ y20=>?_))))))))
 have e21:Elem h6 p19 [sv x4.1,iv x4.2.1,iv x4.2.2.1,Aa F5 x4.2.2.2.1 k11,Aa KJ x4.2.2.2.2 k14]:=I6.elem e9 y20
 refine IE rfl e21 (fun w h_=>h_.mem _ (.head _)) (Ar 3 (AP 1 5 rfl (Ar 3 (AP 1 6 rfl (Ar 3 (AP 1 8 rfl (Ar 3 (AP 1 9 rfl (Ca (kx 1 ?_))))))))))
 refine knp #[sv x4.1,iv x4.2.1,iv x4.2.2.1,Aa F5 x4.2.2.2.1 k11,Aa KJ x4.2.2.2.2 k14,sv Bb,Aa AC Ai AD,nS,pt AN,pt AO,nS,nS] 66 fun b22=>(kx 1 (knl (bnd h fun l23 Aoe h=>(K.mv3 (Aaz Aoe e9 (Afa (U0 Ht o15 p16)) fun JR=>?_)))))
 have g25:=IF Aoe
 refine K.weak (env':=[(0,pt b0),(3,pt b1),(4,iv BW),(5,pt b22)]) ?_ ⟨gr,gr,gr,gr,trivial⟩
 refine K.eq (l':=h6 :: bk b22 #[sv x4.1,iv x4.2.1,iv x4.2.2.1,Aa F5 x4.2.2.2.1 k11,Aa KJ x4.2.2.2.2 k14,sv Bb,Aa AC Ai AD,nS,pt AN,pt AO,nS,nS] 66 :: h17 :: h18 :: bk AN #[iv (IntKind.i64.wrap (BW+1))] 3 :: bk b1 #[iv Ao,sv Av,iv Ap,iv AF,Aa Bc Ak Be] 54 :: bk b0 #[Ay,Az,A2,DC,EP,sv Bb,Aa AC Ai AD,AA,pt AN,pt AO,FW,Bk] 66 :: bk AO #[Aa CR l23 CS,Cg] 25 :: X) rfl (by first | rfl | (unfold Aa;rw [g25];first | done | rfl)) (AM (ksr (kx 2 (kld 5 4 rfl (kx 1 (kld 5 2 rfl (bnd h fun l26 Bb8 h=>(P3 (T:=54) (R:=(AX 54)) (xs:=Ak) 0 Ap rfl (by kernel_rfl) (by kernel_rfl) (by kernel_rfl) (.inl ⟨rfl,rfl⟩) (.inr ⟨_,.i64,rfl,(by kernel_rfl)⟩) (by kernel_rfl) (by kernel_rfl) Bb8 BE fun A27 k28 o29=>(Dl (K.Al ?_))))))))))
 refine bnd h fun PU Z2 h=>(Bz (HJ.ok Z2 (Ah.nil encS 9 1 none_) o29) rfl ⟨(t7 BC),trivial⟩ ?_)
 rintro _ _ ⟨h31,MN,k33,Is,rfl,rfl⟩
 refine Bi (Ba (kx 2 (kld 6 4 rfl (kx 1 (kld 6 2 rfl (K.mv6 (K.drop (bnd h fun x35 ZT h=>(DI (T:=54) (kd:=.i64) (R:=(AX 54)) rfl ZT BE fun p36 u39 q40 e37 y38=>?_)))))))))
 obtain ⟨Qq,k42,rfl,R3⟩:=DF 54 q40
 refine Fq rfl e37 (t8 BC) (Dl (K.mv3 (K.CM (K.mv7 (K.mv3 (K.mv5 (K.mv7 (K.mv6 (bnd h fun r44 Pn h=>(Bz (hR.FM Pn (Ah.rd Ht) o15 Co Is (AK.nil E5 81 none_) JR R3 hG) rfl ⟨(.head _),(t2 CJ),(t2 BC),(t2 BU),trivial⟩ ?_))))))))))
 rintro _ _ ⟨h45,O7,k47,h49,A50,k51,h53,O8,Py,h57,Hg,k59,Om,R5,M3,o60,rfl,rfl⟩
 refine E4 (Ad (bnd h fun x61 i62 h=>(K.mv6 (Q_ (R:=(D5 Dr)) o60 (LQ i62).2.2 fun h63 h64 c65 _ _ o66 e67=>(K.drop (kpr [(0,0),(1,0),(2,0),(3,3),(4,0),(5,3),(6,0),(7,0),(8,0),(9,0),(10,3)] [1,6,8] (Ar 3 (AP 2 9 rfl (Ar 1 (AP 1 0 rfl ?_))))))))))
 refine Ar 4 (GR 0 0 5 rfl (Ca (DI (T:=41) (kd:=.i64) (R:=(D5 Dr)) rfl i62 (AK.rd o60) fun p68 _ _ _ y69=>(K.An (K.drop (K.Al (K.drop (K.Al (K.drop (K.An ?_))))))))))
 refine K.Bx (K5 fun p71=>(K.An (bnd h fun Ny VR h=>(Aa3 (R:=(D5 Dr)) (v:=.agg #[sv x4.1,iv x4.2.1,iv x4.2.2.1,Aa F5 x4.2.2.2.1 k11,Aa O7 r44.1 k47]) (x':=(some (x4.1,x4.2.1,x4.2.2.1,x4.2.2.2.1,r44.1))) rfl (by kernel_rfl) (by kernel_rfl) (by kernel_rfl) (by kernel_rfl) (by kernel_rfl) y69 VR e67 (U0 (x:=(x4.1,x4.2.1,x4.2.2.1,x4.2.2.2.1,r44.1)) Ht Om p71) fun h73 PG=>?_))))
 have g75:=IF VR
 refine K.weak (env':=[(72,.agg #[sv x4.1,iv x4.2.1,iv x4.2.2.1,Aa F5 x4.2.2.2.1 k11,Aa O7 r44.1 k47])]) ?_ ⟨(by first | rfl | (unfold Aa;rw [g75];rfl)),trivial⟩
 refine K.eq (l':=h73 :: bk AN #[iv r44.2.2.2.1] 3 :: bk AO #[Aa Hg Ny k59,Cg] 25 :: bk b0 #[Ay,Az,A2,DC,EP,sv Bb,Aa AC Ai AD,AA,pt AN,pt AO,FW,Bk] 66 :: X) rfl (by first | rfl | (unfold Aa;rw [g75];first | done | rfl)) (knl (Cw ?_))
 obtain rfl:=As h
 exact kdv (.tuple #[]) [bk b0 #[Ay,Az,A2,DC,EP,sv Bb,Aa AC Ai AD,AA,pt AN,pt AO,FW,Bk] 66,bk AN #[iv r44.2.2.2.1] 3,bk AO #[Aa Hg Ny k59,Cg] 25,h73] (K.Al (K.Al (K.mv3 (BH ⟨h73,Hg,k59,PG,rfl,rfl⟩))))
def GS.at:Nat→GS
 | 0=>⟨fun _ _ _ _ _ _ _ _ _ _ _ _ _=>none,fun _ _ _ _ _ _ _ _ _ _ _ _ _=>none,fun _ _ _ _ _ _ _ _ _ _ _ _ _=>none,fun _ _ _ _ _ _ _ _ _=>none,fun _ _ _ _ _ _ _ _ _ _ _ _ _ _=>none,fun _ _ _ _ _ _ _ _ _ _ _ _ _ _ _=>none,fun _ _ _ _ _ _ _ _ _ _ _ _ _ _=>none,fun _ _ _ _ _ _ _ _ _ _ _ _ _ _=>none,fun _ _ _ _ _ _ _ _ _=>none⟩
 | k+1=>⟨D4.g (GS.at k) k,FM.g (GS.at k) k,Dz.g (GS.at k) k,DO.g (GS.at k) k,Gd.g (GS.at k) k,Ge.g (GS.at k) k,FN.g (GS.at k) k,Ik.g (GS.at k) k,IC.g (GS.at k) k⟩
theorem GS.good:∀ k,(GS.at k).Good
 | 0=>⟨(by unfold D4.C;intros;rename_i h _ _ _ _ _ _ _ _;cases (show (none:Option _)=some _ from h)),(by unfold FM.C;intros;rename_i h _ _ _ _ _ _ _ _;cases (show (none:Option _)=some _ from h)),(by unfold Dz.C;intros;rename_i h _ _ _ _ _ _ _ _;cases (show (none:Option _)=some _ from h)),(by unfold DO.C;intros;rename_i h _ _ _ _ _ _ _ _;cases (show (none:Option _)=some _ from h)),(by unfold Gd.C;intros;rename_i h _ _ _ _ _ _ _ _;cases (show (none:Option _)=some _ from h)),(by unfold Ge.C;intros;rename_i h _ _ _ _ _ _ _ _;cases (show (none:Option _)=some _ from h)),(by unfold FN.C;intros;rename_i h _ _ _ _ _ _ _ _;cases (show (none:Option _)=some _ from h)),(by unfold Ik.C;intros;rename_i h _ _ _ _ _ _ _ _;cases (show (none:Option _)=some _ from h)),(by unfold IC.C;intros;rename_i h _ _ _ _;cases (show (none:Option _)=some _ from h))⟩
 | k+1=>⟨D4.C2 (k:=k) (GS.good k),FM.C2 (k:=k) (GS.good k),Dz.C2 (k:=k) (GS.good k),DO.C2 (k:=k) (GS.good k),Gd.C2 (k:=k) (GS.good k),Ge.C2 (k:=k) (GS.good k),FN.C2 (k:=k) (GS.good k),Ik.C2 (k:=k) (GS.good k),IC.C2 (k:=k) (GS.good k)⟩
def FM.f (k:Nat):=FM.g (GS.at k) k
theorem FM.ok {k:Nat}:FM.C (FM.f k):=FM.C2 (k:=k) (GS.good k)
end
end Go.Proofs.YtkdjiehclahliaaGreatDoor
