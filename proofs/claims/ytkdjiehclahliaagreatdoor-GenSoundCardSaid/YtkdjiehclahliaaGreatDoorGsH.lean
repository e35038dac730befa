/- Texts of mine for genSound_card, part 8. -/
import Derived.Test.YtkdjiehclahliaaGreatDoorGsG
set_option linter.unusedSimpArgs false
set_option linter.unusedVariables false
set_option linter.unusedSectionVars false
namespace Go.Proofs.YtkdjiehclahliaaGreatDoor
set_option maxRecDepth 100000
section
open Go Go.RowKit
theorem Csm:An8 Tryz.prog 22 41 5 80 Tryz.t41 (.agg #[sv noS,iv 0,iv 0,nS,nS]):=⟨by kernel_rfl,by kernel_rfl,by kernel_rfl,by kernel_rfl,by kernel_rfl,by kernel_rfl,by decide⟩
def Aod.l0:Nat→(J28:TyU→Option (TyU×TyC×Int×Int))→(l86:List (Option (ByteArray×Int×Int×Int×TyB)))→(l89:List (Option (ByteArray×Int×Int×Int×TyB)))→(x94:Int)→(l95:TyU)→Option (TyU×TyC×Int×Int)
 | 0,_,_,_,_,_=>none
 | Bhh+1,J28,l86,l89,x94,l95=>cond (decide (x94 < ((l86.length:Nat):Int))) ((Ack l89 x94).bind fun x102=>x102.bind fun x104=>(Akq l89 x94 none).bind fun A2k=>(apd 80 l95 [(some (x104.1,x104.2.2.1,x104.2.2.2.1,x104.2.2.2.2,[]))]).bind fun Bm8=>Aod.l0 Bhh J28 l86 A2k (IntKind.i64.wrap (x94+1)) Bm8) (J28 l95)
def Aod.f (k:Nat) (a0:ByteArray):Option (TyU×TyC×Int×Int):=(A01.f k a0).bind fun r3=>cond (r3.2.2.1 != 0) (some ([],[],r3.2.2.1,r3.2.2.2)) ((A2s.f k a0).bind fun r15=>cond (r15.2.2.2.2.2.1 != 0) (some ([],[],r15.2.2.2.2.2.1,r15.2.2.2.2.2.2)) (Adj (fun (l23:TyU)=>(Ack l23 0).bind fun x30=>x30.bind fun x32=>(Akq l23 0 none).bind fun l51=>(Al8.f k x32.2.2.2.1 x32.2.2.2.2 a0 r3.2.1 ([]) ([]) 1 l51 r15.1 r15.2.1 r15.2.2.1 r15.2.2.2.1 r15.2.2.2.2.1).bind fun r54=>(Ack r54.2.2.2.2 0).bind fun x71=>(Akq r54.2.2.2.2 0 (some (x32.1,x32.2.1,x32.2.2.1,x32.2.2.2.1,r54.1))).bind fun l82=>some (l82,r3.2.1,0,0)) (fun J28=>(some (List.map some r3.1)).bind fun l86=>Aod.l0 k J28 l86 l86 0 ([]))))
theorem Aod.ok {k:Nat} {a0:ByteArray} {G:Aaa} {r:TyU×TyC×Int×Int} (h:Aod.f k a0=some r) (hG:GlP G): Ct Tryz.prog 7 #[sv a0] [] [G] (fun e l1=>∃ (H0_:Aaa) (A0_:TyO) (c0_:Nat) (H1_:Aaa) (A1_:TyO) (c1_:Nat),Abf (Ahx Aht) 41 H0_ (slW A0_ r.1 c0_) r.1∧Aaf encS 9 1 H1_ (slW A1_ r.2.1 c1_) r.2.1∧e=.returned (.tuple #[.agg #[slW A0_ r.1 c0_,slW A1_ r.2.1 c1_],.agg #[iv r.2.2.1,iv r.2.2.2]])∧l1=[H0_,H1_]):=by
 refine Afi (args:=[sv a0]) Tryz.func7 rfl (Ac0 rfl) ?_
 intro A X hh_
 obtain ⟨Ad1,_⟩:=hh_
 unfold Aod.f at h
 refine ksr (knp #[nS,nS] 25 fun b1=>(knp #[iv 0,iv 0] 28 fun b2=>(Abz (kx 1 (bnd h fun r3 hr3 h=>(kcl (A01.ok hr3 hG) rfl ⟨(t2 Ad1),trivial⟩ ?_))))))
 rintro _ _ ⟨h4,A5,k6,h8,A9,k10,o7,o11,rfl,rfl⟩
 refine Ach (kx 3 (knp #[nS,nS] 33 fun b12=>(knp #[iv 0,iv 0] 28 fun b13=>(K.mv1 (kst 0 2 #[slW A5 r3.1 k6,slW A9 r3.2.1 k10] (K.mv1 (kst 0 2 #[iv r3.2.2.1,iv r3.2.2.2] (knt (Acx (ksr ?_))))))))))
 refine kx 1 (kld 0 0 rfl (kx 1 (knt ?_)))
 refine kcn h (fun h=>?_) fun h=>?_
 ·refine Acx (kpr [(0,0),(1,3),(2,1)] [0] (kpx 1 (kpa 0 0 2 rfl (kpt (K.mv5 (ost 0 2 #[nS,nS] (kan [1] rfl (kpz (K.mv5 (kst 0 2 #[iv r3.2.2.1,iv r3.2.2.2] ?_))))))))))
  refine K.mv2 (K.drop (K.mv2 (K.drop (K.mv2 (K.drop (K.mv2 (K.drop (knt (Aem (Afx ?_))))))))))
  obtain rfl:=Aam h
  exact A8h (v:=.tuple #[.agg #[nS,nS],.agg #[iv r3.2.2.1,iv r3.2.2.2]]) [.val (nS),.val (nS),.val (iv r3.2.2.1),.val (iv r3.2.2.2)] [.ld ⟨b1,0,none⟩ (nS),.ld ⟨b1,1,none⟩ (nS),.ld ⟨b2,0,none⟩ (iv r3.2.2.1),.ld ⟨b2,1,none⟩ (iv r3.2.2.2)] [none_,none_] (by kernel_rfl) (by kernel_rfl) ⟨⟨1,_,_,_,rfl,rfl,rfl⟩,⟨1,_,_,_,rfl,rfl,rfl⟩,⟨0,_,_,_,rfl,rfl,rfl⟩,⟨0,_,_,_,rfl,rfl,rfl⟩,trivial⟩ (Ag6 (Ag6 (K.mv2 (K.drop (K.mv2 (K.drop (Adq ⟨none_,none,0,none_,none,0,(Abf.nil (Ahx Aht) 41 none_),(Aaf.nil encS 9 1 none_),rfl,rfl⟩)))))))
 ·refine Adl (Abi (ksr (kx 1 (bnd h fun r15 Ayb h=>(kcl (A2s.ok Ayb hG) rfl ⟨(t6 Ad1),trivial⟩ ?_)))))
  rintro _ _ ⟨h16,A17,k18,o19,rfl,rfl⟩
  refine Alj (kx 3 (knp #[iv 0,sv noS,iv 0,iv 0,nS] 54 fun b20=>(kst 0 5 #[iv r15.1,sv r15.2.1,iv r15.2.2.1,iv r15.2.2.2.1,slW A17 r15.2.2.2.2.1 k18] (K.mv2 (kst 0 2 #[iv r15.2.2.2.2.2.1,iv r15.2.2.2.2.2.2] (knt (Acx (ksr (kx 1 (kld 0 0 rfl ?_))))))))))
  refine kx 1 (knt ?_)
  refine kcn h (fun h=>?_) fun h=>?_
  ·refine Acx (kpr [(0,0),(1,3),(2,1)] [0] (kpx 1 (kpa 0 0 2 rfl (kpt (K.mv7 (ost 0 2 #[nS,nS] (kan [1] rfl (kpz (K.mv7 (kst 0 2 #[iv r15.2.2.2.2.2.1,iv r15.2.2.2.2.2.2] ?_))))))))))
   refine K.mv2 (K.drop (K.mv2 (K.drop (K.mv2 (K.drop (K.mv2 (K.drop (K.mv2 (K.drop (K.mv2 ?_))))))))))
   refine K.drop (knt (Aem (Afx ?_)))
   obtain rfl:=Aam h
   exact A8h (v:=.tuple #[.agg #[nS,nS],.agg #[iv r15.2.2.2.2.2.1,iv r15.2.2.2.2.2.2]]) [.val (nS),.val (nS),.val (iv r15.2.2.2.2.2.1),.val (iv r15.2.2.2.2.2.2)] [.ld ⟨b1,0,none⟩ (nS),.ld ⟨b1,1,none⟩ (nS),.ld ⟨b2,0,none⟩ (iv r15.2.2.2.2.2.1),.ld ⟨b2,1,none⟩ (iv r15.2.2.2.2.2.2)] [none_,none_] (by kernel_rfl) (by kernel_rfl) ⟨⟨1,_,_,_,rfl,rfl,rfl⟩,⟨1,_,_,_,rfl,rfl,rfl⟩,⟨0,_,_,_,rfl,rfl,rfl⟩,⟨0,_,_,_,rfl,rfl,rfl⟩,trivial⟩ (Ag6 (Ag6 (K.mv2 (K.drop (K.mv2 (K.drop (Adq ⟨none_,none,0,none_,none,0,(Abf.nil (Ahx Aht) 41 none_),(Aaf.nil encS 9 1 none_),rfl,rfl⟩)))))))
  ·refine Adl (Abi (ksr (kx 1 (kld 3 1 rfl (K.drop (kx 1 (knp #[nS,nS] 25 fun b22=>(kst 0 2 #[nS,slW A9 r3.2.1 k10] (knt ?_)))))))))
   obtain ⟨J28,Btq,h⟩:=Ags h
   refine Agt (τ:=TyU×Aaa×TyO×Nat) (fun t=>[(0,sv a0),(2,pt b1),(3,pt b2),(6,pt b20),(7,pt b22)]) (fun t=>bk b22 #[slW t.2.2.1 t.1 t.2.2.2,slW A9 r3.2.1 k10] 25 :: bk b20 #[iv r15.1,sv r15.2.1,iv r15.2.2.1,iv r15.2.2.2.1,slW A17 r15.2.2.2.2.1 k18] 54 :: h16 :: h8 :: bk b2 #[iv 0,iv 0] 28 :: bk b1 #[nS,nS] 25 :: t.2.1 :: X) (fun t=>J28 t.1=some r∧Abf (Ahx Aht) 41 t.2.1 (slW t.2.2.1 t.1 t.2.2.2) t.1) ?_ ?_
   ·rintro ⟨l23,h24,A25,k26⟩ ⟨h,o27⟩
    subst Btq
    refine ksr (knp #[iv 0] 3 fun b29=>(kst 0 1 #[iv 1] (knt ?_)))
    obtain ⟨x32,i31,h⟩:=Brm h
    refine K.mv7 (Bbm (R:=(Ahx Aht)) o27 (Ayk i31).2.2 fun h33 h34 c35 _ _ o36 e37=>?_)
    obtain ⟨A38,k39,A41,k42,h45,h46,rfl,rfl,p44,o40,o43⟩:=Cju o36
    refine A4e p44 (Acx (kpr [(0,0),(1,3),(2,0),(3,3),(4,0),(5,0),(6,3),(7,0)] [2,4] (kpx 1 (kpd 1 0 rfl (Ap9 (T:=41) (kd:=.i64) (R:=(Ahx Aht)) rfl i31 (Abf.rd o27) fun p47 _ _ _ y48=>?_)))))
    have e49:Elem h34 p47 [sv x32.1,iv x32.2.1,iv x32.2.2.1,slW A38 x32.2.2.2.1 k39,slW A41 x32.2.2.2.2 k42]:=Arl.elem e37 y48
    refine Aqy rfl e49 (fun w h_=>h_.mem _ (.head _)) (kpx 2 (kpd 1 1 rfl (kpx 1 (kpz (kx 1 (knp #[sv x32.1,iv x32.2.1,iv x32.2.2.1,slW A38 x32.2.2.2.1 k39,slW A41 x32.2.2.2.2 k42,sv a0,slW A9 r3.2.1 k10,nS,pt b29,pt b22,nS,nS] 66 fun b50=>(kx 1 (knl (bnd h fun l51 Cbo h=>(K.mv3 ?_))))))))))
    refine Bxc Cbo e37 (B1b (Bih o40 o43 p44)) fun o52=>?_
    have g53:=Ar0 Cbo
    refine K.weak (env':=[(2,pt b1),(3,pt b2),(6,pt b20),(7,pt b22),(11,pt b50)]) ?_ ⟨gr,gr,gr,gr,gr,trivial⟩
    refine K.eq (l':=h34 :: bk b50 #[sv x32.1,iv x32.2.1,iv x32.2.2.1,slW A38 x32.2.2.2.1 k39,slW A41 x32.2.2.2.2 k42,sv a0,slW A9 r3.2.1 k10,nS,pt b29,pt b22,nS,nS] 66 :: h45 :: h46 :: bk b29 #[iv 1] 3 :: bk b22 #[slW A25 l51 k26,slW A9 r3.2.1 k10] 25 :: bk b20 #[iv r15.1,sv r15.2.1,iv r15.2.2.1,iv r15.2.2.2.1,slW A17 r15.2.2.2.2.1 k18] 54 :: h16 :: h8 :: bk b2 #[iv 0,iv 0] 28 :: bk b1 #[nS,nS] 25 :: X) rfl (by first | rfl | (unfold slW;rw [g53];first | done | rfl)) (Abi (ksr (kx 1 (kla 6 0 5 rfl (K.mv6 (K.drop (Ag6 (Ag6 (K.mv2 (K.mv7 ?_))))))))))
    refine K.mv7 (K.mv3 (K.mv4 (K.mv7 (K.mv6 (bnd h fun r54 Bfz h=>(kcl (Al8.ok Bfz (Aaf.rd o40) o43 (Aaf.rd o11) (Aaf.nil encS 9 1 none_) (Abf.nil Aju 81 none_) o52 (Abf.rd o19) hG) rfl ⟨(.head _),(.tail _ (.tail _ (.head _))),(.tail _ (.head _)),(t5 Ad1),trivial⟩ ?_))))))
    rintro _ _ ⟨h55,A56,k57,h59,A60,k61,h63,A64,k65,h67,A68,k69,o58,o62,o66,o70,rfl,rfl⟩
    refine Ajr (K.mv8 (K.drop (knt (bnd h fun x71 i72 h=>(K.mv6 (Bbm (R:=(Ahx Aht)) o70 (Ayk i72).2.2 fun h73 h74 c75 _ _ o76 e77=>(K.drop (Acx (kpr [(0,0),(1,3),(2,0),(3,0),(4,0),(5,3)] [1,6] (kpx 1 ?_))))))))))
    refine kpd 1 0 rfl (kpx 3 (kpa 0 0 5 rfl (kpz (Ail (T:=41) (kd:=.i64) (R:=(Ahx Aht)) rfl i72 (Abf.rd o70) fun p78 _ _ _ y79=>(K.mv1 (K.drop (K.mv2 (K.drop (K.mv2 (K.drop ?_))))))))))
    refine K.mv2 (K.drop (K.mv1 (K.mv3 (Av0 fun p81=>(K.mv1 (bnd h fun l82 Bl8 h=>(Bxg (R:=(Ahx Aht)) (v:=.agg #[sv x32.1,iv x32.2.1,iv x32.2.2.1,slW A38 x32.2.2.2.1 k39,slW A56 r54.1 k57]) (x':=(some (x32.1,x32.2.1,x32.2.2.1,x32.2.2.2.1,r54.1))) rfl (by kernel_rfl) (by kernel_rfl) (by kernel_rfl) (by kernel_rfl) (by kernel_rfl) y79 Bl8 e77 (Bih (x:=(x32.1,x32.2.1,x32.2.2.1,x32.2.2.2.1,r54.1)) o40 o58 p81) fun h83 o84=>?_)))))))
    have g85:=Ar0 Bl8
    refine K.weak (env':=[(2,pt b1),(3,pt b2),(7,pt b22),(75,.agg #[sv x32.1,iv x32.2.1,iv x32.2.2.1,slW A38 x32.2.2.2.1 k39,slW A56 r54.1 k57])]) ?_ ⟨gr,gr,gr,(by first | rfl | (unfold slW;rw [g85];rfl)),trivial⟩
    refine K.eq (l':=h83 :: bk b22 #[slW A68 l82 k69,slW A9 r3.2.1 k10] 25 :: h8 :: bk b2 #[iv 0,iv 0] 28 :: bk b1 #[nS,nS] 25 :: X) rfl (by first | rfl | (unfold slW;rw [g85];first | done | rfl)) (Abz (kla 1 0 2 rfl (K.mv1 (K.drop (kx 1 (K.mv3 (kst 0 2 #[slW A68 l82 k69,slW A9 r3.2.1 k10] (K.mv3 (kst 0 2 #[iv 0,iv 0] (knt ?_))))))))))
    refine Aem ?_
    obtain rfl:=Aam h
    exact A8h (v:=.tuple #[.agg #[slW A68 l82 k69,slW A9 r3.2.1 k10],.agg #[iv 0,iv 0]]) [.val (slW A68 l82 k69),.val (slW A9 r3.2.1 k10),.val (iv 0),.val (iv 0)] [.ld ⟨b1,0,none⟩ (slW A68 l82 k69),.ld ⟨b1,1,none⟩ (slW A9 r3.2.1 k10),.ld ⟨b2,0,none⟩ (iv 0),.ld ⟨b2,1,none⟩ (iv 0)] [h83,h8] (by kernel_rfl) (by kernel_rfl) ⟨⟨1,_,_,_,rfl,rfl,rfl⟩,⟨1,_,_,_,rfl,rfl,rfl⟩,⟨0,_,_,_,rfl,rfl,rfl⟩,⟨0,_,_,_,rfl,rfl,rfl⟩,trivial⟩ (K.drop (K.drop (Adq ⟨h83,A68,k69,h8,A9,k10,o84,o11,rfl,rfl⟩)))
   ·skip
    refine bnd h fun l86 Cbq h=>?_
    have g88:l86.length=r3.1.length:=by rw [← Aam Cbq,List.length_map]
    have o87:Abf (Ahx Ak8) 43 h4 (slW A5 l86 k6) l86:=by unfold slW;rw [g88,← Aam Cbq];exact Abf.opt.2 o7
    refine K.weak (env':=[(0,sv a0),(2,pt b1),(3,pt b2),(4,pt b12),(6,pt b20),(7,pt b22)]) ?_ ⟨gr,gr,gr,gr,gr,gr,trivial⟩
    refine K.eq (l':=bk b22 #[nS,slW A9 r3.2.1 k10] 25 :: bk b20 #[iv r15.1,sv r15.2.1,iv r15.2.2.1,iv r15.2.2.2.1,slW A17 r15.2.2.2.2.1 k18] 54 :: h16 :: bk b12 #[slW A5 l86 k6,slW A9 r3.2.1 k10] 33 :: h4 :: h8 :: bk b2 #[iv 0,iv 0] 28 :: bk b1 #[nS,nS] 25 :: X) rfl (by first | rfl | (unfold slW;rw [g88];first | done | rfl)) (ksr (kx 1 (kld 3 0 rfl (K.mv3 (K.drop (kx 2 (knt (Aez (Ag6 (K.mv4 ?_))))))))))
    refine K.mv7 (K.mv7 (K.mv7 (K.mv7 (K.mv7 (K.mv7 (Akb (τ:=(List (Option (ByteArray×Int×Int×Int×TyB)))×Int×TyU×Aaa×TyO×Nat×Aaa×TyO×Nat) (fun t=>[(0,sv a0),(2,pt b1),(3,pt b2),(6,pt b20),(7,pt b22),(36,slW t.2.2.2.2.1 t.1 t.2.2.2.2.2.1),(37,iv ((l86.length:Nat):Int)),(38,iv t.2.1)]) (fun t=>bk b22 #[slW t.2.2.2.2.2.2.2.1 t.2.2.1 t.2.2.2.2.2.2.2.2,slW A9 r3.2.1 k10] 25 :: bk b20 #[iv r15.1,sv r15.2.1,iv r15.2.2.1,iv r15.2.2.2.1,slW A17 r15.2.2.2.2.1 k18] 54 :: h16 :: h8 :: bk b2 #[iv 0,iv 0] 28 :: bk b1 #[nS,nS] 25 :: t.2.2.2.1 :: t.2.2.2.2.2.2.1 :: X) (fun m t=>Aod.l0 m J28 l86 t.1 t.2.1 t.2.2.1=some r∧Abf (Ahx Ak8) 43 t.2.2.2.1 (slW t.2.2.2.2.1 t.1 t.2.2.2.2.2.1) t.1∧Abf (Ahx Aht) 41 t.2.2.2.2.2.2.1 (slW t.2.2.2.2.2.2.2.1 t.2.2.1 t.2.2.2.2.2.2.2.2) t.2.2.1) k (l86,0,[],h4,A5,k6,none_,none,0) ⟨h,o87,(Abf.nil (Ahx Aht) 41 none_)⟩ sb rfl ?_))))))
    clear h
    rintro Bhh ⟨l89,x94,l95,h90,A91,k92,h96,A97,k98⟩ ⟨h,o93,o99⟩
    cases Bhh with
    | zero=>simp [Aod.l0] at h
    | succ Bhh =>
     simp only [Aod.l0] at h
     refine ksr (kx 1 (knt (Acx ?_)))
     refine kcn h (fun h=>?_) fun h=>?_
     ·refine Adl (Abi (Acx (Aez ?_)))
      obtain ⟨x104,Ccc,h⟩:=Brm h
      refine K.mv6 (Bbm (R:=(Ahx Ak8)) o93 (Ayk Ccc).2.2 fun Ct7 Blv c107 _ _ C77 e109=>?_)
      obtain ⟨Bkd,Bmh,rfl,Chq⟩:=C77
      refine ksr (Ail (T:=43) (kd:=.i64) (R:=(Ahx Ak8)) rfl Ccc (Abf.rd o93) fun Dba _ _ _ y114=>?_)
      have e115:Elem Blv Dba [sv x104.1,iv x104.2.1,iv x104.2.2.1,iv x104.2.2.2.1,slW Bkd x104.2.2.2.2 Bmh]:=Arl.elem e109 y114
      refine keN rfl e115 (.tail _ (.head _)) (knp #[sv noS,iv 0,iv 0,iv 0,nS] 43 fun B6k=>(kst 0 5 #[sv x104.1,iv x104.2.1,iv x104.2.2.1,iv x104.2.2.2.1,slW Bkd x104.2.2.2.2 Bmh] (knl (bnd h fun A2k Bl2 h=>(K.mv2 (Bxc Bl2 e109 (B1b (Bo0 (x:=x104) Chq)) fun Bym=>?_))))))
      have B9l:=Ar0 Bl2
      refine K.weak (env':=[(0,sv a0),(2,pt b1),(3,pt b2),(6,pt b20),(7,pt b22),(36,slW A91 A2k k92),(37,iv ((l86.length:Nat):Int)),(38,iv x94),(9,pt B6k)]) ?_ ⟨gr,gr,gr,gr,gr,(by first | rfl | (unfold slW;rw [B9l];rfl)),gr,gr,gr,trivial⟩
      refine K.eq (l':=Blv :: bk B6k #[sv x104.1,iv x104.2.1,iv x104.2.2.1,iv x104.2.2.2.1,slW Bkd x104.2.2.2.2 Bmh] 43 :: Ct7 :: bk b22 #[slW A97 l95 k98,slW A9 r3.2.1 k10] 25 :: bk b20 #[iv r15.1,sv r15.2.1,iv r15.2.2.1,iv r15.2.2.2.1,slW A17 r15.2.2.2.2.1 k18] 54 :: h16 :: h8 :: bk b2 #[iv 0,iv 0] 28 :: bk b1 #[nS,nS] 25 :: h96 :: X) rfl (by first | rfl | (unfold slW;rw [B9l];first | done | rfl)) (Abi (Ab6 (kx 1 (kld 3 0 rfl (kx 1 (kld 1 0 rfl (kx 1 (kld 1 2 rfl (kx 1 (kld 1 3 rfl ?_))))))))))
      refine kx 1 (kld 1 4 rfl (K.mv1 (K.drop (kx 1 (kns #[sv x104.1,iv x104.2.2.1,iv x104.2.2.2.1,slW Bkd x104.2.2.2.2 Bmh,nS] 41 1 fun Dh4=>(Ag6 (K.mv3 (Av0 fun Dbc=>(K.mv1 (Aip (T:=41) (n:=1) (xs:=[(some (x104.1,x104.2.2.1,x104.2.2.2.1,x104.2.2.2.2,[]))]) (Ael.one (R:=(Ahx Aht)) (x:=(some (x104.1,x104.2.2.1,x104.2.2.2.1,x104.2.2.2.2,[]))) (Bih (x:=(x104.1,x104.2.2.1,x104.2.2.2.1,x104.2.2.2.2,[])) Chq (Aaf.nil e48 48 4 none_) Dbc)) rfl rfl (Ac0 rfl) fun h122 A8s=>?_))))))))))
      refine K.mv8 (bnd h fun Bm8 Cwo h=>(Amd rfl Csm rfl Cwo o99 A8s fun Bs6 Bke Bmj Byt=>(kx 1 (K.mv2 (kst 0 1 #[slW Bke Bm8 Bmj,slW A9 r3.2.1 k10] (knl (Ade (Abi (Ab6 (kx 2 ?_))))))))))
      exact knt (K.mv1 (K.mv2 (K.mv7 (K.mv7 (K.mv7 (K.mv7 (K.mv7 (K.mv7 (Ai4 Bhh (A2k,IntKind.i64.wrap (x94+1),Bm8,Blv,A91,k92,Bs6,Bke,Bmj) (Nat.lt_succ_self _) ⟨h,Bym,Byt⟩ sb rfl)))))))))
     ·exact Aj9 (Agh (Agh (Aka (Abi (K.mv6 (K.drop (Ac1 (l95,h96,A97,k98) ⟨h,o99⟩ sb rfl)))))))
def Bel {α:Type}:List (Option α)→Option (List α)
 | []=>some []
 | none :: _=>none
 | some x :: l=>(Bel l).bind fun r=>some (x :: r)
theorem B6a {α:Type}:∀ {l:List (Option α)} {r:List α},Bel l=some r→l=r.map some
 | [],r,h=>by cases h;rfl
 | none :: _,r,h=>by cases h
 | some x :: l,r,h=>by
  obtain ⟨r',h1,h2⟩:=Bky h
  cases h2
  rw [List.map_cons,B6a h1]
theorem B54 {α:Type}:∀ (l:List α),Bel (l.map some)=some l
 | []=>rfl
 | x :: l=>by rw [List.map_cons,Bel,B54 l];rfl
abbrev Agk:=ByteArray×Int×Int×List (Int×Int×ByteArray)×List (Int×Int×Int×Int)
def Aod.fS (k:Nat) (a0:ByteArray):Option (List Agk×List ByteArray×Int×Int):=(Aod.f k a0).bind fun r=>(Bel r.1).bind fun l=>some (l,r.2)
theorem Aod.okS {k:Nat} {a0:ByteArray} {G:Aaa} {r:List Agk×TyC×Int×Int} (h:Aod.fS k a0=some r) (hG:GlP G):Ct Tryz.prog 7 #[.string a0] [] [G] (fun e l1=>∃ (H0_:Aaa) (A0_:TyO) (c0_:Nat) (H1_:Aaa) (A1_:TyO) (c1_:Nat),Abf Aht 41 H0_ (slW A0_ r.1 c0_) r.1∧Aaf encS 9 1 H1_ (slW A1_ r.2.1 c1_) r.2.1∧e=.returned (.tuple #[.agg #[slW A0_ r.1 c0_,slW A1_ r.2.1 c1_],.agg #[.int .i64 r.2.2.1,.int .i64 r.2.2.2]])∧l1=[H0_,H1_]):=by
 obtain ⟨r0,h1,h⟩:=Bky h
 obtain ⟨l,h2,h⟩:=Bky h
 cases h
 have e:=B6a h2
 intro A w X hh hw
 refine (Aod.ok h1 hG A w X hh hw).mono fun e' w' ⟨l1,⟨H0,A0,c0,H1,A1,c1,o1,o2,e1,e2⟩,h3⟩=>⟨l1,⟨H0,A0,c0,H1,A1,c1,?_,o2,?_,e2⟩,h3⟩
 ·unfold slW at o1;rw [e,List.length_map] at o1
  exact Abf.opt.1 o1
 ·unfold slW at e1;rw [e,List.length_map] at e1
  exact e1
end
section
open Go Go.RowKit Lx
abbrev Ins:=Int×Int×Int×Int
abbrev Cd:=List Ins
def i0 (op:Int):Ins:=(op,0,0,0)
def i1 (op a:Int):Ins:=(op,a,0,0)
def i2 (op a b:Int):Ins:=(op,a,b,0)
def i3 (op a b c:Int):Ins:=(op,a,b,c)
def ixS (X:ByteArray) (L:List ByteArray):Int:=Awb X.toList (L.map (·.toList)) 0
def Awd (v:V3):List V3→Int→Int
 | [],_=>-1
 | x :: l,i=>if ((v.1 == x.1) && ((v.2.1 == x.2.1) && ((v.2.2.toList == x.2.2.toList) && true)))=true then i else Awd v l (i+1)
def csN (cs:List V3) (v:V3):Int:=Awd v cs 0+1
def glN (gl:List ByteArray) (t:ByteArray):Int:=ixS t gl+1
def Ar2 (lo:List ByteArray) (t:ByteArray):Int:=((At7 lo.reverse t:Nat):Int)
def unL:List ByteArray:=[(⟨#[]⟩:ByteArray),(⟨#[110,111,116]⟩:ByteArray),(⟨#[35]⟩:ByteArray),(⟨#[45]⟩:ByteArray)]
def opL:TyC:=[(⟨#[]⟩:ByteArray),(⟨#[43]⟩:ByteArray),(⟨#[45]⟩:ByteArray),(⟨#[42]⟩:ByteArray),(⟨#[47,47]⟩:ByteArray),(⟨#[37]⟩:ByteArray),(⟨#[46,46]⟩:ByteArray),(⟨#[61,61]⟩:ByteArray),(⟨#[126,61]⟩:ByteArray),(⟨#[60]⟩:ByteArray),(⟨#[60,61]⟩:ByteArray),(⟨#[62]⟩:ByteArray),(⟨#[62,61]⟩:ByteArray)]
def Ahg (f:Nat→Tree→Cd):Nat→List Tree→Cd
 | _,[]=>[]
 | p,x :: l=>f p x++Ahg f (p+(f p x).length) l
def Apl (f:Int→Nat→Tree→Cd):Nat→List Tree→Cd
 | _,[]=>[]
 | p,[x]=>f (-1) p x
 | p,x :: y :: l=>f 1 p x++Apl f (p+(f 1 p x).length) (y :: l)
def Ber (f:Int→Nat→Tree→Cd) (res:Int) (p:Nat) (l:List Tree):Cd :=
 f 1 p (Adu l 0)++i0 22 :: (Apl f (p+(f 1 p (Adu l 0)).length+1) (l.drop 1)++[i1 24 res])
def Aue (l:List Tree):Bool:=match l.getLast? with | some x=>x.kind == 13 && (Adu x.kids 0).kind == 8 | none=>false
def itN (rest:Bool):List Tree→Nat
 | []=>0
 | x :: l=>(if x.kind=14 then 0 else if (rest && l.isEmpty)=true then 0 else 1)+itN rest l
def fdN:List Tree→Nat
 | []=>0
 | x :: l=>(if x.kind=14 then 1 else 0)+fdN l
def Atp (w key:Int):Cd:=if w > 0 then [i2 28 w key] else []
def Ara (f:Int→Nat→Tree→Cd) (rest:Bool):Nat→Int→Int→List Tree→Cd
 | _,w,key,[]=>Atp w key
 | p,w,key,x :: l =>
  if x.kind=14 then Ahg (f 1) p x.kids++i1 27 w :: Ara f rest (p+(Ahg (f 1) p x.kids).length+1) w key l
  else if (rest && l.isEmpty)=true then
   Atp w key++i0 22 :: (f (-1) (p+(Atp w key).length+1) (Adu x.kids 0)++[i1 29 (if w > 0 then key+w else key)])
  else if w+1=50 then f 1 p (Adu x.kids 0)++i2 28 50 key :: Ara f rest (p+(f 1 p (Adu x.kids 0)).length+1) 0 (key+50) l
  else f 1 p (Adu x.kids 0)++Ara f rest (p+(f 1 p (Adu x.kids 0)).length) (w+1) key l
structure GCx where
 cs:List V3
 gl:List ByteArray
 src:ByteArray
def Bnl (cx:GCx) (lo:List ByteArray) (t:ByteArray):Ins:=if Ar2 lo t > 0 then i1 6 (Ar2 lo t) else i1 8 (glN cx.gl t)
def orB:ByteArray:=⟨#[111,114]⟩
def Aby (cx:GCx) (lo:List ByteArray):Nat→Int→Nat→Tree→Cd
 | 0,_,_,_=>[]
 | d+1,res,p,.mk k t n _ l =>
  if k=1 then [i0 3] else if k=2 then [i0 4] else if k=3 then [i0 5]
  else if k=4 then [i1 2 (csN cx.cs (2,n,⟨#[]⟩))]
  else if k=5 then [i1 2 (csN cx.cs (3,0,t))]
  else if k=6 then [Bnl cx lo t]
  else if k=7 then
   if (Adu l 0).kind=6∧Ary (Adu l 0).text=true then [i1 10 (Apa ((Adu l 0).text++Ati++(Adu l 1).text).toList)]
   else Ahg (Aby cx lo d 1) p l++[i0 12]
  else if k=8 then Ber (Aby cx lo d) res p l
  else if k=9 then Aby cx lo d 1 p (Adu l 0)
  else if k=10 then Aby cx lo d 1 p (Adu l 0)++[i1 16 (ixS t unL)]
  else if k=11 then
   let c:=Aby cx lo d 1 p (Adu l 0)
   if ixS t opL > 0 then c++Aby cx lo d 1 (p+c.length) (Adu l 1)++[i1 17 (ixS t opL)]
   else
    let e:=Aby cx lo d 1 (p+c.length+1) (Adu l 1)
    c++i1 (if t.toList == orB.toList then 21 else 20) ((p+c.length+1+e.length:Nat):Int) :: e
  else if k=12 then i2 26 (itN (Aue l) l:Nat) (fdN l:Nat) :: Ara (Aby cx lo d) (Aue l) (p+1) 0 1 l
  else []
theorem Bpo (X:Bs):∀ (l:List Bs) (i:Int),(Awb X l i=-1∧X ∉ l)∨(X ∈ l∧i≤Awb X l i∧Awb X l i < i+l.length)
 | [],i=>.inl ⟨rfl,by simp⟩
 | y :: l,i=>by
  unfold Awb
  by_cases h:(X == y)=true
  ·rw [if_pos h]
   exact .inr ⟨by rw [beq_iff_eq.1 h];exact Af5 ..,Int.le_refl _,by simp only [Aa4];omega⟩
  ·rw [if_neg h]
   have h':X≠y:=fun e=>h (by simp [e])
   rcases Bpo X l (i+1) with ⟨h1,h2⟩ | ⟨h1,h2,h3⟩
   ·exact .inl ⟨h1,by simp [h',h2]⟩
   ·exact .inr ⟨Ahb _ h1,by omega,by simp only [Aa4];omega⟩
theorem Ccr (L:List ByteArray) (hL:L.length≤1000000) (s:ByteArray):∀ (d i k:Nat),L.length - i≤d→i≤L.length→d < k →
  Akt.l0 k L s (fun _=>some (-1)) (i:Int)=some (Awb s.toList ((L.drop i).map (·.toList)) i)
 | d,i,k,hd,hi,hk=>by
  obtain ⟨k,rfl⟩:∃ m,k=m+1:=⟨k - 1,by omega⟩
  simp only [Akt.l0]
  rcases Nat.lt_or_ge i L.length with h | h
  ·obtain ⟨d,rfl⟩:∃ m,d=m+1:=⟨d - 1,by omega⟩
   rw [decide_eq_true (p:=(i:Int) < L.length) (by omega),Bxq h,wiC ((i:Int)+1) (by omega) (by omega),show (i:Int)+1=((i+1:Nat):Int) by omega,List.drop_eq_getElem_cons h,List.map_cons]
   simp only [cond_true,Aai]
   unfold Awb
   cases hq:s.toList == L[i].toList with
   | true=>rfl
   | false =>
    rw [cond_false,Ccr L hL s d (i+1) k (by omega) (by omega) (by omega)]
    rfl
  ·rw [decide_eq_false (p:=(i:Int) < L.length) (by omega),List.drop_of_length_le h]
   rfl
theorem Bwm (k:Nat) (L:List ByteArray) (a:ByteArray) (hL:L.length≤1000000) (hk:L.length < k):Akt.f k L a=some (ixS a L):=by
 unfold Akt.f Adj ixS
 have:=Ccr L hL a L.length 0 k (by omega) (by omega) hk
 rw [List.drop_zero] at this
 exact this
theorem Ccq (a0 a1:Int) (a2:ByteArray):∀ (t pre:List V3) (m:Nat),pre.length+t.length≤1000000→t.length < m →
  Ao3.l0 m (pre++t) a0 a1 a2 (fun _=>some (-1)) (pre.length:Int)=some (Awd (a0,a1,a2) t pre.length)
 | [],pre,m,hl,hm=>by
  obtain ⟨m,rfl⟩:∃ m',m=m'+1:=⟨m - 1,by omega⟩
  simp only [Ao3.l0]
  rw [ltF (by simp)]
  rfl
 | x :: t,pre,m,hl,hm=>by
  obtain ⟨m,rfl⟩:∃ m',m=m'+1:=⟨m - 1,by omega⟩
  simp only [Aa4] at hl hm
  simp only [Ao3.l0]
  rw [ltT (by simp;omega),Ah5]
  simp only [cond_true,Aai]
  unfold Awd
  simp only
  cases hq:(a0 == x.1) && ((a1 == x.2.1) && ((a2.toList == x.2.2.toList) && true)) with
  | true=>rfl
  | false =>
   rw [cond_false,wiC _ (by omega) (by omega)]
   have ih:=Ccq a0 a1 a2 t (pre++[x]) m (by simp;omega) (by omega)
   rw [Aep,Abj] at ih
   exact ih
theorem Bpp (v:V3):∀ (l:List V3) (i:Int),(Awd v l i=-1∧Avr l v=false)∨(Avr l v=true∧i≤Awd v l i∧Awd v l i < i+l.length)
 | [],i=>.inl ⟨rfl,rfl⟩
 | x :: l,i=>by
  unfold Awd Avr
  rw [List.any_cons]
  cases hq:(v.1 == x.1) && ((v.2.1 == x.2.1) && ((v.2.2.toList == x.2.2.toList) && true)) with
  | true=>exact .inr ⟨rfl,by simp only [if_true];omega,by simp only [if_true,Aa4];omega⟩
  | false =>
   simp only [Bool.false_eq_true,if_false,Bool.false_or]
   rcases Bpp v l (i+1) with ⟨h1,h2⟩ | ⟨h1,h2,h3⟩
   ·exact .inl ⟨h1,h2⟩
   ·exact .inr ⟨h1,by omega,by simp only [Aa4];omega⟩
def mx:Nat:=1000000
theorem add_eq (k:Nat) (c:Cd) (op:Int) (l:List Int) (hl:l.length≤3) (hc:c.length≤mx):Adi.f k c op l=some ((c.length:Int),c++[(op,cp3 l 0,cp3 l 1,cp3 l 2)]):=by
 unfold mx at hc
 unfold Adi.f
 rw [decide_eq_true hl,cond_true,Awj (by simp;omega),Aai,wiC _ (by simp only [Abj,Aa4,Acg];omega) (by simp only [Abj,Aa4,Acg];omega)]
 congr 2
 simp
theorem add0 (k:Nat) (c:Cd) (op:Int) (hc:c.length≤mx):Adi.f k c op []=some ((c.length:Int),c++[i0 op]):=add_eq k c op [] (by decide) hc
theorem add1 (k:Nat) (c:Cd) (op a:Int) (hc:c.length≤mx):Adi.f k c op [a]=some ((c.length:Int),c++[i1 op a]):=add_eq k c op [a] (Ac0 rfl) hc
theorem Bq6 (k:Nat) (c:Cd) (op a b:Int) (hc:c.length≤mx):Adi.f k c op [a,b]=some ((c.length:Int),c++[i2 op a b]):=add_eq k c op [a,b] (Ac0 rfl) hc
theorem B5x (k:Nat) (c:Cd) (op a b e:Int) (hc:c.length≤mx):Adi.f k c op [a,b,e]=some ((c.length:Int),c++[i3 op a b e]):=add_eq k c op [a,b,e] (Ac0 rfl) hc
theorem Bsz (k:Nat) (gl:List ByteArray) (t:ByteArray) (hg:gl.length≤400000) (hk:500000≤k):Ax4.f k gl t=some (glN gl t):=by
 unfold Ax4.f glN
 rw [Bwm k gl t (by omega) (by omega),Aai]
 have:=Bpo t.toList (gl.map (·.toList)) 0
 rw [List.length_map] at this
 rw [wiC _ (by unfold ixS;omega) (by unfold ixS;omega)]
theorem B7m (k:Nat) (cs:List V3) (c:Cd) (v0 v1:Int) (v2:ByteArray) (hs:cs.length≤400000) (hk:500000≤k) (hc:c.length≤mx):Ax2.f k cs c v0 v1 v2=some (c++[i1 2 (csN cs (v0,v1,v2))]):=by
 unfold Ax2.f Ao3.f Adj csN
 have hv:Ao3.l0 k cs v0 v1 v2 (fun _=>some (-1)) (0:Int)=some (Awd (v0,v1,v2) cs 0):=Ccq v0 v1 v2 cs [] k (by simpa using (by omega)) (by omega)
 have:=Bpp (v0,v1,v2) cs 0
 simp only [hv,Aai]
 rw [wiC _ (by omega) (by omega),add1 k c _ _ hc]
 rfl
theorem B65:∀ (t pre:List Tree) (lo:List ByteArray) (m:Nat),pre.length+t.length≤400000→lo.length+t.length≤900000→t.length < m →
  Ap8.l0 m (pre++t) (pre.length:Int) lo=some (lo++t.map (·.text))
 | [],pre,lo,m,hl,ho,hm=>by
  obtain ⟨m,rfl⟩:∃ m',m=m'+1:=⟨m - 1,by omega⟩
  simp only [Ap8.l0]
  rw [ltF (by simp)]
  simp
 | x :: t,pre,lo,m,hl,ho,hm=>by
  obtain ⟨m,rfl⟩:∃ m',m=m'+1:=⟨m - 1,by omega⟩
  simp only [Aa4] at hl ho hm
  simp only [Ap8.l0]
  rw [ltT (by simp;omega),Ah5]
  simp only [cond_true,Aai]
  rw [Awj (by simp;omega),wiC _ (by omega) (by omega)]
  have ih:=B65 t (pre++[x]) (lo++[x.text]) m (by simp;omega) (by simp;omega) (by omega)
  rw [Aep,Abj] at ih
  simp only [Aai]
  refine ih.trans ?_
  simp
theorem Brv (k:Nat) (lo:List ByteArray) (l:List Tree) (hl:l.length≤400000) (ho:lo.length≤400000) (hk:500000≤k):Ap8.f k lo l=some (lo++l.map (·.text)) :=
 B65 l [] lo k (by simpa using hl) (by omega) (by omega)
theorem Aug {α:Type} (pre:List α) (x y:α) (t:List α):Akq (pre++x :: t) (pre.length:Int) y=some (pre++y :: t):=by
 unfold Akq
 rw [decide_eq_true (by simp;omega),cond_true,Int.toNat_natCast,List.set_append_right _ _ (Nat.le_refl _),Nat.sub_self]
 rfl
theorem Axx {f:Nat→Tree→Cd}:∀ {l:List Tree} {p:Nat},(∀ p x,x ∈ l→(f p x).length≤4 * sz x)→(Ahg f p l).length≤4 * szs l
 | [],_,_=>Nat.zero_le _
 | x :: l,p,h=>by
  have h1:=h p x (Af5 ..)
  have h2:=Axx (l:=l) (p:=p+(f p x).length) fun p y hy=>h p y (Ahb _ hy)
  simp only [Ahg,Abj,szs]
  omega
theorem A8v {f:Int→Nat→Tree→Cd}:∀ {l:List Tree} {p:Nat},(∀ r p x,x ∈ l→(f r p x).length≤4 * sz x)→(Apl f p l).length≤4 * szs l
 | [],_,_=>Nat.zero_le _
 | [x],p,h=>by
  have h1:=h (-1) p x (Af5 ..)
  simp only [Apl,szs]
  omega
 | x :: y :: l,p,h=>by
  have h1:=h 1 p x (Af5 ..)
  have h2:=A8v (l:=y :: l) (p:=p+(f 1 p x).length) fun r p y hy=>h r p y (Ahb _ hy)
  simp only [Apl,Abj,szs] at h2 ⊢
  omega
theorem B12 (w key:Int):(Atp w key).length≤1:=by unfold Atp;split <;> simp
theorem Bgh {x:Tree} (h:IsF x):(∃ t n a y,x=.mk 13 t n a [y]∧IsE y)∨∃ t n a y z,x=.mk 14 t n a [y,z]∧IsE y∧IsE z:=by
 cases h with
 | item h=>exact .inl ⟨_,_,_,_,rfl,h⟩
 | field h h'=>exact .inr ⟨_,_,_,_,_,rfl,h,h'⟩
theorem Clg {f:Int→Nat→Tree→Cd} {rest:Bool}:∀ {l:List Tree} {p:Nat} {w key:Int},(∀ x ∈ l,IsF x)→(∀ r p x y,x ∈ l→y ∈ x.kids→(f r p y).length≤4 * sz y)→(Ara f rest p w key l).length≤4 * szs l+1
 | [],p,w,key,_,_=>by simp only [Ara,szs];have:=B12 w key;omega
 | x :: l,p,w,key,hF,h=>by
  have ih:=fun p w key=>Clg (f:=f) (rest:=rest) (l:=l) (p:=p) (w:=w) (key:=key) (fun y hy=>hF y (Ahb _ hy)) fun r p y z hy=>h r p y z (Ahb _ hy)
  have hx:=fun r p y=>h r p x y (Af5 ..)
  have hs:=B12 w key
  rcases Bgh (hF x (Af5 ..)) with ⟨t,n,a,y,rfl,hy⟩ | ⟨t,n,a,y,z,rfl,hy,hz⟩
  ·have h1:=fun r p=>hx r p y (Af5 ..)
   simp only [Ara,Tree.kind,Tree.kids,show Adu [y] 0=y from rfl,szs,sz]
   rw [if_neg (by decide)]
   split
   ·have:=h1 (-1) (p+(Atp w key).length+1)
    simp only [Abj,Aa4,Acg]
    omega
   split
   ·have:=h1 1 p
    have:=ih (p+(f 1 p y).length+1) 0 (key+50)
    simp only [Abj,Aa4]
    omega
   ·have:=h1 1 p
    have:=ih (p+(f 1 p y).length) (w+1) key
    simp only [Abj]
    omega
  ·have h1:(Ahg (f 1) p [y,z]).length≤4 * szs [y,z]:=Axx fun p u hu=>hx 1 p u hu
   have:=ih (p+(Ahg (f 1) p [y,z]).length+1) w key
   simp only [Ara,Tree.kind,Tree.kids,if_pos,szs,sz] at h1 ⊢
   simp only [Abj,Aa4]
   omega
section
variable {cx:GCx} {lo:List ByteArray}
theorem B8d {d:Nat} {r:Int} {p:Nat} {n a:Int} {t:ByteArray} {l:List Tree}:Aby cx lo (d+1) r p (.mk 1 t n a l)=[i0 3]:=rfl
theorem B8j {d:Nat} {r:Int} {p:Nat} {n a:Int} {t:ByteArray} {l:List Tree}:Aby cx lo (d+1) r p (.mk 2 t n a l)=[i0 4]:=rfl
theorem B8k {d:Nat} {r:Int} {p:Nat} {n a:Int} {t:ByteArray} {l:List Tree}:Aby cx lo (d+1) r p (.mk 3 t n a l)=[i0 5]:=rfl
theorem B8l {d:Nat} {r:Int} {p:Nat} {n a:Int} {t:ByteArray} {l:List Tree}:Aby cx lo (d+1) r p (.mk 4 t n a l)=[i1 2 (csN cx.cs (2,n,⟨#[]⟩))]:=rfl
theorem B8n {d:Nat} {r:Int} {p:Nat} {n a:Int} {t:ByteArray} {l:List Tree}:Aby cx lo (d+1) r p (.mk 5 t n a l)=[i1 2 (csN cx.cs (3,0,t))]:=rfl
theorem Bsh {d:Nat} {r:Int} {p:Nat} {n a:Int} {t:ByteArray} {l:List Tree}:Aby cx lo (d+1) r p (.mk 6 t n a l)=[Bnl cx lo t]:=rfl
theorem Bsj {d:Nat} {r:Int} {p:Nat} {n a:Int} {t:ByteArray} {l:List Tree}:Aby cx lo (d+1) r p (.mk 7 t n a l)=if (Adu l 0).kind=6∧Ary (Adu l 0).text=true then [i1 10 (Apa ((Adu l 0).text++Ati++(Adu l 1).text).toList)] else Ahg (Aby cx lo d 1) p l++[i0 12]:=rfl
theorem Bsl {d:Nat} {r:Int} {p:Nat} {n a:Int} {t:ByteArray} {l:List Tree}:Aby cx lo (d+1) r p (.mk 8 t n a l)=Ber (Aby cx lo d) r p l:=rfl
theorem B8o {d:Nat} {r:Int} {p:Nat} {n a:Int} {t:ByteArray} {x:Tree}:Aby cx lo (d+1) r p (.mk 9 t n a [x])=Aby cx lo d 1 p x:=rfl
theorem Bse {d:Nat} {r:Int} {p:Nat} {n a:Int} {t:ByteArray} {x:Tree}:Aby cx lo (d+1) r p (.mk 10 t n a [x])=Aby cx lo d 1 p x++[i1 16 (ixS t unL)]:=rfl
def Bep (f:Nat→Tree→Cd) (p:Nat) (t:ByteArray) (x y:Tree):Cd :=
 if ixS t opL > 0 then f p x++f (p+(f p x).length) y++[i1 17 (ixS t opL)]
 else f p x++i1 (if t.toList == orB.toList then 21 else 20) ((p+(f p x).length+1+(f (p+(f p x).length+1) y).length:Nat):Int) :: f (p+(f p x).length+1) y
theorem B8f {d:Nat} {r:Int} {p:Nat} {n a:Int} {t:ByteArray} {x y:Tree}:Aby cx lo (d+1) r p (.mk 11 t n a [x,y])=Bep (Aby cx lo d 1) p t x y:=rfl
theorem B8i {d:Nat} {r:Int} {p:Nat} {n a:Int} {t:ByteArray} {l:List Tree}:Aby cx lo (d+1) r p (.mk 12 t n a l)=i2 26 (itN (Aue l) l:Nat) (fdN l:Nat) :: Ara (Aby cx lo d) (Aue l) (p+1) 0 1 l:=rfl
theorem Al7:∀ (d:Nat) (r:Int) (p:Nat) (t:Tree),IsE t→(Aby cx lo d r p t).length≤4 * sz t
 | 0,_,_,_,_=>Nat.zero_le _
 | d+1,r,p,t,h=>by
  have ih:=fun r p t h=>Al7 d r p t h
  cases h with
  | atom h1 h2 =>
   rename_i k n a t
   simp only [sz,szs]
   obtain rfl | rfl | rfl | rfl | rfl | rfl:k=1∨k=2∨k=3∨k=4∨k=5∨k=6:=by omega
   ·rw [B8d];exact Ac0 rfl
   ·rw [B8j];exact Ac0 rfl
   ·rw [B8k];exact Ac0 rfl
   ·rw [B8l];exact Ac0 rfl
   ·rw [B8n];exact Ac0 rfl
   ·rw [Bsh];exact Ac0 rfl
  | index h1 h2 =>
   rename_i n a t x y
   rw [Bsj]
   split
   ·simp only [Aa4,Acg,sz];omega
   ·have:(Ahg (Aby cx lo d 1) p [x,y]).length≤4 * szs [x,y]:=Axx fun p z hz=>by
     rcases List.mem_cons.1 hz with rfl | hz
     ·exact ih _ _ _ h1
     ·obtain rfl:=Ag1.1 hz;exact ih _ _ _ h2
    simp only [Abj,Aa4,Acg,sz,szs] at this ⊢
    omega
  | call h1 h2 =>
   rename_i n a t x l
   rw [Bsl]
   have e1:=ih 1 p x h1
   have e2:=A8v (f:=Aby cx lo d) (l:=l) (p:=p+(Aby cx lo d 1 p x).length+1) fun r p y hy=>ih r p y (h2 y hy)
   simp only [Ber,show Adu (x :: l) 0=x from rfl,List.drop_succ_cons,List.drop_zero,Abj,Aa4,Acg,sz,szs]
   omega
  | paren h1=>rw [B8o];have:=ih 1 p _ h1;simp only [sz,szs];omega
  | unary h1=>rw [Bse];have:=ih 1 p _ h1;simp only [sz,szs,Abj,Aa4,Acg];omega
  | binary h1 h2 =>
   rename_i n a t x y
   rw [B8f]
   have e1:=ih 1 p x h1
   have e2:=ih 1 (p+(Aby cx lo d 1 p x).length) y h2
   have e3:=ih 1 (p+(Aby cx lo d 1 p x).length+1) y h2
   unfold Bep
   split <;> simp only [sz,szs,Abj,Aa4,Acg] <;> omega
  | table h1 =>
   rename_i n a t l
   rw [B8i]
   have:=Clg (f:=Aby cx lo d) (rest:=Aue l) (l:=l) (p:=p+1) (w:=0) (key:=1) h1 fun r p x y hx hy=>by
    rcases Bgh (h1 x hx) with ⟨_,_,_,z,rfl,hz⟩ | ⟨_,_,_,z,u,rfl,hz,hu⟩
    ·obtain rfl:=Ag1.1 hy;exact ih _ _ _ hz
    ·rcases List.mem_cons.1 hy with rfl | hy
     ·exact ih _ _ _ hz
     ·obtain rfl:=Ag1.1 hy;exact ih _ _ _ hu
   simp only [Aa4,sz]
   omega
theorem Csv {d:Nat} {r:Int} {p:Nat} {t:Tree} (h:t.kind≠8):Aby cx lo d r p t=Aby cx lo d 1 p t:=by
 cases d with
 | zero=>rfl
 | succ d =>
  cases t with
  | mk k t n a l =>
   have h:k≠8:=h
   simp only [Aby,if_neg h]
theorem Bn1 {f:Int→Nat→Tree→Cd} {x:Tree}:∀ {m:List Tree} {p:Nat},Apl f p (m++[x])=Ahg (f 1) p m++f (-1) (p+(Ahg (f 1) p m).length) x
 | [],p=>rfl
 | [y],p=>by
  show f 1 p y++Apl f (p+(f 1 p y).length) ([]++[x])=_
  rw [Bn1 (m:=[])]
  simp [Ahg]
 | y :: z :: m,p=>by
  show f 1 p y++Apl f (p+(f 1 p y).length) ((z :: m)++[x])=_
  rw [Bn1 (m:=z :: m)]
  simp only [Ahg,Aep,Abj]
  rw [Nat.add_assoc,Nat.add_assoc]
theorem B70 {f:Nat→Tree→Cd} {x:Tree}:∀ {m:List Tree} {p:Nat},Ahg f p (m++[x])=Ahg f p m++f (p+(Ahg f p m).length) x
 | [],p=>by simp [Ahg]
 | y :: m,p=>by
  show f p y++Ahg f (p+(f p y).length) (m++[x])=_
  rw [B70 (m:=m)]
  simp only [Ahg,Aep,Abj]
  rw [Nat.add_assoc]
end
section
variable {cx:GCx} {lo:List ByteArray}
structure BdG (cx:GCx) (lo:List ByteArray):Prop where
 cs:cx.cs.length≤400000
 gl:cx.gl.length≤400000
 lo:lo.length≤400000
def EX (R:GE) (cx:GCx) (lo:List ByteArray) (d:Nat):Prop:=∀ (c:Cd) (t:Tree),IsE t→gw t→sz t≤d→c.length+4 * sz t≤mx →
 R.Ag4 cx.cs c cx.gl lo t.kind t.text t.n t.at_ t.kids=some (c++Aby cx lo d 1 c.length t)
def CL (R:GE) (cx:GCx) (lo:List ByteArray) (d:Nat):Prop:=∀ (res:Int) (c:Cd) (t:Tree),IsE t→t.kind=8→gw t→sz t≤d→c.length+4 * sz t≤mx →
 R.Ako cx.cs c cx.gl lo t.kind t.text t.n t.at_ t.kids res=some (c++Aby cx lo d res c.length t)
def EA (R:GE) (cx:GCx) (lo:List ByteArray) (d:Nat):Prop:=∀ (c:Cd) (l:List Tree),Aj0 l→gws l→szs l≤d→c.length+4 * szs l≤mx →
 R.Ah3 cx.cs c cx.gl lo l=some (c++Ahg (Aby cx lo d 1) c.length l)
def OP (R:GE) (cx:GCx) (lo:List ByteArray) (d:Nat):Prop:=∀ (c:Cd) (l:List Tree),Aj0 l→gws l→szs l≤d→c.length+4 * szs l≤mx →
 R.Amb cx.cs c cx.gl lo l=some (c++Apl (Aby cx lo d) c.length l)
def BI (R:GE) (cx:GCx) (lo:List ByteArray) (d:Nat):Prop:=∀ (c:Cd) (t:ByteArray) (n a:Int) (x y:Tree),IsE x→IsE y→gw x→gw y→sz x+sz y≤d→c.length+4 * (sz x+sz y)+2≤mx →
 R.Aqs cx.cs c cx.gl lo 11 t n a [x,y]=some (c++Bep (Aby cx lo d 1) c.length t x y)
def TA (R:GE) (cx:GCx) (lo:List ByteArray) (d:Nat):Prop:=∀ (c:Cd) (l:List Tree),(∀ x ∈ l,IsF x)→gws l→szs l≤d→c.length+4 * szs l+3≤mx →
 R.Amc cx.cs c cx.gl lo l=some (c++i2 26 (itN (Aue l) l:Nat) (fdN l:Nat) :: Ara (Aby cx lo d) (Aue l) (c.length+1) 0 1 l)
theorem At4 (c e:Cd) (x:Ins):(c++e++[x]).length=c.length+e.length+1:=by simp [Nat.add_assoc]
theorem B71 {R:GE} {d:Nat} (h:EX R cx lo d):∀ (t pre:List Tree) (c:Cd) (m:Nat),pre.length+t.length≤400000→t.length < m→Aj0 t→gws t→szs t≤d→c.length+4 * szs t≤mx →
  Ah3.l0 m R cx.cs cx.gl lo (pre++t) (pre.length:Int) c=some (c++Ahg (Aby cx lo d 1) c.length t)
 | [],pre,c,m,hl,hm,hE,hg,hd,hb=>by
  obtain ⟨m,rfl⟩:∃ m',m=m'+1:=⟨m - 1,by omega⟩
  simp only [Ah3.l0]
  rw [ltF (by simp)]
  simp [Ahg]
 | x :: t,pre,c,m,hl,hm,hE,hg,hd,hb=>by
  obtain ⟨m,rfl⟩:∃ m',m=m'+1:=⟨m - 1,by omega⟩
  simp only [Aa4] at hl hm
  simp only [szs] at hd hb
  simp only [Ah3.l0]
  rw [ltT (by simp;omega),Ah5]
  simp only [cond_true,Aai]
  have hx:=hE x (Af5 ..)
  have e0:=Al7 (cx:=cx) (lo:=lo) d 1 c.length x hx
  rw [h c x hx hg.1 (by omega) (by omega),Aai,wiC _ (by omega) (by omega)]
  have ih:=B71 h t (pre++[x]) (c++Aby cx lo d 1 c.length x) m (by simp;omega) (by omega) (fun y hy=>hE y (Ahb _ hy)) hg.2 (by omega) (by rw [Abj];omega)
  rw [show (pre++[x])++t=pre++x :: t by simp,show ((pre++[x]).length:Int)=(pre.length:Int)+1 by simp] at ih
  refine ih.trans ?_
  simp only [Ahg,Aep,Abj]
theorem Bsb {k d:Nat} (hk:500000≤k) (h:EX (GE.at k) cx lo d):EA (GE.at (k+1)) cx lo d:=fun c l hE hg hd hb=>by
 have:=Akl l
 unfold mx at hb
 exact B71 h l [] c k (by simp only [Acg];omega) (by omega) hE hg hd hb
theorem A9z {α:Type} (l:List α):l=[]∨∃ m x,l=m++[x]:=by
 rcases List.eq_nil_or_concat l with h | ⟨m,x,h⟩
 ·exact .inl h
 ·exact .inr ⟨m,x,by simpa using h⟩
theorem A6r {l m:List Tree}:gws (l++m) ↔ gws l∧gws m:=by
 simp only [Ba6,Agb]
 exact ⟨fun h=>⟨fun x hx=>h x (.inl hx),fun x hx=>h x (.inr hx)⟩,fun h x hx=>hx.elim (h.1 x) (h.2 x)⟩
theorem Cr7 {l m:List Tree}:Aj0 (l++m) ↔ Aj0 l∧Aj0 m:=by
 simp only [Aj0,Agb]
 exact ⟨fun h=>⟨fun x hx=>h x (.inl hx),fun x hx=>h x (.inr hx)⟩,fun h x hx=>hx.elim (h.1 x) (h.2 x)⟩
theorem Cgb {α:Type} (m:List α) (x:α) (h:m.length≤400000):IntKind.i64.wrap ((((m++[x]).length:Nat):Int) - 1)=(m.length:Int):=by
 rw [Abj,Aa4,Acg,wiC _ (by omega) (by omega)]
 omega
theorem Cih {k d:Nat} (h:EA (GE.at k) cx lo d) (h':CL (GE.at k) cx lo d):OP (GE.at (k+1)) cx lo d:=fun c l hE hg hd hb=>by
 show Amb.g (GE.at k) k cx.cs c cx.gl lo l=_
 have hn:=Akl l
 unfold mx at hb
 unfold Amb.g
 rcases A9z l with rfl | ⟨m,x,rfl⟩
 ·rw [wiC _ (by simp) (by simp),decide_eq_false (by simp),cond_false,Aai,cond_false,h c [] le_nil hg hd hb]
  rfl
 ·rw [Abj,Aa4,Acg] at hn
  obtain ⟨h1,h2⟩:=Cr7.1 hE
  obtain ⟨g1,g2⟩:=A6r.1 hg
  have hx:=h2 x (Af5 ..)
  have hx2:=g2.1
  simp only [Ah6,szs] at hd hb hn
  rw [Cgb m x (by omega),decide_eq_true (by omega),cond_true,Ah5,Aai,Aai]
  have e0:=Axx (f:=Aby cx lo d 1) (l:=m) (p:=c.length) fun p y hy=>Al7 d 1 p y (h1 y hy)
  by_cases hk8:x.kind=8
  ·rw [eqC hk8,cond_true,Ao5 0 m.length (show (0:Int)=((0:Nat):Int) from rfl) rfl (by omega) (by simp),Aai,show ((m++[x]).drop 0).take (m.length - 0)=m by simp,h c m h1 g1 (by omega) (by unfold mx;omega),Aai,Aai]
   rw [h' (-1) _ x hx hk8 hx2 (by omega) (by unfold mx;rw [Abj];omega),Aai,Bn1,Aep,Abj]
  ·rw [neC hk8,cond_false,h c _ hE hg (by rw [Ah6];simp only [szs];omega) (by rw [Ah6];simp only [szs];unfold mx;omega),Aai,Bn1,B70,Csv (r:=-1) hk8]
theorem C28 {t:Tree} (h:IsE t) (hk:t.kind=8):∃ tx n a x l,t=.mk 8 tx n a (x :: l)∧IsE x∧Aj0 l:=by
 cases h with
 | call h1 h2=>exact ⟨_,_,_,_,_,rfl,h1,h2⟩
 | _=>simp only [Tree.kind] at hk;omega
theorem Cqc {k d:Nat} (h:EX (GE.at k) cx lo d) (h':OP (GE.at k) cx lo d):CL (GE.at (k+1)) cx lo (d+1):=fun res c t hE hk8 hg hd hb=>by
 obtain ⟨tx,n,a,x,l,rfl,hx,hl⟩:=C28 hE hk8
 show Ako.g (GE.at k) k cx.cs c cx.gl lo 8 tx n a (x :: l) res=_
 simp only [sz,szs] at hd hb
 obtain ⟨_,g1,g2⟩:=hg
 have e0:=Al7 (cx:=cx) (lo:=lo) d 1 c.length x hx
 have e1:=A8v (f:=Aby cx lo d) (l:=l) (p:=c.length+(Aby cx lo d 1 c.length x).length+1) fun r p y hy=>Al7 d r p y (hl y hy)
 have hn:=Akl l
 unfold mx at hb
 unfold Ako.g
 rw [show Ack (x :: l) (0:Int)=some x from rfl,Aai,h c x hx g1 (by omega) (by unfold mx;omega),Aai,add0 _ _ _ (by unfold mx;rw [Abj];omega),Aai]
 rw [Ao5 1 (l.length+1) (show (1:Int)=((1:Nat):Int) from rfl) (by simp) (by omega) (by simp),Aai,show ((x :: l).drop 1).take (l.length+1 - 1)=l by simp]
 rw [h' _ l hl g2 (by omega) (by unfold mx;rw [At4];omega),Aai,At4,add1 _ _ _ _ (by unfold mx;rw [Abj,At4];omega),Aai,Bsl]
 simp only [Ber,show Adu (x :: l) 0=x from rfl,List.drop_succ_cons,List.drop_zero,Aep,List.cons_append,List.nil_append]
theorem ix0 (x:Tree) (l:List Tree):Ack (x :: l) (0:Int)=some x:=rfl
theorem ix1 (x y:Tree) (l:List Tree):Ack (x :: y :: l) (1:Int)=some y:=rfl
theorem Cpv {k d:Nat} (hk:500000≤k) (h:EX (GE.at k) cx lo d):BI (GE.at (k+1)) cx lo d:=fun c t n a x y hx hy gx gy hd hb=>by
 show Aqs.g (GE.at k) k cx.cs c cx.gl lo 11 t n a [x,y]=_
 have e0:=Al7 (cx:=cx) (lo:=lo) d 1 c.length x hx
 have e1:=Al7 (cx:=cx) (lo:=lo) d 1 (c.length+(Aby cx lo d 1 c.length x).length) y hy
 have e2:=Al7 (cx:=cx) (lo:=lo) d 1 (c.length+(Aby cx lo d 1 c.length x).length+1) y hy
 unfold mx at hb
 unfold Aqs.g Bep orB
 rw [ix0,Aai,h c x hx gx (by omega) (by unfold mx;omega),Aai,Bwm k _ t (by decide) (by show 13 < k;omega),Aai]
 show cond (decide (ixS t opL > 0)) _ _=_
 by_cases hp:ixS t opL > 0
 ·rw [decide_eq_true hp,if_pos hp,cond_true,ix1,Aai,h _ y hy gy (by omega) (by unfold mx;rw [Abj];omega),Aai,Abj]
  rw [add1 _ _ _ _ (by unfold mx;simp only [Abj];omega),Aai]
  show some ((c++_++_)++[i1 17 (ixS t opL)])=_
  simp only [Aep]
 ·rw [decide_eq_false hp,if_neg hp,cond_false]
  unfold Adj
  have key:∀ o:Int,((Adi.f k (c++Aby cx lo d 1 c.length x) o []).bind fun r41=>(Ack [x,y] (1:Int)).bind fun x46=>((GE.at k).Ag4 cx.cs r41.2 cx.gl lo x46.kind x46.text x46.n x46.at_ x46.kids).bind fun r55=>(Akp.f k r55).bind fun r60=>(Ack r55 r41.1).bind fun x61=>(Akq r55 r41.1 (x61.1,r60,x61.2.2.1,x61.2.2.2)).bind fun l68=>some l68) =
    some (c++(Aby cx lo d 1 c.length x++i1 o ((c.length+(Aby cx lo d 1 c.length x).length+1+(Aby cx lo d 1 (c.length+(Aby cx lo d 1 c.length x).length+1) y).length:Nat):Int) :: Aby cx lo d 1 (c.length+(Aby cx lo d 1 c.length x).length+1) y)):=fun o=>by
   rw [add0 _ _ _ (by unfold mx;rw [Abj];omega),Aai,ix1,Aai,h _ y hy gy (by omega) (by unfold mx;rw [At4];omega),Aai,At4]
   unfold Akp.f
   rw [Aai,show ∀ (A B:Cd) (z:Ins),A++[z]++B=A++z :: B by simp,Ah5,Aai,Aug,Aai,Aep]
   simp only [i0,i1,Abj,Aa4,Nat.add_assoc,Nat.add_comm 1]
  cases t.toList == (⟨#[111,114]⟩:ByteArray).toList with
  | true=>exact key 21
  | false=>exact key 20
theorem Bbo {k n a:Int} {t:ByteArray} {l:List Tree}:(Tree.mk k t n a l).kind=k:=rfl
theorem Bbn {k n a:Int} {t:ByteArray} {l:List Tree}:(Tree.mk k t n a l).kids=l:=rfl
theorem B1z (k:Nat) (w key:Int) (c:Cd) (hw0:0≤w) (hw:w≤50) (hk0:0≤key) (hk:key≤1000000000) (hc:c.length≤mx) :
  Awi.f k w c key=some (if w > 0 then 0 else w,c++Atp w key,if w > 0 then key+w else key):=by
 unfold Awi.f Atp
 by_cases h:w > 0
 ·rw [decide_eq_true h,cond_true,Bq6 _ _ _ _ _ hc,Aai,wiC _ (by omega) (by omega),if_pos h,if_pos h,if_pos h]
 ·rw [decide_eq_false h,cond_false,if_neg h,if_neg h,if_neg h,List.append_nil]
theorem Clj {R:GE} {d:Nat} (hE:EX R cx lo d) (hA:EA R cx lo d) (hC:CL R cx lo d) (rest:Bool) (J:Int→Int→Int→Int→Cd→Option Cd) (fin:Int→Int→Cd→Option Cd)
  (hJ:∀ it fd key w c,0≤w→w≤50→0≤key→key≤1000000000→c.length≤mx→J it fd key w c=fin it fd (c++Atp w key)) :
  ∀ (t pre:List Tree) (m it fd:Nat) (key w:Int) (c:Cd),pre.length+t.length≤400000→t.length < m→it+t.length≤1000000→fd+t.length≤1000000→0≤w→w < 50→0≤key→key+100 * (t.length+1)≤1000000000 →
  (∀ x ∈ t,IsF x)→gws t→szs t≤d→c.length+4 * szs t+1≤mx→(rest=true→t=[]∨Aue t=true) →
  Amc.l0 m R cx.cs cx.gl lo (pre++t) rest J (it:Int) (fd:Int) (pre.length:Int) key w c=fin ((it+itN rest t:Nat):Int) ((fd+fdN t:Nat):Int) (c++Ara (Aby cx lo d) rest c.length w key t)
 | [],pre,m,it,fd,key,w,c,hl,hm,hi,hf,hw0,hw,hk0,hk,hF,hg,hd,hb,hr=>by
  obtain ⟨m,rfl⟩:∃ m',m=m'+1:=⟨m - 1,by omega⟩
  simp only [Amc.l0]
  rw [ltF (by simp),cond_false,hJ _ _ _ _ _ hw0 (by omega) hk0 (by omega) (by omega)]
  rfl
 | x :: t,pre,m,it,fd,key,w,c,hl,hm,hi,hf,hw0,hw,hk0,hk,hF,hg,hd,hb,hr=>by
  obtain ⟨m,rfl⟩:∃ m',m=m'+1:=⟨m - 1,by omega⟩
  simp only [Aa4] at hl hm hi hf hk
  simp only [szs] at hd hb
  have ih:=fun m it fd key w c h1 h2 h3 h4 h5 h6 h7 h8=>Clj hE hA hC rest J fin hJ t (pre++[x]) m it fd key w c (by simp;omega) h1 h2 h3 h4 h5 h6 h7 (fun y hy=>hF y (Ahb _ hy)) hg.2 (by omega) h8 (fun h=>by
   rcases hr h with h | h
   ·cases h
   ·cases t with
    | nil=>exact .inl rfl
    | cons y t=>exact .inr (by rw [← h];unfold Aue;rw [List.getLast?_cons_cons]))
  rw [show (pre++[x])++t=pre++x :: t by simp,show ((pre++[x]).length:Int)=(pre.length:Int)+1 by simp] at ih
  simp only [Amc.l0]
  rw [ltT (by simp;omega),cond_true]
  dsimp only [Adj]
  rw [Ah5,Aai,wiC ((pre.length:Int)+1) (by omega) (by omega)]
  have hFx:=hF x (Af5 ..)
  rcases Bgh hFx with ⟨tx,n,a,y,rfl,hy⟩ | ⟨tx,n,a,y,z,rfl,hy,hz⟩
  ·have hgy:gw y:=hg.1.2.1
   simp only [sz,szs] at hd hb
   simp only [Bbo,Bbn,itN,fdN,Ara,show Adu [y] 0=y from rfl,ix0,Aai,Int.reduceEq,if_false,Nat.zero_add]
   rw [show ((13:Int) == 14)=false from rfl,cond_false]
   have e1:∀ p,(Aby cx lo d 1 p y).length≤4 * sz y:=fun p=>Al7 d 1 p y hy
   have eL:((pre.length:Int) == IntKind.i64.wrap ((((pre++Tree.mk 13 tx n a [y] :: t).length:Nat):Int) - 1))=t.isEmpty:=by
    rw [Abj,Aa4,wiC _ (by omega) (by omega)]
    cases t with
    | nil=>simp only [Acg,List.isEmpty_nil];rw [beq_iff_eq];omega
    | cons u v=>simp only [Aa4,List.isEmpty_cons];rw [beq_eq_false_iff_ne];omega
   rw [eL]
   have eq:(cond rest (some t.isEmpty) (some false):Option Bool)=some (rest && t.isEmpty):=by cases rest <;> rfl
   rw [eq,Aai]
   by_cases hlast:(rest && t.isEmpty)=true
   ·rw [hlast,cond_true,if_pos rfl,if_pos rfl]
    obtain ⟨hre,hte⟩:rest=true∧t=[]:=by simpa using hlast
    subst hte
    have h8:y.kind=8:=by
     rcases hr hre with h | h
     ·cases h
     ·unfold Aue at h
      simpa [Tree.kids,Tree.kind,Adu] using h
    rw [B1z _ _ _ _ hw0 (by omega) hk0 (by omega) (by omega),Aai]
    have hs:=B12 w key
    rw [add0 _ _ _ (by rw [Abj];omega),Aai,hC (-1) _ y hy h8 hgy (by omega) (by rw [At4];omega),Aai,At4]
    have e2:=Al7 (cx:=cx) (lo:=lo) d (-1) (c.length+(Atp w key).length+1) y hy
    have ek:(if w > 0 then key+w else key)≤1000000000∧0≤(if w > 0 then key+w else key):=by split <;> omega
    rw [add1 _ _ _ _ (by rw [Abj,At4];omega),Aai]
    have ih:=ih m it fd (if w > 0 then key+w else key) (if w > 0 then 0 else w) (c++Atp w key++[i0 22]++Aby cx lo d (-1) (c.length+(Atp w key).length+1) y++[i1 29 (if w > 0 then key+w else key)]) (by simp only [Acg];omega) (by omega) (by omega) (by split <;> omega) (by split <;> omega) ek.2 (by simp only [Acg];split <;> omega) (by simp only [Abj,Aa4,Acg,szs];omega)
    refine ih.trans ?_
    have e3:(if w > 0 then 0 else w:Int)=0:=by split <;> omega
    simp only [itN,fdN,Ara,e3,Nat.add_zero]
    congr 1
    simp [Atp]
   ·rw [Bool.not_eq_true] at hlast
    rw [hlast,cond_false]
    simp only [Bool.false_eq_true,if_false]
    rw [hE c y hy hgy (by omega) (by omega),Aai,wiC (w+1) (by omega) (by omega),wiC ((it:Int)+1) (by omega) (by omega)]
    have e1c:=e1 c.length
    by_cases h50:w+1=50
    ·rw [eqC h50,cond_true,if_pos h50,h50,B1z _ _ _ _ (by omega) (by omega) hk0 (by omega) (by rw [Abj];omega),Aai]
     have ih:=ih m (it+1) fd (key+50) 0 (c++Aby cx lo d 1 c.length y++[i2 28 50 key]) (by omega) (by omega) (by omega) (by omega) (by omega) (by omega) (by omega) (by rw [At4];omega)
     refine ih.trans ?_
     rw [At4]
     simp only [Aep,List.cons_append,List.nil_append,Nat.add_assoc]
    ·rw [neC h50,cond_false,if_neg h50]
     have ih:=ih m (it+1) fd key (w+1) (c++Aby cx lo d 1 c.length y) (by omega) (by omega) (by omega) (by omega) (by omega) (by omega) (by omega) (by rw [Abj];omega)
     refine ih.trans ?_
     rw [Abj]
     simp only [Aep,Nat.add_assoc]
  ·have hgs:gws [y,z]:=hg.1.2
   have hes:Aj0 [y,z]:=fun u hu=>by
    rcases List.mem_cons.1 hu with rfl | hu
    ·exact hy
    ·obtain rfl:=Ag1.1 hu;exact hz
   simp only [sz] at hd hb
   have e1:=Axx (f:=Aby cx lo d 1) (l:=[y,z]) (p:=c.length) fun p u hu=>Al7 d 1 p u (hes u hu)
   simp only [Bbo,Bbn,itN,fdN,Ara,if_true]
   rw [show ((14:Int) == 14)=true from rfl,cond_true,hA c _ hes hgs (by omega) (by omega),Aai,add1 _ _ _ _ (by rw [Abj];omega),Aai,wiC ((fd:Int)+1) (by omega) (by omega)]
   have ih:=ih m it (fd+1) key w (c++Ahg (Aby cx lo d 1) c.length [y,z]++[i1 27 w]) (by omega) (by omega) (by omega) hw0 hw hk0 (by omega) (by rw [At4];omega)
   refine ih.trans ?_
   rw [At4,Nat.zero_add]
   simp only [Aep,List.cons_append,List.nil_append,Nat.add_assoc]
theorem Des {k d:Nat} (hk:500000≤k) (hE:EX (GE.at k) cx lo d) (hA:EA (GE.at k) cx lo d) (hC:CL (GE.at k) cx lo d):TA (GE.at (k+1)) cx lo d:=fun c l hF hg hd hb=>by
 show Amc.g (GE.at k) k cx.cs c cx.gl lo l=_
 have hn:=Akl l
 unfold mx at hb
 unfold Amc.g
 have hq:∀ f:Bool→Option Cd,((cond (decide (((l.length:Nat):Int) > 0)) ((Ack l (IntKind.i64.wrap (((l.length:Nat):Int) - 1))).bind fun A3f=>cond (A3f.kind == (13:Int)) ((Ack l (IntKind.i64.wrap (((l.length:Nat):Int) - 1))).bind fun x158=>(Ack x158.kids (0:Int)).bind fun A3h=>some (A3h.kind == (8:Int))) (some false)) (some false):Option Bool).bind f)=f (Aue l):=fun f=>by
  rcases A9z l with rfl | ⟨m,x,rfl⟩
  ·rfl
  ·rw [Abj,Aa4,Acg] at hn
   rw [Cgb m x (by omega),decide_eq_true (by simp),cond_true,Ah5,Aai]
   have hx:=hF x (by simp)
   unfold Aue
   rw [List.getLast?_append,List.getLast?_singleton]
   rcases Bgh hx with ⟨_,_,_,y,rfl,_⟩ | ⟨_,_,_,y,z,rfl,_,_⟩
   ·rfl
   ·rfl
 rw [hq,add0 _ _ _ (by unfold mx;omega),Aai]
 dsimp only [Adj]
 have hfin:=Clj hE hA hC (Aue l) (fun (x10:Int) (x11:Int) (x12:Int) (x13:Int) (l14:Cd)=>(Awi.f k x13 l14 x12).bind fun r20=>(Ack r20.2.1 (c.length:Int)).bind fun x25=>(Akq r20.2.1 (c.length:Int) (x25.1,x10,x25.2.2.1,x25.2.2.2)).bind fun l32=>(Ack l32 (c.length:Int)).bind fun x36=>(Akq l32 (c.length:Int) (x36.1,x36.2.1,x11,x36.2.2.2)).bind fun l43=>some l43)
  (fun x10 x11 b=>(Ack b (c.length:Int)).bind fun x25=>(Akq b (c.length:Int) (x25.1,x10,x25.2.2.1,x25.2.2.2)).bind fun l32=>(Ack l32 (c.length:Int)).bind fun x36=>(Akq l32 (c.length:Int) (x36.1,x36.2.1,x11,x36.2.2.2)).bind fun l43=>some l43)
  (fun it fd key w c h1 h2 h3 h4 h5=>by rw [B1z k w key c h1 h2 h3 h4 h5];rfl)
  l [] k 0 0 1 0 (c++[i0 26]) (by simp only [Acg];omega) (by omega) (by omega) (by omega) (by omega) (by omega) (by omega) (by omega) hF hg hd (by unfold mx;simp only [Abj,Aa4,Acg];omega) (fun h=>.inr h)
 refine hfin.trans ?_
 rw [Nat.zero_add,Nat.zero_add,show ∀ (z:Ins) (B:Cd),c++[z]++B=c++z :: B by simp,Ah5,Aai,Aug,Aai,Ah5,Aai,Aug,Abj]
 rfl
theorem Cs1 {k d:Nat} (hk:500000≤k) (hB:BdG cx lo) (hE:EX (GE.at k) cx lo d) (hA:EA (GE.at k) cx lo d) (hC:CL (GE.at k) cx lo (d+1)) (hI:BI (GE.at k) cx lo d) (hT:TA (GE.at k) cx lo d):EX (GE.at (k+1)) cx lo (d+1):=fun c t hIs hg hd hb=>by
 have Cu1:=hIs
 cases hIs with
 | atom h1 h2 =>
  rename_i kk n a t
  show Ag4.g (GE.at k) k cx.cs c cx.gl lo kk t n a []=_
  have hc:c.length≤mx:=by omega
  unfold Ag4.g
  obtain rfl | rfl | rfl | rfl | rfl | rfl:kk=1∨kk=2∨kk=3∨kk=4∨kk=5∨kk=6:=by omega
  ·show (Adi.f k c 3 []).bind _=_
   rw [add0 _ _ _ hc];rfl
  ·show (Adi.f k c 4 []).bind _=_
   rw [add0 _ _ _ hc];rfl
  ·show (Adi.f k c 5 []).bind _=_
   rw [add0 _ _ _ hc];rfl
  ·show (Ax2.f k cx.cs c 2 n _).bind _=_
   rw [B7m _ _ _ _ _ _ hB.cs hk hc];rfl
  ·show (Ax2.f k cx.cs c 3 0 t).bind _=_
   rw [B7m _ _ _ _ _ _ hB.cs hk hc];rfl
  ·simp only [Int.reduceBEq,cond_false,cond_true]
   rw [Bsh]
   unfold A3y.f Bnl
   rw [Aai]
   show cond (decide (Ar2 lo t > 0)) ((Adi.f k c 6 [Ar2 lo t]).bind _) _=_
   by_cases h:Ar2 lo t > 0
   ·rw [decide_eq_true h,if_pos h,cond_true,add1 _ _ _ _ hc];rfl
   ·rw [decide_eq_false h,if_neg h,cond_false,Bsz k _ _ hB.gl hk,Aai,add1 _ _ _ _ hc];rfl
 | index h1 h2 =>
  rename_i n a t x y
  show Ag4.g (GE.at k) k cx.cs c cx.gl lo 7 t n a [x,y]=_
  have hc:c.length≤mx:=by omega
  obtain ⟨_,gx,gy,_⟩:=hg
  have hsx:x.text.size≤30000:=by cases x;exact gx.1.1
  have hsy:y.text.size≤30000:=by cases y;exact gy.1.1
  unfold Ag4.g
  simp only [Int.reduceBEq,cond_false,cond_true]
  rw [ix0,Aai,Bsj]
  have hq:(cond (x.kind == (6:Int)) (cond (x.text.toList == (⟨#[116,97,98,108,101]⟩:ByteArray).toList) (some true) (some (x.text.toList == (⟨#[117,116,102,56]⟩:ByteArray).toList))) (some false):Option Bool)=some (x.kind == 6 && Ary x.text):=by
   unfold Ary
   cases x.kind == 6 with
   | false=>rfl
   | true=>cases x.text.toList == Brk.toList <;> rfl
  rw [hq,Aai,show Adu [x,y] 0=x from rfl,show Adu [x,y] 1=y from rfl]
  by_cases h:x.kind=6∧Ary x.text=true
  ·rw [if_pos h,h.2,eqC h.1]
   show (A2v x.text Ati).bind _=_
   rw [Bk8 (by show x.text.size+1≤_;omega),Aai,ix1,Aai,Bk8 (by rw [ByteArray.size_append];show x.text.size+1+_≤_;omega),Aai,Cgo k (by omega),Aai,add1 _ _ _ _ hc]
   rfl
  ·have:(x.kind == 6 && Ary x.text)=false:=by
    rw [Bool.eq_false_iff];intro h';exact h (by simpa using h')
   rw [if_neg h,this,cond_false]
   have hes:Aj0 [x,y]:=fun u hu=>by
    rcases List.mem_cons.1 hu with rfl | hu
    ·exact h1
    ·obtain rfl:=Ag1.1 hu;exact h2
   simp only [sz] at hd hb
   have e1:=Axx (f:=Aby cx lo d 1) (l:=[x,y]) (p:=c.length) fun p u hu=>Al7 d 1 p u (hes u hu)
   rw [hA c [x,y] hes ⟨gx,gy,trivial⟩ (by omega) (by omega),Aai,add0 _ _ _ (by rw [Abj];omega),Aai,Aep]
 | call h1 h2 =>
  rename_i n a t x l
  show Ag4.g (GE.at k) k cx.cs c cx.gl lo 8 t n a (x :: l)=_
  unfold Ag4.g
  show ((GE.at k).Ako cx.cs c cx.gl lo 8 t n a (x :: l) 1).bind _=_
  rw [show (GE.at k).Ako cx.cs c cx.gl lo 8 t n a (x :: l) 1=_ from hC 1 c _ Cu1 rfl hg hd hb]
  rfl
 | paren h1 =>
  rename_i n a t x
  simp only [sz,szs] at hd hb
  show Ag4.g (GE.at k) k cx.cs c cx.gl lo 9 t n a [x]=_
  unfold Ag4.g
  simp only [Int.reduceBEq,cond_false,cond_true]
  rw [ix0,Aai,hE c x h1 hg.2.1 (by omega) (by omega)]
  rfl
 | unary h1 =>
  rename_i n a t x
  simp only [sz,szs] at hd hb
  have e0:=Al7 (cx:=cx) (lo:=lo) d 1 c.length x h1
  show Ag4.g (GE.at k) k cx.cs c cx.gl lo 10 t n a [x]=_
  unfold Ag4.g
  simp only [Int.reduceBEq,cond_false,cond_true]
  rw [ix0,Aai,hE c x h1 hg.2.1 (by omega) (by omega),Aai,Bwm k _ t (by decide) (by show 4 < k;omega),Aai,add1 _ _ _ _ (by rw [Abj];omega),Aai,Bse,Aep]
  rfl
 | binary h1 h2 =>
  rename_i n a t x y
  simp only [sz,szs] at hd hb
  show Ag4.g (GE.at k) k cx.cs c cx.gl lo 11 t n a [x,y]=_
  unfold Ag4.g
  show ((GE.at k).Aqs cx.cs c cx.gl lo 11 t n a [x,y]).bind _=_
  rw [hI c t n a x y h1 h2 hg.2.1 hg.2.2.1 (by omega) (by omega)]
  rfl
 | table h1 =>
  rename_i n a t l
  simp only [sz,szs] at hd hb
  show Ag4.g (GE.at k) k cx.cs c cx.gl lo 12 t n a l=_
  unfold Ag4.g
  show ((GE.at k).Amc cx.cs c cx.gl lo l).bind _=_
  rw [hT c l h1 hg.2 (by omega) (by omega)]
  rfl
theorem A6k (hB:BdG cx lo):∀ (d k:Nat),500004+4 * d≤k→EX (GE.at k) cx lo d∧CL (GE.at (k - 1)) cx lo d
 | 0,k,_=>⟨fun _ t _ _ h=>by have:=Asu t;omega,fun _ _ t _ _ _ h=>by have:=Asu t;omega⟩
 | d+1,k,hk=>by
  have ihE:∀ j,500004+4 * d≤j→EX (GE.at j) cx lo d:=fun j hj=>(A6k hB d j hj).1
  have ihC:∀ j,500003+4 * d≤j→CL (GE.at j) cx lo d:=fun j hj=>(A6k hB d (j+1) (by omega)).2
  obtain ⟨j,rfl⟩:∃ j,k=j+4:=⟨k - 4,by omega⟩
  have hA:∀ i,500005+4 * d≤i→EA (GE.at i) cx lo d:=fun i hi=>by
   obtain ⟨i,rfl⟩:∃ m,i=m+1:=⟨i - 1,by omega⟩
   exact Bsb (by omega) (ihE i (by omega))
  have hC:CL (GE.at (j+3)) cx lo (d+1):=Cqc (ihE _ (by omega)) (Cih (hA _ (by omega)) (ihC _ (by omega)))
  exact ⟨Cs1 (by omega) hB (ihE _ (by omega)) (hA _ (by omega)) hC (Cpv (by omega) (ihE _ (by omega))) (Des (by omega) (ihE _ (by omega)) (hA _ (by omega)) (ihC _ (by omega))),hC⟩
end
abbrev Hx:=List (Option Ins)
def Aec (e:Int) (X:Hx):Cd:=X.map fun o=>o.getD (18,e,0,0)
def Ahn (c:Cd):Hx:=c.map some
def holes:Nat→Hx→List Int
 | _,[]=>[]
 | p,none :: X=>(p:Int) :: holes (p+1) X
 | p,some _ :: X=>holes (p+1) X
theorem A3x {e:Int} {X Y:Hx}:Aec e (X++Y)=Aec e X++Aec e Y:=List.map_append ..
theorem Am2 {e:Int} {X:Hx}:(Aec e X).length=X.length:=List.length_map ..
theorem A6o {e:Int}:∀ {c:Cd},Aec e (Ahn c)=c
 | []=>rfl
 | x :: c=>congrArg (x :: ·) (A6o (c:=c))
theorem Apo {c:Cd}:(Ahn c).length=c.length:=List.length_map ..
theorem Arx:∀ {X Y:Hx} {p:Nat},holes p (X++Y)=holes p X++holes (p+X.length) Y
 | [],Y,p=>rfl
 | none :: X,Y,p=>by
  show (p:Int) :: holes (p+1) (X++Y)=_
  rw [Arx (X:=X),Aa4,Nat.add_assoc,Nat.add_comm 1];rfl
 | some _ :: X,Y,p=>by
  show holes (p+1) (X++Y)=_
  rw [Arx (X:=X),Aa4,Nat.add_assoc,Nat.add_comm 1];rfl
theorem Atk:∀ {c:Cd} {p:Nat},holes p (Ahn c)=[]
 | [],_=>rfl
 | x :: c,p=>Atk (c:=c) (p:=p+1)
theorem Bcb {β:Type} (g:Nat→List Int→Int→Cd→Option β) (J:Cd→Option β)
  (hg:∀ m hs x c,g (m+1) hs x c=cond (decide (x < ((hs.length:Nat):Int))) ((Ack hs x).bind fun i=>(Akp.f m c).bind fun r=>(Ack c i).bind fun z=>(Akq c i (z.1,r,z.2.2.1,z.2.2.2)).bind fun l=>g m hs (IntKind.i64.wrap (x+1)) l) (J c)) (e:Nat) (T:Cd) :
  ∀ (X:Hx) (pre:List Int) (A:Cd) (m:Nat),pre.length+X.length≤2000000→X.length < m→e=A.length+X.length+T.length →
   g m (pre++holes A.length X) (pre.length:Int) (A++Aec 0 X++T)=J (A++Aec (e:Int) X++T)
 | [],pre,A,m,hl,hm,he=>by
  obtain ⟨m,rfl⟩:∃ m',m=m'+1:=⟨m - 1,by omega⟩
  rw [hg,ltF (by simp [holes]),cond_false]
  rfl
 | some i :: X,pre,A,m,hl,hm,he=>by
  rw [Aa4] at hl hm he
  have ih:=Bcb g J hg e T X pre (A++[i]) m (by omega) (by omega) (by rw [Abj];simp only [Aa4,Acg];omega)
  rw [Abj] at ih
  simp only [Aep,List.cons_append,List.nil_append] at ih
  simpa [Aec,holes] using ih
 | none :: X,pre,A,m,hl,hm,he=>by
  obtain ⟨m,rfl⟩:∃ m',m=m'+1:=⟨m - 1,by omega⟩
  rw [Aa4] at hl hm he
  rw [hg]
  show cond (decide ((pre.length:Int) < (((pre++(A.length:Int) :: holes (A.length+1) X).length:Nat):Int))) ((Ack (pre++(A.length:Int) :: holes (A.length+1) X) (pre.length:Int)).bind fun i=>_) _=_
  rw [ltT (by simp;omega),cond_true,Ah5,Aai]
  unfold Akp.f
  rw [Aai,show A++Aec 0 (none :: X)++T=A++(18,0,0,0) :: (Aec 0 X++T) by simp [Aec],Ah5,Aai,Aug,Aai,wiC _ (by omega) (by omega)]
  have ih:=Bcb g J hg e T X (pre++[(A.length:Int)]) (A++[(18,(e:Int),0,0)]) m (by simp;omega) (by omega) (by rw [Abj];simp only [Aa4,Acg];omega)
  have eA:(A++[((18:Int),(e:Int),(0:Int),(0:Int))]).length=A.length+1:=by simp
  rw [eA,show (pre++[(A.length:Int)])++holes (A.length+1) X=pre++(A.length:Int) :: holes (A.length+1) X by simp,show ((pre++[(A.length:Int)]).length:Int)=(pre.length:Int)+1 by simp] at ih
  rw [show ((A++(18,0,0,0) :: (Aec 0 X++T)).length:Int)=(e:Int) by simp only [Abj,Aa4,Am2];omega]
  have e1:∀ Z:Cd,A++[(18,(e:Int),0,0)]++Z++T=A++(18,(e:Int),0,0) :: (Z++T):=fun Z=>by simp
  rw [e1,e1] at ih
  refine ih.trans ?_
  rw [show A++Aec (e:Int) (none :: X)++T=A++(18,(e:Int),0,0) :: (Aec e X++T) by simp [Aec]]
def Ao6 (bs:List (List Int)) (h:List Int):List (List Int):=match bs.getLast? with | none=>bs | some b=>bs.dropLast++[b++h]
theorem Azj {m:List (List Int)} {b h:List Int}:Ao6 (m++[b]) h=m++[b++h]:=by simp [Ao6]
theorem Bk0 {bs:List (List Int)}:Ao6 bs []=bs:=by
 rcases A9z bs with rfl | ⟨m,x,rfl⟩
 ·rfl
 ·rw [Azj,List.append_nil]
theorem Brz {bs:List (List Int)} {h h':List Int}:Ao6 (Ao6 bs h) h'=Ao6 bs (h++h'):=by
 rcases A9z bs with rfl | ⟨m,x,rfl⟩
 ·rfl
 ·rw [Azj,Azj,Azj,Aep]
theorem Cp6 {bs:List (List Int)} {h:List Int} (hb:bs≠[]):Ao6 bs h≠[]:=by
 rcases A9z bs with rfl | ⟨m,x,rfl⟩
 ·exact absurd rfl hb
 ·rw [Azj];simp
def Bhe:Nat→Bs→Int→Int→Int
 | 0,_,_,x=>x
 | f+1,l,r,x=>if l=[] then x else if r≤0 then x else Bhe f (l.drop (Afw l).2) (r - (Afw l).2) (if (Afw l).1=10 then x+1 else x)
def Apb (src:ByteArray) (at_:Int):Int:=if at_ < 0∨at_ > (src.size:Int) then 0 else Bhe (src.size+1) (bs src) at_ 1
theorem B0b (src:ByteArray) (hs:src.size≤400000) (at_:Int) (J:Int→Int→Option (Int×Int×Int)):∀ (f p m:Nat) (x y:Int),src.size - p < f→src.size - p < m→0≤x→x≤p+1→0≤y→y≤p+1→p≤src.size →
  ∃ y',Atd.l0 m src at_ J x y p=J (Bhe f ((bs src).drop p) (at_ - p) x) y'
 | 0,p,m,x,y,hf,hm,_,_,_,_,_=>by omega
 | f+1,p,m,x,y,hf,hm,hx,hx1,hy,hy1,hp=>by
  obtain ⟨m,rfl⟩:∃ m',m=m'+1:=⟨m - 1,by omega⟩
  simp only [Atd.l0]
  by_cases hlt:p < src.size
  ·rw [decide_eq_true hlt,cond_true]
   have hne:(bs src).drop p≠[]:=fun h=>by
    have:=congrArg List.length h
    rw [Afe,Acg,Agx] at this
    omega
   unfold Bhe
   rw [if_neg hne]
   by_cases hge:((p:Nat):Int) ≥ at_
   ·rw [decide_eq_true hge,cond_true,if_pos (by omega)]
    exact ⟨y,rfl⟩
   ·rw [decide_eq_false hge,cond_false,if_neg (by omega)]
    have hw:=Awp ((bs src).drop p)
    have hle:=hw.2.2 hne
    rw [Afe,Agx] at hle
    have e1:rNx src p=p+(Afw ((bs src).drop p)).2:=by unfold rNx;rw [decode_eq]
    have e2:rAt src p=(((Afw ((bs src).drop p)).1:Nat):Int):=by unfold rAt;rw [decode_eq]
    rw [e1,e2,List.drop_drop,show at_ - (p:Int) - ((Afw ((bs src).drop p)).2:Nat)=at_ - ((p+(Afw ((bs src).drop p)).2:Nat):Int) by omega]
    by_cases h10:(Afw ((bs src).drop p)).1=10
    ·rw [if_pos h10,h10,wiC (x+1) (by omega) (by omega)]
     exact B0b src hs at_ J f _ m (x+1) 1 (by omega) (by omega) (by omega) (by omega) (by omega) (by omega) (by omega)
    ·rw [if_neg h10,neC (by omega:(((Afw ((bs src).drop p)).1:Nat):Int)≠10),cond_false,wiC (y+1) (by omega) (by omega)]
     exact B0b src hs at_ J f _ m x (y+1) (by omega) (by omega) (by omega) (by omega) (by omega) (by omega) (by omega)
  ·rw [decide_eq_false hlt,cond_false]
   have:(bs src).drop p=[]:=List.drop_of_length_le (by rw [Agx];omega)
   unfold Bhe
   rw [this,if_pos rfl]
   exact ⟨y,rfl⟩
theorem Ciy (k:Nat) (src:ByteArray) (at_:Int) (hs:src.size≤400000) (hk:500000≤k):∃ y z,Atd.f k src at_=some (Apb src at_,y,z):=by
 unfold Atd.f Apb Adj
 by_cases h0:at_ < 0
 ·rw [decide_eq_true h0,cond_true,if_pos (.inl h0)]
  exact ⟨_,_,rfl⟩
 ·rw [decide_eq_false h0,cond_false,Aai]
  by_cases h1:at_ > (src.size:Int)
  ·rw [decide_eq_true h1,cond_true,if_pos (.inr h1)]
   exact ⟨_,_,rfl⟩
  ·rw [decide_eq_false h1,cond_false,if_neg (by omega)]
   obtain ⟨y,hy⟩:=B0b src hs at_ (fun x3 x4=>some (x3,x4,(0:Int))) (src.size+1) 0 k 1 1 (by omega) (by omega) (by omega) (by omega) (by omega) (by omega) (by omega)
   rw [List.drop_zero,show at_ - ((0:Nat):Int)=at_ by omega] at hy
   exact ⟨y,0,hy⟩
section
variable (cx:GCx)
def Apr (f:Int→Nat→Tree→Cd) (p:Nat) (l:List Tree) (n:Nat):Cd :=
 if l.length=n then Ahg (f 1) p l else if l=[] then List.replicate n (i0 3) else i0 22 :: (Apl f (p+1) l++[i1 23 (n:Int)])
def A4t (there:Nat):Nat→Cd
 | 0=>[]
 | i+1=>i1 7 ((there+(i+1):Nat):Int) :: A4t there i
def Ath (f:Nat→List Tree→Cd):Nat→List Tree→Cd
 | _,[]=>[]
 | p,x :: l=>if x.kind=7 then f p x.kids++Ath f (p+(f p x.kids).length) l else Ath f p l
def Asw:List Tree→Nat
 | []=>0
 | x :: l=>if x.kind=7 then 2+Asw l else Asw l
def Bx6 (lo:List ByteArray) (t:ByteArray):Ins:=if Ar2 lo t > 0 then i1 7 (Ar2 lo t) else i1 9 (glN cx.gl t)
def Az0 (lo:List ByteArray) (n:Nat):List Tree→Cd
 | []=>[]
 | x :: l=>if x.kind=7 then i2 13 ((n+Asw l:Nat):Int) (l.length:Nat) :: Az0 lo n l else i1 14 (l.length:Nat) :: Bx6 cx lo x.text :: Az0 lo n l
def A5y (lo:List ByteArray) (f:Int→Nat→Tree→Cd) (p:Nat) (l m:List Tree):Cd :=
 Ath (Ahg (f 1)) p l++(Apr f (p+(Ath (Ahg (f 1)) p l).length) m l.length++(Az0 cx lo l.length l++[i1 15 ((l.length+Asw l:Nat):Int)]))
def Bid (f:Int→Nat→Tree→Cd) (p:Nat) (l:List Tree):Cd:=i0 22 :: (Apl f (p+1) l++[i0 25])
abbrev SG:=List ByteArray→Nat→Tree→Hx×List ByteArray
def Apd (f:SG):List ByteArray→Nat→List Tree→Hx
 | _,_,[]=>[]
 | lo,p,x :: l=>some (i1 1 (Apb cx.src x.at_)) :: ((f lo (p+1) x).1++Apd f (f lo (p+1) x).2 (p+1+(f lo (p+1) x).1.length) l)
def Atm (X:Hx) (back:Ins) (p:Nat):Cd:=Aec ((p+X.length+1:Nat):Int) X++[back]
def brX (e:Nat→Tree→Cd) (b:Nat→Tree→Hx):Nat→List Tree→List (Option (Option Ins))
 | _,[]=>[]
 | p,[x]=>(b p x).map some
 | p,x :: y :: l =>
  let E:=e p x
  let B:=b (p+E.length+1) y
  let m:Nat:=if l.isEmpty then 0 else 1
  E.map (fun i=>some (some i))++some (some (i1 19 ((p+E.length+1+B.length+m:Nat):Int))) :: (B.map some++(if l.isEmpty then [] else [none])++brX e b (p+E.length+1+B.length+m) l)
def ifH (e:Nat→Tree→Cd) (b:Nat→Tree→Hx) (p:Nat) (l:List Tree):Hx:=(brX e b p l).map fun o=>o.getD (some (i1 18 ((p+(brX e b p l).length:Nat):Int)))
def Apz (lo:List ByteArray) (l:List Tree):List ByteArray:=lo++List.replicate 3 ⟨#[]⟩++l.map (·.text)
def Ad8:Nat→SG
 | 0,lo,_,_=>([],lo)
 | d+1,lo,p,.mk k t n a l =>
  let f:=Aby cx lo d
  let B:=fun lo p (x:Tree)=>Apd cx (Ad8 d) lo p x.kids
  if k=21 then (Ahn (Apr f p (l.drop n.toNat) n.toNat++A4t lo.length n.toNat),lo++(l.take n.toNat).map (·.text))
  else if k=22 then (Ahn (A5y cx lo f p (l.take n.toNat) (l.drop n.toNat)),lo)
  else if k=23 then (Ahn (f 0 p (Adu l 0)),lo)
  else if k=24 then (ifH (f 1) (B lo) p l,lo)
  else if k=25 then
   let E:=f 1 p (Adu l 0)
   let L:=Atm (B lo (p+E.length+2) (Adu l 1)) (i1 18 p) (p+E.length+2)
   (Ahn (E++i1 19 ((p+E.length+2+L.length:Nat):Int) :: i0 34 :: L),lo)
  else if k=26 then
   let m:=l.length - 2
   let E:=Ahg (f 1) p ((l.drop 1).take m)
   let L:=Atm (B (Apz lo (l.take 1)) (p+E.length+1) (Adu l (m+1))) (i2 31 ((lo.length+1:Nat):Int) ((p+E.length+1:Nat):Int)) (p+E.length+1)
   (Ahn (E++i3 30 ((lo.length+1:Nat):Int) ((p+E.length+1+L.length:Nat):Int) ((m:Nat) - 2:Int) :: L),lo)
  else if k=27 then
   let s:Int:=((lo.length+1:Nat):Int)
   let E:=Apr f p ((l.drop n.toNat).take (l.length - 1 - n.toNat)) 3
   let q:=p+E.length
   let L:=Atm (B (Apz lo (l.take n.toNat)) (q+7) (Adu l (l.length - 1))) (i1 18 ((q+1:Nat):Int)) (q+7)
   (Ahn (E++i1 32 s :: i1 6 s :: i0 22 :: i1 6 (s+1) :: i1 6 (s+2) :: i1 24 n :: i3 33 s ((q+7+L.length:Nat):Int) n :: L),lo)
  else if k=28 then (B lo p (Adu l 0),lo)
  else if k=29 then ([none],lo)
  else if k=30 then (Ahn (Bid f p l),lo)
  else ([],lo)
end
section
variable {cx:GCx}
abbrev Agc (cx:GCx) (d:Nat) (lo:List ByteArray) (p:Nat) (x:Tree):Hx:=Apd cx (Ad8 cx d) lo p x.kids
def Bpq (E:Cd) (X:Hx) (p:Nat):Cd:=E++i1 19 ((p+E.length+2+(X.length+1):Nat):Int) :: i0 34 :: Atm X (i1 18 p) (p+E.length+2)
def Blo (E:Cd) (X:Hx) (s m:Nat) (p:Nat):Cd :=
 E++i3 30 (s:Int) ((p+E.length+1+(X.length+1):Nat):Int) ((m:Int) - 2) :: Atm X (i2 31 (s:Int) ((p+E.length+1:Nat):Int)) (p+E.length+1)
def inG (E:Cd) (X:Hx) (s:Nat) (n:Int) (p:Nat):Cd :=
 E++i1 32 (s:Int) :: i1 6 (s:Int) :: i0 22 :: i1 6 ((s:Int)+1) :: i1 6 ((s:Int)+2) :: i1 24 n :: i3 33 (s:Int) ((p+E.length+7+(X.length+1):Nat):Int) n :: Atm X (i1 18 ((p+E.length+1:Nat):Int)) (p+E.length+7)
theorem Awy {X:Hx} {i:Ins} {p:Nat}:(Atm X i p).length=X.length+1:=by simp [Atm,Am2]
variable {d:Nat} {lo:List ByteArray} {p:Nat} {n a:Int} {t:ByteArray}
theorem Biy {l m:List Tree}:Ad8 cx (d+1) lo p (.mk 21 t (l.length:Nat) a (l++m))=(Ahn (Apr (Aby cx lo d) p m l.length++A4t lo.length l.length),lo++l.map (·.text)):=by
 simp only [Ad8,if_true,Int.toNat_natCast,List.drop_left,List.take_left]
theorem Biq {l m:List Tree}:Ad8 cx (d+1) lo p (.mk 22 t (l.length:Nat) a (l++m))=(Ahn (A5y cx lo (Aby cx lo d) p l m),lo):=by
 simp only [Ad8,Int.reduceEq,if_false,if_true,Int.toNat_natCast,List.drop_left,List.take_left]
theorem Bi3 {x:Tree}:Ad8 cx (d+1) lo p (.mk 23 t n a [x])=(Ahn (Aby cx lo d 0 p x),lo):=by
 simp only [Ad8,Int.reduceEq,if_false,if_true];rfl
theorem Bcn {l:List Tree}:Ad8 cx (d+1) lo p (.mk 24 t n a l)=(ifH (Aby cx lo d 1) (Agc cx d lo) p l,lo):=by
 simp only [Ad8,Int.reduceEq,if_false,if_true]
theorem Bi4 {x b:Tree}:Ad8 cx (d+1) lo p (.mk 25 t n a [x,b])=(Ahn (Bpq (Aby cx lo d 1 p x) (Agc cx d lo (p+(Aby cx lo d 1 p x).length+2) b) p),lo):=by
 simp only [Ad8,Int.reduceEq,if_false,if_true,Awy];rfl
theorem Biv {x b:Tree} {l:List Tree}:Ad8 cx (d+1) lo p (.mk 26 t n a (x :: l++[b]))=(Ahn (Blo (Ahg (Aby cx lo d 1) p l) (Agc cx d (Apz lo [x]) (p+(Ahg (Aby cx lo d 1) p l).length+1) b) (lo.length+1) l.length p),lo):=by
 have e1:(x :: l++[b]).length - 2=l.length:=by simp
 have e2:((x :: l++[b]).drop 1).take l.length=l:=by simp
 have e3:Adu (x :: l++[b]) (l.length+1)=b:=by simp [Adu]
 have e4:(x :: l++[b]).take 1=[x]:=rfl
 simp only [Ad8,Int.reduceEq,if_false,if_true,e1,e2,e3,e4,Awy];rfl
theorem Biw {b:Tree} {l m:List Tree}:Ad8 cx (d+1) lo p (.mk 27 t (l.length:Nat) a (l++m++[b]))=(Ahn (inG (Apr (Aby cx lo d) p m 3) (Agc cx d (Apz lo l) (p+(Apr (Aby cx lo d) p m 3).length+7) b) (lo.length+1) (l.length:Nat) p),lo):=by
 have e1:(l++m++[b]).length - 1 - l.length=m.length:=by simp
 have e2:((l++m++[b]).drop l.length).take m.length=m:=by simp
 have e3:Adu (l++m++[b]) ((l++m++[b]).length - 1)=b:=by simp [Adu]
 have e4:(l++m++[b]).take l.length=l:=by simp
 simp only [Ad8,Int.reduceEq,if_false,if_true,Int.toNat_natCast,e1,e2,e3,e4,Awy];rfl
theorem Bck {b:Tree}:Ad8 cx (d+1) lo p (.mk 28 t n a [b])=(Agc cx d lo p b,lo):=by
 simp only [Ad8,Int.reduceEq,if_false,if_true];rfl
theorem Biu {l:List Tree}:Ad8 cx (d+1) lo p (.mk 29 t n a l)=([none],lo):=by
 simp only [Ad8,Int.reduceEq,if_false,if_true]
theorem Bi2 {l:List Tree}:Ad8 cx (d+1) lo p (.mk 30 t n a l)=(Ahn (Bid (Aby cx lo d) p l),lo):=by
 simp only [Ad8,Int.reduceEq,if_false,if_true]
theorem Bde {l:List Tree} {n:Nat} (h:Aj0 l):(Apr (Aby cx lo d) p l n).length≤4 * szs l+n+2:=by
 unfold Apr
 split
 ·have:=Axx (f:=Aby cx lo d 1) (l:=l) (p:=p) fun p y hy=>Al7 d 1 p y (h y hy)
  omega
 split
 ·rw [List.length_replicate];omega
 ·have:=A8v (f:=Aby cx lo d) (l:=l) (p:=p+1) fun r p y hy=>Al7 d r p y (h y hy)
  simp only [Aa4,Abj,Acg]
  omega
theorem Ckk {m:Nat}:∀ {i:Nat},(A4t m i).length=i
 | 0=>rfl
 | i+1=>by simp only [A4t,Aa4,Ckk (i:=i)]
theorem Ccn {t:Tree} (h:IsE t) (hk:t.kind=7):∃ tx n a x y,t=.mk 7 tx n a [x,y]∧IsE x∧IsE y:=by
 cases h with
 | index h1 h2=>exact ⟨_,_,_,_,_,rfl,h1,h2⟩
 | _=>simp only [Tree.kind] at hk;omega
theorem Ccp {t:Tree} (h:IsE t) (hk:t.kind=7):Aj0 t.kids∧szs t.kids+1=sz t:=by
 obtain ⟨tx,n,a,x,y,rfl,hx,hy⟩:=Ccn h hk
 refine ⟨fun u hu=>?_,by simp only [Tree.kids,sz]⟩
 rcases List.mem_cons.1 hu with rfl | hu
 ·exact hx
 ·obtain rfl:=Ag1.1 hu;exact hy
theorem B2a:∀ {l:List Tree} {p:Nat},Aj0 l→(Ath (Ahg (Aby cx lo d 1)) p l).length+4 * l.length≤4 * szs l
 | [],_,_=>Nat.le_refl _
 | x :: l,p,h=>by
  have ih:=fun p=>B2a (l:=l) (p:=p) fun y hy=>h y (Ahb _ hy)
  unfold Ath
  split
  ·rename_i h7
   have hk:=Ccp (h x (Af5 ..)) h7
   have:=Axx (f:=Aby cx lo d 1) (l:=x.kids) (p:=p) fun p y hy=>Al7 d 1 p y (hk.1 y hy)
   have:=ih (p+(Ahg (Aby cx lo d 1) p x.kids).length)
   simp only [Abj,Aa4,szs]
   omega
  ·have:=ih p
   have:=Asu x
   simp only [Aa4,szs]
   omega
theorem B2b:∀ (l:List Tree),Asw l≤2 * l.length
 | []=>Nat.le_refl _
 | x :: l=>by
  have:=B2b l
  unfold Asw
  split <;> simp only [Aa4] <;> omega
theorem B0f {n:Nat}:∀ (l:List Tree),(Az0 cx lo n l).length≤2 * l.length
 | []=>Nat.le_refl _
 | x :: l=>by
  have:=B0f (n:=n) l
  unfold Az0
  split <;> simp only [Aa4] <;> omega
theorem Cos {l m:List Tree} (hl:Aj0 l) (hm:Aj0 m):(A5y cx lo (Aby cx lo d) p l m).length+l.length≤4 * szs l+4 * szs m+3:=by
 have h1:=B2a (cx:=cx) (lo:=lo) (d:=d) (p:=p) hl
 have h2:=Bde (cx:=cx) (lo:=lo) (d:=d) (p:=p+(Ath (Ahg (Aby cx lo d 1)) p l).length) (n:=l.length) hm
 have h3:=B0f (cx:=cx) (lo:=lo) (n:=l.length) l
 unfold A5y
 simp only [Abj,Aa4,Acg]
 omega
theorem Brq {f:SG}:∀ {l:List Tree} {lo:List ByteArray} {p:Nat},(∀ lo p x,x ∈ l→(f lo p x).1.length+1≤5 * sz x)→(Apd cx f lo p l).length≤5 * szs l
 | [],_,_,_=>Nat.zero_le _
 | x :: l,lo,p,h=>by
  have h1:=h lo (p+1) x (Af5 ..)
  have h2:=Brq (l:=l) (lo:=(f lo (p+1) x).2) (p:=p+1+(f lo (p+1) x).1.length) fun lo p y hy=>h lo p y (Ahb _ hy)
  simp only [Apd,Aa4,Abj,szs]
  omega
theorem B61 {e:Nat→Tree→Cd} {b:Nat→Tree→Hx} (he:∀ p x,IsE x→(e p x).length≤4 * sz x):∀ {l:List Tree} {p:Nat},IsR l→(∀ p x,x ∈ l→IsB x→(b p x).length+5≤5 * sz x)→(brX e b p l).length≤5 * szs l
 | _,_,.nil,_=>Nat.zero_le _
 | _,p,.last hb,h=>by
  have:=h p _ (Af5 ..) hb
  simp only [brX,List.length_map,szs]
  omega
 | _,p,.more (e:=x) (b:=y) (l:=l) hx hy hr,h=>by
  have ih:=fun p=>B61 (b:=b) he (p:=p) hr fun p z hz=>h p z (Ahb _ (Ahb _ hz))
  have h1:=he p x hx
  have h2:=h (p+(e p x).length+1) y (Ahb _ (Af5 ..)) hy
  have h3:=ih (p+(e p x).length+1+(b (p+(e p x).length+1) y).length+if l.isEmpty then 0 else 1)
  have h4:(if l.isEmpty then [] else [none]:List (Option (Option Ins))).length≤1:=by split <;> simp
  simp only [brX,Abj,Aa4,List.length_map,szs] at h3 ⊢
  omega
theorem Bgg {b:Tree} (h:IsB b):(∀ x ∈ b.kids,IsS x)∧sz b=szs b.kids+1∧b.kind=20:=by
 cases h with
 | block h=>exact ⟨h,by simp only [sz,Tree.kids],rfl⟩
theorem Bix:∀ (d:Nat) (lo:List ByteArray) (p:Nat) (t:Tree),IsS t→(Ad8 cx d lo p t).1.length+1≤5 * sz t
 | 0,_,_,t,_=>by have:=Asu t;show 0+1≤_;omega
 | d+1,lo,p,t,h=>by
  have hB:∀ lo p b,IsB b→(Agc cx d lo p b).length+5≤5 * sz b:=fun lo p b hb=>by
   obtain ⟨h1,h2,_⟩:=Bgg hb
   have:=Brq (cx:=cx) (f:=Ad8 cx d) (l:=b.kids) (lo:=lo) (p:=p) fun lo p x hx=>Bix d lo p x (h1 x hx)
   show (Apd cx (Ad8 cx d) lo p b.kids).length+5≤_
   omega
  cases h with
  | loc hl hm =>
   rename_i a t l m
   rw [Biy]
   have h1:=Bde (cx:=cx) (lo:=lo) (d:=d) (p:=p) (n:=l.length) hm
   have h2:=Akl l
   simp only [Apo,Abj,Ckk,sz,Ah6]
   omega
  | asg hl hx hm hy =>
   rename_i a t l m
   rw [Biq]
   have h1:=Cos (cx:=cx) (lo:=lo) (d:=d) (p:=p) (l:=l) (m:=m) (fun x h=>(hx x h).1) hy
   have h2:=Akl l
   simp only [Apo,sz,Ah6]
   omega
  | run hx h8 =>
   rename_i n a t x
   rw [Bi3]
   have h1:=Al7 (cx:=cx) (lo:=lo) d 0 p x hx
   simp only [Apo,sz,szs]
   omega
  | if_ hr =>
   rename_i n a t l
   rw [Bcn]
   have h1:=B61 (e:=Aby cx lo d 1) (b:=Agc cx d lo) (fun p x hx=>Al7 d 1 p x hx) (p:=p) hr fun p x _ hx=>hB lo p x hx
   simp only [ifH,List.length_map,sz]
   omega
  | while_ hx hb =>
   rename_i n a t x b
   rw [Bi4]
   have h1:=Al7 (cx:=cx) (lo:=lo) d 1 p x hx
   have h2:=hB lo (p+(Aby cx lo d 1 p x).length+2) b hb
   simp only [Apo,Bpq,Abj,Aa4,Awy,sz,szs]
   omega
  | for_ hl hx hb =>
   rename_i n a t x b l
   rw [Biv]
   have h1:=Axx (f:=Aby cx lo d 1) (l:=l) (p:=p) fun p y hy=>Al7 d 1 p y (hx y hy)
   have h2:=hB (Apz lo [x]) (p+(Ahg (Aby cx lo d 1) p l).length+1) b hb
   simp only [Apo,Blo,Abj,Aa4,Awy,sz,szs,Ah6]
   omega
  | forIn hl hm hx hb =>
   rename_i a t b l m
   rw [Biw]
   have h1:=Bde (cx:=cx) (lo:=lo) (d:=d) (p:=p) (n:=3) hx
   have h2:=hB (Apz lo l) (p+(Apr (Aby cx lo d) p m 3).length+7) b hb
   have h3:=Akl l
   have h4:=List.length_pos_iff.2 hl
   simp only [Apo,inG,Abj,Aa4,Awy,sz,szs,Ah6]
   omega
  | do_ hb =>
   rename_i n a t b
   rw [Bck]
   have h2:=hB lo p b hb
   simp only [sz,szs]
   omega
  | break_ =>
   rw [Biu]
   simp only [sz,szs,Aa4,Acg]
   omega
  | ret hx =>
   rename_i n a t l
   rw [Bi2]
   have h1:=A8v (f:=Aby cx lo d) (l:=l) (p:=p+1) fun r p y hy=>Al7 d r p y (hx y hy)
   simp only [Apo,Bid,Abj,Aa4,Acg,sz]
   omega
end
section
variable {cx:GCx} {lo:List ByteArray} {d k:Nat}
theorem B8c (hB:BdG cx lo) (hk:500010+4 * d≤k) {c:Cd} {t:Tree} (hE:IsE t) (hg:gw t) (hd:sz t≤d) (hb:c.length+4 * sz t≤mx):Ag4.f k cx.cs c cx.gl lo t.kind t.text t.n t.at_ t.kids=some (c++Aby cx lo d 1 c.length t) :=
 (A6k hB d (k+1) (by omega)).1 c t hE hg hd hb
theorem Bsa (hB:BdG cx lo) (hk:500010+4 * d≤k) {c:Cd} {l:List Tree} (hE:Aj0 l) (hg:gws l) (hd:szs l≤d) (hb:c.length+4 * szs l≤mx):Ah3.f k cx.cs c cx.gl lo l=some (c++Ahg (Aby cx lo d 1) c.length l) :=
 Bsb (by omega) (A6k hB d k (by omega)).1 c l hE hg hd hb
theorem Cig (hB:BdG cx lo) (hk:500010+4 * d≤k) {c:Cd} {l:List Tree} (hE:Aj0 l) (hg:gws l) (hd:szs l≤d) (hb:c.length+4 * szs l≤mx):Amb.f k cx.cs c cx.gl lo l=some (c++Apl (Aby cx lo d) c.length l):=by
 obtain ⟨j,rfl⟩:∃ j,k=j+1:=⟨k - 1,by omega⟩
 exact Cih (Bsb (by omega) (A6k hB d j (by omega)).1) (A6k hB d (j+2) (by omega)).2 c l hE hg hd hb
theorem Cp9 (hB:BdG cx lo) (hk:500010+4 * d≤k) (res:Int) {c:Cd} {t:Tree} (hE:IsE t) (h8:t.kind=8) (hg:gw t) (hd:sz t≤d) (hb:c.length+4 * sz t≤mx):Ako.f k cx.cs c cx.gl lo t.kind t.text t.n t.at_ t.kids res=some (c++Aby cx lo d res c.length t) :=
 (A6k hB d (k+2) (by omega)).2 res c t hE h8 hg hd hb
theorem Cg6 (n:Nat) (hn:n≤400000):∀ (i m:Nat) (c:Cd),i≤n→n - i < m→c.length+(n - i)≤mx→Apw.l0 m (n:Int) (i:Int) c=some (c++List.replicate (n - i) (i0 3))
 | i,0,c,hi,hm,hb=>by omega
 | i,m+1,c,hi,hm,hb=>by
  simp only [Apw.l0]
  by_cases h:i < n
  ·rw [ltT (by omega),cond_true,add0 _ _ _ (by omega),Aai,wiC _ (by omega) (by omega)]
   have ih:=Cg6 n hn (i+1) m (c++[i0 3]) (by omega) (by omega) (by rw [Abj];simp only [Aa4,Acg];omega)
   refine (show _=_ from ih).trans ?_
   rw [show n - i=(n - (i+1))+1 by omega,List.replicate_succ,Aep]
   rfl
  ·rw [ltF (by omega),cond_false,show n - i=0 by omega]
   simp
theorem B23 (hB:BdG cx lo) (hk:500010+4 * d≤k) {c:Cd} {l:List Tree} {n:Nat} (hE:Aj0 l) (hg:gws l) (hd:szs l≤d) (hn:n≤400000) (hb:c.length+4 * szs l+n+3≤mx):Apw.f k cx.cs c cx.gl lo l (n:Int)=some (c++Apr (Aby cx lo d) c.length l n):=by
 have hs:=Akl l
 unfold Apw.f Apr
 by_cases h1:l.length=n
 ·rw [if_pos h1,eqC (by omega),cond_true,Bsa hB hk hE hg hd (by omega)]
  rfl
 ·rw [if_neg h1,neC (by omega),cond_false]
  by_cases h2:l=[]
  ·subst h2
   rw [if_pos rfl,eqC (by simp),cond_true]
   have:=Cg6 n hn 0 k c (by omega) (by omega) (by omega)
   exact this
  ·have:=List.length_pos_iff.2 h2
   rw [if_neg h2,neC (by omega),cond_false,add0 _ _ _ (by omega),Aai]
   have e1:=A8v (f:=Aby cx lo d) (l:=l) (p:=c.length+1) fun r p y hy=>Al7 d r p y (hE y hy)
   have e2:(c++[i0 22]).length=c.length+1:=by simp
   rw [Cig hB hk hE hg hd (by rw [e2];omega),Aai,e2,add1 _ _ _ _ (by rw [Abj,e2];omega),Aai]
   simp only [Aep,List.cons_append,List.nil_append]
theorem Cko (bs:List (List Int)) (nx:Int) (us:List (Option Agk)) (r:List ByteArray) (hl:lo.length≤400000):∀ (i m:Nat) (c:Cd),i < m→i≤400000→c.length+i≤mx →
  Ahl.l0 m lo bs nx us r (i:Int) c=some (c++A4t lo.length i,r,bs,nx,us)
 | i,0,c,hm,_,_=>by omega
 | 0,m+1,c,hm,_,hb=>by
  simp only [Ahl.l0]
  rw [show decide (((0:Nat):Int) > 0)=false from rfl,cond_false]
  simp [A4t]
 | i+1,m+1,c,hm,hi,hb=>by
  simp only [Ahl.l0]
  rw [decide_eq_true (by omega),cond_true,wiC (((lo.length:Nat):Int)+_) (by omega) (by omega),add1 _ _ _ _ (by omega),Aai,wiC _ (by omega) (by omega),show ((i+1:Nat):Int) - 1=(i:Int) by omega]
  have ih:=Cko bs nx us r hl i m (c++[i1 7 (((lo.length:Nat):Int)+((i+1:Nat):Int))]) (by omega) (by omega) (by rw [Abj];simp only [Aa4,Acg];omega)
  refine (show _=_ from ih).trans ?_
  rw [Aep,show ((lo.length:Nat):Int)+((i+1:Nat):Int)=((lo.length+(i+1):Nat):Int) by omega]
  rfl
theorem Clq (hB:BdG cx lo) (J:Int→Cd→Option Cd):∀ (t pre:List Tree) (m z:Nat) (c:Cd),500010+4 * d+t.length≤m→pre.length+t.length≤400000→Aj0 t→gws t→szs t≤d→c.length+4 * szs t≤mx→z+2 * t.length≤1000000 →
  Am3.l1 m cx.cs cx.gl lo (pre++t) J (z:Int) (pre.length:Int) c=J ((z+Asw t:Nat):Int) (c++Ath (Ahg (Aby cx lo d 1)) c.length t)
 | [],pre,m,z,c,hm,hl,hE,hg,hd,hb,hz=>by
  obtain ⟨m,rfl⟩:∃ m',m=m'+1:=⟨m - 1,by omega⟩
  simp only [Am3.l1]
  rw [ltF (by simp),cond_false]
  simp [Ath,Asw]
 | x :: t,pre,m,z,c,hm,hl,hE,hg,hd,hb,hz=>by
  obtain ⟨m,rfl⟩:∃ m',m=m'+1:=⟨m - 1,by omega⟩
  simp only [Aa4] at hl hm hz
  simp only [szs] at hd hb
  have ih:=fun z c h1 h2=>Clq hB J t (pre++[x]) m z c (by omega) (by simp;omega) (fun y hy=>hE y (Ahb _ hy)) hg.2 (by omega) h1 h2
  rw [show (pre++[x])++t=pre++x :: t by simp,show ((pre++[x]).length:Int)=(pre.length:Int)+1 by simp] at ih
  simp only [Am3.l1]
  rw [ltT (by simp;omega),cond_true]
  dsimp only [Adj]
  rw [Ah5,Aai,wiC ((pre.length:Int)+1) (by omega) (by omega)]
  unfold Asw Ath
  by_cases h7:x.kind=7
  ·have hk:=Ccp (hE x (Af5 ..)) h7
   have hgx:gws x.kids:=by cases x;exact hg.1.2
   have e1:=Axx (f:=Aby cx lo d 1) (l:=x.kids) (p:=c.length) fun p y hy=>Al7 d 1 p y (hk.1 y hy)
   rw [eqC h7,cond_true,Bsa (d:=d) hB (by omega) hk.1 hgx (by omega) (by omega),Aai,wiC _ (by omega) (by omega),if_pos h7,if_pos h7]
   refine (show _=_ from ih (z+2) _ (by rw [Abj];omega) (by omega)).trans ?_
   rw [Aep,Abj,Nat.add_assoc z 2]
  ·rw [neC h7,cond_false,if_neg h7,if_neg h7]
   exact ih z c (by omega) (by omega)
theorem Ci3 (hB:BdG cx lo) (N:Nat) (J:Cd→Option Cd):∀ (t pre:List Tree) (m:Nat) (c:Cd),500010+t.length≤m→pre.length+t.length=N→N≤400000→c.length+2 * t.length≤mx →
  Am3.l0 m cx.gl lo (pre++t) J (Asw t:Nat) (pre.length:Int) c=J (c++Az0 cx lo N t)
 | [],pre,m,c,hm,hl,hN,hb=>by
  obtain ⟨m,rfl⟩:∃ m',m=m'+1:=⟨m - 1,by omega⟩
  simp only [Am3.l0]
  rw [ltF (by simp),cond_false]
  simp [Az0]
 | x :: t,pre,m,c,hm,hl,hN,hb=>by
  obtain ⟨m,rfl⟩:∃ m',m=m'+1:=⟨m - 1,by omega⟩
  simp only [Aa4] at hl hm hb
  have ih:=fun c h1=>Ci3 hB N J t (pre++[x]) m c (by omega) (by simp;omega) hN h1
  rw [show (pre++[x])++t=pre++x :: t by simp,show ((pre++[x]).length:Int)=(pre.length:Int)+1 by simp] at ih
  have ht:=B2b t
  have eN:((pre++x :: t).length:Int)=(N:Int):=by rw [Abj,Aa4];omega
  simp only [Am3.l0]
  rw [eN,ltT (by omega),cond_true]
  dsimp only [Adj]
  rw [Ah5,Aai,wiC ((pre.length:Int)+1) (by omega) (by omega),wiC ((N:Int) - 1) (by omega) (by omega),wiC ((N:Int) - 1 - (pre.length:Int)) (by omega) (by omega),show (N:Int) - 1 - (pre.length:Int)=(t.length:Int) by omega]
  unfold Asw Az0
  by_cases h7:x.kind=7
  ·rw [eqC h7,cond_true,if_pos h7,if_pos h7,show ((2+Asw t:Nat):Int) - 2=(Asw t:Int) by omega,wiC (Asw t:Int) (by omega) (by omega),wiC ((N:Int)+(Asw t:Int)) (by omega) (by omega),Bq6 _ _ _ _ _ (by omega),Aai]
   refine (show _=_ from ih (c++[i2 13 ((N:Int)+(Asw t:Int)) (t.length:Int)]) (by rw [Abj];simp only [Aa4,Acg];omega)).trans ?_
   rw [Aep]
   rfl
  ·rw [neC h7,cond_false,if_neg h7,if_neg h7,add1 _ _ _ _ (by omega),Aai]
   have e2:∀ z:Ins,(c++[z]).length=c.length+1:=fun z=>by simp
   unfold A3y.f Bx6
   rw [Aai]
   have hq:∀ i:Ins,(c++[i1 14 (t.length:Int)]++[i]).length+2 * t.length≤mx:=fun i=>by rw [Abj,e2];simp only [Aa4,Acg];omega
   show cond (decide (Ar2 lo x.text > 0)) _ _=_
   by_cases h:Ar2 lo x.text > 0
   ·rw [decide_eq_true h,cond_true,if_pos h]
    show (Adi.f m (c++[i1 14 (t.length:Int)]) 7 [Ar2 lo x.text]).bind _=_
    rw [add1 _ _ _ _ (by rw [e2];omega),Aai]
    refine (show _=_ from ih _ (hq _)).trans ?_
    simp only [Aep,List.cons_append,List.nil_append]
   ·rw [decide_eq_false h,cond_false,if_neg h,Bsz m _ _ hB.gl (by omega),Aai,add1 _ _ _ _ (by rw [e2];omega),Aai]
    refine (show _=_ from ih _ (hq _)).trans ?_
    simp only [Aep,List.cons_append,List.nil_append]
theorem Cor (hB:BdG cx lo) {l m:List Tree} (hk:500010+4 * d+l.length≤k) {c:Cd} (hl:Aj0 l) (hm:Aj0 m) (gl:gws l) (gm:gws m) (hd:szs l+szs m≤d) (hb:c.length+4 * szs l+4 * szs m+3 * l.length+5≤mx) (hn:l.length≤400000) :
  Am3.f k cx.cs c cx.gl lo l m=some (c++A5y cx lo (Aby cx lo d) c.length l m):=by
 unfold Am3.f
 dsimp only [Adj]
 have ht:=B2b l
 have h1:=B2a (cx:=cx) (lo:=lo) (d:=d) (p:=c.length) hl
 have h2:=Bde (cx:=cx) (lo:=lo) (d:=d) (p:=c.length+(Ath (Ahg (Aby cx lo d 1)) c.length l).length) (n:=l.length) hm
 have h3:=B0f (cx:=cx) (lo:=lo) (n:=l.length) l
 have e:=Clq (d:=d) hB (fun (x1:Int) (l2:Cd)=>(Apw.f k cx.cs l2 cx.gl lo m ((l.length:Nat):Int)).bind fun r8=>Am3.l0 k cx.gl lo l (fun (l13:Cd)=>(Adi.f k l13 (15:Int) ([IntKind.i64.wrap (((l.length:Nat):Int)+x1)])).bind fun r20=>some (r20.2)) x1 (0:Int) r8) l [] k 0 c (by omega) (by simp only [Acg];omega) hl gl (by omega) (by omega) (by omega)
 refine (show _=_ from e).trans ?_
 rw [B23 (d:=d) hB (by omega) hm gm (by omega) hn (by rw [Abj];omega),Aai,Nat.zero_add,Abj]
 have e2:=Ci3 hB l.length (fun (l13:Cd)=>(Adi.f k l13 (15:Int) ([IntKind.i64.wrap (((l.length:Nat):Int)+(Asw l:Int))])).bind fun r20=>some (r20.2)) l [] k (c++Ath (Ahg (Aby cx lo d 1)) c.length l++Apr (Aby cx lo d) (c.length+(Ath (Ahg (Aby cx lo d 1)) c.length l).length) m l.length) (by omega) (by simp) hn (by simp only [Abj];omega)
 refine (show _=_ from e2).trans ?_
 rw [wiC _ (by omega) (by omega),add1 _ _ _ _ (by simp only [Abj];omega),Aai]
 unfold A5y
 simp only [Aep]
 rfl
end
def bw (bs:List (List Int)):Nat:=bs.length+(bs.map List.length).sum
theorem B7e {bs:List (List Int)} {h:List Int}:bw (Ao6 bs h)≤bw bs+h.length:=by
 rcases A9z bs with rfl | ⟨m,x,rfl⟩
 ·show 0+0≤_;omega
 ·rw [Azj]
  simp only [bw,Abj,List.map_append,List.sum_append,List.map_cons,List.map_nil,List.sum_cons,List.sum_nil,Aa4,Acg]
  omega
theorem Bk6 (bs:List (List Int)):bs.length≤bw bs:=by unfold bw;omega
theorem Cp8 {m:List (List Int)} {b:List Int}:b.length≤bw (m++[b]):=by
 simp only [bw,List.map_append,List.sum_append,List.map_cons,List.map_nil,List.sum_cons,List.sum_nil]
 omega
theorem Bfr:∀ {X:Hx} {p:Nat},(holes p X).length≤X.length
 | [],_=>Nat.le_refl _
 | none :: X,p=>by have:=Bfr (X:=X) (p:=p+1);simp only [holes,Aa4];omega
 | some _ :: X,p=>by have:=Bfr (X:=X) (p:=p+1);simp only [holes,Aa4];omega
structure BdX (cx:GCx) (lo:List ByteArray) (c:Nat) (bs:List (List Int)) (n:Nat):Prop where
 cs:cx.cs.length≤400000
 gl:cx.gl.length≤400000
 src:cx.src.size≤400000
 lo:lo.length+4 * n≤400000
 c:c+5 * n≤450000
 bs:bw bs+5 * n≤2000000
theorem BdX.b {cx:GCx} {lo:List ByteArray} {c:Nat} {bs:List (List Int)} {n:Nat} (h:BdX cx lo c bs n):BdG cx lo:=⟨h.cs,h.gl,by have:=h.lo;omega⟩
theorem BdX.to {cx:GCx} {lo lo':TyC} {c c':Nat} {bs bs':TyL} {n n':Nat} (h:BdX cx lo c bs n) (h1:lo'.length+4 * n'≤lo.length+4 * n) (h2:c'+5 * n'≤c+5 * n) (h3:bw bs'+5 * n'≤bw bs+5 * n):BdX cx lo' c' bs' n' :=
 ⟨h.cs,h.gl,h.src,by have:=h.lo;omega,by have:=h.c;omega,by have:=h.bs;omega⟩
abbrev A3m:=Option (Cd×List ByteArray×List (List Int)×Int×List (Option Agk))
def ST (R:GS) (cx:GCx) (d:Nat):Prop:=∀ (lo:TyC) (c:Cd) (bs:TyL) (nx:Int) (us:List (Option Agk)) (t:Tree),IsS t→gw t→sz t≤d→BdX cx lo (c.length - 1) bs (sz t)→(bs≠[]∨holes c.length (Ad8 cx d lo c.length t).1=[]) →
 R.Ahl cx.cs c cx.src cx.gl lo bs nx us t.kind t.text t.n t.at_ t.kids=some (c++Aec 0 (Ad8 cx d lo c.length t).1,(Ad8 cx d lo c.length t).2,Ao6 bs (holes c.length (Ad8 cx d lo c.length t).1),nx,us)
def BK (R:GS) (cx:GCx) (d:Nat):Prop:=∀ (lo:TyC) (c:Cd) (bs:TyL) (nx:Int) (us:List (Option Agk)) (b:Tree),IsB b→gw b→sz b≤d+1→BdX cx lo c.length bs (sz b - 1)→(bs≠[]∨holes c.length (Agc cx d lo c.length b)=[]) →
 R.Ahw cx.cs c cx.src cx.gl lo bs nx us b.kind b.text b.n b.at_ b.kids=some (c++Aec 0 (Agc cx d lo c.length b),lo,Ao6 bs (holes c.length (Agc cx d lo c.length b)),nx,us)
section
variable {cx:GCx} {d k:Nat}
theorem Ck8:∀ (d:Nat) (lo:List ByteArray) (p:Nat) (t:Tree),IsS t→lo <+: (Ad8 cx d lo p t).2∧(Ad8 cx d lo p t).2.length≤lo.length+sz t
 | 0,lo,p,t,_=>⟨List.prefix_refl _,Nat.le_add_right _ _⟩
 | d+1,lo,p,t,h=>by
  have same:∀ l:List ByteArray,lo=l→lo <+: l∧l.length≤lo.length+sz t:=fun l h=>by subst h;exact ⟨List.prefix_refl _,Nat.le_add_right _ _⟩
  cases h with
  | loc hl hm =>
   rename_i a t l m
   rw [Biy]
   have h2:=Akl l
   refine ⟨⟨_,rfl⟩,?_⟩
   simp only [Abj,List.length_map,sz,Ah6]
   omega
  | asg=>rw [Biq];exact same _ rfl
  | run=>rw [Bi3];exact same _ rfl
  | if_=>rw [Bcn];exact same _ rfl
  | while_=>rw [Bi4];exact same _ rfl
  | for_=>rw [Biv];exact same _ rfl
  | forIn=>rw [Biw];exact same _ rfl
  | do_=>rw [Bck];exact same _ rfl
  | break_=>rw [Biu];exact same _ rfl
  | ret=>rw [Bi2];exact same _ rfl
theorem Bx8 {bs:List (List Int)} {h1 h2:List Int} (h:bs≠[]∨h1++h2=[]):(bs≠[]∨h1=[])∧(Ao6 bs h1≠[]∨h2=[]):=by
 rcases h with h | h
 ·exact ⟨.inl h,.inl (Cp6 h)⟩
 ·have:=List.append_eq_nil_iff.1 h
  exact ⟨.inr this.1,.inr this.2⟩
theorem B6y {R:GS} (hS:ST R cx d) (J:Cd→TyC→TyL→Int→List (Option Agk)→A3m) (nx:Int) (us:List (Option Agk)):∀ (t pre:List Tree) (lo:TyC) (c:Cd) (bs:TyL) (m:Nat),500000+t.length≤m→pre.length+t.length≤400000→(∀ x ∈ t,IsS x)→gws t→szs t≤d→BdX cx lo c.length bs (szs t) →
  (bs≠[]∨holes c.length (Apd cx (Ad8 cx d) lo c.length t)=[]) →
  ∃ lo',lo <+: lo'∧Ahw.l0 m R cx.cs cx.src cx.gl (pre++t) J (pre.length:Int) c lo bs nx us=J (c++Aec 0 (Apd cx (Ad8 cx d) lo c.length t)) lo' (Ao6 bs (holes c.length (Apd cx (Ad8 cx d) lo c.length t))) nx us
 | [],pre,lo,c,bs,m,hm,hl,hS',hg,hd,hB,hn=>by
  obtain ⟨m,rfl⟩:∃ m',m=m'+1:=⟨m - 1,by omega⟩
  refine ⟨lo,List.prefix_refl _,?_⟩
  simp only [Ahw.l0]
  rw [ltF (by simp),cond_false]
  simp only [Apd,holes,Bk0]
  simp [Aec]
 | x :: t,pre,lo,c,bs,m,hm,hl,hI,hg,hd,hB,hn=>by
  obtain ⟨m,rfl⟩:∃ m',m=m'+1:=⟨m - 1,by omega⟩
  simp only [Aa4] at hl hm
  simp only [szs] at hd hB
  have hx:=hI x (Af5 ..)
  obtain ⟨y,z,hp⟩:=Ciy m cx.src x.at_ hB.src (by omega)
  have hc:=hB.c
  have e1:∀ i:Ins,(c++[i]).length=c.length+1:=fun i=>by simp
  have hX:=Bix (cx:=cx) d lo (c.length+1) x hx
  obtain ⟨hlo,hlo2⟩:=Ck8 (cx:=cx) d lo (c.length+1) x hx
  have hlen:(c++[i1 1 (Apb cx.src x.at_)]++Aec 0 (Ad8 cx d lo (c.length+1) x).1).length=c.length+1+(Ad8 cx d lo (c.length+1) x).1.length:=by rw [Abj,e1,Am2]
  simp only [Apd] at hn ⊢
  rw [show holes c.length (some (i1 1 (Apb cx.src x.at_)) :: ((Ad8 cx d lo (c.length+1) x).1++Apd cx (Ad8 cx d) (Ad8 cx d lo (c.length+1) x).2 (c.length+1+(Ad8 cx d lo (c.length+1) x).1.length) t))=holes (c.length+1) (Ad8 cx d lo (c.length+1) x).1++holes (c.length+1+(Ad8 cx d lo (c.length+1) x).1.length) (Apd cx (Ad8 cx d) (Ad8 cx d lo (c.length+1) x).2 (c.length+1+(Ad8 cx d lo (c.length+1) x).1.length) t) from Arx] at hn ⊢
  obtain ⟨hn1,hn2⟩:=Bx8 hn
  have hst:=hS lo (c++[i1 1 (Apb cx.src x.at_)]) bs nx us x hx hg.1 (by omega) (hB.to (by omega) (by rw [e1];omega) (by omega)) (by rw [e1];exact hn1)
  rw [e1] at hst
  simp only [Ahw.l0]
  rw [ltT (by simp;omega),cond_true,Ah5,Aai,hp,Aai,add1 _ _ _ _ (by unfold mx;omega),Aai]
  have hh:=Bfr (X:=(Ad8 cx d lo (c.length+1) x).1) (p:=c.length+1)
  have hbw:=B7e (bs:=bs) (h:=holes (c.length+1) (Ad8 cx d lo (c.length+1) x).1)
  obtain ⟨lo',h1,h2⟩:=B6y hS J nx us t (pre++[x]) (Ad8 cx d lo (c.length+1) x).2 (c++[i1 1 (Apb cx.src x.at_)]++Aec 0 (Ad8 cx d lo (c.length+1) x).1) (Ao6 bs (holes (c.length+1) (Ad8 cx d lo (c.length+1) x).1)) m (by omega) (by simp;omega) (fun y hy=>hI y (Ahb _ hy)) hg.2 (by omega) (hB.to (by omega) (by rw [hlen];omega) (by omega)) (by rw [hlen];exact hn2)
  refine ⟨lo',hlo.trans h1,?_⟩
  rw [show (pre++[x])++t=pre++x :: t by simp,show ((pre++[x]).length:Int)=(pre.length:Int)+1 by simp,hlen,Brz] at h2
  refine (congrArg (fun z=>Option.bind z _) hst).trans ?_
  rw [Aai,wiC _ (by omega) (by omega)]
  refine h2.trans ?_
  rw [show Aec 0 (some (i1 1 (Apb cx.src x.at_)) :: ((Ad8 cx d lo (c.length+1) x).1++Apd cx (Ad8 cx d) (Ad8 cx d lo (c.length+1) x).2 (c.length+1+(Ad8 cx d lo (c.length+1) x).1.length) t))=i1 1 (Apb cx.src x.at_) :: (Aec 0 (Ad8 cx d lo (c.length+1) x).1++Aec 0 (Apd cx (Ad8 cx d) (Ad8 cx d lo (c.length+1) x).2 (c.length+1+(Ad8 cx d lo (c.length+1) x).1.length) t)) from congrArg (i1 1 (Apb cx.src x.at_) :: ·) A3x]
  simp only [Aep,List.cons_append,List.nil_append]
theorem B60 (hk:500020+4 * d≤k) (hS:ST (GS.at k) cx d):BK (GS.at (k+1)) cx d:=fun lo c bs nx us b hb hg hd hB hn=>by
 show Ahw.g (GS.at k) k cx.cs c cx.src cx.gl lo bs nx us b.kind b.text b.n b.at_ b.kids=_
 obtain ⟨h1,h2,h3⟩:=Bgg hb
 have hs:=Akl b.kids
 have hlo:=hB.lo
 unfold Ahw.g
 dsimp only [Adj]
 obtain ⟨lo',e1,e2⟩:=B6y hS (fun (l2:Cd) (l7:TyC) (l12:TyL) (x17:Int) (l18:List (Option Agk))=>(Aiq l7 (0:Int) ((lo.length:Nat):Int)).bind fun l24=>some (l2,l24,l12,x17,l18)) nx us b.kids [] lo c bs k (by omega) (by simp only [Acg];omega) h1 (by cases b;exact hg.2) (by omega) (hB.to (by omega) (by omega) (by omega)) hn
 refine (show _=_ from e2).trans ?_
 rw [Bi9 e1,Aai,A4w e1]
theorem Dbu (J:Cd→A3m) (X:Hx) (A T:Cd) (m e:Nat) (h1:X.length≤1000000) (h2:X.length < m) (he:e=A.length+X.length+T.length):Am6.l0 m (holes A.length X) J 0 (A++Aec 0 X++T)=J (A++Aec (e:Int) X++T) :=
 Bcb (fun m hs x c=>Am6.l0 m hs J x c) J (fun _ _ _ _=>rfl) e T X [] A m (by simp only [Acg];omega) h2 he
theorem Dbv (J:Cd→A3m) (X:Hx) (A T:Cd) (m e:Nat) (h1:X.length≤1000000) (h2:X.length < m) (he:e=A.length+X.length+T.length):Am9.l0 m (holes A.length X) J 0 (A++Aec 0 X++T)=J (A++Aec (e:Int) X++T) :=
 Bcb (fun m hs x c=>Am9.l0 m hs J x c) J (fun _ _ _ _=>rfl) e T X [] A m (by simp only [Acg];omega) h2 he
theorem Dbt (J:Cd→A3m) (X:Hx) (A T:Cd) (m e:Nat) (h1:X.length≤1000000) (h2:X.length < m) (he:e=A.length+X.length+T.length):Al9.l0 m (holes A.length X) J 0 (A++Aec 0 X++T)=J (A++Aec (e:Int) X++T) :=
 Bcb (fun m hs x c=>Al9.l0 m hs J x c) J (fun _ _ _ _=>rfl) e T X [] A m (by simp only [Acg];omega) h2 he
theorem Ciw (lo:TyC) (bs:TyL) (nx:Int) (us:List (Option Agk)) (X:Hx) (A T:Cd) (m e:Nat) (h1:X.length≤1000000) (h2:X.length < m) (he:e=A.length+X.length+T.length):Aio.l0 m (holes A.length X) lo bs nx us 0 (A++Aec 0 X++T)=some (A++Aec (e:Int) X++T,lo,bs,nx,us) :=
 Bcb (fun m hs x c=>Aio.l0 m hs lo bs nx us x c) (fun c=>some (c,lo,bs,nx,us)) (fun _ _ _ _=>rfl) e T X [] A m (by simp only [Acg];omega) h2 he
theorem A3p {b:Tree} (hb:IsB b) (lo:List ByteArray) (p:Nat):(Agc cx d lo p b).length+5≤5 * sz b:=by
 obtain ⟨h1,h2,_⟩:=Bgg hb
 have:=Brq (cx:=cx) (f:=Ad8 cx d) (l:=b.kids) (lo:=lo) (p:=p) fun lo p x hx=>Bix d lo p x (h1 x hx)
 show (Apd cx (Ad8 cx d) lo p b.kids).length+5≤_
 omega
theorem lastB (bs:List (List Int)) (h:List Int) (hb:bs.length≤2000000):IntKind.i64.wrap ((((bs++[h]).length:Nat):Int) - 1)=(bs.length:Int):=by
 rw [Abj,Aa4,Acg,wiC _ (by omega) (by omega)]
 omega
def LP (F:Cd→TyC→TyL→Int→List (Option Agk)→Tree→A3m) (cx:GCx) (d:Nat) (back:Ins):Prop:=∀ (lo:TyC) (c:Cd) (bs:TyL) (nx:Int) (us:List (Option Agk)) (b:Tree),IsB b→gw b→sz b≤d+1→BdX cx lo (c.length+2) (bs++[[]]) (sz b - 1) →
 F c lo bs nx us b=some (c++Atm (Agc cx d lo c.length b) back c.length,lo,bs,nx,us)
theorem C7d (hk:500020+4 * d≤k) (hK:BK (GS.at k) cx d) (top:Int):LP (fun c lo bs nx us b=>(GS.at (k+1)).Am6 cx.cs c cx.src cx.gl lo bs nx us b.kind b.text b.n b.at_ b.kids top) cx d (i1 18 top):=fun lo c bs nx us b hb hg hd hB=>by
 show Am6.g (GS.at k) k cx.cs c cx.src cx.gl lo bs nx us b.kind b.text b.n b.at_ b.kids top=_
 have hX:=A3p (cx:=cx) (d:=d) hb lo c.length
 have h1:=hB.bs;have h2:=hB.c
 have h3:=Bk6 (bs++[[]])
 rw [Abj,Aa4,Acg] at h3
 unfold Am6.g
 rw [Awj (by simp only [Aa4,Acg];omega),Aai,hK lo c (bs++[[]]) nx us b hb hg hd (hB.to (by omega) (by omega) (by omega)) (.inl (by simp)),Aai]
 unfold Bav.f
 rw [add1 _ _ _ _ (by rw [Abj,Am2];unfold mx;omega),Aai,Aai]
 dsimp only [Adj]
 rw [Azj,lastB bs _ (by omega),Ah5,Aai,List.nil_append]
 refine (Dbu _ _ c [i1 18 top] k (c.length+(Agc cx d lo c.length b).length+1) (by omega) (by omega) (by simp)).trans ?_
 rw [Ao5 0 bs.length (show (0:Int)=((0:Nat):Int) from rfl) rfl (by omega) (by simp),Aai]
 unfold Atm
 simp
theorem C7e (hk:500020+4 * d≤k) (hK:BK (GS.at k) cx d) (s pr:Int) (hpr:0≤pr∧pr≤1000000):LP (fun c lo bs nx us b=>(GS.at (k+1)).Am9 cx.cs c cx.src cx.gl lo bs nx us b.kind b.text b.n b.at_ b.kids s pr) cx d (i2 31 s (pr+1)):=fun lo c bs nx us b hb hg hd hB=>by
 show Am9.g (GS.at k) k cx.cs c cx.src cx.gl lo bs nx us b.kind b.text b.n b.at_ b.kids s pr=_
 have hX:=A3p (cx:=cx) (d:=d) hb lo c.length
 have h1:=hB.bs;have h2:=hB.c
 have h3:=Bk6 (bs++[[]])
 rw [Abj,Aa4,Acg] at h3
 unfold Am9.g
 rw [Awj (by simp only [Aa4,Acg];omega),Aai,hK lo c (bs++[[]]) nx us b hb hg hd (hB.to (by omega) (by omega) (by omega)) (.inl (by simp)),Aai]
 unfold Bax.f
 rw [wiC (pr+1) (by omega) (by omega),Bq6 _ _ _ _ _ (by rw [Abj,Am2];unfold mx;omega),Aai,Aai]
 dsimp only [Adj]
 rw [Azj,lastB bs _ (by omega),Ah5,Aai,List.nil_append]
 refine (Dbv _ _ c [i2 31 s (pr+1)] k (c.length+(Agc cx d lo c.length b).length+1) (by omega) (by omega) (by simp)).trans ?_
 rw [Ao5 0 bs.length (show (0:Int)=((0:Nat):Int) from rfl) rfl (by omega) (by simp),Aai]
 unfold Atm
 simp
theorem C7c (hk:500020+4 * d≤k) (hK:BK (GS.at k) cx d) (top:Int):LP (fun c lo bs nx us b=>(GS.at (k+1)).Al9 cx.cs c cx.src cx.gl lo bs nx us b.kind b.text b.n b.at_ b.kids top) cx d (i1 18 top):=fun lo c bs nx us b hb hg hd hB=>by
 show Al9.g (GS.at k) k cx.cs c cx.src cx.gl lo bs nx us b.kind b.text b.n b.at_ b.kids top=_
 have hX:=A3p (cx:=cx) (d:=d) hb lo c.length
 have h1:=hB.bs;have h2:=hB.c
 have h3:=Bk6 (bs++[[]])
 rw [Abj,Aa4,Acg] at h3
 unfold Al9.g
 rw [Awj (by simp only [Aa4,Acg];omega),Aai,hK lo c (bs++[[]]) nx us b hb hg hd (hB.to (by omega) (by omega) (by omega)) (.inl (by simp)),Aai]
 unfold Bat.f
 rw [add1 _ _ _ _ (by rw [Abj,Am2];unfold mx;omega),Aai,Aai]
 dsimp only [Adj]
 rw [Azj,lastB bs _ (by omega),Ah5,Aai,List.nil_append]
 refine (Dbt _ _ c [i1 18 top] k (c.length+(Agc cx d lo c.length b).length+1) (by omega) (by omega) (by simp)).trans ?_
 rw [Ao5 0 bs.length (show (0:Int)=((0:Nat):Int) from rfl) rfl (by omega) (by simp),Aai]
 unfold Atm
 simp
end
abbrev HHx:=List (Option (Option Ins))
def v1 (X:HHx):Hx:=X.map fun o=>o.map fun i=>i.getD (18,0,0,0)
def v2 (e:Int) (X:HHx):Hx:=X.map fun o=>o.getD (some (i1 18 e))
theorem Blm {e:Int}:∀ {X:HHx},Aec e (v1 X)=Aec 0 (v2 e X)
 | []=>rfl
 | none :: X=>congrArg ((18,e,0,0) :: ·) (Blm (X:=X))
 | some none :: X=>congrArg ((18,0,0,0) :: ·) (Blm (X:=X))
 | some (some i) :: X=>congrArg (i :: ·) (Blm (X:=X))
theorem Bbe {e:Int}:∀ {X:HHx} {p:Nat},holes p (v2 e X)=holes p (v2 0 X)
 | [],_=>rfl
 | none :: X,p=>Bbe (X:=X) (p:=p+1)
 | some none :: X,p=>congrArg ((p:Int) :: ·) (Bbe (X:=X) (p:=p+1))
 | some (some i) :: X,p=>Bbe (X:=X) (p:=p+1)
theorem B2q {X Y:HHx}:v1 (X++Y)=v1 X++v1 Y:=List.map_append ..
theorem Bct {e:Int} {X Y:HHx}:v2 e (X++Y)=v2 e X++v2 e Y:=List.map_append ..
theorem B2v:∀ {B:Hx},v1 (B.map some)=Ahn (Aec 0 B)
 | []=>rfl
 | o :: B=>congrArg (some (o.getD (18,0,0,0)) :: ·) (B2v (B:=B))
theorem Bcv {e:Int}:∀ {B:Hx},v2 e (B.map some)=B
 | []=>rfl
 | o :: B=>congrArg (o :: ·) (Bcv (B:=B))
theorem Cl3:∀ {E:Cd},v1 (E.map fun i=>some (some i))=Ahn E
 | []=>rfl
 | i :: E=>congrArg (some i :: ·) (Cl3 (E:=E))
theorem B2w {e:Int}:∀ {E:Cd},v2 e (E.map fun i=>some (some i))=Ahn E
 | []=>rfl
 | i :: E=>congrArg (some i :: ·) (B2w (E:=E))
section
variable {cx:GCx} {d k:Nat}
def BR (R:GS) (cx:GCx) (d:Nat):Prop:=∀ (lo:TyC) (c:Cd) (bs:TyL) (nx:Int) (us:List (Option Agk)) (l:List Tree),IsR l→gws l→szs l≤d→BdX cx lo c.length bs (szs l)→(bs≠[]∨holes c.length (ifH (Aby cx lo d 1) (Agc cx d lo) c.length l)=[]) →
 R.Aio cx.cs c cx.src cx.gl lo bs nx us l=some (c++Aec 0 (ifH (Aby cx lo d 1) (Agc cx d lo) c.length l),lo,Ao6 bs (holes c.length (ifH (Aby cx lo d 1) (Agc cx d lo) c.length l)),nx,us)
theorem Brt {R:GS} (hK:BK R cx d) (lo:List ByteArray) (nx:Int) (us:List (Option Agk)) (k:Nat) (hk:500020+4 * d≤k)
  (J:List Tree→List Int→Cd→List ByteArray→List (List Int)→Int→List (Option Agk)→A3m)
  (hJ0:∀ ends c bs,J [] ends c lo bs nx us=Aio.l0 k ends lo bs nx us 0 c)
  (hJ1:∀ b ends c bs,J [b] ends c lo bs nx us=(R.Ahw cx.cs c cx.src cx.gl lo bs nx us b.kind b.text b.n b.at_ b.kids).bind fun r89=>Aio.l0 k ends r89.2.1 r89.2.2.1 r89.2.2.2.1 r89.2.2.2.2 0 r89.1) :
  ∀ (l:List Tree),IsR l→∀ (A:Cd) (Y:Hx) (bs:List (List Int)) (m:Nat),500020+4 * d+l.length≤m→gws l→szs l≤d→BdX cx lo (A.length+Y.length) bs (szs l)→Y.length≤450000 →
   (bs≠[]∨holes (A.length+Y.length) (v2 0 (brX (Aby cx lo d 1) (Agc cx d lo) (A.length+Y.length) l))=[]) →
   Aio.l1 m R cx.cs cx.src cx.gl J l (holes A.length Y) (A++Aec 0 Y) lo bs nx us =
    some (A++Aec ((A.length+Y.length+(brX (Aby cx lo d 1) (Agc cx d lo) (A.length+Y.length) l).length:Nat):Int) (Y++v1 (brX (Aby cx lo d 1) (Agc cx d lo) (A.length+Y.length) l)),lo,Ao6 bs (holes (A.length+Y.length) (v2 0 (brX (Aby cx lo d 1) (Agc cx d lo) (A.length+Y.length) l))),nx,us)
 | [],_,A,Y,bs,m,hm,hg,hd,hB,hY,hn=>by
  obtain ⟨m,rfl⟩:∃ m',m=m'+1:=⟨m - 1,by omega⟩
  simp only [Aio.l1]
  rw [show decide ((([]:List Tree).length:Int) > 1)=false from rfl,cond_false,hJ0]
  have:=Ciw lo bs nx us Y A [] k (A.length+Y.length) (by omega) (by omega) (by simp)
  rw [List.append_nil,List.append_nil] at this
  refine this.trans ?_
  simp only [brX,v1,v2,List.map_nil,holes,Bk0,List.append_nil,Acg,Nat.add_zero]
 | [b],hr,A,Y,bs,m,hm,hg,hd,hB,hY,hn=>by
  obtain ⟨m,rfl⟩:∃ m',m=m'+1:=⟨m - 1,by omega⟩
  have hb:IsB b:=by cases hr with | last h=>exact h
  simp only [szs] at hd hB
  have hl:(A++Aec 0 Y).length=A.length+Y.length:=by rw [Abj,Am2]
  have eX:brX (Aby cx lo d 1) (Agc cx d lo) (A.length+Y.length) [b]=(Agc cx d lo (A.length+Y.length) b).map some:=rfl
  rw [eX,Bcv] at hn
  rw [eX,Bcv,B2v]
  simp only [Aio.l1]
  rw [show decide ((([b]:List Tree).length:Int) > 1)=false from rfl,cond_false,hJ1,hK lo _ bs nx us b hb hg.1 (by omega) (hB.to (by omega) (by rw [hl];omega) (by omega)) (by rw [hl];exact hn),Aai,hl]
  have:=Ciw lo (Ao6 bs (holes (A.length+Y.length) (Agc cx d lo (A.length+Y.length) b))) nx us Y A (Aec 0 (Agc cx d lo (A.length+Y.length) b)) k (A.length+Y.length+(Agc cx d lo (A.length+Y.length) b).length) (by omega) (by omega) (by rw [Am2])
  refine this.trans ?_
  rw [A3x,A6o,List.length_map,Aep]
 | x :: y :: l,hr,A,Y,bs,m,hm,hg,hd,hB,hY,hn=>by
  obtain ⟨m,rfl⟩:∃ m',m=m'+1:=⟨m - 1,by omega⟩
  obtain ⟨hx,hy,hl⟩:IsE x∧IsB y∧IsR l:=by cases hr with | more h1 h2 h3=>exact ⟨h1,h2,h3⟩
  obtain ⟨gx,gy,gl⟩:=hg
  simp only [szs] at hd hB
  simp only [Aa4] at hm
  have hc:=hB.c
  have hxp:=Asu x
  have hlC:(A++Aec 0 Y).length=A.length+Y.length:=by rw [Abj,Am2]
  generalize hC:A++Aec 0 Y=C at hlC ⊢
  generalize hp:A.length+Y.length=p at hB hn hlC hc ⊢
  generalize hE:Aby cx lo d 1 p x=E
  have hEl:E.length≤4 * sz x:=by rw [← hE];exact Al7 d 1 p x hx
  generalize hBk:Agc cx d lo (p+E.length+1) y=B
  have hBl:B.length+5≤5 * sz y:=by rw [← hBk];exact A3p hy lo _
  have hBh:=Bfr (X:=B) (p:=p+E.length+1)
  have hbw:=B7e (bs:=bs) (h:=holes (p+E.length+1) B)
  have hlE:(C++E++[i0 19]).length=p+E.length+1:=by rw [At4,hlC]
  have hexp:Ag4.f m cx.cs C cx.gl lo x.kind x.text x.n x.at_ x.kids=some (C++E):=by
   have:=B8c (d:=d) hB.b (by omega:500010+4 * d≤m) (c:=C) hx gx (by omega) (by rw [hlC];unfold mx;omega)
   rw [hlC,hE] at this
   exact this
  -- what the pair lays, and the rest
  have key:∀ (mo:Nat) (ho:HHx),mo=(if l.isEmpty then 0 else 1)→ho=(if l.isEmpty then [] else [none]) →
    brX (Aby cx lo d 1) (Agc cx d lo) p (x :: y :: l)=E.map (fun i=>some (some i))++some (some (i1 19 ((p+E.length+1+B.length+mo:Nat):Int))) :: (B.map some++ho++brX (Aby cx lo d 1) (Agc cx d lo) (p+E.length+1+B.length+mo) l):=fun mo ho h1 h2=>by
   subst h1 h2 hE hBk;rfl
  simp only [Aio.l1]
  rw [decide_eq_true (by simp only [Aa4];omega),cond_true,ix0,Aai,hexp,Aai,add0 _ _ _ (by rw [Abj,hlC];unfold mx;omega),Aai,ix1,Aai]
  have Cbe:∀ (mo:Nat) (ho:HHx),mo=(if l.isEmpty then 0 else 1)→ho=(if l.isEmpty then [] else [none])→holes p (v2 0 (brX (Aby cx lo d 1) (Agc cx d lo) p (x :: y :: l)))=holes (p+E.length+1) B++holes (p+E.length+1+B.length+mo) (v2 0 (brX (Aby cx lo d 1) (Agc cx d lo) (p+E.length+1+B.length+mo) l)):=fun mo ho h1 h2=>by
   rw [key mo ho h1 h2,Bct,B2w,Arx,Atk,List.nil_append,Apo]
   show holes (p+E.length+1) (v2 0 (B.map some++ho++_))=_
   rw [Bct,Bct,Bcv,Aep,Arx]
   congr 1
   rw [Arx]
   cases l with
   | nil=>subst h1 h2;rfl
   | cons u v=>subst h1 h2;rfl
  have Cbu:∀ (mo:Nat) (ho:HHx),mo=(if l.isEmpty then 0 else 1)→ho=(if l.isEmpty then [] else [none])→p+(brX (Aby cx lo d 1) (Agc cx d lo) p (x :: y :: l)).length=p+E.length+1+B.length+mo+(brX (Aby cx lo d 1) (Agc cx d lo) (p+E.length+1+B.length+mo) l).length:=fun mo ho h1 h2=>by
   have hm:ho.length=mo:=by subst h1 h2;cases l <;> rfl
   rw [key mo ho h1 h2]
   simp only [Abj,List.length_map,Aa4]
   omega
  have hv:∀ (mo:Nat) (ho:HHx),mo=(if l.isEmpty then 0 else 1)→ho=(if l.isEmpty then [] else [none])→v1 (brX (Aby cx lo d 1) (Agc cx d lo) p (x :: y :: l))=Ahn E++some (i1 19 ((p+E.length+1+B.length+mo:Nat):Int)) :: (Ahn (Aec 0 B)++v1 ho++v1 (brX (Aby cx lo d 1) (Agc cx d lo) (p+E.length+1+B.length+mo) l)):=fun mo ho h1 h2=>by
   rw [key mo ho h1 h2,B2q,Cl3]
   show Ahn E++some (i1 19 ((p+E.length+1+B.length+mo:Nat):Int)) :: v1 (B.map some++ho++_)=_
   rw [B2q,B2q,B2v]
  have hblk:∀ h2:(bs≠[]∨holes (p+E.length+1) B=[]),R.Ahw cx.cs (C++E++[i0 19]) cx.src cx.gl lo bs nx us y.kind y.text y.n y.at_ y.kids=some (C++E++[i0 19]++Aec 0 B,lo,Ao6 bs (holes (p+E.length+1) B),nx,us):=fun h2=>by
   have:=hK lo (C++E++[i0 19]) bs nx us y hy gy (by omega) (hB.to (by omega) (by rw [hlE];omega) (by omega)) (by rw [hlE,hBk];exact h2)
   rw [hlE,hBk] at this
   exact this
  have hsub:Aiq (x :: y :: l) (2:Int) (((x :: y :: l).length:Nat):Int)=some l:=by
   rw [Ao5 2 (l.length+2) (show (2:Int)=((2:Nat):Int) from rfl) (by simp only [Aa4]) (by omega) (by simp)]
   simp
  cases l with
  | nil =>
   have hh:=Cbe 0 [] rfl rfl
   rw [hh] at hn
   obtain ⟨hn1,hn2⟩:=Bx8 hn
   rw [hblk hn1,Aai,hsub,Aai]
   dsimp only [Adj]
   rw [show decide ((([]:List Tree).length:Int) > 0)=false from rfl,cond_false]
   unfold Akp.f
   rw [Aai,Aep (C++E),show ∀ Z:Cd,C++E++([i0 19]++Z)=(C++E)++i0 19 :: Z from fun _=>rfl,Ah5,Aai,Aug,Aai]
   have eY:∀ q:Int,(C++E)++i1 19 q :: Aec 0 B=A++Aec 0 (Y++Ahn E++some (i1 19 q) :: Ahn (Aec 0 B)):=fun q=>by
    rw [A3x,A3x,A6o,show Aec 0 (some (i1 19 q) :: Ahn (Aec 0 B))=i1 19 q :: Aec 0 (Ahn (Aec 0 B)) from rfl,A6o,← hC]
    simp only [Aep]
   have eQ:(((C++E++i0 19 :: Aec 0 B).length:Nat):Int)=((p+E.length+1+B.length+0:Nat):Int):=by
    simp only [Abj,Aa4,Am2,hlC];omega
   have eH:holes A.length Y=holes A.length (Y++Ahn E++some (i1 19 ((p+E.length+1+B.length+0:Nat):Int)) :: Ahn (Aec 0 B)):=by
    rw [Arx,Arx,Atk,List.append_nil]
    show _=_++holes _ (Ahn _)
    rw [Atk,List.append_nil]
   have eL:A.length+(Y++Ahn E++some (i1 19 ((p+E.length+1+B.length+0:Nat):Int)) :: Ahn (Aec 0 B)).length=p+E.length+1+B.length+0:=by
    simp only [Abj,Aa4,Apo,Am2];omega
   have ih:=Brt hK lo nx us k hk J hJ0 hJ1 [] hl A (Y++Ahn E++some (i1 19 ((p+E.length+1+B.length+0:Nat):Int)) :: Ahn (Aec 0 B)) (Ao6 bs (holes (p+E.length+1) B)) m (by omega) gl (by omega) (hB.to (by omega) (by rw [eL];simp only [szs];omega) (by simp only [szs];omega)) (by simp only [Abj,Aa4,Apo,Am2];omega) (by rw [eL];exact hn2)
   rw [eL,← eY,← eH,Brz,← hh] at ih
   rw [eQ]
   refine (show _=_ from ih).trans ?_
   rw [hv 0 [] rfl rfl,Cbu 0 [] rfl rfl]
   simp only [Aep,List.cons_append,show v1 []=[] from rfl,List.nil_append]
  | cons u v =>
   have hh:=Cbe 1 [none] rfl rfl
   rw [hh] at hn
   obtain ⟨hn1,hn2⟩:=Bx8 hn
   rw [hblk hn1,Aai,hsub,Aai]
   dsimp only [Adj]
   have hYh:=Bfr (X:=Y) (p:=A.length)
   have lB:(C++E++[i0 19]++Aec 0 B).length=p+E.length+1+B.length:=by rw [Abj,hlE,Am2]
   rw [decide_eq_true (by simp only [Aa4];omega),cond_true,add0 _ _ _ (by rw [lB];unfold mx;omega),Aai,lB,Awj (by simp only [Aa4,Acg];omega),Aai]
   unfold Akp.f
   rw [Aai,show ∀ Z:Cd,C++E++[i0 19]++Z++[i0 18]=(C++E)++i0 19 :: (Z++[i0 18]) from fun Z=>by simp,Ah5,Aai,Aug,Aai]
   have eY:∀ q:Int,(C++E)++i1 19 q :: (Aec 0 B++[i0 18])=A++Aec 0 (Y++Ahn E++some (i1 19 q) :: (Ahn (Aec 0 B)++[none])):=fun q=>by
    rw [A3x,A3x,A6o,show Aec 0 (some (i1 19 q) :: (Ahn (Aec 0 B)++[none]))=i1 19 q :: Aec 0 (Ahn (Aec 0 B)++[none]) from rfl,A3x,A6o,← hC]
    simp only [Aep]
    rfl
   have eQ:(((C++E++i0 19 :: (Aec 0 B++[i0 18])).length:Nat):Int)=((p+E.length+1+B.length+1:Nat):Int):=by
    simp only [Abj,Aa4,Acg,Am2,hlC];omega
   have eH:holes A.length Y++[((p+E.length+1+B.length:Nat):Int)]=holes A.length (Y++Ahn E++some (i1 19 ((p+E.length+1+B.length+1:Nat):Int)) :: (Ahn (Aec 0 B)++[none])):=by
    rw [Arx,Arx,Atk,List.append_nil]
    show _=_++holes _ (Ahn _++[none])
    rw [Arx,Atk,List.nil_append]
    show _=_++[_]
    congr 3
    simp only [Abj,Apo,Am2];omega
   have eL:A.length+(Y++Ahn E++some (i1 19 ((p+E.length+1+B.length+1:Nat):Int)) :: (Ahn (Aec 0 B)++[none])).length=p+E.length+1+B.length+1:=by
    simp only [Abj,Aa4,Acg,Apo,Am2];omega
   have ih:=Brt hK lo nx us k hk J hJ0 hJ1 (u :: v) hl A (Y++Ahn E++some (i1 19 ((p+E.length+1+B.length+1:Nat):Int)) :: (Ahn (Aec 0 B)++[none])) (Ao6 bs (holes (p+E.length+1) B)) m (by omega) gl (by omega) (hB.to (by omega) (by rw [eL];omega) (by omega)) (by simp only [Abj,Aa4,Acg,Apo,Am2];omega) (by rw [eL];exact hn2)
   rw [eL,← eY,← eH,Brz,← hh] at ih
   rw [eQ]
   refine (show _=_ from ih).trans ?_
   rw [hv 1 [none] rfl rfl,Cbu 1 [none] rfl rfl]
   simp only [Aep,List.cons_append,show v1 [none]=[none] from rfl,List.nil_append]
theorem Cp5 (hk:500020+5 * d≤k) (hK:BK (GS.at k) cx d):BR (GS.at (k+1)) cx d:=fun lo c bs nx us l hr hg hd hB hn=>by
 show Aio.g (GS.at k) k cx.cs c cx.src cx.gl lo bs nx us l=_
 have hs:=Akl l
 have eI:ifH (Aby cx lo d 1) (Agc cx d lo) c.length l=v2 ((c.length+(brX (Aby cx lo d 1) (Agc cx d lo) c.length l).length:Nat):Int) (brX (Aby cx lo d 1) (Agc cx d lo) c.length l):=rfl
 rw [eI,Bbe] at hn
 have hh:∀ (J:List Tree→List Int→Cd→TyC→TyL→Int→List (Option Agk)→A3m) (_:∀ ends c bs,J [] ends c lo bs nx us=Aio.l0 k ends lo bs nx us 0 c) (_:∀ b ends c bs,J [b] ends c lo bs nx us=((GS.at k).Ahw cx.cs c cx.src cx.gl lo bs nx us b.kind b.text b.n b.at_ b.kids).bind fun r89=>Aio.l0 k ends r89.2.1 r89.2.2.1 r89.2.2.2.1 r89.2.2.2.2 0 r89.1),
   Aio.l1 k (GS.at k) cx.cs cx.src cx.gl J l [] c lo bs nx us=some (c++Aec ((c.length+(brX (Aby cx lo d 1) (Agc cx d lo) c.length l).length:Nat):Int) (v1 (brX (Aby cx lo d 1) (Agc cx d lo) c.length l)),lo,Ao6 bs (holes c.length (v2 0 (brX (Aby cx lo d 1) (Agc cx d lo) c.length l))),nx,us):=fun J h0 h1=>by
  have h:=Brt hK lo nx us k (by omega) J h0 h1 l hr c [] bs k (by omega) hg hd hB (by simp) hn
  rw [show c++Aec 0 []=c by simp [Aec]] at h
  exact h
 unfold Aio.g
 dsimp only [Adj]
 refine (hh _ ?_ ?_).trans ?_
 ·intro ends c bs;rfl
 ·intro b ends c bs;rfl
 ·rw [eI,← Blm,Bbe (e:=((c.length+(brX (Aby cx lo d 1) (Agc cx d lo) c.length l).length:Nat):Int))]
theorem B79 (hk:500000≤k) {lo:List ByteArray} {l:List Tree} (hl:l.length≤400000) (ho:lo.length+3≤400000):Azq.f k lo l=some (((lo.length+1:Nat):Int),Apz lo l):=by
 unfold Azq.f
 have:A5w 16 lo (⟨#[]⟩:ByteArray) (3:Int)=some (lo++List.replicate 3 ⟨#[]⟩):=by
  unfold A5w
  rw [decide_eq_true (⟨by omega,by show (lo.length+3) * 16≤_;omega⟩),cond_true]
  rfl
 rw [this,Aai,Brv k _ _ hl (by simp;omega) hk,Aai,wiC _ (by omega) (by omega)]
 rfl
theorem Cgj {lo:List ByteArray} {l:List Tree} (ho:lo.length+3≤400000):A1d.f k (Apz lo l) ((lo.length+1:Nat):Int)=some lo:=by
 unfold A1d.f
 rw [wiC _ (by omega) (by omega),show ((lo.length+1:Nat):Int) - 1=(lo.length:Int) by omega]
 have hp:lo <+: Apz lo l:=⟨_,by unfold Apz;rw [Aep]⟩
 rw [Bi9 hp,Aai,A4w hp]
theorem Bnh {lo:List ByteArray} {l:List Tree}:(Apz lo l).length=lo.length+3+l.length:=by simp [Apz];omega
theorem Br0 {bs:List (List Int)}:bw (bs++[[]])=bw bs+1:=by
 simp only [bw,Abj,List.map_append,List.sum_append,List.map_cons,List.map_nil,List.sum_cons,List.sum_nil,Aa4,Acg]
 omega
theorem Ctm (hk:500020+5 * d≤k) (hL:∀ top,LP (fun c lo bs nx us b=>(GS.at k).Al9 cx.cs c cx.src cx.gl lo bs nx us b.kind b.text b.n b.at_ b.kids top) cx d (i1 18 top))
  (lo:TyC) (c:Cd) (bs:TyL) (nx:Int) (us:List (Option Agk)) (t:ByteArray) (a:Int) (l m:List Tree) (b:Tree) (hm:Aj0 m) (hb:IsB b) (gm:gws m) (gb:gw b) (hd:szs l+szs m+sz b≤d) (hB:BdX cx lo (c.length - 1) bs (szs l+szs m+sz b+1)) (hl1:l≠[]) :
  (GS.at (k+1)).Aqt cx.cs c cx.src cx.gl lo bs nx us 27 t (l.length:Nat) a (l++m++[b]) ((l++m++[b]).length - 1:Nat) =
   some (c++inG (Apr (Aby cx lo d) c.length m 3) (Agc cx d (Apz lo l) (c.length+(Apr (Aby cx lo d) c.length m 3).length+7) b) (lo.length+1) (l.length:Nat) c.length,lo,bs,nx,us):=by
 show Aqt.g (GS.at k) k cx.cs c cx.src cx.gl lo bs nx us 27 t (l.length:Nat) a (l++m++[b]) ((l++m++[b]).length - 1:Nat)=_
 have hs:=Akl l
 have hlo:=hB.lo;have hc:=hB.c;have hbs:=hB.bs
 have hlp:=List.length_pos_iff.2 hl1
 have hbp:=Asu b
 have hv:=Bde (cx:=cx) (lo:=lo) (d:=d) (p:=c.length) (n:=3) hm
 have hX:=A3p (cx:=cx) (d:=d) hb (Apz lo l) (c.length+(Apr (Aby cx lo d) c.length m 3).length+7)
 have hle:(l++m++[b]).length - 1=l.length+m.length:=by simp
 rw [hle]
 unfold Aqt.g
 rw [Ao5 l.length (l.length+m.length) rfl rfl (by omega) (by simp),Aai,show ((l++m++[b]).drop l.length).take (l.length+m.length - l.length)=m by simp]
 rw [show ((3:Int))=((3:Nat):Int) from rfl,B23 (d:=d) hB.b (by omega) hm gm (by omega) (by omega) (by unfold mx;omega),Aai]
 rw [Ao5 0 l.length (show (0:Int)=((0:Nat):Int) from rfl) rfl (by omega) (by simp),Aai,show ((l++m++[b]).drop 0).take (l.length - 0)=l by simp,B79 (by omega) (by omega) (by omega),Aai]
 generalize hE:Apr (Aby cx lo d) c.length m 3=E at hv hX ⊢
 have lE:(c++E).length=c.length+E.length:=Abj
 generalize hC:c++E=C at lE ⊢
 have l1:∀ (D:Cd) (i:Ins),(D++[i]).length=D.length+1:=fun D i=>by simp
 dsimp only
 rw [add1 _ _ _ _ (by unfold mx;omega),Aai]
 dsimp only
 rw [add1 _ _ _ _ (by rw [l1];unfold mx;omega),Aai]
 dsimp only
 rw [add0 _ _ _ (by rw [l1,l1];unfold mx;omega),Aai]
 dsimp only
 rw [add1 _ _ _ _ (by rw [l1,l1,l1];unfold mx;omega),Aai]
 dsimp only
 rw [add1 _ _ _ _ (by rw [l1,l1,l1,l1];unfold mx;omega),Aai]
 dsimp only
 rw [add1 _ _ _ _ (by rw [l1,l1,l1,l1,l1];unfold mx;omega),Aai]
 dsimp only
 rw [B5x _ _ _ _ _ _ (by rw [l1,l1,l1,l1,l1,l1];unfold mx;omega),Aai]
 dsimp only
 rw [show Ack (l++m++[b]) ((l.length+m.length:Nat):Int)=some b by rw [← Abj];exact Ah5 (l++m) b [],Aai]
 rw [wiC (((lo.length+1:Nat):Int)+1) (by omega) (by omega),wiC (((lo.length+1:Nat):Int)+2) (by omega) (by omega)]
 generalize hsI:((lo.length+1:Nat):Int)=s
 generalize hnI:((l.length:Nat):Int)=n
 have hloop:=hL (((C++[i1 32 s]).length:Nat):Int) (Apz lo l) (C++[i1 32 s]++[i1 6 s]++[i0 22]++[i1 6 (s+1)]++[i1 6 (s+2)]++[i1 24 n]++[i3 33 s 0 n]) bs nx us b hb gb (by omega) (hB.to (by rw [Bnh];omega) (by simp only [l1];omega) (by rw [Br0];omega))
 have hlen:(C++[i1 32 s]++[i1 6 s]++[i0 22]++[i1 6 (s+1)]++[i1 6 (s+2)]++[i1 24 n]++[i3 33 s 0 n]).length=c.length+E.length+7:=by simp only [l1];omega
 rw [hlen] at hloop
 refine (congrArg (fun z=>Option.bind z _) hloop).trans ?_
 rw [Aai]
 unfold Akp.f
 rw [Aai,show ∀ (Q L:Cd) (z:Ins),Q++[z]++L=Q++z :: L from fun Q L z=>by simp,Ah5,Aai,Aug,Aai,← hsI,Cgj (by omega),Aai]
 unfold inG
 rw [l1,lE,← hC]
 simp only [Abj,Aa4,Acg,Awy,Aep,List.cons_append,List.nil_append,i3,hsI]
 rw [show ∀ x:Nat,c.length+(E.length+(x+1+1+1+1+1+1+1+1))=c.length+E.length+7+(x+1) from fun x=>by omega]
theorem Dej (hk:500020+5 * d≤k) (hK:BK (GS.at k) cx d) (hR:BR (GS.at k) cx d)
  (Cv1:∀ top,LP (fun c lo bs nx us b=>(GS.at k).Am6 cx.cs c cx.src cx.gl lo bs nx us b.kind b.text b.n b.at_ b.kids top) cx d (i1 18 top))
  (Cv2:∀ s pr,0≤pr∧pr≤1000000→LP (fun c lo bs nx us b=>(GS.at k).Am9 cx.cs c cx.src cx.gl lo bs nx us b.kind b.text b.n b.at_ b.kids s pr) cx d (i2 31 s (pr+1)))
  (hF:∀ (lo:TyC) (c:Cd) (bs:TyL) (nx:Int) (us:List (Option Agk)) (t:ByteArray) (a:Int) (l m:List Tree) (b:Tree),Aj0 m→IsB b→gws m→gw b→szs l+szs m+sz b≤d→BdX cx lo (c.length - 1) bs (szs l+szs m+sz b+1)→l≠[] →
   (GS.at k).Aqt cx.cs c cx.src cx.gl lo bs nx us 27 t (l.length:Nat) a (l++m++[b]) ((l++m++[b]).length - 1:Nat) =
   some (c++inG (Apr (Aby cx lo d) c.length m 3) (Agc cx d (Apz lo l) (c.length+(Apr (Aby cx lo d) c.length m 3).length+7) b) (lo.length+1) (l.length:Nat) c.length,lo,bs,nx,us)) :
  ST (GS.at (k+1)) cx (d+1):=fun lo c bs nx us t hI hg hd hB hn=>by
 have hP:∀ (G:Cd) (lo':List ByteArray) (p:Nat),some (c++G,lo',bs,nx,us)=some (c++Aec 0 (Ahn G),lo',Ao6 bs (holes p (Ahn G)),nx,us):=fun G lo' p=>by rw [A6o,Atk,Bk0]
 have hlo:=hB.lo;have hc:=hB.c;have hbs:=hB.bs
 have l1:∀ (D:Cd) (i:Ins),(D++[i]).length=D.length+1:=fun D i=>by simp
 cases hI with
 | loc hl hm =>
  rename_i a t l m
  obtain ⟨_,hg⟩:=hg
  obtain ⟨_,gm⟩:=A6r.1 hg
  simp only [sz,Ah6] at hd hlo hc hbs
  have hs:=Akl l
  have hv:=Bde (cx:=cx) (lo:=lo) (d:=d) (p:=c.length) (n:=l.length) hm
  show Ahl.g (GS.at k) k cx.cs c cx.src cx.gl lo bs nx us 21 t (l.length:Nat) a (l++m)=_
  unfold Ahl.g
  simp only [Int.reduceBEq,cond_true,cond_false]
  rw [Ao5 l.length (l++m).length rfl rfl (by simp) (by simp),Aai,show ((l++m).drop l.length).take ((l++m).length - l.length)=m by simp,B23 (d:=d) hB.b (by omega) hm gm (by omega) (by omega) (by unfold mx;omega),Aai]
  rw [Ao5 0 l.length (show (0:Int)=((0:Nat):Int) from rfl) rfl (by omega) (by simp),Aai,show ((l++m).drop 0).take (l.length - 0)=l by simp,Brv k _ _ (by omega) (by omega) (by omega),Aai]
  rw [Cko bs nx us _ (by omega) l.length k _ (by omega) (by omega) (by rw [Abj];unfold mx;omega),Biy,Aep]
  exact hP _ _ _
 | asg hl hx hm hy =>
  rename_i a t l m
  obtain ⟨_,hg⟩:=hg
  obtain ⟨gl,gm⟩:=A6r.1 hg
  simp only [sz,Ah6] at hd hlo hc hbs
  have hs:=Akl l
  show Ahl.g (GS.at k) k cx.cs c cx.src cx.gl lo bs nx us 22 t (l.length:Nat) a (l++m)=_
  unfold Ahl.g
  simp only [Int.reduceBEq,cond_true,cond_false]
  rw [Ao5 0 l.length (show (0:Int)=((0:Nat):Int) from rfl) rfl (by omega) (by simp),Aai,show ((l++m).drop 0).take (l.length - 0)=l by simp,Ao5 l.length (l++m).length rfl rfl (by simp) (by simp),Aai,show ((l++m).drop l.length).take ((l++m).length - l.length)=m by simp]
  rw [Cor (d:=d) hB.b (by omega) (fun x h=>(hx x h).1) hy gl gm (by omega) (by unfold mx;omega) (by omega),Aai,Biq]
  exact hP _ _ _
 | run hx h8 =>
  rename_i n a t x
  simp only [sz,szs] at hd hlo hc hbs
  show Ahl.g (GS.at k) k cx.cs c cx.src cx.gl lo bs nx us 23 t n a [x]=_
  unfold Ahl.g
  simp only [Int.reduceBEq,cond_true,cond_false]
  rw [ix0,Aai,Cp9 (d:=d) hB.b (by omega) 0 hx h8 hg.2.1 (by omega) (by unfold mx;omega),Aai,Bi3]
  exact hP _ _ _
 | if_ hr =>
  rename_i n a t l
  simp only [sz] at hd hlo hc hbs
  rw [Bcn] at hn
  show Ahl.g (GS.at k) k cx.cs c cx.src cx.gl lo bs nx us 24 t n a l=_
  unfold Ahl.g
  simp only [Int.reduceBEq,cond_true,cond_false]
  rw [hR lo c bs nx us l hr hg.2 (by omega) (hB.to (by simp only [sz];omega) (by simp only [sz];omega) (by simp only [sz];omega)) hn,Aai,Bcn]
 | while_ hx hb =>
  rename_i n a t x b
  obtain ⟨_,gx,gb,_⟩:=hg
  simp only [sz,szs] at hd hlo hc hbs
  have hxl:=Al7 (cx:=cx) (lo:=lo) d 1 c.length x hx
  have hbp:=Asu b
  show Ahl.g (GS.at k) k cx.cs c cx.src cx.gl lo bs nx us 25 t n a [x,b]=_
  unfold Ahl.g Akp.f
  simp only [Int.reduceBEq,cond_true,cond_false]
  rw [Aai,ix0,Aai,B8c (d:=d) hB.b (by omega) hx gx (by omega) (by unfold mx;omega),Aai,Bi4]
  generalize hE:Aby cx lo d 1 c.length x=E at hxl ⊢
  rw [add0 _ _ _ (by rw [Abj];unfold mx;omega),Aai,add0 _ _ _ (by rw [l1,Abj];unfold mx;omega),Aai,ix1,Aai]
  have hlen:(c++E++[i0 19]++[i0 34]).length=c.length+E.length+2:=by rw [l1,l1,Abj]
  have hloop:=Cv1 (c.length:Int) lo (c++E++[i0 19]++[i0 34]) bs nx us b hb gb (by omega) (hB.to (by simp only [sz,szs];omega) (by rw [hlen];simp only [sz,szs];omega) (by rw [Br0];simp only [sz,szs];omega))
  rw [hlen] at hloop
  refine (congrArg (fun z=>Option.bind z _) hloop).trans ?_
  rw [Aai,Aai,show ∀ (Q L:Cd) (z w:Ins),Q++[z]++[w]++L=Q++z :: (w :: L) from fun Q L z w=>by simp,Ah5,Aai,Aug,Aai]
  refine Eq.trans ?_ (hP _ _ c.length)
  unfold Bpq
  simp only [Abj,Aa4,Awy,Aep]
  rw [show ∀ x:Nat,c.length+(E.length+(x+1+1+1))=c.length+E.length+2+(x+1) from fun x=>by omega]
  rfl
 | for_ hl hx hb =>
  rename_i n a t x b l
  obtain ⟨_,gx,hg⟩:=hg
  obtain ⟨gl,gb,_⟩:=A6r.1 (show gws (l++[b]) from hg)
  simp only [sz,szs,Ah6] at hd hlo hc hbs
  have hxl:=Axx (f:=Aby cx lo d 1) (l:=l) (p:=c.length) fun p y hy=>Al7 d 1 p y (hx y hy)
  have hbp:=Asu b
  have hxp:=Asu x
  have hX:=A3p (cx:=cx) (d:=d) hb (Apz lo [x]) (c.length+(Ahg (Aby cx lo d 1) c.length l).length+1)
  show Ahl.g (GS.at k) k cx.cs c cx.src cx.gl lo bs nx us 26 t n a (x :: l++[b])=_
  have hlen0:(x :: l++[b]).length=l.length+2:=by simp
  have eW:IntKind.i64.wrap ((((x :: l++[b]).length:Nat):Int) - 1)=((l.length+1:Nat):Int):=by rw [hlen0,wiC _ (by omega) (by omega)];omega
  unfold Ahl.g Akp.f
  simp only [Int.reduceBEq,cond_true,cond_false]
  rw [eW,Ao5 1 (l.length+1) (show (1:Int)=((1:Nat):Int) from rfl) rfl (by omega) (by simp),Aai,show ((x :: l++[b]).drop 1).take (l.length+1 - 1)=l by simp]
  rw [Bsa (d:=d) hB.b (by omega) hx gl (by omega) (by unfold mx;omega),Aai]
  dsimp only [Adj]
  rw [Ao5 0 1 (show (0:Int)=((0:Nat):Int) from rfl) (show (1:Int)=((1:Nat):Int) from rfl) (by omega) (by simp),Aai,show ((x :: l++[b]).drop 0).take (1 - 0)=[x] from rfl,B79 (by omega) (by simp) (by omega),Aai,Biv]
  generalize hE:Ahg (Aby cx lo d 1) c.length l=E at hxl hX ⊢
  rw [wiC (((l.length+1:Nat):Int) - 3) (by omega) (by omega),show ((l.length+1:Nat):Int) - 3=(l.length:Int) - 2 by omega]
  rw [B5x _ _ _ _ _ _ (by rw [Abj];unfold mx;omega),Aai,show Ack (x :: l++[b]) ((l.length+1:Nat):Int)=some b from Ah5 (x :: l) b [],Aai]
  generalize hsI:((lo.length+1:Nat):Int)=s
  have hlen:(c++E++[i3 30 s 0 ((l.length:Int) - 2)]).length=c.length+E.length+1:=At4 ..
  have hloop:=Cv2 s (((c++E).length:Nat):Int) ⟨by omega,by rw [Abj];omega⟩ (Apz lo [x]) (c++E++[i3 30 s 0 ((l.length:Int) - 2)]) bs nx us b hb gb (by omega) (hB.to (by rw [Bnh];simp only [sz,szs,Ah6,Aa4,Acg];omega) (by rw [hlen];simp only [sz,szs,Ah6];omega) (by rw [Br0];simp only [sz,szs,Ah6];omega))
  rw [hlen] at hloop
  refine (congrArg (fun z=>Option.bind z _) hloop).trans ?_
  rw [Aai,Aai,show ∀ (Q L:Cd) (z:Ins),Q++[z]++L=Q++z :: L from fun Q L z=>by simp,Ah5,Aai,Aug,Aai,← hsI,Cgj (by omega),Aai]
  refine Eq.trans ?_ (hP _ _ c.length)
  unfold Blo
  simp only [Abj,Aa4,Awy,Aep]
  rw [show ∀ x:Nat,c.length+(E.length+(x+1+1))=c.length+E.length+1+(x+1) from fun x=>by omega]
  rfl
 | forIn hl hm hx hb =>
  rename_i a t b l m
  obtain ⟨_,hg⟩:=hg
  obtain ⟨hg,gb,_⟩:=A6r.1 hg
  obtain ⟨_,gm⟩:=A6r.1 hg
  simp only [sz,szs,Ah6] at hd hlo hc hbs
  show Ahl.g (GS.at k) k cx.cs c cx.src cx.gl lo bs nx us 27 t (l.length:Nat) a (l++m++[b])=_
  have hs:=Akl (l++m++[b])
  simp only [Ah6,szs] at hs
  have eW:IntKind.i64.wrap ((((l++m++[b]).length:Nat):Int) - 1)=(((l++m++[b]).length - 1:Nat):Int):=by
   have:1≤(l++m++[b]).length:=by simp;omega
   rw [wiC _ (by omega) (by omega)];omega
  unfold Ahl.g
  simp only [Int.reduceBEq,cond_true,cond_false]
  rw [eW,hF lo c bs nx us t a l m b hx hb gm gb (by omega) (hB.to (by simp only [sz,szs,Ah6];omega) (by simp only [sz,szs,Ah6];omega) (by simp only [sz,szs,Ah6];omega)) hl,Aai,Biw]
  exact hP _ _ _
 | do_ hb =>
  rename_i n a t b
  simp only [sz,szs] at hd hlo hc hbs
  rw [Bck] at hn
  show Ahl.g (GS.at k) k cx.cs c cx.src cx.gl lo bs nx us 28 t n a [b]=_
  unfold Ahl.g
  simp only [Int.reduceBEq,cond_true,cond_false]
  rw [ix0,Aai,hK lo c bs nx us b hb hg.2.1 (by omega) (hB.to (by simp only [sz,szs];omega) (by simp only [sz,szs];omega) (by simp only [sz,szs];omega)) hn,Aai,Bck]
 | break_ =>
  rename_i n a t
  rw [Biu] at hn
  simp only [sz,szs] at hd hlo hc hbs
  show Ahl.g (GS.at k) k cx.cs c cx.src cx.gl lo bs nx us 29 t n a []=_
  unfold Ahl.g
  simp only [Int.reduceBEq,cond_true,cond_false]
  rcases A9z bs with rfl | ⟨M,h,rfl⟩
  ·rcases hn with hn | hn
   ·exact absurd rfl hn
   ·cases hn
  ·have h1:=Bk6 (M++[h])
   have h2:=Cp8 (m:=M) (b:=h)
   rw [Abj,Aa4,Acg] at h1
   rw [lastB M h (by omega),Ah5,Aai,add0 _ _ _ (by unfold mx;omega),Aai]
   rw [Awj (by simp only [Aa4,Acg];omega),Aai,Aug,Aai,Biu,Azj]
   rfl
 | ret hx =>
  rename_i n a t l
  simp only [sz] at hd hlo hc hbs
  have e1:=A8v (f:=Aby cx lo d) (l:=l) (p:=c.length+1) fun r p y hy=>Al7 d r p y (hx y hy)
  show Ahl.g (GS.at k) k cx.cs c cx.src cx.gl lo bs nx us 30 t n a l=_
  unfold Ahl.g
  simp only [Int.reduceBEq,cond_true,cond_false]
  rw [add0 _ _ _ (by unfold mx;omega),Aai,Cig (d:=d) hB.b (by omega) hx hg.2 (by omega) (by rw [l1];unfold mx;omega),Aai,l1,add0 _ _ _ (by rw [Abj,l1];unfold mx;omega),Aai,Bi2]
  refine Eq.trans ?_ (hP _ _ c.length)
  unfold Bid
  simp only [Aep,List.cons_append,List.nil_append]
theorem Bpc:∀ (d k:Nat),500040+5 * d≤k→ST (GS.at k) cx d∧BK (GS.at (k+1)) cx d
 | 0,k,hk=>by
  have h:ST (GS.at k) cx 0:=fun _ _ _ _ _ t _ _ h=>by have:=Asu t;omega
  exact ⟨h,B60 (by omega) h⟩
 | d+1,k,hk=>by
  obtain ⟨j,rfl⟩:∃ j,k=j+5:=⟨k - 5,by omega⟩
  have hS:=fun i (hi:500040+5 * d≤i)=>(Bpc d i hi).1
  have hK:∀ i,500041+5 * d≤i→BK (GS.at i) cx d:=fun i hi=>by
   obtain ⟨i,rfl⟩:∃ m,i=m+1:=⟨i - 1,by omega⟩
   exact (Bpc d i (by omega)).2
  have Cv0:∀ top,LP (fun c lo bs nx us b=>(GS.at (j+3)).Al9 cx.cs c cx.src cx.gl lo bs nx us b.kind b.text b.n b.at_ b.kids top) cx d (i1 18 top):=fun top=>C7c (by omega) (hK _ (by omega)) top
  have h:ST (GS.at (j+5)) cx (d+1):=Dej (by omega) (hK _ (by omega)) (Cp5 (by omega) (hK _ (by omega))) (fun top=>C7d (by omega) (hK _ (by omega)) top) (fun s pr h=>C7e (by omega) (hK _ (by omega)) s pr h) (fun lo c bs nx us t a l m b=>Ctm (by omega) Cv0 lo c bs nx us t a l m b)
  exact ⟨h,B60 (by omega) h⟩
end
mutual
/-- Does a node of the tree begin at a? -/
def bgT (a:Int):Tree→Prop
 | .mk _ _ _ p l=>p=a∨Beo a l
def Beo (a:Int):List Tree→Prop
 | []=>False
 | x :: l=>bgT a x∨Beo a l
end
theorem B6r {a:Int}:∀ {l:List Tree},Beo a l ↔ ∃ x ∈ l,bgT a x
 | []=>by simp [Beo]
 | x :: l=>by simp [Beo,B6r (l:=l)]
theorem Cpu (x:Tree):bgT x.at_ x:=by cases x;exact .inl rfl
def Flt (e:Int×Int) (t:Tree):Prop:=(e.1=5∨e.1=6)∧bgT e.2 t
theorem Flt.kid {e:Int×Int} {k n a:Int} {t:ByteArray} {l:List Tree} {x:Tree} (hx:x ∈ l) (h:Flt e x):Flt e (.mk k t n a l):=⟨h.1,.inr (B6r.2 ⟨x,hx,h.2⟩)⟩
theorem Flt.at5 {k n a:Int} {t:ByteArray} {l:List Tree}:Flt (5,a) (.mk k t n a l):=⟨.inl rfl,.inl rfl⟩
theorem Flt.at6 {k n a:Int} {t:ByteArray} {l:List Tree}:Flt (6,a) (.mk k t n a l):=⟨.inr rfl,.inl rfl⟩
theorem Ba2 {a c m:Int} {e:Int×Int} (h:Ap7 a c m=.bad e):e=(6,a):=by
 unfold Ap7 at h
 split at h
 ·cases h;rfl
 ·cases h
theorem Cg2 {e:Int×Int}:∀ {l:List Tree} {lo:List ByteArray},Azw lo l=.bad e→∃ x ∈ l,e=(5,x.at_)
 | [],_,h=>by cases h
 | x :: l,lo,h=>by
  unfold Azw at h
  split at h
  ·cases h;exact ⟨x,Af5 ..,rfl⟩
  ·obtain ⟨y,hy,e⟩:=Cg2 h
   exact ⟨y,Ahb _ hy,e⟩
theorem Brx {a sl:Int} {lo:List ByteArray} {l:List Tree} {e:Int×Int} (h:A0y a sl lo l=.bad e):(∃ x ∈ l,e=(5,x.at_))∨e=(6,a):=by
 unfold A0y at h
 rcases Als h with h | ⟨lo',_,h⟩
 ·exact .inl (Cg2 h)
 rcases Als h with h | ⟨_,_,h⟩
 ·exact .inr (Ba2 h)
 ·cases h
theorem Cha {f:CSt→Tree→PC CSt} {e:Int×Int}:∀ {l:List Tree} {s:CSt},Agg f s l=.bad e→∃ x ∈ l,∃ s,f s x=.bad e
 | [],_,h=>by cases h
 | x :: l,s,h=>by
  unfold Agg at h
  rcases Als h with h | ⟨s1,_,h⟩
  ·exact ⟨x,Af5 ..,s,h⟩
  ·obtain ⟨y,hy,e⟩:=Cha h
   exact ⟨y,Ahb _ hy,e⟩
theorem B6f {f:CSt→Tree→Bool→PC CSt} {n:Int} {e:Int×Int}:∀ {l:List Tree} {i:Nat} {s:CSt},Aos f n i s l=.bad e→∃ x ∈ l,∃ s b,f s x b=.bad e
 | [],_,_,h=>by cases h
 | x :: l,i,s,h=>by
  unfold Aos at h
  rcases Als h with h | ⟨s1,_,h⟩
  ·exact ⟨x,Af5 ..,s,_,h⟩
  ·obtain ⟨y,hy,e⟩:=B6f h
   exact ⟨y,Ahb _ hy,e⟩
theorem C7f {f:CSt→Tree→PC CSt} {a:Int} {s:CSt} {names:List Tree} {b:Tree} {more:Nat} {e:Int×Int} (h:Apy f a s names b more=.bad e):(∃ x ∈ names,e=(5,x.at_))∨e=(6,a)∨∃ s,f s b=.bad e:=by
 unfold Apy at h
 rcases Als h with h | ⟨r,_,h⟩
 ·split at h
  ·rcases Brx h with h | h
   ·exact .inl h
   ·exact .inr (.inl h)
  ·cases h
 rcases Als h with h | ⟨_,_,h⟩
 ·exact .inr (.inr ⟨_,h⟩)
 ·cases h
theorem Csw {f:CSt→List Tree→PC CSt} {ab:List ByteArray} {s:CSt} {k n a:Int} {t:ByteArray} {l:List Tree} {tg:Bool} {e:Int×Int} (h:Ali f ab s k t n a l tg=.bad e):e=(5,a)∨e=(6,a)∨∃ s,f s l=.bad e:=by
 unfold Ali at h
 have cst:∀ {v:V3},Avj a s.cs v=.bad e→e=(6,a):=fun h=>by
  unfold Avj at h
  split at h
  ·cases h
  rcases Als h with h | ⟨_,_,h⟩
  ·exact Ba2 h
  ·cases h
 have nme:Aym a t s.gl s.lo ab=.bad e→e=(5,a):=fun h=>by
  unfold Aym at h
  split at h
  ·cases h;rfl
  split at h
  ·cases h
  split at h
  ·cases h;rfl
  ·cases h
 split at h
 ·rcases Als h with h | ⟨_,_,h⟩
  ·exact .inr (.inl (Ba2 h))
  ·exact .inr (.inr ⟨_,h⟩)
 split at h
 ·rcases Als h with h | ⟨_,_,h⟩
  ·exact .inr (.inl (Ba2 h))
  ·exact .inr (.inr ⟨_,h⟩)
 split at h
 ·rcases Als h with h | ⟨_,_,h⟩
  ·exact .inr (.inl (Ba2 h))
  ·exact .inr (.inr ⟨_,h⟩)
 split at h
 ·rcases Als h with h | ⟨_,_,h⟩
  ·exact .inr (.inl (cst h))
  ·exact .inr (.inr ⟨_,h⟩)
 split at h
 ·rcases Als h with h | ⟨_,_,h⟩
  ·exact .inr (.inl (cst h))
  ·exact .inr (.inr ⟨_,h⟩)
 split at h
 ·rcases Als h with h | ⟨_,_,h⟩
  ·exact .inl (nme h)
  ·exact .inr (.inr ⟨_,h⟩)
 split at h
 ·split at h
  ·cases h;exact .inl rfl
  ·cases h
 ·exact .inr (.inr ⟨_,h⟩)
theorem Cg8 {e:Int×Int}:∀ {d:Nat} {ab:List ByteArray} {s:CSt} {t:Tree} {tg:Bool},sz t≤d→gw t→Adm d ab s t tg=.bad e→Flt e t
 | 0,_,_,t,_,hd,_,_=>by have:=Asu t;omega
 | d+1,ab,s,.mk k t n a l,tg,hd,hw,h=>by
  obtain ⟨⟨hs1,hs7,A1v,A1w,A7s,A1x,Bf8⟩,hw⟩:=hw
  rw [Ba6] at hw
  simp only [sz] at hd
  have hlen:=Akl l
  have K:∀ {x:Tree} {ab s tg},x ∈ l→Adm d ab s x tg=.bad e→Flt e (.mk k t n a l):=fun hx h=>Flt.kid hx (Cg8 (by have:=A94 hx;omega) (hw _ hx) h)
  have L:∀ {m:List Tree} {ab s},(∀ x ∈ m,x ∈ l)→Agg (fun s x=>Adm d ab s x false) s m=.bad e→Flt e (.mk k t n a l):=fun hm h=>by
   obtain ⟨x,hx,s,h⟩:=Cha h
   exact K (hm x hx) h
  have N:∀ {m:List Tree},(∀ x ∈ m,x ∈ l)→((∃ x ∈ m,e=(5,x.at_))∨e=(6,a))→Flt e (.mk k t n a l):=fun hm h=>by
   rcases h with ⟨x,hx,rfl⟩ | rfl
   ·exact Flt.kid (hm x hx) ⟨.inl rfl,Cpu x⟩
   ·exact Flt.at6
  have P:∀ {m:List Tree} {b:Tree} {more ab s},(∀ x ∈ m,x ∈ l)→b ∈ l→Apy (fun s x=>Adm d ab s x false) a s m b more=.bad e→Flt e (.mk k t n a l):=fun hm hb h=>by
   rcases C7f h with h | h | ⟨s,h⟩
   ·exact N hm (.inl h)
   ·exact N hm (.inr h)
   ·exact K hb h
  have F:∀ {c m:Int},Ap7 a c m=.bad e→Flt e (.mk k t n a l):=fun h=>by rw [Ba2 h];exact Flt.at6
  unfold Adm at h
  split at h
  ·rcases Als h with h | ⟨_,_,h⟩
   ·exact L (fun _ h=>h) h
   ·cases h
  split at h
  ·rename_i hk
   obtain ⟨m,rfl,hm⟩:=Bf8 hk
   rcases Als h with h | ⟨_,_,h⟩
   ·exact F h
   split at h
   ·cases h;exact Flt.at5
   rcases Als h with h | ⟨_,_,h⟩
   ·exact F h
   rcases Als h with h | ⟨_,_,h⟩
   ·exact N (fun x hx=>List.mem_of_mem_take hx) (Brx h)
   rcases Als h with h | ⟨_,_,h⟩
   ·exact K (Amh (by rw [Int.toNat_natCast];omega)).2 h
   ·cases h
  split at h
  ·rcases Als h with h | ⟨_,_,h⟩
   ·exact F h
   rcases Als h with h | ⟨_,_,h⟩
   ·exact F h
   rcases Als h with h | ⟨_,_,h⟩
   ·exact L (fun x hx=>List.mem_of_mem_drop hx) h
   rcases Als h with h | ⟨_,_,h⟩
   ·exact N (fun x hx=>List.mem_of_mem_take hx) (Brx h)
   ·cases h
  split at h
  ·rcases Als h with h | ⟨_,_,h⟩
   ·exact F h
   rcases Als h with h | ⟨_,_,h⟩
   ·exact F h
   obtain ⟨x,hx,s,b,h⟩:=B6f h
   exact K hx h
  split at h
  ·rename_i hk
   have h2:=A1v hk
   rcases Als h with h | ⟨_,_,h⟩
   ·exact K (Amh (by omega)).2 h
   ·exact P (m:=[]) (fun x hx=>absurd hx List.not_mem_nil) (Amh (by omega)).2 h
  split at h
  ·rename_i hk
   have h2:=A1w hk
   rcases Als h with h | ⟨_,_,h⟩
   ·exact L (fun x hx=>List.mem_of_mem_drop (List.mem_of_mem_take hx)) h
   ·exact P (fun x hx=>List.mem_of_mem_take hx) (Amh (by omega)).2 h
  split at h
  ·rename_i hk
   obtain ⟨m,rfl,hm⟩:=A1x hk
   rcases Als h with h | ⟨_,_,h⟩
   ·exact F h
   rcases Als h with h | ⟨_,_,h⟩
   ·exact F h
   rcases Als h with h | ⟨_,_,h⟩
   ·exact L (fun x hx=>List.mem_of_mem_drop (List.mem_of_mem_take hx)) h
   ·exact P (fun x hx=>List.mem_of_mem_take hx) (Amh (by omega)).2 h
  split at h
  ·split at h
   ·cases h;exact Flt.at5
   ·cases h
  ·rcases Csw h with rfl | rfl | ⟨s,h⟩
   ·exact Flt.at5
   ·exact Flt.at6
   ·exact L (fun _ h=>h) h
theorem A4l:∀ {d:Nat} {ab:List ByteArray} {s s':CSt} {t:Tree} {tg:Bool},wfT t→Adm d ab s t tg=.ok s'→s'.fs=s.fs
 | 0,_,_,_,_,_,_,h=>by unfold Adm at h;cases h
 | d+1,ab,s,s',.mk k t n a l,tg,hw,h=>by
  obtain ⟨⟨hs1,h31,hs7,A1v,A1w,A7s,A1x⟩,hw⟩:=hw
  rw [Ajz] at hw
  have hN:∀ {m:List Tree} {ab s s'},(∀ x ∈ m,x ∈ l)→Agg (fun s x=>Adm d ab s x false) s m=.ok s'→s'.fs=s.fs:=by
   intro m
   induction m with
   | nil=>intro ab s s' _ h;cases h;rfl
   | cons x m ihm =>
    intro ab s s' hm h
    unfold Agg at h
    obtain ⟨s1,h1,h⟩:=Acf h
    rw [ihm (fun y hy=>hm y (Ahb _ hy)) h,A4l (hw _ (hm _ (Af5 ..))) h1]
  have hA:∀ {m:List Tree} {n i ab s s'},(∀ x ∈ m,x ∈ l)→Aos (fun s x b=>Adm d ab s x b) n i s m=.ok s'→s'.fs=s.fs:=by
   intro m
   induction m with
   | nil=>intro n i ab s s' _ h;cases h;rfl
   | cons x m ihm =>
    intro n i ab s s' hm h
    unfold Aos at h
    obtain ⟨s1,h1,h⟩:=Acf h
    rw [ihm (fun y hy=>hm y (Ahb _ hy)) h,A4l (hw _ (hm _ (Af5 ..))) h1]
  have hP:∀ {a:Int} {names:List Tree} {b:Tree} {more:Nat} {ab s s'},b ∈ l→Apy (fun s x=>Adm d ab s x false) a s names b more=.ok s'→s'.fs=s.fs:=by
   intro a names b more ab s s' hb h
   unfold Apy at h
   obtain ⟨r,_,h⟩:=Acf h
   obtain ⟨s1,h1,h⟩:=Acf h
   cases h
   have h2:=A4l (hw _ hb) (show Adm d ab _ b false=_ from h1)
   exact h2
  unfold Adm at h
  split at h
  ·obtain ⟨s1,h1,h⟩:=Acf h;cases h;have h2:=hN (fun _ h=>h) h1;exact h2
  split at h
  ·obtain ⟨_,_,h⟩:=Acf h
   obtain ⟨_,_,h⟩:=Acf h
   obtain ⟨s1,h1,h⟩:=Acf h
   obtain ⟨r,_,h⟩:=Acf h
   cases h;have h2:=hN (fun x hx=>List.mem_of_mem_drop hx) h1;exact h2
  split at h
  ·obtain ⟨_,_,h⟩:=Acf h
   obtain ⟨_,_,h⟩:=Acf h
   exact hA (fun _ h=>h) h
  split at h
  ·rename_i hk
   have h2:=A1v hk
   obtain ⟨s1,h1,h⟩:=Acf h
   rw [hP (Amh (by omega)).2 h,A4l (hw _ (Amh (by omega)).2) h1]
  split at h
  ·rename_i hk
   have h2:=A1w hk
   obtain ⟨s1,h1,h⟩:=Acf h
   rw [hP (Amh (by omega)).2 h,hN (fun x hx=>List.mem_of_mem_drop (List.mem_of_mem_take hx)) h1]
  split at h
  ·rename_i hk
   obtain ⟨m,rfl,hm⟩:=A1x hk
   obtain ⟨_,_,h⟩:=Acf h
   obtain ⟨_,_,h⟩:=Acf h
   obtain ⟨s1,h1,h⟩:=Acf h
   rw [hP (Amh (by omega)).2 h,hN (fun x hx=>List.mem_of_mem_drop (List.mem_of_mem_take hx)) h1]
  split at h
  ·split at h
   ·cases h
   ·cases h;rfl
  ·have X:∀ {s s':CSt},Agg (fun s x=>Adm d ab s x false) s l=.ok s'→s'.fs=s.fs:=fun h=>hN (fun _ h=>h) h
   unfold Ali at h
   (repeat' split at h) <;> first
    | (cases h;done)
    | (cases h;rfl)
    | exact X h
    | (obtain ⟨_,_,h⟩:=Acf h;have h2:=X (show Agg (fun s x=>Adm d ab s x false) _ l=_ from h);exact h2)
def Ba4 (l:List Tree):Nat:=(l.filter fun x=>x.kind == 31).length
theorem Chh {cx:GCx} {d:Nat} (ih:∀ (lo:List ByteArray) (p:Nat) (t:Tree),IsS t→∀ (d':Nat) (ab:List ByteArray) (s s':CSt),gw t→Adm d' ab s t false=.ok s'→s.lp=0→holes p (Ad8 cx d lo p t).1=[]) :
  ∀ (l:List Tree) (lo:List ByteArray) (p:Nat) (d':Nat) (ab:List ByteArray) (s s':CSt),(∀ x ∈ l,IsS x)→gws l→Agg (fun s x=>Adm d' ab s x false) s l=.ok s'→s.lp=0→holes p (Apd cx (Ad8 cx d) lo p l)=[]
 | [],_,_,_,_,_,_,_,_,_,_=>rfl
 | x :: l,lo,p,d',ab,s,s',hI,hg,h,h0=>by
  unfold Agg at h
  obtain ⟨s1,h1,h⟩:=Acf h
  have hp:=Aml hg.1 h1
  show holes (p+1) (_++_)=[]
  rw [Arx,ih lo (p+1) x (hI x (Af5 ..)) d' ab s s1 hg.1 h1 h0,List.nil_append]
  exact Chh ih l _ _ d' ab s1 s' (fun y hy=>hI y (Ahb _ hy)) hg.2 h (by rw [hp.lp];exact h0)
theorem Bns {cx:GCx} {d:Nat} (ih:∀ (lo:List ByteArray) (p:Nat) (t:Tree),IsS t→∀ (d':Nat) (ab:List ByteArray) (s s':CSt),gw t→Adm d' ab s t false=.ok s'→s.lp=0→holes p (Ad8 cx d lo p t).1=[])
  (b:Tree) (lo:List ByteArray) (p:Nat) (d':Nat) (ab:List ByteArray) (s s':CSt) (hb:IsB b) (hg:gw b) (h:Adm d' ab s b false=.ok s') (h0:s.lp=0):holes p (Agc cx d lo p b)=[]:=by
 cases hb with
 | block hl =>
  cases d' with
  | zero=>unfold Adm at h;cases h
  | succ d' =>
   unfold Adm at h
   rw [if_pos rfl] at h
   obtain ⟨s1,h1,_⟩:=Acf h
   exact Chh ih _ lo p d' ab s s1 hl hg.2 h1 h0
theorem Chj {cx:GCx} {d:Nat} {e:Nat→Tree→Cd} (ih:∀ (lo:TyC) (p:Nat) (t:Tree),IsS t→∀ (d':Nat) (ab:TyC) (s s':CSt),gw t→Adm d' ab s t false=.ok s'→s.lp=0→holes p (Ad8 cx d lo p t).1=[]) (lo:TyC) :
  ∀ (l:List Tree) (p:Nat) (d':Nat) (ab:List ByteArray) (s s':CSt),IsR l→gws l→Agg (fun s x=>Adm d' ab s x false) s l=.ok s'→s.lp=0→holes p (v2 0 (brX e (Agc cx d lo) p l))=[]
 | [],_,_,_,_,_,_,_,_,_=>rfl
 | [b],p,d',ab,s,s',hr,hg,h,h0=>by
  have hb:IsB b:=by cases hr with | last h=>exact h
  unfold Agg at h
  obtain ⟨s1,h1,h⟩:=Acf h
  show holes p (v2 0 ((Agc cx d lo p b).map some))=[]
  rw [Bcv]
  exact Bns ih b lo p d' ab s s1 hb hg.1 h1 h0
 | x :: y :: l,p,d',ab,s,s',hr,hg,h,h0=>by
  obtain ⟨hx,hy,hl⟩:IsE x∧IsB y∧IsR l:=by cases hr with | more h1 h2 h3=>exact ⟨h1,h2,h3⟩
  unfold Agg at h
  obtain ⟨s1,h1,h⟩:=Acf h
  unfold Agg at h
  obtain ⟨s2,h2,h⟩:=Acf h
  have p1:=(Aml hg.1 h1).lp.trans h0
  have p2:=(Aml hg.2.1 h2).lp.trans p1
  have e1:=Bns ih y lo (p+(e p x).length+1) d' ab s1 s2 hy hg.2.1 h2 p1
  have e2:=fun q=>Chj (e:=e) ih lo l q d' ab s2 s' hl hg.2.2 h p2
  simp only [brX]
  rw [Bct,B2w,Arx,Atk,List.nil_append,Apo]
  show holes (p+(e p x).length+1) (v2 0 ((Agc cx d lo (p+(e p x).length+1) y).map some++_++_))=[]
  rw [Bct,Bct,Bcv,Aep,Arx,e1,List.nil_append,Arx]
  cases l with
  | nil=>rfl
  | cons u v=>exact e2 _
theorem noh {cx:GCx}:∀ (d:Nat) (lo:List ByteArray) (p:Nat) (t:Tree),IsS t→∀ (d':Nat) (ab:List ByteArray) (s s':CSt),gw t→Adm d' ab s t false=.ok s'→s.lp=0→holes p (Ad8 cx d lo p t).1=[]
 | 0,_,_,_,_,_,_,_,_,_,_,_=>rfl
 | d+1,lo,p,t,hI,0,ab,s,s',hg,h,h0=>by unfold Adm at h;cases h
 | d+1,lo,p,t,hI,d'+1,ab,s,s',hg,h,h0=>by
  have ih:=fun lo p t h=>noh (cx:=cx) d lo p t h
  cases hI with
  | loc=>rw [Biy];exact Atk
  | asg=>rw [Biq];exact Atk
  | run=>rw [Bi3];exact Atk
  | if_ hr =>
   rw [Bcn]
   unfold Adm at h
   simp only [Int.reduceEq,if_false] at h
   unfold Ali at h
   simp only [Int.reduceEq,if_false,false_and] at h
   show holes p (v2 _ (brX _ _ p _))=[]
   rw [Bbe]
   exact Chj ih lo _ p d' ab s s' hr hg.2 h h0
  | while_=>rw [Bi4];exact Atk
  | for_=>rw [Biv];exact Atk
  | forIn=>rw [Biw];exact Atk
  | do_ hb =>
   rw [Bck]
   unfold Adm at h
   simp only [Int.reduceEq,if_false] at h
   unfold Ali at h
   simp only [Int.reduceEq,if_false,false_and] at h
   unfold Agg at h
   obtain ⟨s1,h1,h⟩:=Acf h
   exact Bns ih _ lo p d' ab s s1 hb hg.2.1 h1 h0
  | break_ =>
   unfold Adm at h
   simp only [Int.reduceEq,if_false,if_true] at h
   rw [if_pos h0] at h
   cases h
  | ret=>rw [Bi2];exact Atk
def Bag (u:Agk) (c:Cd):Agk:=(u.1,u.2.1,u.2.2.1,u.2.2.2.1,c)
def A0e (r:Arj):Agk:=(r.1,r.2.2.1,r.2.2.2.1,r.2.2.2.2,[])
def A0v (gl:List ByteArray) (src:ByteArray) (d:Nat) (cs:List V3) (x:Tree):Hx:=Agc ⟨cs,gl,src⟩ d ((x.kids.take x.n.toNat).map (·.text)) 0 (Adu x.kids x.n.toNat)
def fnG (gl:List ByteArray) (src:ByteArray) (d:Nat) (cs:List V3) (x:Tree):Cd:=Aec 0 (A0v gl src d cs x)++[i0 22]++[i0 25]
def Amv (cx:GCx) (d:Nat):List ByteArray→Nat→Nat→List Tree→Hx
 | _,_,_,[]=>[]
 | lo,p,nx,x :: l =>
  if x.kind=31 then some (i1 1 (Apb cx.src x.at_)) :: some (i1 11 (nx:Int)) :: some (i1 9 (glN cx.gl x.text)) :: Amv cx d lo (p+3) (nx+1) l
  else some (i1 1 (Apb cx.src x.at_)) :: ((Ad8 cx d lo (p+1) x).1++Amv cx d (Ad8 cx d lo (p+1) x).2 (p+1+(Ad8 cx d lo (p+1) x).1.length) nx l)
def Atv (gl:List ByteArray) (src:ByteArray) (d:Nat):List Tree→List Agk→List Agk
 | [],U=>U
 | x :: l,U=>if x.kind=31 then (match U with | []=>[] | u :: U=>Bag u (fnG gl src d u.2.2.2.1 x) :: Atv gl src d l U) else Atv gl src d l U
def okU (gl:List ByteArray) (src:ByteArray) (d:Nat):List Tree→List Agk→Prop
 | [],_=>True
 | x :: l,U=>if x.kind=31 then ∃ u V,U=u :: V∧u.2.2.2.2=[]∧u.2.2.2.1.length≤400000∧holes 0 (A0v gl src d u.2.2.2.1 x)=[]∧okU gl src d l V else okU gl src d l U
theorem Bwl {t:Tree} (h:IsS t):t.kind≠31:=by cases h <;> (simp only [Tree.kind];decide)
theorem A7z {t:Tree} (h:Au6 t):∃ a tx l b,t=.mk 31 tx (l.length:Nat) a (l++[b])∧IsB b:=by
 cases h with | fn hb=>exact ⟨_,_,_,_,rfl,hb⟩
section
variable {cx:GCx} {d k:Nat}
theorem Ctq (hk:500000≤k) (hK:BK (GS.at k) cx d) (lo:TyC) (c:Cd) (bs:TyL) (nx:Int) (us:List (Option Agk)) (b:Tree) (hb:IsB b) (hg:gw b) (hd:sz b≤d+1) (hB:BdX cx lo c.length bs (sz b - 1)) (hn:bs≠[]∨holes c.length (Agc cx d lo c.length b)=[]) :
  (GS.at (k+1)).Al8 cx.cs c cx.src cx.gl lo bs nx us b.kind b.text b.n b.at_ b.kids=some (c++Aec 0 (Agc cx d lo c.length b)++[i0 22]++[i0 25],lo,Ao6 bs (holes c.length (Agc cx d lo c.length b)),nx,us):=by
 show Al8.g (GS.at k) k cx.cs c cx.src cx.gl lo bs nx us b.kind b.text b.n b.at_ b.kids=_
 have hX:=A3p (cx:=cx) (d:=d) hb lo c.length
 have hc:=hB.c
 unfold Al8.g
 rw [hK lo c bs nx us b hb hg hd hB hn,Aai,add0 _ _ _ (by rw [Abj,Am2];unfold mx;omega),Aai,add0 _ _ _ (by rw [Abj,Abj,Am2];simp only [Aa4,Acg];unfold mx;omega),Aai]
theorem C27 {gl:TyC} {src:ByteArray} (hk:500050+5 * d≤k) (D T:List (Option Agk)) (u:Agk) (t:ByteArray) (a:Int) (l:List Tree) (b:Tree) (hb:IsB b) (hg:gw b) (hd:sz b≤d) (hu:u.2.2.2.2=[]) (hus:u.2.2.2.1.length≤400000) (hgl:gl.length≤400000) (hsrc:src.size≤400000) (hl:l.length+4 * sz b≤400000) (hl5:5 * sz b≤450000) (hD:D.length≤1000000)
  (hn:holes 0 (A0v gl src d u.2.2.2.1 (.mk 31 t (l.length:Nat) a (l++[b])))=[]) :
  (GS.at (k+3)).Arw src gl (D.length:Int) (D++some u :: T) 31 t (l.length:Nat) a (l++[b])=some (((D.length+1:Nat):Int),D++some (Bag u (fnG gl src d u.2.2.2.1 (.mk 31 t (l.length:Nat) a (l++[b])))) :: T):=by
 show Arw.g (GS.at (k+2)) (k+2) src gl (D.length:Int) (D++some u :: T) 31 t (l.length:Nat) a (l++[b])=_
 obtain ⟨u0,u1,u2,cs,cd⟩:=u
 have hu:cd=[]:=hu
 subst hu
 have e1:(l++[b]).take l.length=l:=by simp
 have e2:Adu (l++[b]) l.length=b:=by simp [Adu]
 have eb:A0v gl src d cs (.mk 31 t (l.length:Nat) a (l++[b]))=Agc ⟨cs,gl,src⟩ d (l.map (·.text)) 0 b:=by
  show Agc ⟨cs,gl,src⟩ d (((l++[b]).take ((l.length:Nat):Int).toNat).map (·.text)) 0 (Adu (l++[b]) ((l.length:Nat):Int).toNat)=_
  rw [Int.toNat_natCast,e1,e2]
 have hn:holes 0 (A0v gl src d cs (.mk 31 t (l.length:Nat) a (l++[b])))=[]:=hn
 rw [eb] at hn
 have hbp:=Asu b
 unfold Arw.g
 rw [Ah5,Aai,Aai,Aug,Aai,Ao5 0 l.length (show (0:Int)=((0:Nat):Int) from rfl) rfl (by omega) (by simp),Aai,show ((l++[b]).drop 0).take (l.length - 0)=l by simp,Brv _ _ _ (by omega) (by simp) (by omega),Aai,List.nil_append,Ah5,Aai,wiC _ (by omega) (by omega)]
 have hf:=Ctq (cx:=⟨cs,gl,src⟩) (d:=d) (k:=k+1) (by omega) (Bpc d k (by omega)).2 (l.map (·.text)) [] [] ((D.length:Int)+1) (D++none :: T) b hb hg (by omega) ⟨hus,hgl,hsrc,by rw [List.length_map];omega,by simp only [Acg];omega,by show 0+0+_≤_;omega⟩ (.inr hn)
 refine (congrArg (fun z=>Option.bind z _) hf).trans ?_
 rw [Aai,Ah5,Aai,Aug,Aai]
 unfold Bag fnG
 rw [eb,List.nil_append,show ((D.length+1:Nat):Int)=(D.length:Int)+1 by omega]
 rfl
theorem Ctn (hk:500060+5 * d≤k) (lo:List ByteArray) (c:Cd) (D T:List (Option Agk)) (u:Agk) (x:Tree) (hx:Au6 x) (hg:gw x) (hd:sz x≤d) (hu:u.2.2.2.2=[]) (hus:u.2.2.2.1.length≤400000) (hD:D.length≤900000)
  (hB:BdX cx lo (c.length - 1) [] (sz x)) (hn:holes 0 (A0v cx.gl cx.src d u.2.2.2.1 x)=[]) :
  (GS.at (k+4)).Ahl cx.cs c cx.src cx.gl lo [] (D.length:Int) (D++some u :: T) x.kind x.text x.n x.at_ x.kids=some (c++[i1 11 (D.length:Int)]++[i1 9 (glN cx.gl x.text)],lo,[],((D.length+1:Nat):Int),D++some (Bag u (fnG cx.gl cx.src d u.2.2.2.1 x)) :: T):=by
 obtain ⟨a,t,l,b,rfl,hb⟩:=A7z hx
 obtain ⟨_,hg⟩:=hg
 obtain ⟨_,gb,_⟩:=A6r.1 hg
 have hc:=hB.c
 have hlo:=hB.lo
 simp only [sz,szs,Ah6] at hd hc hlo
 have hs:=Akl l
 show Ahl.g (GS.at (k+3)) (k+3) cx.cs c cx.src cx.gl lo [] (D.length:Int) (D++some u :: T) 31 t (l.length:Nat) a (l++[b])=_
 unfold Ahl.g
 simp only [Int.reduceBEq,cond_true,cond_false]
 rw [add1 _ _ _ _ (by unfold mx;omega),Aai,Bsz _ _ _ hB.gl (by omega),Aai,add1 _ _ _ _ (by rw [Abj];simp only [Aa4,Acg];unfold mx;omega),Aai]
 have hi:=C27 (gl:=cx.gl) (src:=cx.src) (d:=d) (k:=k) (by omega) D T u t a l b hb gb (by omega) hu hus hB.gl hB.src (by omega) (by omega) (by omega) hn
 refine (congrArg (fun z=>Option.bind z _) hi).trans ?_
 rw [Aai]
 rfl
theorem B2i {R:GS} (hS:ST R cx d)
  (hF:∀ (lo:TyC) (c:Cd) (D T:List (Option Agk)) (u:Agk) (x:Tree),Au6 x→gw x→sz x≤d→u.2.2.2.2=[]→u.2.2.2.1.length≤400000→D.length≤900000→BdX cx lo (c.length - 1) [] (sz x)→holes 0 (A0v cx.gl cx.src d u.2.2.2.1 x)=[] →
   R.Ahl cx.cs c cx.src cx.gl lo [] (D.length:Int) (D++some u :: T) x.kind x.text x.n x.at_ x.kids=some (c++[i1 11 (D.length:Int)]++[i1 9 (glN cx.gl x.text)],lo,[],((D.length+1:Nat):Int),D++some (Bag u (fnG cx.gl cx.src d u.2.2.2.1 x)) :: T))
  (J:Cd→List ByteArray→List (List Int)→Int→List (Option Agk)→A3m) :
  ∀ (t pre:List Tree) (lo:TyC) (c:Cd) (D:List (Option Agk)) (U:List Agk) (m:Nat),500000+t.length≤m→pre.length+t.length≤400000→(∀ x ∈ t,IsS x∨Au6 x)→gws t→szs t≤d→D.length+t.length≤900000→okU cx.gl cx.src d t U→BdX cx lo c.length [] (szs t) →
   holes c.length (Amv cx d lo c.length D.length t)=[] →
   ∃ lo' nx',lo <+: lo'∧Ahw.l0 m R cx.cs cx.src cx.gl (pre++t) J (pre.length:Int) c lo [] (D.length:Int) (D++U.map some)=J (c++Aec 0 (Amv cx d lo c.length D.length t)) lo' [] nx' (D++(Atv cx.gl cx.src d t U).map some)
 | [],pre,lo,c,D,U,m,hm,hl,hI,hg,hd,hD,hU,hB,hn=>by
  obtain ⟨m,rfl⟩:∃ m',m=m'+1:=⟨m - 1,by omega⟩
  refine ⟨lo,(D.length:Int),List.prefix_refl _,?_⟩
  simp only [Ahw.l0]
  rw [ltF (by simp),cond_false]
  simp [Amv,Aec,Atv]
 | x :: t,pre,lo,c,D,U,m,hm,hl,hI,hg,hd,hD,hU,hB,hn=>by
  obtain ⟨m,rfl⟩:∃ m',m=m'+1:=⟨m - 1,by omega⟩
  simp only [Aa4] at hl hm hD
  simp only [szs] at hd hB
  obtain ⟨y,z,hp⟩:=Ciy m cx.src x.at_ hB.src (by omega)
  have hc:=hB.c
  have hxp:=Asu x
  have l1:∀ (D:Cd) (i:Ins),(D++[i]).length=D.length+1:=fun D i=>by simp
  have e2:(pre++[x])++t=pre++x :: t:=by simp
  have e3:((pre++[x]).length:Int)=(pre.length:Int)+1:=by simp
  simp only [Ahw.l0]
  rw [ltT (by simp;omega),cond_true,Ah5,Aai,hp,Aai,add1 _ _ _ _ (by unfold mx;omega),Aai]
  rcases hI x (Af5 ..) with hx | hx
  ·have h31:=Bwl hx
   simp only [Amv,if_neg h31] at hn ⊢
   simp only [Atv,okU,if_neg h31] at hU ⊢
   have hX:=Bix (cx:=cx) d lo (c.length+1) x hx
   obtain ⟨hlo,hlo2⟩:=Ck8 (cx:=cx) d lo (c.length+1) x hx
   have hlen:(c++[i1 1 (Apb cx.src x.at_)]++Aec 0 (Ad8 cx d lo (c.length+1) x).1).length=c.length+1+(Ad8 cx d lo (c.length+1) x).1.length:=by rw [Abj,l1,Am2]
   rw [show holes c.length (some (i1 1 (Apb cx.src x.at_)) :: ((Ad8 cx d lo (c.length+1) x).1++Amv cx d (Ad8 cx d lo (c.length+1) x).2 (c.length+1+(Ad8 cx d lo (c.length+1) x).1.length) D.length t))=holes (c.length+1) (Ad8 cx d lo (c.length+1) x).1++holes (c.length+1+(Ad8 cx d lo (c.length+1) x).1.length) (Amv cx d (Ad8 cx d lo (c.length+1) x).2 (c.length+1+(Ad8 cx d lo (c.length+1) x).1.length) D.length t) from Arx] at hn
   obtain ⟨hn1,hn2⟩:=List.append_eq_nil_iff.1 hn
   have hst:=hS lo (c++[i1 1 (Apb cx.src x.at_)]) [] (D.length:Int) (D++U.map some) x hx hg.1 (by omega) (hB.to (by omega) (by rw [l1];omega) (by omega)) (by rw [l1];exact .inr hn1)
   rw [l1,hn1,Bk0] at hst
   obtain ⟨lo',nx',h1,h2⟩:=B2i hS hF J t (pre++[x]) (Ad8 cx d lo (c.length+1) x).2 (c++[i1 1 (Apb cx.src x.at_)]++Aec 0 (Ad8 cx d lo (c.length+1) x).1) D U m (by omega) (by simp;omega) (fun y hy=>hI y (Ahb _ hy)) hg.2 (by omega) (by omega) hU (hB.to (by omega) (by rw [hlen];omega) (by omega)) (by rw [hlen];exact hn2)
   refine ⟨lo',nx',hlo.trans h1,?_⟩
   rw [e2,e3,hlen] at h2
   refine (congrArg (fun z=>Option.bind z _) hst).trans ?_
   rw [Aai,wiC _ (by omega) (by omega)]
   refine h2.trans ?_
   rw [show Aec 0 (some (i1 1 (Apb cx.src x.at_)) :: ((Ad8 cx d lo (c.length+1) x).1++Amv cx d (Ad8 cx d lo (c.length+1) x).2 (c.length+1+(Ad8 cx d lo (c.length+1) x).1.length) D.length t))=i1 1 (Apb cx.src x.at_) :: (Aec 0 (Ad8 cx d lo (c.length+1) x).1++Aec 0 (Amv cx d (Ad8 cx d lo (c.length+1) x).2 (c.length+1+(Ad8 cx d lo (c.length+1) x).1.length) D.length t)) from congrArg (i1 1 (Apb cx.src x.at_) :: ·) A3x]
   simp only [Aep,List.cons_append,List.nil_append]
  ·have h31:x.kind=31:=by obtain ⟨_,_,_,_,rfl,_⟩:=A7z hx;rfl
   simp only [Amv,if_pos h31] at hn ⊢
   simp only [Atv,okU,if_pos h31] at hU ⊢
   obtain ⟨u,V,rfl,hu,hus,hh,hV⟩:=hU
   have hst:=hF lo (c++[i1 1 (Apb cx.src x.at_)]) D (V.map some) u x hx hg.1 (by omega) hu hus (by omega) (hB.to (by omega) (by rw [l1];omega) (by omega)) hh
   have hlen:(c++[i1 1 (Apb cx.src x.at_)]++[i1 11 (D.length:Int)]++[i1 9 (glN cx.gl x.text)]).length=c.length+3:=by rw [l1,l1,l1]
   have lD:(D++[some (Bag u (fnG cx.gl cx.src d u.2.2.2.1 x))]).length=D.length+1:=by simp
   obtain ⟨lo',nx',h1,h2⟩:=B2i hS hF J t (pre++[x]) lo (c++[i1 1 (Apb cx.src x.at_)]++[i1 11 (D.length:Int)]++[i1 9 (glN cx.gl x.text)]) (D++[some (Bag u (fnG cx.gl cx.src d u.2.2.2.1 x))]) V m (by omega) (by simp;omega) (fun y hy=>hI y (Ahb _ hy)) hg.2 (by omega) (by rw [lD];omega) hV (hB.to (by omega) (by rw [hlen];omega) (by omega)) (by rw [hlen,lD];exact hn)
   refine ⟨lo',nx',h1,?_⟩
   rw [e2,e3,hlen,lD,show ∀ (A B:List (Option Agk)) (z:Option Agk),A++[z]++B=A++z :: B from fun A B z=>by simp,show ∀ (A B:List (Option Agk)) (z:Option Agk),A++[z]++B=A++z :: B from fun A B z=>by simp] at h2
   refine (congrArg (fun z=>Option.bind z _) hst).trans ?_
   rw [Aai,wiC _ (by omega) (by omega)]
   refine h2.trans ?_
   simp only [Aec,List.map_cons,Option.getD_some,Aep,List.cons_append,List.nil_append]
end
theorem Cin (s:ByteArray):(∃ c a,c≠0∧At9 s=A2o c a)∨∃ n,At9 s=Bae n∧wfC n∧sz n≤80010∧IsC n∧s.size≤20000:=by
 cases hs:Aq7 (bs s) with
 | inl x =>
  obtain ⟨c,p⟩:=x
  exact .inl ⟨c,p,B1k _ _ _ hs,Cir hs⟩
 | inr t =>
  have hT:=B1r s t hs
  rcases B2y hT with ⟨b,r,hb,hB,⟨_,he⟩ | ⟨_,he⟩⟩ | ⟨j,hb,he⟩
  ·refine .inr ⟨b,Ciu hs he,?_,?_,De7 hb,?_⟩
   ·obtain ⟨⟨a,l,rfl,hl⟩,_⟩:=(wS (fu _)).block true _ (Ckj hs) _ _ (val_ok hb)
    exact ⟨rfl,Anr,fun x hx=>Or.elim (hl x hx) .inl (fun h=>.inr h.2)⟩
   ·have:=hB.size;have:=hT.len;omega
   ·unfold Aq7 at hs
    split at hs
    ·cases hs
    ·have:=Agx s
     omega
  ·exact .inl ⟨4,_,by decide,Bn9 hs he⟩
  ·exact .inl ⟨4,_,by decide,Bn9 hs he⟩
theorem Clv {gl:TyC} {src:ByteArray} {d:Nat}:∀ (l:List Tree) (d':Nat) (s s':CSt),(∀ x ∈ l,IsS x∨Au6 x)→(∀ x ∈ l,Bpi x)→gws l→Agg (fun s x=>Adm d' [] s x false) s l=.ok s'→s.lp=0→pot s+4 * szs l+100≤400000 →
  ∃ fs2,s'.fs=s.fs++fs2∧okU gl src d l (fs2.map A0e)∧∀ cs lo p nx,holes p (Amv ⟨cs,gl,src⟩ d lo p nx l)=[]
 | [],d',s,s',_,_,_,h,_,_=>by cases h;exact ⟨[],by simp,trivial,fun _ _ _ _=>rfl⟩
 | x :: l,d',s,s',hI,hT,hg,h,h0,hp=>by
  unfold Agg at h
  obtain ⟨s1,h1,h⟩:=Acf h
  have post:=Aml hg.1 h1
  have Dj7:=post.pot
  simp only [szs] at hp
  obtain ⟨fs2,e1,e2,e3⟩:=Clv (gl:=gl) (src:=src) (d:=d) l d' s1 s' (fun y hy=>hI y (Ahb _ hy)) (fun y hy=>hT y (Ahb _ hy)) hg.2 h (by rw [post.lp];exact h0) (by omega)
  rcases hI x (Af5 ..) with hx | hx
  ·have h31:=Bwl hx
   have hw:wfT x:=(hT x (Af5 ..)).elim id fun h=>absurd (by cases x;exact h.2.1) h31
   refine ⟨fs2,by rw [e1,A4l hw h1],?_,fun cs lo p nx=>?_⟩
   ·simp only [okU,if_neg h31];exact e2
   ·simp only [Amv,if_neg h31]
    show holes (p+1) (_++_)=[]
    rw [Arx,noh d lo (p+1) x hx d' [] s s1 hg.1 h1 h0,List.nil_append]
    exact e3 _ _ _ _
  ·have hfn:fnT x:=(hT x (Af5 ..)).elim (fun h=>by obtain ⟨_,_,_,_,rfl,_⟩:=A7z hx;exact absurd rfl h.1.2.1) id
   obtain ⟨a,t,m,b,rfl,hb⟩:=A7z hx
   obtain ⟨_,_,_,hws⟩:=hfn
   have hwb:wfT b:=by rw [Ajz] at hws;exact hws b (by simp)
   have hgb:gw b:=Azc hwb
   have hk:Adu (m++[b]) m.length=b:=by simp [Adu]
   have h1':=h1
   cases d' with
   | zero=>unfold Adm at h1;cases h1
   | succ d' =>
    unfold Adm at h1
    rw [if_neg (by decide),if_pos rfl] at h1
    obtain ⟨_,_,h1⟩:=Acf h1
    split at h1
    ·cases h1
    obtain ⟨_,_,h1⟩:=Acf h1
    obtain ⟨r,hr,h1⟩:=Acf h1
    obtain ⟨sb,h2,h1⟩:=Acf h1
    rw [Int.toNat_natCast,hk] at h2
    cases h1
    have hfs:=A4l hwb h2
    have pb:=Aml hgb h2
    have hpb:=pb.pot
    have hbr:=Azi hr
    have hgl:=Bek s.gl t
    refine ⟨(t,a,(m.length:Nat),sb.sl,sb.cs) :: fs2,by rw [e1,hfs];simp,?_,fun cs lo p nx=>?_⟩
    ·simp only [okU,Tree.kind,if_true,List.map_cons]
     refine ⟨_,_,rfl,rfl,?_,?_,e2⟩
     ·show sb.cs.length≤400000
      simp only [pot,Acg] at hpb hp
      simp only [sz,szs,Ah6] at hp
      omega
     ·show holes 0 (Agc ⟨_,gl,src⟩ d _ 0 (Adu (m++[b]) ((m.length:Nat):Int).toNat))=[]
      rw [Int.toNat_natCast,hk]
      exact Bns (fun lo p t h=>noh d lo p t h) b _ 0 d' s.lo _ sb hb hgb h2 rfl
    ·simp only [Amv,Tree.kind,if_true]
     exact e3 _ _ _ _
def dG:Nat:=80010
def B9n (src:ByteArray) (n:Tree) (s:CSt):List Agk :=
 (⟨#[]⟩,0,s.sl,s.cs,Aec 0 (Amv ⟨s.cs,s.gl,src⟩ dG [] 0 1 n.kids)++[i0 22]++[i0 25]) :: Atv s.gl src dG n.kids (s.fs.tail.map A0e)
def Bsw (src:ByteArray):List Agk×List ByteArray×Int×Int :=
 match At9 src with
 | (kd,tx,n,a,l,c,p)=>if c≠0 then ([],[],c,p) else
  match A5a 100000 (.mk kd tx n a l) with
  | .bad e=>([],[],e.1,e.2)
  | .ok s=>(B9n src (.mk kd tx n a l) s,s.gl,0,0)
theorem Cl2 (J:List (Option Agk)→Option (List (Option Agk)×TyC×Int×Int)) (l0:List (Option Arj)):∀ (t:List Arj) (D:List (Option Arj)) (m:Nat) (r:List (Option Agk)),D.length+t.length=l0.length→t.length < m→l0.length≤400000→r.length+t.length≤400000 →
  Aod.l0 m J l0 (D++t.map some) (D.length:Int) r=J (r++t.map fun x=>some (A0e x))
 | [],D,m,r,hl,hm,h1,h2=>by
  obtain ⟨m,rfl⟩:∃ m',m=m'+1:=⟨m - 1,by omega⟩
  simp only [Aod.l0]
  rw [ltF (by simp only [Acg] at hl;omega),cond_false]
  simp
 | x :: t,D,m,r,hl,hm,h1,h2=>by
  obtain ⟨m,rfl⟩:∃ m',m=m'+1:=⟨m - 1,by omega⟩
  simp only [Aa4] at hl hm h2
  simp only [Aod.l0,List.map_cons]
  rw [ltT (by omega),cond_true,Ah5,Aai,Aai,Aug,Aai,Awj (by simp only [Aa4,Acg];omega),Aai,wiC _ (by omega) (by omega)]
  have ih:=Cl2 J l0 t (D++[none]) m (r++[some (A0e x)]) (by simp;omega) (by omega) h1 (by simp;omega)
  rw [show D++[none]++t.map some=D++none :: t.map some by simp,show ((D++[(none:Option Arj)]).length:Int)=(D.length:Int)+1 by simp] at ih
  refine (show _=_ from ih).trans ?_
  rw [Aep]
  rfl
theorem B2e {cx:GCx} {d:Nat}:∀ (l:List Tree) (lo:List ByteArray) (p nx:Nat),(∀ x ∈ l,IsS x∨Au6 x)→(Amv cx d lo p nx l).length≤5 * szs l
 | [],_,_,_,_=>Nat.zero_le _
 | x :: l,lo,p,nx,hI=>by
  have ih:=fun lo p nx=>B2e (cx:=cx) (d:=d) l lo p nx fun y hy=>hI y (Ahb _ hy)
  have hxp:=Asu x
  unfold Amv
  simp only [szs]
  split
  ·have:=ih lo (p+3) (nx+1)
   simp only [Aa4]
   omega
  ·rename_i h31
   have hx:IsS x:=(hI x (Af5 ..)).elim id fun h=>by obtain ⟨_,_,_,_,rfl,_⟩:=A7z h;exact absurd rfl h31
   have:=Bix (cx:=cx) d lo (p+1) x hx
   have:=ih (Ad8 cx d lo (p+1) x).2 (p+1+(Ad8 cx d lo (p+1) x).1.length) nx
   simp only [Aa4,Abj]
   omega
theorem Cqp {cx:GCx} {d j kk:Nat} (hk:500070+5 * d≤j) (l:List Tree) (t:ByteArray) (n a:Int) (U:List Agk) (hI:∀ x ∈ l,IsS x∨Au6 x) (hg:gws l) (hd:szs l≤d) (hd9:d≤85000) (hU:okU cx.gl cx.src d l U) (hcs:cx.cs.length≤400000) (hgl:cx.gl.length≤400000) (hsrc:cx.src.size≤400000)
  (hn:holes 0 (Amv cx d [] 0 1 l)=[]):∃ nx',Al8.g (GS.at (j+1)) kk cx.cs [] cx.src cx.gl [] [] 1 (none :: U.map some) 20 t n a l=some (Aec 0 (Amv cx d [] 0 1 l)++[i0 22]++[i0 25],[],[],nx',none :: (Atv cx.gl cx.src d l U).map some):=by
 have hs:=Akl l
 have hB:BdX cx [] ([]:Cd).length [] (szs l):=⟨hcs,hgl,hsrc,by show 0+_≤_;omega,by show 0+_≤_;omega,by show 0+0+_≤_;omega⟩
 obtain ⟨i,rfl⟩:∃ i,j=i+4:=⟨j - 4,by omega⟩
 have hlen:=B2e (cx:=cx) (d:=d) l [] 0 1 hI
 obtain ⟨lo',nx',e1,e2⟩:=B2i (Bpc d (i+4) (by omega)).1 (fun lo c D T u x h1 h2 h3 h4 h5 h6 h7 h8=>Ctn (by omega) lo c D T u x h1 h2 h3 h4 h5 h6 h7 h8) (fun (l2:Cd) (l7:TyC) (l12:TyL) (x17:Int) (l18:List (Option Agk))=>(Aiq l7 (0:Int) ((([]:TyC).length:Nat):Int)).bind fun l24=>some (l2,l24,l12,x17,l18)) l [] [] [] [none] U (i+4) (by omega) (by simp only [Acg];omega) hI hg hd (by simp only [Aa4,Acg];omega) hU hB hn
 refine ⟨nx',?_⟩
 unfold Al8.g
 have hblk:(GS.at (i+4+1)).Ahw cx.cs [] cx.src cx.gl [] [] 1 (none :: U.map some) 20 t n a l=some (Aec 0 (Amv cx d [] 0 1 l),[],[],nx',none :: (Atv cx.gl cx.src d l U).map some):=by
  show Ahw.g (GS.at (i+4)) (i+4) cx.cs [] cx.src cx.gl [] [] 1 (none :: U.map some) 20 t n a l=_
  unfold Ahw.g
  dsimp only [Adj]
  refine (show _=_ from e2).trans ?_
  rw [Bi9 e1,Aai,A4w e1]
  rfl
 rw [hblk,Aai,add0 _ _ _ (by rw [Am2];unfold mx;omega),Aai,add0 _ _ _ (by rw [Abj,Am2];simp only [Aa4,Acg];unfold mx;omega),Aai]
theorem gen_eq (k:Nat) (hk:950000≤k) (s:ByteArray):Aod.fS k s=some (Bsw s):=by
 unfold Aod.fS Aod.f Bsw
 rw [check_eq k (by omega),Ciz k (by omega),Aai,Aai]
 rcases Cin s with ⟨c,p,hc,he⟩ | ⟨n,he,hw,hz,hI,hs⟩
 ·rw [he]
  unfold A2o
  simp only
  rw [if_pos hc,if_pos hc]
  simp only
  rw [show (c != 0)=true by rw [bne_iff_ne];exact hc,cond_true]
  rfl
 ·rw [he]
  unfold Bae
  simp only [ne_eq,not_true_eq_false,if_false]
  obtain ⟨hg,_⟩:=B3a hw
  have e:Tree.mk n.kind n.text n.n n.at_ n.kids=n:=by cases n;rfl
  rw [e]
  cases hn:A5a 100000 n with
  | bad e =>
   have he:e.1≠0:=by
    unfold A5a at hn
    split at hn
    ·cases hn;show (6:Int)≠0;decide
    ·have:=(Cg8 (by omega) hg hn).1
     omega
   simp only [Boy]
   rw [show (e.1 != 0)=true by rw [bne_iff_ne];exact he,cond_true]
   rfl
  | ok s' =>
   have hn':=hn
   unfold A5a at hn
   split at hn
   ·cases hn
   cases hI with
   | chunk hI =>
    rename_i t0 l _ _
    obtain ⟨_,_,hT⟩:=hw
    have hg':=hg
    obtain ⟨_,hgl⟩:=hg
    have h20:=hn
    unfold Adm at h20
    rw [if_pos rfl] at h20
    obtain ⟨s1,h1,h20⟩:=Acf h20
    simp only [sz] at hz
    have hpp:=(Aml hg' hn).pot
    obtain ⟨fs2,e1,e2,e3⟩:=Clv (gl:=s'.gl) (src:=s) (d:=dG) _ _ st0 s1 hI hT hgl h1 rfl (by show 1+0+0+0+_+_≤_;omega)
    cases h20
    obtain ⟨fs,gl,sl,cs,lo,lp⟩:=s1
    have e1:fs=(⟨#[]⟩,0,0,0,[]) :: fs2:=e1
    subst e1
    simp only [pot,sz,st0,Aa4,Acg] at hpp
    obtain ⟨j,rfl⟩:∃ j,k=j+1:=⟨k - 1,by omega⟩
    obtain ⟨nx',hc⟩:=Cqp (cx:=⟨cs,gl,s⟩) (d:=dG) (j:=j) (kk:=j+1) (by unfold dG;omega) l t0 _ _ (fs2.map A0e) hI hgl (by unfold dG;omega) (by decide) e2 (by show cs.length≤_;omega) (by show gl.length≤_;omega) (by show s.size≤_;omega) (e3 cs [] 0 1)
    have hu:=fun (a:Int) J=>Cl2 J ((((⟨#[]⟩,a,0,sl,cs) :: fs2:List Arj)).map some) ((⟨#[]⟩,a,0,sl,cs) :: fs2) [] (j+1) [] (by simp) (by simp only [Aa4];omega) (by simp only [Aa4,List.length_map];omega) (by simp only [Aa4,Acg];omega)
    simp only [Boy,bne_self_eq_false,cond_false,Aai,Adj]
    refine (congrArg (fun z=>Option.bind z _) (hu _ _)).trans ?_
    have i0':∀ (x:Option Agk) (T:List (Option Agk)),Ack (x :: T) (0:Int)=some x:=fun _ _=>rfl
    have s0':∀ (x y:Option Agk) (T:List (Option Agk)),Akq (x :: T) (0:Int) y=some (y :: T):=fun x y T=>Aug [] x y T
    simp only [List.map_cons,List.nil_append,i0',s0',Aai]
    rw [show (fs2.map fun x=>some (A0e x))=(fs2.map A0e).map some by simp]
    refine (congrArg (fun z=>Option.bind (Option.bind z _) _) hc).trans ?_
    simp only [i0',s0',Aai]
    rw [show ∀ (u:Agk) (U:List Agk),some u :: U.map some=(u :: U).map some from fun _ _=>rfl,B54]
    rfl
structure Mo (s s':CSt):Prop where
 gl:s.gl <+: s'.gl
 cs:s.cs <+: s'.cs
 sl:s.sl≤s'.sl
 lo:(s.lo.length:Int)≤s.sl→(s'.lo.length:Int)≤s'.sl
 hi:s.sl≤60→s'.sl≤60
theorem Mo.refl (s:CSt):Mo s s:=⟨List.prefix_refl _,List.prefix_refl _,Int.le_refl _,id,id⟩
theorem Mo.trans {s t u:CSt} (h:Mo s t) (h':Mo t u):Mo s u:=⟨h.gl.trans h'.gl,h.cs.trans h'.cs,Int.le_trans h.sl h'.sl,fun x=>h'.lo (h.lo x),fun x=>h'.hi (h.hi x)⟩
theorem B53 (gl:List ByteArray) (t:ByteArray):gl <+: Ava gl t:=by
 unfold Ava;split
 ·exact List.prefix_refl _
 ·exact ⟨_,rfl⟩
theorem Cqx {a:Int} {cs cs':List V3} {v:V3} (h:Avj a cs v=.ok cs'):cs <+: cs':=by
 unfold Avj at h
 split at h
 ·cases h;exact List.prefix_refl _
 ·obtain ⟨_,_,h⟩:=Acf h
  cases h;exact ⟨_,rfl⟩
theorem C7r {a:Int} {t:ByteArray} {gl lo ab gl':List ByteArray} (h:Aym a t gl lo ab=.ok gl'):gl <+: gl':=by
 unfold Aym at h
 split at h
 ·cases h
 split at h
 ·cases h;exact List.prefix_refl _
 split at h
 ·cases h
 ·cases h;exact B53 _ _
theorem Ayl {f:CSt→Tree→PC CSt}:∀ {l:List Tree} {s s':CSt},(∀ s x s',x ∈ l→f s x=.ok s'→Mo s s')→Agg f s l=.ok s'→Mo s s'
 | [],s,s',_,h=>by cases h;exact Mo.refl _
 | x :: l,s,s',hf,h=>by
  unfold Agg at h
  obtain ⟨s1,h1,h⟩:=Acf h
  exact (hf _ _ _ (Af5 ..) h1).trans (Ayl (fun s y s' hy=>hf s y s' (Ahb _ hy)) h)
theorem Bx2 {f:CSt→Tree→Bool→PC CSt} {n:Int}:∀ {l:List Tree} {i:Nat} {s s':CSt},(∀ s x b s',x ∈ l→f s x b=.ok s'→Mo s s')→Aos f n i s l=.ok s'→Mo s s'
 | [],_,s,s',_,h=>by cases h;exact Mo.refl _
 | x :: l,i,s,s',hf,h=>by
  unfold Aos at h
  obtain ⟨s1,h1,h⟩:=Acf h
  exact (hf _ _ _ _ (Af5 ..) h1).trans (Bx2 (fun s y b s' hy=>hf s y b s' (Ahb _ hy)) h)
theorem Cgr {f:CSt→Tree→PC CSt} {a:Int} {s s':CSt} {names:List Tree} {b:Tree} {more:Nat} (h:Apy f a s names b more=.ok s') :
  ∃ s1 s2,f s1 b=.ok s2∧s1.gl=s.gl∧s1.cs=s.cs∧s1.lp=s.lp+1∧s'.gl=s2.gl∧s'.cs=s2.cs∧s'.sl=s2.sl∧s'.lo=s2.lo.take s.lo.length ∧
   ((more=0∧s1.sl=s.sl∧s1.lo=s.lo)∨(more > 0∧s1.lo=s.lo++List.replicate more ⟨#[]⟩++names.map Tree.text∧s1.sl=max s.sl (s1.lo.length:Int)∧s1.lo.length≤60)):=by
 unfold Apy at h
 obtain ⟨r,h1,h⟩:=Acf h
 obtain ⟨s2,h2,h⟩:=Acf h
 cases h
 refine ⟨_,s2,h2,rfl,rfl,rfl,rfl,rfl,rfl,rfl,?_⟩
 split at h1
 ·rename_i hm
  have hb:=Azi h1
  exact .inr ⟨hm,hb.1,hb.2.2,hb.2.1⟩
 ·cases h1
  exact .inl ⟨by omega,rfl,rfl⟩
theorem Bx4 {f:CSt→Tree→PC CSt} {a:Int} {s s':CSt} {names:List Tree} {b:Tree} {more:Nat} (hf:∀ s s',f s b=.ok s'→Mo s s'∧s.lo <+: s'.lo) (h:Apy f a s names b more=.ok s'):Mo s s'∧s'.lo=s.lo:=by
 obtain ⟨s1,s2,h1,h2,h3,_,h4,h5,h6,h7,h8⟩:=Cgr h
 obtain ⟨m,hp⟩:=hf _ _ h1
 have hlo:s.lo <+: s1.lo:=by
  rcases h8 with ⟨_,_,e⟩ | ⟨_,e,_,_⟩
  ·rw [e];exact List.prefix_refl _
  ·rw [e,Aep];exact ⟨_,rfl⟩
 have hsl:s.sl≤s1.sl:=by
  rcases h8 with ⟨_,e,_⟩ | ⟨_,_,e,_⟩
  ·rw [e];exact Int.le_refl _
  ·rw [e];omega
 have hhi:s.sl≤60→s1.sl≤60:=fun x=>by
  rcases h8 with ⟨_,e,_⟩ | ⟨_,_,e,e'⟩
  ·rw [e];exact x
  ·omega
 have e:s'.lo=s.lo:=by rw [h7,A4w (hlo.trans hp)]
 refine ⟨⟨?_,?_,?_,fun x=>?_,fun x=>by rw [h6];exact m.hi (hhi x)⟩,e⟩
 ·rw [h4,← h2];exact m.gl
 ·rw [h5,← h3];exact m.cs
 ·rw [h6];exact Int.le_trans hsl m.sl
 ·rw [e,h6];exact Int.le_trans x (Int.le_trans hsl m.sl)
theorem Akc:∀ {d:Nat} {ab:List ByteArray} {s s':CSt} {t:Tree} {tg:Bool},wfT t→Adm d ab s t tg=.ok s'→Mo s s'
  | 0,_,_,_,_,_,_,h=>by unfold Adm at h;cases h
  | d+1,ab,s,s',.mk k t n a l,tg,hw,h=>by
    have hw0:=hw
    obtain ⟨⟨hs1,h31,hs7,A1v,A1w,A7s,A1x⟩,hw⟩:=hw
    rw [Ajz] at hw
    have hN:∀ {m:List Tree} {ab s s'},(∀ x ∈ m,x ∈ l)→Agg (fun s x=>Adm d ab s x false) s m=.ok s'→Mo s s':=fun hm h=>Ayl (fun s x s' hx h=>Akc (hw x (hm x hx)) h) h
    have hP:∀ {a:Int} {names:List Tree} {b:Tree} {more:Nat} {ab s s'},b ∈ l→Apy (fun s x=>Adm d ab s x false) a s names b more=.ok s'→Mo s s':=fun hb h=>(Bx4 (fun s s' h=>⟨Akc (hw _ hb) h,(Aml (Azc (hw _ hb)) h).pre⟩) h).1
    unfold Adm at h
    split at h
    · obtain ⟨s1,h1,h⟩:=Acf h;cases h
      have m:=hN (fun _ h=>h) h1
      have hp:s.lo <+: s1.lo:=(Bhm (fun s x s' hx h=>Aml (Azc (hw x hx)) h) h1).pre
      refine ⟨m.gl,m.cs,m.sl,fun x=>?_,m.hi⟩
      show ((s1.lo.take s.lo.length).length:Int)≤s1.sl
      rw [A4w hp]
      exact Int.le_trans x m.sl
    split at h
    · obtain ⟨_,_,h⟩:=Acf h
      obtain ⟨_,_,h⟩:=Acf h
      obtain ⟨s1,h1,h⟩:=Acf h
      obtain ⟨r,h2,h⟩:=Acf h
      cases h
      have m:=hN (fun x hx=>List.mem_of_mem_drop hx) h1
      have hb:=Azi h2
      refine m.trans ⟨List.prefix_refl _,List.prefix_refl _,?_,fun x=>?_,fun x=>?_⟩
      · show s1.sl≤r.1;omega
      · show (r.2.length:Int)≤r.1;omega
      · show r.1≤60;omega
    split at h
    · obtain ⟨_,_,h⟩:=Acf h
      obtain ⟨_,_,h⟩:=Acf h
      exact Bx2 (fun s x b s' hx h=>Akc (hw x hx) h) h
    split at h
    · rename_i hk
      have h2:=A1v hk
      obtain ⟨s1,h1,h⟩:=Acf h
      exact (Akc (hw _ (Amh (by omega)).2) h1).trans (hP (Amh (by omega)).2 h)
    split at h
    · rename_i hk
      have h2:=A1w hk
      obtain ⟨s1,h1,h⟩:=Acf h
      exact (hN (fun x hx=>List.mem_of_mem_drop (List.mem_of_mem_take hx)) h1).trans (hP (Amh (by omega)).2 h)
    split at h
    · rename_i hk
      obtain ⟨m,rfl,hm⟩:=A1x hk
      obtain ⟨_,_,h⟩:=Acf h
      obtain ⟨_,_,h⟩:=Acf h
      obtain ⟨s1,h1,h⟩:=Acf h
      exact (hN (fun x hx=>List.mem_of_mem_drop (List.mem_of_mem_take hx)) h1).trans (hP (Amh (by omega)).2 h)
    split at h
    · split at h
      · cases h
      · cases h;exact Mo.refl _
    · have X:∀ {s s':CSt},Agg (fun s x=>Adm d ab s x false) s l=.ok s'→Mo s s':=fun h=>hN (fun _ h=>h) h
      unfold Ali at h
      (repeat' split at h) <;> first
        | (cases h;done)
        | (cases h;exact Mo.refl _)
        | exact X h
        | (obtain ⟨_,h0,h⟩:=Acf h;have h2:=X (show Agg (fun s x=>Adm d ab s x false) _ l=_ from h)
           first
             | exact h2
             | (refine Mo.trans ?_ h2;exact ⟨List.prefix_refl _,Cqx h0,Int.le_refl _,id,id⟩)
             | (refine Mo.trans ?_ h2;exact ⟨C7r h0,List.prefix_refl _,Int.le_refl _,id,id⟩))
structure Qty where
 nU:Nat
 gl:Nat
 cs:Nat
 sl:Int
structure okI (E:Qty) (q:Nat) (z:Ins):Prop where
 op:1≤z.1∧z.1≤34
 c2:z.1=2→1≤z.2.1∧z.2.1≤E.cs
 c6:z.1=6∨z.1=7→1≤z.2.1∧z.2.1≤E.sl
 c8:z.1=8∨z.1=9→1≤z.2.1∧z.2.1≤E.gl
 c11:z.1=11→1≤z.2.1∧z.2.1 < E.nU
 c10:z.1=10→12≤z.2.1∧z.2.1≤22
 c30:z.1=30∨z.1=31→1≤z.2.1∧z.2.1≤E.sl - 3
 c32:z.1=32→1≤z.2.1∧z.2.1≤E.sl - 2
 c33:z.1=33→1≤z.2.1∧1≤z.2.2.2∧z.2.2.2≤E.sl∧z.2.1≤E.sl - 2 - z.2.2.2
 ja:z.1=18∨z.1=19∨z.1=20∨z.1=21→0≤z.2.1∧z.2.1≤q
 jb:z.1=30∨z.1=31∨z.1=33→0≤z.2.2.1∧z.2.2.1≤q
def Dbw (o:Int):Bool:=decide (1≤o∧o≤34∧o≠2∧o≠6∧o≠7∧o≠8∧o≠9∧o≠10∧o≠11∧o≠18∧o≠19∧o≠20∧o≠21∧o≠30∧o≠31∧o≠32∧o≠33)
section
variable {E:Qty} {q:Nat} {a b c:Int}
theorem Alc {o:Int} (h:Dbw o=true):okI E q (o,a,b,c):=by
 have h:=of_decide_eq_true h
 constructor <;> (simp only;omega)
theorem Ch8 (h:1≤a∧a≤E.cs):okI E q (i1 2 a):=by
 constructor <;> (simp only [i1];omega)
theorem Bb5 {o:Int} (ho:o=6∨o=7) (h:1≤a∧a≤E.sl):okI E q (i1 o a):=by
 constructor <;> (simp only [i1];omega)
theorem Bzt {o:Int} (ho:o=8∨o=9) (h:1≤a∧a≤E.gl):okI E q (i1 o a):=by
 constructor <;> (simp only [i1];omega)
theorem Da2 (h:12≤a∧a≤22):okI E q (i1 10 a):=by
 constructor <;> (simp only [i1];omega)
theorem Dax (h:1≤a∧a < E.nU):okI E q (i1 11 a):=by
 constructor <;> (simp only [i1];omega)
theorem A2n {o:Int} (ho:o=18∨o=19∨o=20∨o=21) (h:0≤a∧a≤q):okI E q (i1 o a):=by
 constructor <;> (simp only [i1];omega)
theorem Cia {o:Int} (ho:o=30∨o=31) (h:1≤a∧a≤E.sl - 3) (hb:0≤b∧b≤q):okI E q (o,a,b,c):=by
 constructor <;> (simp only;omega)
theorem Da1 (h:1≤a∧a≤E.sl - 2):okI E q (i1 32 a):=by
 constructor <;> (simp only [i1];omega)
theorem Daz (h:1≤a∧1≤c∧c≤E.sl∧a≤E.sl - 2 - c) (hb:0≤b∧b≤q):okI E q (i3 33 a b c):=by
 constructor <;> (simp only [i3];omega)
end
structure Up (E:Qty) (gF:List ByteArray) (cF:List V3) (lF:List ByteArray) (s s':CSt):Prop where
 lo:s.lo=lF
 sl:(lF.length:Int)≤s.sl
 gl:s'.gl <+: gF
 cs:s'.cs <+: cF
 sl':s'.sl≤E.sl
 eg:E.gl=gF.length
 ec:E.cs=cF.length
section
variable {E:Qty} {gl:List ByteArray} {cs:List V3} {lo:List ByteArray} {src:ByteArray} {s s1 s':CSt}
theorem Up.fst (h:Up E gl cs lo s s') (m:Mo s1 s'):Up E gl cs lo s s1:=⟨h.lo,h.sl,m.gl.trans h.gl,m.cs.trans h.cs,Int.le_trans m.sl h.sl',h.eg,h.ec⟩
theorem Up.snd (h:Up E gl cs lo s s') (m:Mo s s1) (e:s1.lo=s.lo):Up E gl cs lo s1 s':=⟨e.trans h.lo,Int.le_trans h.sl m.sl,h.gl,h.cs,h.sl',h.eg,h.ec⟩
def B5t (E:Qty) (gl:List ByteArray) (cs:List V3) (lo:List ByteArray) (f:CSt→Tree→PC CSt) (g:Int→Nat→Tree→Cd) (x:Tree):Prop :=
 ∀ s s',f s x=.ok s'→Up E gl cs lo s s'→∀ r p q,p+(g r p x).length≤q→∀ z ∈ g r p x,okI E q z
variable {f:CSt→Tree→PC CSt} {g:Int→Nat→Tree→Cd}
theorem Bim:∀ (l:List Tree) (s s':CSt),(∀ x ∈ l,B5t E gl cs lo f g x)→(∀ x ∈ l,∀ s s',f s x=.ok s'→Mo s s'∧s'.lo=s.lo)→Agg f s l=.ok s'→Up E gl cs lo s s'→s'.lo=s.lo∧Mo s s' ∧
  (∀ p q,p+(Ahg (g 1) p l).length≤q→∀ z ∈ Ahg (g 1) p l,okI E q z)∧(∀ p q,p+(Apl g p l).length≤q→∀ z ∈ Apl g p l,okI E q z)
 | [],s,s',_,_,h,_=>by cases h;exact ⟨rfl,Mo.refl _,fun _ _ _ _ h=>(nomatch h),fun _ _ _ _ h=>(nomatch h)⟩
 | x :: l,s,s',hS,hMo,h,hU=>by
  unfold Agg at h
  obtain ⟨s1,h1,h⟩:=Acf h
  have m2:Mo s1 s':=Ayl (fun s y s' hy h=>(hMo y (Ahb _ hy) s s' h).1) h
  obtain ⟨m1,e1⟩:=hMo x (Af5 ..) s s1 h1
  have k1:=hS x (Af5 ..) s s1 h1 (hU.fst m2)
  obtain ⟨e2,_,k2,k3⟩:=Bim l s1 s' (fun y hy=>hS y (Ahb _ hy)) (fun y hy=>hMo y (Ahb _ hy)) h (hU.snd m1 e1)
  refine ⟨e2.trans e1,m1.trans m2,fun p q hq z hz=>?_,fun p q hq z hz=>?_⟩
  ·simp only [Ahg,Abj] at hq hz
   rcases Agb.1 hz with hz | hz
   ·exact k1 1 p q (by omega) z hz
   ·exact k2 _ q (by omega) z hz
  ·cases l with
   | nil=>exact k1 (-1) p q hq z hz
   | cons y l =>
    simp only [Apl,Abj] at hq hz
    rcases Agb.1 hz with hz | hz
    ·exact k1 1 p q (by omega) z hz
    ·exact k3 _ q (by omega) z hz
theorem Cgp {t:ByteArray} (h:Up E gl cs lo s s') (m:Mo s s') (ht:Ar2 lo t > 0):1≤Ar2 lo t∧Ar2 lo t≤E.sl:=by
 refine ⟨ht,?_⟩
 have hl:∀ (l:List ByteArray) (t:ByteArray),At7 l t≤l.length:=fun l t=>by
  induction l with
  | nil=>exact Nat.le_refl _
  | cons y l ih =>
   unfold At7
   split
   ·exact Nat.le_refl _
   ·exact Nat.le_succ_of_le ih
 have:=hl lo.reverse t
 rw [List.length_reverse] at this
 have h1:=h.sl
 have h2:=h.sl'
 have h3:=m.sl
 unfold Ar2
 omega
theorem Bwp {X:ByteArray} {L:List ByteArray} (h:Aox L X=true):1≤ixS X L+1∧ixS X L+1≤L.length:=by
 unfold ixS
 rcases Bpo X.toList (L.map (·.toList)) 0 with ⟨_,h2⟩ | ⟨_,h2,h3⟩
 ·exfalso
  unfold Aox at h
  rw [List.any_eq_true] at h
  obtain ⟨y,hy,e⟩:=h
  exact h2 (List.mem_map.2 ⟨y,hy,(beq_iff_eq.1 e).symm⟩)
 ·rw [List.length_map] at h3
  omega
theorem Bty {L M:List ByteArray} {X:ByteArray} (h:Aox L X=true) (p:L <+: M):Aox M X=true:=by
 obtain ⟨t,rfl⟩:=p
 unfold Aox at h ⊢
 rw [List.any_append,h,Bool.true_or]
theorem Ca6 {L M:List V3} {v:V3} (h:Avr L v=true) (p:L <+: M):Avr M v=true:=by
 obtain ⟨t,rfl⟩:=p
 unfold Avr at h ⊢
 rw [List.any_append,h,Bool.true_or]
theorem B51 (L:List ByteArray) (X:ByteArray):Aox (Ava L X) X=true:=by
 unfold Ava
 split
 ·assumption
 ·unfold Aox;simp
theorem B7k {a:Int} {L L':List V3} {v:V3} (h:Avj a L v=.ok L'):Avr L' v=true:=by
 unfold Avj at h
 split at h
 ·cases h;assumption
 ·obtain ⟨_,_,h⟩:=Acf h
  cases h
  unfold Avr
  simp
theorem C66 {lo:List ByteArray} {t:ByteArray} (h:Aox lo t=true):Ar2 lo t > 0:=by
 have key:∀ l:List ByteArray,Aox l t=true→1≤At7 l t:=fun l=>by
  induction l with
  | nil=>intro h;cases h
  | cons y l ih =>
   intro h
   unfold At7
   split
   ·omega
   ·rename_i hy
    unfold Aox at h
    rw [List.any_cons,Bool.or_eq_true] at h
    rcases h with h | h
    ·exact absurd (by rw [beq_iff_eq] at h ⊢;exact h.symm) hy
    ·exact ih h
 have:Aox lo.reverse t=true:=by
  unfold Aox at h ⊢
  rw [List.any_reverse];exact h
 have:=key _ this
 unfold Ar2
 omega
theorem Cgz {a:Int} {t:ByteArray} {L lo ab L':List ByteArray} (h:Aym a t L lo ab=.ok L'):Ar2 lo t > 0∨Aox L' t=true:=by
 unfold Aym at h
 split at h
 ·cases h
 split at h
 ·cases h;exact .inl (C66 (by assumption))
 split at h
 ·cases h
 ·cases h;exact .inr (B51 _ _)
theorem C62 {x y:ByteArray} (hx:Ary x=true) (h:Apa (x++Ati++y).toList≠0):12≤Apa (x++Ati++y).toList∧Apa (x++Ati++y).toList≤22:=by
 have key:∀ n ∈ A9d,(46:UInt8) ∈ n→12≤Apa n∧Apa n≤22:=by decide +kernel
 have hm:(46:UInt8) ∈ (x++Ati++y).toList:=by
  have:(x++Ati++y).toList=bs (x++Ati++y):=Lib.toList_data _
  rw [this]
  simp [bs,Ati]
 have hin:(x++Ati++y).toList ∈ A9d:=by
  unfold Apa at h
  split at h
  ·exact absurd rfl h
  ·rcases Bpo (x++Ati++y).toList A9d 0 with ⟨h2,_⟩ | ⟨h2,_⟩
   ·rw [h2] at h;exact absurd rfl h
   ·exact h2
 exact key _ hin hm
theorem C4i {t:Tree} (h:IsE t∨IsF t):1≤t.kind∧t.kind≤14∧∀ x ∈ t.kids,IsE x∨IsF x:=by
 rcases h with h | h
 ·cases h with
  | atom h1 h2=>exact ⟨h1,Int.le_trans h2 (by decide),fun x hx=>(nomatch hx)⟩
  | index h1 h2=>exact ⟨by show (1:Int)≤7;decide,by show (7:Int)≤14;decide,fun x hx=>by
    rcases List.mem_cons.1 hx with rfl | hx
    ·exact .inl h1
    ·obtain rfl:=Ag1.1 hx;exact .inl h2⟩
  | call h1 h2=>exact ⟨by show (1:Int)≤8;decide,by show (8:Int)≤14;decide,fun x hx=>by
    rcases List.mem_cons.1 hx with rfl | hx
    ·exact .inl h1
    ·exact .inl (h2 x hx)⟩
  | paren h1=>exact ⟨by show (1:Int)≤9;decide,by show (9:Int)≤14;decide,fun x hx=>by obtain rfl:=Ag1.1 hx;exact .inl h1⟩
  | unary h1=>exact ⟨by show (1:Int)≤10;decide,by show (10:Int)≤14;decide,fun x hx=>by obtain rfl:=Ag1.1 hx;exact .inl h1⟩
  | binary h1 h2=>exact ⟨by show (1:Int)≤11;decide,by show (11:Int)≤14;decide,fun x hx=>by
    rcases List.mem_cons.1 hx with rfl | hx
    ·exact .inl h1
    ·obtain rfl:=Ag1.1 hx;exact .inl h2⟩
  | table h1=>exact ⟨by show (1:Int)≤12;decide,by show (12:Int)≤14;decide,fun x hx=>.inr (h1 x hx)⟩
 ·cases h with
  | item h1=>exact ⟨by show (1:Int)≤13;decide,by show (13:Int)≤14;decide,fun x hx=>by obtain rfl:=Ag1.1 hx;exact .inl h1⟩
  | field h1 h2=>exact ⟨by show (1:Int)≤14;decide,by show (14:Int)≤14;decide,fun x hx=>by
    rcases List.mem_cons.1 hx with rfl | hx
    ·exact .inl h1
    ·obtain rfl:=Ag1.1 hx;exact .inl h2⟩
theorem Bnp {f:CSt→Tree→PC CSt}:∀ {l:List Tree} {s s':CSt},(∀ x ∈ l,∀ s s',f s x=.ok s'→s'.lo=s.lo)→Agg f s l=.ok s'→s'.lo=s.lo
 | [],s,s',_,h=>by cases h;rfl
 | x :: l,s,s',hf,h=>by
  unfold Agg at h
  obtain ⟨s1,h1,h⟩:=Acf h
  rw [Bnp (fun y hy=>hf y (Ahb _ hy)) h,hf x (Af5 ..) s s1 h1]
theorem Aw0 {d:Nat} {ab:TyC} {s:CSt} {k n a:Int} {t:ByteArray} {l:List Tree} {tg:Bool} (h1:1≤k) (h2:k≤14):Adm (d+1) ab s (.mk k t n a l) tg=Ali (fun s l=>Agg (fun s x=>Adm d ab s x false) s l) ab s k t n a l tg:=by
 rw [Adm,if_neg (by omega),if_neg (by omega),if_neg (by omega),if_neg (by omega),if_neg (by omega),if_neg (by omega),if_neg (by omega),if_neg (by omega)]
theorem Atu:∀ (d:Nat) (ab:List ByteArray) (s s':CSt) (t:Tree) (tg:Bool),IsE t∨IsF t→Adm d ab s t tg=.ok s'→s'.lo=s.lo
 | 0,_,_,_,_,_,_,h=>by unfold Adm at h;cases h
 | d+1,ab,s,s',.mk k t n a l,tg,hI,h=>by
  obtain ⟨h1,h2,h3⟩:=C4i hI
  have h1:1≤k:=h1
  have h2:k≤14:=h2
  rw [Aw0 h1 h2] at h
  have X:∀ {s s':CSt},Agg (fun s x=>Adm d ab s x false) s l=.ok s'→s'.lo=s.lo:=fun h=>Bnp (fun x hx s s' h=>Atu d ab s s' x false (h3 x hx) h) h
  unfold Ali at h
  (repeat' split at h) <;> first
   | (cases h;done)
   | (cases h;rfl)
   | exact X h
   | (obtain ⟨_,_,h⟩:=Acf h;have h2:=X (show Agg (fun s x=>Adm d ab s x false) _ l=_ from h);exact h2)
theorem Av8:∀ (d2:Nat) (t:Tree),IsE t→wfT t→∀ (d:Nat) (ab:List ByteArray) (tg:Bool),B5t E gl cs lo (fun s x=>Adm d ab s x tg) (Aby ⟨cs,gl,src⟩ lo d2) t
 | 0,t,_,_,_,_,_=>fun _ _ _ _ _ _ _ _ _ hz=>(nomatch hz)
 | d2+1,t,hI,hw,0,ab,tg=>fun s s' h _=>by dsimp only at h;unfold Adm at h;cases h
 | d2+1,t,hI,hw,d+1,ab,tg=>fun s s' h hU r p q hq z hz=>by
  have m:=Akc hw h
  have hI0:=hI
  have KE:∀ (l:List Tree),(∀ x ∈ l,IsE x)→Akw l→∀ s s',Agg (fun s x=>Adm d ab s x false) s l=.ok s'→Up E gl cs lo s s'→s'.lo=s.lo∧Mo s s' ∧
    (∀ p q,p+(Ahg (Aby ⟨cs,gl,src⟩ lo d2 1) p l).length≤q→∀ z ∈ Ahg (Aby ⟨cs,gl,src⟩ lo d2 1) p l,okI E q z)∧(∀ p q,p+(Apl (Aby ⟨cs,gl,src⟩ lo d2) p l).length≤q→∀ z ∈ Apl (Aby ⟨cs,gl,src⟩ lo d2) p l,okI E q z):=fun l hl hwl s s' h hU =>
   Bim l s s' (fun x hx=>Av8 d2 x (hl x hx) (Ajz.1 hwl x hx) d ab false) (fun x hx s s' h=>⟨Akc (Ajz.1 hwl x hx) h,Atu d ab s s' x false (.inl (hl x hx)) h⟩) h hU
  cases hI with
  | atom h1 h2 =>
   rename_i k n a t
   simp only at h
   rw [Aw0 h1 (by omega)] at h
   unfold Ali at h
   obtain rfl | rfl | rfl | rfl | rfl | rfl:k=1∨k=2∨k=3∨k=4∨k=5∨k=6:=by omega
   ·rw [B8d] at hz;rw [Ag1.1 hz];exact Alc rfl
   ·rw [B8j] at hz;rw [Ag1.1 hz];exact Alc rfl
   ·rw [B8k] at hz;rw [Ag1.1 hz];exact Alc rfl
   ·rw [B8l] at hz;rw [Ag1.1 hz]
    simp only [Int.reduceEq,if_false,if_true] at h
    obtain ⟨c1,h0,h⟩:=Acf h
    cases h
    have hv:=Ca6 (B7k h0) hU.cs
    rcases Bpp (2,n,⟨#[]⟩) cs 0 with ⟨_,e⟩ | ⟨_,e1,e2⟩
    ·rw [e] at hv;cases hv
    ·exact Ch8 (by rw [hU.ec];unfold csN;show 1≤Awd _ cs 0+1∧Awd _ cs 0+1≤_;omega)
   ·rw [B8n] at hz;rw [Ag1.1 hz]
    simp only [Int.reduceEq,if_false,if_true] at h
    obtain ⟨c1,h0,h⟩:=Acf h
    cases h
    have hv:=Ca6 (B7k h0) hU.cs
    rcases Bpp (3,0,t) cs 0 with ⟨_,e⟩ | ⟨_,e1,e2⟩
    ·rw [e] at hv;cases hv
    ·exact Ch8 (by rw [hU.ec];unfold csN;show 1≤Awd _ cs 0+1∧Awd _ cs 0+1≤_;omega)
   ·rw [Bsh] at hz;rw [Ag1.1 hz]
    simp only [Int.reduceEq,if_false,if_true] at h
    obtain ⟨c1,h0,h⟩:=Acf h
    cases h
    unfold Bnl
    split
    ·exact Bb5 (.inl rfl) (Cgp hU m (by assumption))
    ·rename_i hn
     rcases Cgz h0 with e | e
     ·rw [hU.lo] at e;exact absurd e hn
     ·exact Bzt (.inl rfl) (by rw [hU.eg];exact Bwp (Bty e hU.gl))
  | index h1 h2 =>
   rename_i n a t x y
   simp only at h
   rw [Aw0 (by decide) (by decide)] at h
   unfold Ali at h
   simp only [Int.reduceEq,if_false,true_and] at h
   rw [Bsj] at hq hz
   split at h
   ·rename_i hk
    rw [if_pos hk] at hz
    rw [Ag1.1 hz]
    split at h
    ·cases h
    ·rename_i hb
     refine Da2 (C62 hk.2 fun e=>hb ?_)
     unfold Bkw
     rw [show (Apa ((Adu [x,y] 0).text++Ati++(Adu [x,y] 1).text).toList == 0)=true from beq_iff_eq.2 e]
     simp
   ·rename_i hk
    rw [if_neg hk] at hq hz
    simp only [Abj,Aa4,Acg] at hq
    have k:=(KE [x,y] (fun u hu=>by
     rcases List.mem_cons.1 hu with rfl | hu
     ·exact h1
     ·obtain rfl:=Ag1.1 hu;exact h2) hw.2 s s' h hU).2.2.1
    rcases Agb.1 hz with hz | hz
    ·exact k p q (by omega) z hz
    ·rw [Ag1.1 hz];exact Alc rfl
  | call h1 h2 =>
   rename_i n a t x l
   simp only at h
   rw [Aw0 (by decide) (by decide)] at h
   unfold Ali at h
   simp only [if_true] at h
   obtain ⟨_,_,h⟩:=Acf h
   unfold Agg at h
   obtain ⟨s1,g1,h⟩:=Acf h
   have mx1:=Akc hw.2.1 g1
   have ml:Mo s1 s':=Ayl (fun s y s' hy h=>Akc (Ajz.1 hw.2.2 y hy) h) h
   have e1:=Atu d ab s s1 x false (.inl h1) g1
   have k1:=Av8 d2 x h1 hw.2.1 d ab false s s1 g1 (hU.fst ml)
   have k2:=(KE l h2 hw.2.2 s1 s' h (hU.snd mx1 e1)).2.2.2
   rw [Bsl] at hq hz
   simp only [Ber,show Adu (x :: l) 0=x from rfl,List.drop_succ_cons,List.drop_zero,Abj,Aa4,Acg] at hq hz
   rcases Agb.1 hz with hz | hz
   ·exact k1 1 p q (by omega) z hz
   rcases List.mem_cons.1 hz with rfl | hz
   ·exact Alc rfl
   rcases Agb.1 hz with hz | hz
   ·exact k2 _ q (by omega) z hz
   ·rw [Ag1.1 hz];exact Alc rfl
  | paren h1 =>
   rename_i n a t x
   simp only at h
   rw [Aw0 (by decide) (by decide)] at h
   unfold Ali at h
   simp only [Int.reduceEq,if_false,false_and] at h
   unfold Agg at h
   obtain ⟨s1,g1,h⟩:=Acf h
   cases h
   rw [B8o] at hq hz
   exact Av8 d2 x h1 hw.2.1 d ab false s s' g1 hU 1 p q hq z hz
  | unary h1 =>
   rename_i n a t x
   simp only at h
   rw [Aw0 (by decide) (by decide)] at h
   unfold Ali at h
   simp only [Int.reduceEq,if_false,false_and] at h
   unfold Agg at h
   obtain ⟨s1,g1,h⟩:=Acf h
   cases h
   rw [Bse] at hq hz
   simp only [Abj,Aa4,Acg] at hq
   rcases Agb.1 hz with hz | hz
   ·exact Av8 d2 x h1 hw.2.1 d ab false s s' g1 hU 1 p q (by omega) z hz
   ·rw [Ag1.1 hz];exact Alc rfl
  | binary h1 h2 =>
   rename_i n a t x y
   simp only at h
   rw [Aw0 (by decide) (by decide)] at h
   unfold Ali at h
   simp only [Int.reduceEq,if_false,false_and] at h
   unfold Agg at h
   obtain ⟨s1,g1,h⟩:=Acf h
   unfold Agg at h
   obtain ⟨s2,g2,h⟩:=Acf h
   cases h
   have mx1:=Akc hw.2.1 g1
   have my1:=Akc hw.2.2.1 g2
   have e1:=Atu d ab s s1 x false (.inl h1) g1
   have k1:=Av8 d2 x h1 hw.2.1 d ab false s s1 g1 (hU.fst my1)
   have k2:=Av8 d2 y h2 hw.2.2.1 d ab false s1 s' g2 (hU.snd mx1 e1)
   rw [B8f] at hq hz
   unfold Bep at hq hz
   split at hz
   ·rename_i hp
    rw [if_pos hp] at hq
    simp only [Abj,Aa4,Acg] at hq
    rcases Agb.1 hz with hz | hz
    ·rcases Agb.1 hz with hz | hz
     ·exact k1 1 p q (by omega) z hz
     ·exact k2 1 _ q (by omega) z hz
    ·rw [Ag1.1 hz];exact Alc rfl
   ·rename_i hp
    rw [if_neg hp] at hq
    simp only [Abj,Aa4] at hq
    rcases Agb.1 hz with hz | hz
    ·exact k1 1 p q (by omega) z hz
    rcases List.mem_cons.1 hz with rfl | hz
    ·refine A2n (by split <;> simp) (by omega)
    ·exact k2 1 _ q (by omega) z hz
  | table h1 =>
   rename_i n a t l
   simp only at h
   rw [Aw0 (by decide) (by decide)] at h
   unfold Ali at h
   simp only [Int.reduceEq,if_false,if_true] at h
   obtain ⟨_,_,h⟩:=Acf h
   rw [B8i] at hq hz
   simp only [Aa4] at hq
   rcases List.mem_cons.1 hz with rfl | hz
   ·exact Alc rfl
   have tab:∀ (l:List Tree) (s s':CSt) (rest:Bool) (p:Nat) (w key:Int),(∀ x ∈ l,IsF x)→Akw l→Agg (fun s x=>Adm d ab s x false) s l=.ok s'→Up E gl cs lo s s'→p+(Ara (Aby ⟨cs,gl,src⟩ lo d2) rest p w key l).length≤q→∀ z ∈ Ara (Aby ⟨cs,gl,src⟩ lo d2) rest p w key l,okI E q z:=by
    have hst:∀ w key,∀ z ∈ Atp w key,okI E q z:=fun w key z hz=>by
     unfold Atp at hz
     split at hz
     ·rw [Ag1.1 hz];exact Alc rfl
     ·cases hz
    intro l
    induction l with
    | nil=>intro s s' rest p w key _ _ _ _ _ z hz;exact hst w key z hz
    | cons x l ih =>
     intro s s' rest p w key hF hwl h hU hq z hz
     unfold Agg at h
     obtain ⟨s1,g1,h⟩:=Acf h
     have hFx:=hF x (Af5 ..)
     have mx1:=Akc hwl.1 g1
     have ml:Mo s1 s':=Ayl (fun s y s' hy h=>Akc (Ajz.1 hwl.2 y hy) h) h
     have e1:=Atu d ab s s1 x false (.inr hFx) g1
     have hU1:=hU.fst ml
     have ihh:=fun rest p w key=>ih s1 s' rest p w key (fun y hy=>hF y (Ahb _ hy)) hwl.2 h (hU.snd mx1 e1)
     cases d with
     | zero=>unfold Adm at g1;cases g1
     | succ d =>
      rcases Bgh hFx with ⟨tx,n,a,y,rfl,hy⟩ | ⟨tx,n,a,y,u,rfl,hy,hu⟩
      ·rw [Aw0 (by decide) (by decide)] at g1
       unfold Ali at g1
       simp only [Int.reduceEq,if_false,false_and] at g1
       unfold Agg at g1
       obtain ⟨s2,g2,g1⟩:=Acf g1
       cases g1
       have k1:=Av8 d2 y hy hwl.1.2.1 d ab false s s1 g2 hU1
       simp only [Ara,Bbo,Bbn,show Adu [y] 0=y from rfl,Int.reduceEq,if_false] at hq hz
       split at hz
       ·rename_i hr
        rw [if_pos hr] at hq
        simp only [Abj,Aa4,Acg] at hq
        rcases Agb.1 hz with hz | hz
        ·exact hst _ _ z hz
        rcases List.mem_cons.1 hz with rfl | hz
        ·exact Alc rfl
        rcases Agb.1 hz with hz | hz
        ·exact k1 (-1) _ q (by omega) z hz
        ·rw [Ag1.1 hz];exact Alc rfl
       rename_i hr
       rw [if_neg hr] at hq
       split at hz
       ·rename_i h50
        rw [if_pos h50] at hq
        simp only [Abj,Aa4] at hq
        rcases Agb.1 hz with hz | hz
        ·exact k1 1 p q (by omega) z hz
        rcases List.mem_cons.1 hz with rfl | hz
        ·exact Alc rfl
        ·exact ihh _ _ _ _ (by omega) z hz
       ·rename_i h50
        rw [if_neg h50] at hq
        simp only [Abj] at hq
        rcases Agb.1 hz with hz | hz
        ·exact k1 1 p q (by omega) z hz
        ·exact ihh _ _ _ _ (by omega) z hz
      ·rw [Aw0 (by decide) (by decide)] at g1
       unfold Ali at g1
       simp only [Int.reduceEq,if_false,false_and] at g1
       have hes:∀ v ∈ [y,u],IsE v:=fun v hv=>by
        rcases List.mem_cons.1 hv with rfl | hv
        ·exact hy
        ·obtain rfl:=Ag1.1 hv;exact hu
       have k1:=(Bim [y,u] s s1 (fun v hv=>Av8 d2 v (hes v hv) (Ajz.1 hwl.1.2 v hv) d ab false) (fun v hv s s' h=>⟨Akc (Ajz.1 hwl.1.2 v hv) h,Atu d ab s s' v false (.inl (hes v hv)) h⟩) g1 hU1).2.2.1
       simp only [Ara,Bbo,Bbn,if_true,Abj,Aa4] at hq hz
       rcases Agb.1 hz with hz | hz
       ·exact k1 p q (by omega) z hz
       rcases List.mem_cons.1 hz with rfl | hz
       ·exact Alc rfl
       ·exact ihh _ _ _ _ (by omega) z hz
   exact tab l s s' (Aue l) (p+1) 0 1 h1 hw.2 h hU (by omega) z hz
end
end
end Go.Proofs.YtkdjiehclahliaaGreatDoor
