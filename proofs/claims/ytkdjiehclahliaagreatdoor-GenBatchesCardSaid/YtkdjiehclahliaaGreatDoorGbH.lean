/- Texts of mine for genBatches_card, part 8. -/
import Derived.Test.YtkdjiehclahliaaGreatDoorGbG
set_option linter.unusedSimpArgs false
set_option linter.unusedVariables false
set_option linter.unusedSectionVars false
namespace Go.Proofs.YtkdjiehclahliaaGreatDoor
set_option maxRecDepth 100000
section
open Go Go.RowKit
theorem Cps:Am2 Tryz.prog 22 41 5 80 Tryz.t41 (.agg #[sv noS,iv 0,iv 0,nS,nS]):=⟨by kernel_rfl,by kernel_rfl,by kernel_rfl,by kernel_rfl,by kernel_rfl,by kernel_rfl,by decide⟩
def Am6.l0:Nat→(J28:TyU→Option (TyU×TyC×Int×Int))→(l86:List (Option (ByteArray×Int×Int×Int×TyB)))→(l89:List (Option (ByteArray×Int×Int×Int×TyB)))→(x94:Int)→(l95:TyU)→Option (TyU×TyC×Int×Int)
 | 0,_,_,_,_,_=>none
 | Bgc+1,J28,l86,l89,x94,l95=>cond (decide (x94 < ((l86.length:Nat):Int))) ((Acz l89 x94).bind fun x102=>x102.bind fun x104=>(Aj3 l89 x94 none).bind fun Az8=>(apd 80 l95 [(some (x104.1,x104.2.2.1,x104.2.2.2.1,x104.2.2.2.2,[]))]).bind fun Blk=>Am6.l0 Bgc J28 l86 Az8 (IntKind.i64.wrap (x94+1)) Blk) (J28 l95)
def Am6.f (k:Nat) (a0:ByteArray):Option (TyU×TyC×Int×Int):=(A4t.f k a0).bind fun r3=>cond (r3.2.2.1 != 0) (some ([],[],r3.2.2.1,r3.2.2.2)) ((A0i.f k a0).bind fun r15=>cond (r15.2.2.2.2.2.1 != 0) (some ([],[],r15.2.2.2.2.2.1,r15.2.2.2.2.2.2)) (Adg (fun (l23:TyU)=>(Acz l23 0).bind fun x30=>x30.bind fun x32=>(Aj3 l23 0 none).bind fun l51=>(Alj.f k x32.2.2.2.1 x32.2.2.2.2 a0 r3.2.1 ([]) ([]) 1 l51 r15.1 r15.2.1 r15.2.2.1 r15.2.2.2.1 r15.2.2.2.2.1).bind fun r54=>(Acz r54.2.2.2.2 0).bind fun x71=>(Aj3 r54.2.2.2.2 0 (some (x32.1,x32.2.1,x32.2.2.1,x32.2.2.2.1,r54.1))).bind fun l82=>some (l82,r3.2.1,0,0)) (fun J28=>(some (List.map some r3.1)).bind fun l86=>Am6.l0 k J28 l86 l86 0 ([]))))
theorem Am6.ok {k:Nat} {a0:ByteArray} {G:Aaa} {r:TyU×TyC×Int×Int} (h:Am6.f k a0=some r) (hG:GlP G): Ct Tryz.prog 7 #[sv a0] [] [G] (fun e l1=>∃ (H0_:Aaa) (A0_:TyO) (c0_:Nat) (H1_:Aaa) (A1_:TyO) (c1_:Nat),Abp (Ahc Ag1) 41 H0_ (.slice A0_ r.1.length c0_) r.1∧Aan encS 9 1 H1_ (.slice A1_ r.2.1.length c1_) r.2.1∧e=.returned (.tuple #[.agg #[.slice A0_ r.1.length c0_,.slice A1_ r.2.1.length c1_],.agg #[iv r.2.2.1,iv r.2.2.2]])∧l1=[H0_,H1_]):=by
 refine Afb (args:=[sv a0]) Tryz.func7 rfl (Nat.le_of_ble_eq_true rfl) ?_
 intro A X hh_
 obtain ⟨Adu,_⟩:=hh_
 unfold Am6.f at h
 refine ksr (knp #[nS,nS] 25 fun b1=>(knp #[iv 0,iv 0] 28 fun b2=>(Aby (kx 1 (bnd h fun r3 hr3 h=>(kcl (A4t.ok hr3 hG) rfl ⟨(t2 Adu),trivial⟩ ?_))))))
 rintro _ _ ⟨h4,A5,k6,h8,A9,k10,o7,o11,rfl,rfl⟩
 refine Acg (kx 3 (knp #[nS,nS] 33 fun b12=>(knp #[iv 0,iv 0] 28 fun b13=>(K.mv1 (kst 0 2 #[.slice A5 r3.1.length k6,.slice A9 r3.2.1.length k10] (K.mv1 (kst 0 2 #[iv r3.2.2.1,iv r3.2.2.2] (knt (Ac1 (ksr ?_))))))))))
 refine kx 1 (kld 0 0 rfl (kx 1 (knt ?_)))
 refine kcn h (fun h=>?_) fun h=>?_
 ·refine Ac1 (kpr [(0,0),(1,3),(2,1)] [0] (kpx 1 (kpa 0 0 2 rfl (kpt (K.mv5 (ost 0 2 #[nS,nS] (kan [1] rfl (kpz (K.mv5 (kst 0 2 #[iv r3.2.2.1,iv r3.2.2.2] ?_))))))))))
  refine K.mv2 (K.drop (K.mv2 (K.drop (K.mv2 (K.drop (K.mv2 (K.drop (knt (Afj (Ahj ?_))))))))))
  obtain rfl:=Option.some.inj h
  exact A6w (v:=.tuple #[.agg #[nS,nS],.agg #[iv r3.2.2.1,iv r3.2.2.2]]) [.val (nS),.val (nS),.val (iv r3.2.2.1),.val (iv r3.2.2.2)] [.ld ⟨b1,0,none⟩ (nS),.ld ⟨b1,1,none⟩ (nS),.ld ⟨b2,0,none⟩ (iv r3.2.2.1),.ld ⟨b2,1,none⟩ (iv r3.2.2.2)] [none_,none_] (by kernel_rfl) (by kernel_rfl) ⟨⟨1,_,_,_,rfl,rfl,rfl⟩,⟨1,_,_,_,rfl,rfl,rfl⟩,⟨0,_,_,_,rfl,rfl,rfl⟩,⟨0,_,_,_,rfl,rfl,rfl⟩,trivial⟩ (Agh (Agh (K.mv2 (K.drop (K.mv2 (K.drop (Adj ⟨none_,none,0,none_,none,0,(Abp.nil (Ahc Ag1) 41 none_),(Aan.nil encS 9 1 none_),rfl,rfl⟩)))))))
 ·refine Adv (Abr (ksr (kx 1 (bnd h fun r15 Aw2 h=>(kcl (A0i.ok Aw2 hG) rfl ⟨(t6 Adu),trivial⟩ ?_)))))
  rintro _ _ ⟨h16,A17,k18,o19,rfl,rfl⟩
  refine Ak8 (kx 3 (knp #[iv 0,sv noS,iv 0,iv 0,nS] 54 fun b20=>(kst 0 5 #[iv r15.1,sv r15.2.1,iv r15.2.2.1,iv r15.2.2.2.1,.slice A17 r15.2.2.2.2.1.length k18] (K.mv2 (kst 0 2 #[iv r15.2.2.2.2.2.1,iv r15.2.2.2.2.2.2] (knt (Ac1 (ksr (kx 1 (kld 0 0 rfl ?_))))))))))
  refine kx 1 (knt ?_)
  refine kcn h (fun h=>?_) fun h=>?_
  ·refine Ac1 (kpr [(0,0),(1,3),(2,1)] [0] (kpx 1 (kpa 0 0 2 rfl (kpt (K.mv7 (ost 0 2 #[nS,nS] (kan [1] rfl (kpz (K.mv7 (kst 0 2 #[iv r15.2.2.2.2.2.1,iv r15.2.2.2.2.2.2] ?_))))))))))
   refine K.mv2 (K.drop (K.mv2 (K.drop (K.mv2 (K.drop (K.mv2 (K.drop (K.mv2 (K.drop (K.mv2 ?_))))))))))
   refine K.drop (knt (Afj (Ahj ?_)))
   obtain rfl:=Option.some.inj h
   exact A6w (v:=.tuple #[.agg #[nS,nS],.agg #[iv r15.2.2.2.2.2.1,iv r15.2.2.2.2.2.2]]) [.val (nS),.val (nS),.val (iv r15.2.2.2.2.2.1),.val (iv r15.2.2.2.2.2.2)] [.ld ⟨b1,0,none⟩ (nS),.ld ⟨b1,1,none⟩ (nS),.ld ⟨b2,0,none⟩ (iv r15.2.2.2.2.2.1),.ld ⟨b2,1,none⟩ (iv r15.2.2.2.2.2.2)] [none_,none_] (by kernel_rfl) (by kernel_rfl) ⟨⟨1,_,_,_,rfl,rfl,rfl⟩,⟨1,_,_,_,rfl,rfl,rfl⟩,⟨0,_,_,_,rfl,rfl,rfl⟩,⟨0,_,_,_,rfl,rfl,rfl⟩,trivial⟩ (Agh (Agh (K.mv2 (K.drop (K.mv2 (K.drop (Adj ⟨none_,none,0,none_,none,0,(Abp.nil (Ahc Ag1) 41 none_),(Aan.nil encS 9 1 none_),rfl,rfl⟩)))))))
  ·refine Adv (Abr (ksr (kx 1 (kld 3 1 rfl (K.drop (kx 1 (knp #[nS,nS] 25 fun b22=>(kst 0 2 #[nS,.slice A9 r3.2.1.length k10] (knt ?_)))))))))
   obtain ⟨J28,Brq,h⟩:=Agm h
   refine Agn (τ:=TyU×Aaa×TyO×Nat) (fun t=>[(0,sv a0),(2,pt b1),(3,pt b2),(6,pt b20),(7,pt b22)]) (fun t=>bk b22 #[.slice t.2.2.1 t.1.length t.2.2.2,.slice A9 r3.2.1.length k10] 25 :: bk b20 #[iv r15.1,sv r15.2.1,iv r15.2.2.1,iv r15.2.2.2.1,.slice A17 r15.2.2.2.2.1.length k18] 54 :: h16 :: h8 :: bk b2 #[iv 0,iv 0] 28 :: bk b1 #[nS,nS] 25 :: t.2.1 :: X) (fun t=>J28 t.1=some r∧Abp (Ahc Ag1) 41 t.2.1 (.slice t.2.2.1 t.1.length t.2.2.2) t.1) ?_ ?_
   ·rintro ⟨l23,h24,A25,k26⟩ ⟨h,o27⟩
    subst Brq
    refine ksr (knp #[iv 0] 3 fun b29=>(kst 0 1 #[iv 1] (knt ?_)))
    obtain ⟨x32,i31,h⟩:=Bpc h
    refine K.mv7 (Ba2 (R:=(Ahc Ag1)) o27 (Aw8 i31).2.2 fun h33 h34 c35 _ _ o36 e37=>?_)
    obtain ⟨A38,k39,A41,k42,h45,h46,rfl,rfl,p44,o40,o43⟩:=Cf6 o36
    refine A3d p44 (Ac1 (kpr [(0,0),(1,3),(2,0),(3,3),(4,0),(5,0),(6,3),(7,0)] [2,4] (kpx 1 (kpd 1 0 rfl (Asr (T:=41) (kd:=.i64) (R:=(Ahc Ag1)) rfl i31 (Abp.rd o27) fun p47 _ _ _ y48=>?_)))))
    have e49:Elem h34 p47 [sv x32.1,iv x32.2.1,iv x32.2.2.1,.slice A38 x32.2.2.2.1.length k39,.slice A41 x32.2.2.2.2.length k42]:=Aqq.elem e37 y48
    refine Atm rfl e49 (fun w h_=>h_.mem _ (.head _)) (kpx 2 (kpd 1 1 rfl (kpx 1 (kpz (kx 1 (knp #[sv x32.1,iv x32.2.1,iv x32.2.2.1,.slice A38 x32.2.2.2.1.length k39,.slice A41 x32.2.2.2.2.length k42,sv a0,.slice A9 r3.2.1.length k10,nS,pt b29,pt b22,nS,nS] 66 fun b50=>(kx 1 (knl (bnd h fun l51 B79 h=>(K.mv3 ?_))))))))))
    refine Bu4 B79 e37 (Byi (Bha o40 o43 p44)) fun o52=>?_
    have g53:=Aq8 B79
    refine K.weak (env':=[(2,pt b1),(3,pt b2),(6,pt b20),(7,pt b22),(11,pt b50)]) ?_ ⟨gr,gr,gr,gr,gr,trivial⟩
    refine K.eq (l':=h34 :: bk b50 #[sv x32.1,iv x32.2.1,iv x32.2.2.1,.slice A38 x32.2.2.2.1.length k39,.slice A41 x32.2.2.2.2.length k42,sv a0,.slice A9 r3.2.1.length k10,nS,pt b29,pt b22,nS,nS] 66 :: h45 :: h46 :: bk b29 #[iv 1] 3 :: bk b22 #[.slice A25 l51.length k26,.slice A9 r3.2.1.length k10] 25 :: bk b20 #[iv r15.1,sv r15.2.1,iv r15.2.2.1,iv r15.2.2.2.1,.slice A17 r15.2.2.2.2.1.length k18] 54 :: h16 :: h8 :: bk b2 #[iv 0,iv 0] 28 :: bk b1 #[nS,nS] 25 :: X) rfl (by first | rfl | (rw [g53];first | done | rfl)) (Abr (ksr (kx 1 (kla 6 0 5 rfl (K.mv6 (K.drop (Agh (Agh (K.mv2 (K.mv7 ?_))))))))))
    refine K.mv7 (K.mv3 (K.mv4 (K.mv7 (K.mv6 (bnd h fun r54 Be0 h=>(kcl (Alj.ok (b0:=b50) (Aa7:=b29) (Aa8:=b22) (Aad:=sv x32.1) (Aae:=iv x32.2.1) (Aaf:=iv x32.2.2.1) (Aag:=nS) (Ac3:=.slice A9 r3.2.1.length k10) Be0 (Aan.rd o40) o43 (Aan.rd o11) (Aan.nil encS 9 1 none_) (Abp.nil Aje 81 none_) o52 (Abp.rd o19) hG) rfl ⟨(.head _),(.tail _ (.tail _ (.head _))),(.tail _ (.head _)),(t5 Adu),trivial⟩ ?_))))))
    rintro _ _ ⟨h55,A56,k57,h59,A60,k61,h63,A64,k65,h67,A68,k69,o58,o62,o66,o70,rfl,rfl⟩
    refine Ajb (K.mv8 (K.drop (knt (bnd h fun x71 i72 h=>(K.mv6 (Ba2 (R:=(Ahc Ag1)) o70 (Aw8 i72).2.2 fun h73 h74 c75 _ _ o76 e77=>(K.drop (Ac1 (kpr [(0,0),(1,3),(2,0),(3,0),(4,0),(5,3)] [1,6] (kpx 1 ?_))))))))))
    refine kpd 1 0 rfl (kpx 3 (kpa 0 0 5 rfl (kpz (Aht (T:=41) (kd:=.i64) (R:=(Ahc Ag1)) rfl i72 (Abp.rd o70) fun p78 _ _ _ y79=>(K.mv1 (K.drop (K.mv2 (K.drop (K.mv2 (K.drop ?_))))))))))
    refine K.mv2 (K.drop (K.mv1 (K.mv3 (Aup fun p81=>(K.mv1 (bnd h fun l82 Bkd h=>(Bu7 (R:=(Ahc Ag1)) (v:=.agg #[sv x32.1,iv x32.2.1,iv x32.2.2.1,.slice A38 x32.2.2.2.1.length k39,.slice A56 r54.1.length k57]) (x':=(some (x32.1,x32.2.1,x32.2.2.1,x32.2.2.2.1,r54.1))) rfl (by kernel_rfl) (by kernel_rfl) (by kernel_rfl) (by kernel_rfl) (by kernel_rfl) y79 Bkd e77 (Bha (x:=(x32.1,x32.2.1,x32.2.2.1,x32.2.2.2.1,r54.1)) o40 o58 p81) fun h83 o84=>?_)))))))
    have g85:=Aq8 Bkd
    refine K.weak (env':=[(2,pt b1),(3,pt b2),(7,pt b22),(75,.agg #[sv x32.1,iv x32.2.1,iv x32.2.2.1,.slice A38 x32.2.2.2.1.length k39,.slice A56 r54.1.length k57])]) ?_ ⟨gr,gr,gr,(by first | rfl | (rw [g85];rfl)),trivial⟩
    refine K.eq (l':=h83 :: bk b22 #[.slice A68 l82.length k69,.slice A9 r3.2.1.length k10] 25 :: h8 :: bk b2 #[iv 0,iv 0] 28 :: bk b1 #[nS,nS] 25 :: X) rfl (by first | rfl | (rw [g85];first | done | rfl)) (Aby (kla 1 0 2 rfl (K.mv1 (K.drop (kx 1 (K.mv3 (kst 0 2 #[.slice A68 l82.length k69,.slice A9 r3.2.1.length k10] (K.mv3 (kst 0 2 #[iv 0,iv 0] (knt ?_))))))))))
    refine Afj ?_
    obtain rfl:=Option.some.inj h
    exact A6w (v:=.tuple #[.agg #[.slice A68 l82.length k69,.slice A9 r3.2.1.length k10],.agg #[iv 0,iv 0]]) [.val (.slice A68 l82.length k69),.val (.slice A9 r3.2.1.length k10),.val (iv 0),.val (iv 0)] [.ld ⟨b1,0,none⟩ (.slice A68 l82.length k69),.ld ⟨b1,1,none⟩ (.slice A9 r3.2.1.length k10),.ld ⟨b2,0,none⟩ (iv 0),.ld ⟨b2,1,none⟩ (iv 0)] [h83,h8] (by kernel_rfl) (by kernel_rfl) ⟨⟨1,_,_,_,rfl,rfl,rfl⟩,⟨1,_,_,_,rfl,rfl,rfl⟩,⟨0,_,_,_,rfl,rfl,rfl⟩,⟨0,_,_,_,rfl,rfl,rfl⟩,trivial⟩ (K.drop (K.drop (Adj ⟨h83,A68,k69,h8,A9,k10,o84,o11,rfl,rfl⟩)))
   ·skip
    refine bnd h fun l86 B8b h=>?_
    have g88:l86.length=r3.1.length:=by rw [← Option.some.inj B8b,List.length_map]
    have o87:Abp (Ahc Alv) 43 h4 (.slice A5 l86.length k6) l86:=by rw [g88,← Option.some.inj B8b];exact Abp.opt.2 o7
    refine K.weak (env':=[(0,sv a0),(2,pt b1),(3,pt b2),(4,pt b12),(6,pt b20),(7,pt b22)]) ?_ ⟨gr,gr,gr,gr,gr,gr,trivial⟩
    refine K.eq (l':=bk b22 #[nS,.slice A9 r3.2.1.length k10] 25 :: bk b20 #[iv r15.1,sv r15.2.1,iv r15.2.2.1,iv r15.2.2.2.1,.slice A17 r15.2.2.2.2.1.length k18] 54 :: h16 :: bk b12 #[.slice A5 l86.length k6,.slice A9 r3.2.1.length k10] 33 :: h4 :: h8 :: bk b2 #[iv 0,iv 0] 28 :: bk b1 #[nS,nS] 25 :: X) rfl (by first | rfl | (rw [g88];first | done | rfl)) (ksr (kx 1 (kld 3 0 rfl (K.mv3 (K.drop (kx 2 (knt (Aez (Agh (K.mv4 ?_))))))))))
    refine K.mv7 (K.mv7 (K.mv7 (K.mv7 (K.mv7 (K.mv7 (Akr (τ:=(List (Option (ByteArray×Int×Int×Int×TyB)))×Int×TyU×Aaa×TyO×Nat×Aaa×TyO×Nat) (fun t=>[(0,sv a0),(2,pt b1),(3,pt b2),(6,pt b20),(7,pt b22),(36,.slice t.2.2.2.2.1 t.1.length t.2.2.2.2.2.1),(37,iv ((l86.length:Nat):Int)),(38,iv t.2.1)]) (fun t=>bk b22 #[.slice t.2.2.2.2.2.2.2.1 t.2.2.1.length t.2.2.2.2.2.2.2.2,.slice A9 r3.2.1.length k10] 25 :: bk b20 #[iv r15.1,sv r15.2.1,iv r15.2.2.1,iv r15.2.2.2.1,.slice A17 r15.2.2.2.2.1.length k18] 54 :: h16 :: h8 :: bk b2 #[iv 0,iv 0] 28 :: bk b1 #[nS,nS] 25 :: t.2.2.2.1 :: t.2.2.2.2.2.2.1 :: X) (fun m t=>Am6.l0 m J28 l86 t.1 t.2.1 t.2.2.1=some r∧Abp (Ahc Alv) 43 t.2.2.2.1 (.slice t.2.2.2.2.1 t.1.length t.2.2.2.2.2.1) t.1∧Abp (Ahc Ag1) 41 t.2.2.2.2.2.2.1 (.slice t.2.2.2.2.2.2.2.1 t.2.2.1.length t.2.2.2.2.2.2.2.2) t.2.2.1) k (l86,0,[],h4,A5,k6,none_,none,0) ⟨h,o87,(Abp.nil (Ahc Ag1) 41 none_)⟩ sb rfl ?_))))))
    clear h
    rintro Bgc ⟨l89,x94,l95,h90,A91,k92,h96,A97,k98⟩ ⟨h,o93,o99⟩
    cases Bgc with
    | zero=>simp [Am6.l0] at h
    | succ Bgc =>
     simp only [Am6.l0] at h
     refine ksr (kx 1 (knt (Ac1 ?_)))
     refine kcn h (fun h=>?_) fun h=>?_
     ·refine Adv (Abr (Ac1 (Aez ?_)))
      obtain ⟨x104,B8r,h⟩:=Bpc h
      refine K.mv6 (Ba2 (R:=(Ahc Alv)) o93 (Aw8 B8r).2.2 fun Crt Bjx c107 _ _ C5a e109=>?_)
      obtain ⟨Bie,Bkj,rfl,Cec⟩:=C5a
      refine ksr (Aht (T:=43) (kd:=.i64) (R:=(Ahc Alv)) rfl B8r (Abp.rd o93) fun C8y _ _ _ y114=>?_)
      have e115:Elem Bjx C8y [sv x104.1,iv x104.2.1,iv x104.2.2.1,iv x104.2.2.2.1,.slice Bie x104.2.2.2.2.length Bkj]:=Aqq.elem e109 y114
      refine keN rfl e115 (.tail _ (.head _)) (knp #[sv noS,iv 0,iv 0,iv 0,nS] 43 fun B3e=>(kst 0 5 #[sv x104.1,iv x104.2.1,iv x104.2.2.1,iv x104.2.2.2.1,.slice Bie x104.2.2.2.2.length Bkj] (knl (bnd h fun Az8 Bj4 h=>(K.mv2 (Bu4 Bj4 e109 (Byi (Bna (x:=x104) Cec)) fun Bv8=>?_))))))
      have B6k:=Aq8 Bj4
      refine K.weak (env':=[(0,sv a0),(2,pt b1),(3,pt b2),(6,pt b20),(7,pt b22),(36,.slice A91 Az8.length k92),(37,iv ((l86.length:Nat):Int)),(38,iv x94),(9,pt B3e)]) ?_ ⟨gr,gr,gr,gr,gr,(by first | rfl | (rw [B6k];rfl)),gr,gr,gr,trivial⟩
      refine K.eq (l':=Bjx :: bk B3e #[sv x104.1,iv x104.2.1,iv x104.2.2.1,iv x104.2.2.2.1,.slice Bie x104.2.2.2.2.length Bkj] 43 :: Crt :: bk b22 #[.slice A97 l95.length k98,.slice A9 r3.2.1.length k10] 25 :: bk b20 #[iv r15.1,sv r15.2.1,iv r15.2.2.1,iv r15.2.2.2.1,.slice A17 r15.2.2.2.2.1.length k18] 54 :: h16 :: h8 :: bk b2 #[iv 0,iv 0] 28 :: bk b1 #[nS,nS] 25 :: h96 :: X) rfl (by first | rfl | (rw [B6k];first | done | rfl)) (Abr (Ach (kx 1 (kld 3 0 rfl (kx 1 (kld 1 0 rfl (kx 1 (kld 1 2 rfl (kx 1 (kld 1 3 rfl ?_))))))))))
      refine kx 1 (kld 1 4 rfl (K.mv1 (K.drop (kx 1 (kns #[sv x104.1,iv x104.2.2.1,iv x104.2.2.2.1,.slice Bie x104.2.2.2.2.length Bkj,nS] 41 1 fun De7=>(Agh (K.mv3 (Aup fun C8z=>(K.mv1 (Ah3 (T:=41) (n:=1) (xs:=[(some (x104.1,x104.2.2.1,x104.2.2.2.1,x104.2.2.2.2,[]))]) (Aec.one (R:=(Ahc Ag1)) (x:=(some (x104.1,x104.2.2.1,x104.2.2.2.1,x104.2.2.2.2,[]))) (Bha (x:=(x104.1,x104.2.2.1,x104.2.2.2.1,x104.2.2.2.2,[])) Cec (Aan.nil e48 48 4 none_) C8z)) rfl rfl (Nat.le_of_ble_eq_true rfl) fun h122 A7p=>?_))))))))))
      refine K.mv8 (bnd h fun Blk Ct4 h=>(Alq rfl Cps rfl Ct4 o99 A7p fun Bqk Bii Bkl Bwd=>(kx 1 (K.mv2 (kst 0 1 #[.slice Bii Blk.length Bkl,.slice A9 r3.2.1.length k10] (knl (Acx (Abr (Ach (kx 2 ?_))))))))))
      exact knt (K.mv1 (K.mv2 (K.mv7 (K.mv7 (K.mv7 (K.mv7 (K.mv7 (K.mv7 (Aiw Bgc (Az8,IntKind.i64.wrap (x94+1),Blk,Bjx,A91,k92,Bqk,Bii,Bkl) (Nat.lt_succ_self _) ⟨h,Bv8,Bwd⟩ sb rfl)))))))))
     ·exact Akp (Af5 (Af5 (Akq (Abr (K.mv6 (K.drop (Adb (l95,h96,A97,k98) ⟨h,o99⟩ sb rfl)))))))
def Bdj {α:Type}:List (Option α)→Option (List α)
 | []=>some []
 | none :: _=>none
 | some x :: l=>(Bdj l).bind fun r=>some (x :: r)
theorem B26 {α:Type}:∀ {l:List (Option α)} {r:List α},Bdj l=some r→l=r.map some
 | [],r,h=>by cases h;rfl
 | none :: _,r,h=>by cases h
 | some x :: l,r,h=>by
  obtain ⟨r',h1,h2⟩:=Bi6 h
  cases h2
  rw [List.map_cons,B26 h1]
theorem B25 {α:Type}:∀ (l:List α),Bdj (l.map some)=some l
 | []=>rfl
 | x :: l=>by rw [List.map_cons,Bdj,B25 l];rfl
abbrev Agt:=ByteArray×Int×Int×List (Int×Int×ByteArray)×List (Int×Int×Int×Int)
def Am6.fS (k:Nat) (a0:ByteArray):Option (List Agt×List ByteArray×Int×Int):=(Am6.f k a0).bind fun r=>(Bdj r.1).bind fun l=>some (l,r.2)
theorem Am6.okS {k:Nat} {a0:ByteArray} {G:Aaa} {r:List Agt×TyC×Int×Int} (h:Am6.fS k a0=some r) (hG:GlP G):Ct Tryz.prog 7 #[.string a0] [] [G] (fun e l1=>∃ (H0_:Aaa) (A0_:TyO) (c0_:Nat) (H1_:Aaa) (A1_:TyO) (c1_:Nat),Abp Ag1 41 H0_ (.slice A0_ r.1.length c0_) r.1∧Aan encS 9 1 H1_ (.slice A1_ r.2.1.length c1_) r.2.1∧e=.returned (.tuple #[.agg #[.slice A0_ r.1.length c0_,.slice A1_ r.2.1.length c1_],.agg #[.int .i64 r.2.2.1,.int .i64 r.2.2.2]])∧l1=[H0_,H1_]):=by
 obtain ⟨r0,h1,h⟩:=Bi6 h
 obtain ⟨l,h2,h⟩:=Bi6 h
 cases h
 have e:=B26 h2
 intro A w X hh hw
 refine (Am6.ok h1 hG A w X hh hw).mono fun e' w' ⟨l1,⟨H0,A0,c0,H1,A1,c1,o1,o2,e1,e2⟩,h3⟩=>⟨l1,⟨H0,A0,c0,H1,A1,c1,?_,o2,?_,e2⟩,h3⟩
 ·rw [e,List.length_map] at o1
  exact Abp.opt.1 o1
 ·rw [e,List.length_map] at e1
  exact e1
end
section
open Go Go.RowKit Lx
abbrev Ins:=Int×Int×Int×Int
abbrev Cd:=List Ins
def i0 (op:Int):Ins:=(op,0,0,0)
def i1 (op a:Int):Ins:=(op,a,0,0)
def i2 (op a b:Int):Ins:=(op,a,b,0)
def i3 (op a b c:Int):Ins:=(op,a,b,c)
def ixS (X:ByteArray) (L:List ByteArray):Int:=Au0 X.toList (L.map (·.toList)) 0
def A1l (v:V3):List V3→Int→Int
 | [],_=>-1
 | x :: l,i=>if ((v.1 == x.1) && ((v.2.1 == x.2.1) && ((v.2.2.toList == x.2.2.toList) && true)))=true then i else A1l v l (i+1)
def csN (cs:List V3) (v:V3):Int:=A1l v cs 0+1
def glN (gl:List ByteArray) (t:ByteArray):Int:=ixS t gl+1
def Ayi (lo:List ByteArray) (t:ByteArray):Int:=((Ayk lo.reverse t:Nat):Int)
def unL:List ByteArray:=[(⟨#[]⟩:ByteArray),(⟨#[110,111,116]⟩:ByteArray),(⟨#[35]⟩:ByteArray),(⟨#[45]⟩:ByteArray)]
def opL:TyC:=[(⟨#[]⟩:ByteArray),(⟨#[43]⟩:ByteArray),(⟨#[45]⟩:ByteArray),(⟨#[42]⟩:ByteArray),(⟨#[47,47]⟩:ByteArray),(⟨#[37]⟩:ByteArray),(⟨#[46,46]⟩:ByteArray),(⟨#[61,61]⟩:ByteArray),(⟨#[126,61]⟩:ByteArray),(⟨#[60]⟩:ByteArray),(⟨#[60,61]⟩:ByteArray),(⟨#[62]⟩:ByteArray),(⟨#[62,61]⟩:ByteArray)]
def Ahl (f:Nat→Tree→Cd):Nat→List Tree→Cd
 | _,[]=>[]
 | p,x :: l=>f p x++Ahl f (p+(f p x).length) l
def Avv (f:Int→Nat→Tree→Cd):Nat→List Tree→Cd
 | _,[]=>[]
 | p,[x]=>f (-1) p x
 | p,x :: y :: l=>f 1 p x++Avv f (p+(f 1 p x).length) (y :: l)
def Bjk (f:Int→Nat→Tree→Cd) (res:Int) (p:Nat) (l:List Tree):Cd :=
 f 1 p (Adx l 0)++i0 22 :: (Avv f (p+(f 1 p (Adx l 0)).length+1) (l.drop 1)++[i1 24 res])
def As1 (l:List Tree):Bool:=match l.getLast? with | some x=>x.kind == 13 && (Adx x.kids 0).kind == 8 | none=>false
def itN (rest:Bool):List Tree→Nat
 | []=>0
 | x :: l=>(if x.kind=14 then 0 else if (rest && l.isEmpty)=true then 0 else 1)+itN rest l
def fdN:List Tree→Nat
 | []=>0
 | x :: l=>(if x.kind=14 then 1 else 0)+fdN l
def Aqi (w key:Int):Cd:=if w > 0 then [i2 28 w key] else []
def Alh (f:Int→Nat→Tree→Cd) (rest:Bool):Nat→Int→Int→List Tree→Cd
 | _,w,key,[]=>Aqi w key
 | p,w,key,x :: l =>
  if x.kind=14 then Ahl (f 1) p x.kids++i1 27 w :: Alh f rest (p+(Ahl (f 1) p x.kids).length+1) w key l
  else if (rest && l.isEmpty)=true then
   Aqi w key++i0 22 :: (f (-1) (p+(Aqi w key).length+1) (Adx x.kids 0)++[i1 29 (if w > 0 then key+w else key)])
  else if w+1=50 then f 1 p (Adx x.kids 0)++i2 28 50 key :: Alh f rest (p+(f 1 p (Adx x.kids 0)).length+1) 0 (key+50) l
  else f 1 p (Adx x.kids 0)++Alh f rest (p+(f 1 p (Adx x.kids 0)).length) (w+1) key l
structure GCx where
 cs:List V3
 gl:List ByteArray
 src:ByteArray
def Bvt (cx:GCx) (lo:List ByteArray) (t:ByteArray):Ins:=if Ayi lo t > 0 then i1 6 (Ayi lo t) else i1 8 (glN cx.gl t)
def orB:ByteArray:=⟨#[111,114]⟩
def Acf (cx:GCx) (lo:List ByteArray):Nat→Int→Nat→Tree→Cd
 | 0,_,_,_=>[]
 | d+1,res,p,.mk k t n _ l =>
  if k=1 then [i0 3] else if k=2 then [i0 4] else if k=3 then [i0 5]
  else if k=4 then [i1 2 (csN cx.cs (2,n,⟨#[]⟩))]
  else if k=5 then [i1 2 (csN cx.cs (3,0,t))]
  else if k=6 then [Bvt cx lo t]
  else if k=7 then
   if (Adx l 0).kind=6∧Ar9 (Adx l 0).text=true then [i1 10 (Asw ((Adx l 0).text++Bdl++(Adx l 1).text).toList)]
   else Ahl (Acf cx lo d 1) p l++[i0 12]
  else if k=8 then Bjk (Acf cx lo d) res p l
  else if k=9 then Acf cx lo d 1 p (Adx l 0)
  else if k=10 then Acf cx lo d 1 p (Adx l 0)++[i1 16 (ixS t unL)]
  else if k=11 then
   let c:=Acf cx lo d 1 p (Adx l 0)
   if ixS t opL > 0 then c++Acf cx lo d 1 (p+c.length) (Adx l 1)++[i1 17 (ixS t opL)]
   else
    let e:=Acf cx lo d 1 (p+c.length+1) (Adx l 1)
    c++i1 (if t.toList == orB.toList then 21 else 20) ((p+c.length+1+e.length:Nat):Int) :: e
  else if k=12 then i2 26 (itN (As1 l) l:Nat) (fdN l:Nat) :: Alh (Acf cx lo d) (As1 l) (p+1) 0 1 l
  else []
theorem Cje (X:Bs):∀ (l:List Bs) (i:Int),(Au0 X l i=-1∧X ∉ l)∨(X ∈ l∧i≤Au0 X l i∧Au0 X l i < i+l.length)
 | [],i=>.inl ⟨rfl,by simp⟩
 | y :: l,i=>by
  unfold Au0
  by_cases h:(X == y)=true
  ·rw [if_pos h]
   exact .inr ⟨by rw [beq_iff_eq.1 h];exact List.mem_cons_self ..,Int.le_refl _,by simp only [List.length_cons];omega⟩
  ·rw [if_neg h]
   have h':X≠y:=fun e=>h (by simp [e])
   rcases Cje X l (i+1) with ⟨h1,h2⟩ | ⟨h1,h2,h3⟩
   ·exact .inl ⟨h1,by simp [h',h2]⟩
   ·exact .inr ⟨List.mem_cons_of_mem _ h1,by omega,by simp only [List.length_cons];omega⟩
theorem B9d (L:List ByteArray) (hL:L.length≤1000000) (s:ByteArray):∀ (d i k:Nat),L.length - i≤d→i≤L.length→d < k →
  Akc.l0 k L s (fun _=>some (-1)) (i:Int)=some (Au0 s.toList ((L.drop i).map (·.toList)) i)
 | d,i,k,hd,hi,hk=>by
  obtain ⟨k,rfl⟩:∃ m,k=m+1:=⟨k - 1,by omega⟩
  simp only [Akc.l0]
  rcases Nat.lt_or_ge i L.length with h | h
  ·obtain ⟨d,rfl⟩:∃ m,d=m+1:=⟨d - 1,by omega⟩
   rw [decide_eq_true (p:=(i:Int) < L.length) (by omega),Bvg h,wiC ((i:Int)+1) (by omega) (by omega),show (i:Int)+1=((i+1:Nat):Int) by omega,List.drop_eq_getElem_cons h,List.map_cons]
   simp only [cond_true,Option.bind_some]
   unfold Au0
   cases hq:s.toList == L[i].toList with
   | true=>rfl
   | false =>
    rw [cond_false,B9d L hL s d (i+1) k (by omega) (by omega) (by omega)]
    rfl
  ·rw [decide_eq_false (p:=(i:Int) < L.length) (by omega),List.drop_of_length_le h]
   rfl
theorem Bui (k:Nat) (L:List ByteArray) (a:ByteArray) (hL:L.length≤1000000) (hk:L.length < k):Akc.f k L a=some (ixS a L):=by
 unfold Akc.f Adg ixS
 have:=B9d L hL a L.length 0 k (by omega) (by omega) hk
 rw [List.drop_zero] at this
 exact this
theorem B9a (a0 a1:Int) (a2:ByteArray):∀ (t pre:List V3) (m:Nat),pre.length+t.length≤1000000→t.length < m →
  Anw.l0 m (pre++t) a0 a1 a2 (fun _=>some (-1)) (pre.length:Int)=some (A1l (a0,a1,a2) t pre.length)
 | [],pre,m,hl,hm=>by
  obtain ⟨m,rfl⟩:∃ m',m=m'+1:=⟨m - 1,by omega⟩
  simp only [Anw.l0]
  rw [ltF (by simp)]
  rfl
 | x :: t,pre,m,hl,hm=>by
  obtain ⟨m,rfl⟩:∃ m',m=m'+1:=⟨m - 1,by omega⟩
  simp only [List.length_cons] at hl hm
  simp only [Anw.l0]
  rw [ltT (by simp;omega),Ah5]
  simp only [cond_true,Option.bind_some]
  unfold A1l
  simp only
  cases hq:(a0 == x.1) && ((a1 == x.2.1) && ((a2.toList == x.2.2.toList) && true)) with
  | true=>rfl
  | false =>
   rw [cond_false,wiC _ (by omega) (by omega)]
   have ih:=B9a a0 a1 a2 t (pre++[x]) m (by simp;omega) (by omega)
   rw [List.append_assoc,List.length_append] at ih
   exact ih
theorem Cjj (v:V3):∀ (l:List V3) (i:Int),(A1l v l i=-1∧A2x l v=false)∨(A2x l v=true∧i≤A1l v l i∧A1l v l i < i+l.length)
 | [],i=>.inl ⟨rfl,rfl⟩
 | x :: l,i=>by
  unfold A1l A2x
  rw [List.any_cons]
  cases hq:(v.1 == x.1) && ((v.2.1 == x.2.1) && ((v.2.2.toList == x.2.2.toList) && true)) with
  | true=>exact .inr ⟨rfl,by simp only [if_true];omega,by simp only [if_true,List.length_cons];omega⟩
  | false =>
   simp only [Bool.false_eq_true,if_false,Bool.false_or]
   rcases Cjj v l (i+1) with ⟨h1,h2⟩ | ⟨h1,h2,h3⟩
   ·exact .inl ⟨h1,h2⟩
   ·exact .inr ⟨h1,by omega,by simp only [List.length_cons];omega⟩
def mx:Nat:=1000000
theorem add_eq (k:Nat) (c:Cd) (op:Int) (l:List Int) (hl:l.length≤3) (hc:c.length≤mx):Ac7.f k c op l=some ((c.length:Int),c++[(op,cp3 l 0,cp3 l 1,cp3 l 2)]):=by
 unfold mx at hc
 unfold Ac7.f
 rw [decide_eq_true hl,cond_true,Ava (by simp;omega),Option.bind_some,wiC _ (by simp only [List.length_append,List.length_cons,List.length_nil];omega) (by simp only [List.length_append,List.length_cons,List.length_nil];omega)]
 congr 2
 simp
theorem add0 (k:Nat) (c:Cd) (op:Int) (hc:c.length≤mx):Ac7.f k c op []=some ((c.length:Int),c++[i0 op]):=add_eq k c op [] (by decide) hc
theorem add1 (k:Nat) (c:Cd) (op a:Int) (hc:c.length≤mx):Ac7.f k c op [a]=some ((c.length:Int),c++[i1 op a]):=add_eq k c op [a] (Nat.le_of_ble_eq_true rfl) hc
theorem Bo2 (k:Nat) (c:Cd) (op a b:Int) (hc:c.length≤mx):Ac7.f k c op [a,b]=some ((c.length:Int),c++[i2 op a b]):=add_eq k c op [a,b] (Nat.le_of_ble_eq_true rfl) hc
theorem B23 (k:Nat) (c:Cd) (op a b e:Int) (hc:c.length≤mx):Ac7.f k c op [a,b,e]=some ((c.length:Int),c++[i3 op a b e]):=add_eq k c op [a,b,e] (Nat.le_of_ble_eq_true rfl) hc
theorem Bqi (k:Nat) (gl:List ByteArray) (t:ByteArray) (hg:gl.length≤400000) (hk:500000≤k):Awz.f k gl t=some (glN gl t):=by
 unfold Awz.f glN
 rw [Bui k gl t (by omega) (by omega),Option.bind_some]
 have:=Cje t.toList (gl.map (·.toList)) 0
 rw [List.length_map] at this
 rw [wiC _ (by unfold ixS;omega) (by unfold ixS;omega)]
theorem B4p (k:Nat) (cs:List V3) (c:Cd) (v0 v1:Int) (v2:ByteArray) (hs:cs.length≤400000) (hk:500000≤k) (hc:c.length≤mx):Awy.f k cs c v0 v1 v2=some (c++[i1 2 (csN cs (v0,v1,v2))]):=by
 unfold Awy.f Anw.f Adg csN
 have hv:Anw.l0 k cs v0 v1 v2 (fun _=>some (-1)) (0:Int)=some (A1l (v0,v1,v2) cs 0):=B9a v0 v1 v2 cs [] k (by simpa using (by omega)) (by omega)
 have:=Cjj (v0,v1,v2) cs 0
 simp only [hv,Option.bind_some]
 rw [wiC _ (by omega) (by omega),add1 k c _ _ hc]
 rfl
theorem B4c:∀ (t pre:List Tree) (lo:List ByteArray) (m:Nat),pre.length+t.length≤400000→lo.length+t.length≤900000→t.length < m →
  Apl.l0 m (pre++t) (pre.length:Int) lo=some (lo++t.map (·.text))
 | [],pre,lo,m,hl,ho,hm=>by
  obtain ⟨m,rfl⟩:∃ m',m=m'+1:=⟨m - 1,by omega⟩
  simp only [Apl.l0]
  rw [ltF (by simp)]
  simp
 | x :: t,pre,lo,m,hl,ho,hm=>by
  obtain ⟨m,rfl⟩:∃ m',m=m'+1:=⟨m - 1,by omega⟩
  simp only [List.length_cons] at hl ho hm
  simp only [Apl.l0]
  rw [ltT (by simp;omega),Ah5]
  simp only [cond_true,Option.bind_some]
  rw [Ava (by simp;omega),wiC _ (by omega) (by omega)]
  have ih:=B4c t (pre++[x]) (lo++[x.text]) m (by simp;omega) (by simp;omega) (by omega)
  rw [List.append_assoc,List.length_append] at ih
  simp only [Option.bind_some]
  refine ih.trans ?_
  simp
theorem Bpm (k:Nat) (lo:List ByteArray) (l:List Tree) (hl:l.length≤400000) (ho:lo.length≤400000) (hk:500000≤k):Apl.f k lo l=some (lo++l.map (·.text)) :=
 B4c l [] lo k (by simpa using hl) (by omega) (by omega)
theorem Ats {α:Type} (pre:List α) (x y:α) (t:List α):Aj3 (pre++x :: t) (pre.length:Int) y=some (pre++y :: t):=by
 unfold Aj3
 rw [decide_eq_true (by simp;omega),cond_true,Int.toNat_natCast,List.set_append_right _ _ (Nat.le_refl _),Nat.sub_self]
 rfl
theorem Aww {f:Nat→Tree→Cd}:∀ {l:List Tree} {p:Nat},(∀ p x,x ∈ l→(f p x).length≤4 * sz x)→(Ahl f p l).length≤4 * szs l
 | [],_,_=>Nat.zero_le _
 | x :: l,p,h=>by
  have h1:=h p x (List.mem_cons_self ..)
  have h2:=Aww (l:=l) (p:=p+(f p x).length) fun p y hy=>h p y (List.mem_cons_of_mem _ hy)
  simp only [Ahl,List.length_append,szs]
  omega
theorem A7r {f:Int→Nat→Tree→Cd}:∀ {l:List Tree} {p:Nat},(∀ r p x,x ∈ l→(f r p x).length≤4 * sz x)→(Avv f p l).length≤4 * szs l
 | [],_,_=>Nat.zero_le _
 | [x],p,h=>by
  have h1:=h (-1) p x (List.mem_cons_self ..)
  simp only [Avv,szs]
  omega
 | x :: y :: l,p,h=>by
  have h1:=h 1 p x (List.mem_cons_self ..)
  have h2:=A7r (l:=y :: l) (p:=p+(f 1 p x).length) fun r p y hy=>h r p y (List.mem_cons_of_mem _ hy)
  simp only [Avv,List.length_append,szs] at h2 ⊢
  omega
theorem By9 (w key:Int):(Aqi w key).length≤1:=by unfold Aqi;split <;> simp
theorem Bfh {x:Tree} (h:IsF x):(∃ t n a y,x=.mk 13 t n a [y]∧IsE y)∨∃ t n a y z,x=.mk 14 t n a [y,z]∧IsE y∧IsE z:=by
 cases h with
 | item h=>exact .inl ⟨_,_,_,_,rfl,h⟩
 | field h h'=>exact .inr ⟨_,_,_,_,_,rfl,h,h'⟩
theorem Bzb {f:Int→Nat→Tree→Cd} {rest:Bool}:∀ {l:List Tree} {p:Nat} {w key:Int},(∀ x ∈ l,IsF x)→(∀ r p x y,x ∈ l→y ∈ x.kids→(f r p y).length≤4 * sz y)→(Alh f rest p w key l).length≤4 * szs l+1
 | [],p,w,key,_,_=>by simp only [Alh,szs];have:=By9 w key;omega
 | x :: l,p,w,key,hF,h=>by
  have ih:=fun p w key=>Bzb (f:=f) (rest:=rest) (l:=l) (p:=p) (w:=w) (key:=key) (fun y hy=>hF y (List.mem_cons_of_mem _ hy)) fun r p y z hy=>h r p y z (List.mem_cons_of_mem _ hy)
  have hx:=fun r p y=>h r p x y (List.mem_cons_self ..)
  have hs:=By9 w key
  rcases Bfh (hF x (List.mem_cons_self ..)) with ⟨t,n,a,y,rfl,hy⟩ | ⟨t,n,a,y,z,rfl,hy,hz⟩
  ·have h1:=fun r p=>hx r p y (List.mem_cons_self ..)
   simp only [Alh,Tree.kind,Tree.kids,show Adx [y] 0=y from rfl,szs,sz]
   rw [if_neg (by decide)]
   split
   ·have:=h1 (-1) (p+(Aqi w key).length+1)
    simp only [List.length_append,List.length_cons,List.length_nil]
    omega
   split
   ·have:=h1 1 p
    have:=ih (p+(f 1 p y).length+1) 0 (key+50)
    simp only [List.length_append,List.length_cons]
    omega
   ·have:=h1 1 p
    have:=ih (p+(f 1 p y).length) (w+1) key
    simp only [List.length_append]
    omega
  ·have h1:(Ahl (f 1) p [y,z]).length≤4 * szs [y,z]:=Aww fun p u hu=>hx 1 p u hu
   have:=ih (p+(Ahl (f 1) p [y,z]).length+1) w key
   simp only [Alh,Tree.kind,Tree.kids,if_pos,szs,sz] at h1 ⊢
   simp only [List.length_append,List.length_cons]
   omega
section
variable {cx:GCx} {lo:List ByteArray}
theorem Cp1 {d:Nat} {r:Int} {p:Nat} {n a:Int} {t:ByteArray} {l:List Tree}:Acf cx lo (d+1) r p (.mk 1 t n a l)=[i0 3]:=rfl
theorem Cp3 {d:Nat} {r:Int} {p:Nat} {n a:Int} {t:ByteArray} {l:List Tree}:Acf cx lo (d+1) r p (.mk 2 t n a l)=[i0 4]:=rfl
theorem Cp5 {d:Nat} {r:Int} {p:Nat} {n a:Int} {t:ByteArray} {l:List Tree}:Acf cx lo (d+1) r p (.mk 3 t n a l)=[i0 5]:=rfl
theorem B5l {d:Nat} {r:Int} {p:Nat} {n a:Int} {t:ByteArray} {l:List Tree}:Acf cx lo (d+1) r p (.mk 4 t n a l)=[i1 2 (csN cx.cs (2,n,⟨#[]⟩))]:=rfl
theorem Cp6 {d:Nat} {r:Int} {p:Nat} {n a:Int} {t:ByteArray} {l:List Tree}:Acf cx lo (d+1) r p (.mk 5 t n a l)=[i1 2 (csN cx.cs (3,0,t))]:=rfl
theorem B5o {d:Nat} {r:Int} {p:Nat} {n a:Int} {t:ByteArray} {l:List Tree}:Acf cx lo (d+1) r p (.mk 6 t n a l)=[Bvt cx lo t]:=rfl
theorem B5p {d:Nat} {r:Int} {p:Nat} {n a:Int} {t:ByteArray} {l:List Tree}:Acf cx lo (d+1) r p (.mk 7 t n a l)=if (Adx l 0).kind=6∧Ar9 (Adx l 0).text=true then [i1 10 (Asw ((Adx l 0).text++Bdl++(Adx l 1).text).toList)] else Ahl (Acf cx lo d 1) p l++[i0 12]:=rfl
theorem B5q {d:Nat} {r:Int} {p:Nat} {n a:Int} {t:ByteArray} {l:List Tree}:Acf cx lo (d+1) r p (.mk 8 t n a l)=Bjk (Acf cx lo d) r p l:=rfl
theorem Cp7 {d:Nat} {r:Int} {p:Nat} {n a:Int} {t:ByteArray} {x:Tree}:Acf cx lo (d+1) r p (.mk 9 t n a [x])=Acf cx lo d 1 p x:=rfl
theorem B5j {d:Nat} {r:Int} {p:Nat} {n a:Int} {t:ByteArray} {x:Tree}:Acf cx lo (d+1) r p (.mk 10 t n a [x])=Acf cx lo d 1 p x++[i1 16 (ixS t unL)]:=rfl
def Bi4 (f:Nat→Tree→Cd) (p:Nat) (t:ByteArray) (x y:Tree):Cd :=
 if ixS t opL > 0 then f p x++f (p+(f p x).length) y++[i1 17 (ixS t opL)]
 else f p x++i1 (if t.toList == orB.toList then 21 else 20) ((p+(f p x).length+1+(f (p+(f p x).length+1) y).length:Nat):Int) :: f (p+(f p x).length+1) y
theorem Cp2 {d:Nat} {r:Int} {p:Nat} {n a:Int} {t:ByteArray} {x y:Tree}:Acf cx lo (d+1) r p (.mk 11 t n a [x,y])=Bi4 (Acf cx lo d 1) p t x y:=rfl
theorem B5k {d:Nat} {r:Int} {p:Nat} {n a:Int} {t:ByteArray} {l:List Tree}:Acf cx lo (d+1) r p (.mk 12 t n a l)=i2 26 (itN (As1 l) l:Nat) (fdN l:Nat) :: Alh (Acf cx lo d) (As1 l) (p+1) 0 1 l:=rfl
theorem Akw:∀ (d:Nat) (r:Int) (p:Nat) (t:Tree),IsE t→(Acf cx lo d r p t).length≤4 * sz t
 | 0,_,_,_,_=>Nat.zero_le _
 | d+1,r,p,t,h=>by
  have ih:=fun r p t h=>Akw d r p t h
  cases h with
  | atom h1 h2 =>
   rename_i k n a t
   simp only [sz,szs]
   obtain rfl | rfl | rfl | rfl | rfl | rfl:k=1∨k=2∨k=3∨k=4∨k=5∨k=6:=by omega
   ·rw [Cp1];exact Nat.le_of_ble_eq_true rfl
   ·rw [Cp3];exact Nat.le_of_ble_eq_true rfl
   ·rw [Cp5];exact Nat.le_of_ble_eq_true rfl
   ·rw [B5l];exact Nat.le_of_ble_eq_true rfl
   ·rw [Cp6];exact Nat.le_of_ble_eq_true rfl
   ·rw [B5o];exact Nat.le_of_ble_eq_true rfl
  | index h1 h2 =>
   rename_i n a t x y
   rw [B5p]
   split
   ·simp only [List.length_cons,List.length_nil,sz];omega
   ·have:(Ahl (Acf cx lo d 1) p [x,y]).length≤4 * szs [x,y]:=Aww fun p z hz=>by
     rcases List.mem_cons.1 hz with rfl | hz
     ·exact ih _ _ _ h1
     ·obtain rfl:=List.mem_singleton.1 hz;exact ih _ _ _ h2
    simp only [List.length_append,List.length_cons,List.length_nil,sz,szs] at this ⊢
    omega
  | call h1 h2 =>
   rename_i n a t x l
   rw [B5q]
   have e1:=ih 1 p x h1
   have e2:=A7r (f:=Acf cx lo d) (l:=l) (p:=p+(Acf cx lo d 1 p x).length+1) fun r p y hy=>ih r p y (h2 y hy)
   simp only [Bjk,show Adx (x :: l) 0=x from rfl,List.drop_succ_cons,List.drop_zero,List.length_append,List.length_cons,List.length_nil,sz,szs]
   omega
  | paren h1=>rw [Cp7];have:=ih 1 p _ h1;simp only [sz,szs];omega
  | unary h1=>rw [B5j];have:=ih 1 p _ h1;simp only [sz,szs,List.length_append,List.length_cons,List.length_nil];omega
  | binary h1 h2 =>
   rename_i n a t x y
   rw [Cp2]
   have e1:=ih 1 p x h1
   have e2:=ih 1 (p+(Acf cx lo d 1 p x).length) y h2
   have e3:=ih 1 (p+(Acf cx lo d 1 p x).length+1) y h2
   unfold Bi4
   split <;> simp only [sz,szs,List.length_append,List.length_cons,List.length_nil] <;> omega
  | table h1 =>
   rename_i n a t l
   rw [B5k]
   have:=Bzb (f:=Acf cx lo d) (rest:=As1 l) (l:=l) (p:=p+1) (w:=0) (key:=1) h1 fun r p x y hx hy=>by
    rcases Bfh (h1 x hx) with ⟨_,_,_,z,rfl,hz⟩ | ⟨_,_,_,z,u,rfl,hz,hu⟩
    ·obtain rfl:=List.mem_singleton.1 hy;exact ih _ _ _ hz
    ·rcases List.mem_cons.1 hy with rfl | hy
     ·exact ih _ _ _ hz
     ·obtain rfl:=List.mem_singleton.1 hy;exact ih _ _ _ hu
   simp only [List.length_cons,sz]
   omega
theorem Cp8 {d:Nat} {r:Int} {p:Nat} {t:Tree} (h:t.kind≠8):Acf cx lo d r p t=Acf cx lo d 1 p t:=by
 cases d with
 | zero=>rfl
 | succ d =>
  cases t with
  | mk k t n a l =>
   have h:k≠8:=h
   simp only [Acf,if_neg h]
theorem Bl7 {f:Int→Nat→Tree→Cd} {x:Tree}:∀ {m:List Tree} {p:Nat},Avv f p (m++[x])=Ahl (f 1) p m++f (-1) (p+(Ahl (f 1) p m).length) x
 | [],p=>rfl
 | [y],p=>by
  show f 1 p y++Avv f (p+(f 1 p y).length) ([]++[x])=_
  rw [Bl7 (m:=[])]
  simp [Ahl]
 | y :: z :: m,p=>by
  show f 1 p y++Avv f (p+(f 1 p y).length) ((z :: m)++[x])=_
  rw [Bl7 (m:=z :: m)]
  simp only [Ahl,List.append_assoc,List.length_append]
  rw [Nat.add_assoc,Nat.add_assoc]
theorem B42 {f:Nat→Tree→Cd} {x:Tree}:∀ {m:List Tree} {p:Nat},Ahl f p (m++[x])=Ahl f p m++f (p+(Ahl f p m).length) x
 | [],p=>by simp [Ahl]
 | y :: m,p=>by
  show f p y++Ahl f (p+(f p y).length) (m++[x])=_
  rw [B42 (m:=m)]
  simp only [Ahl,List.append_assoc,List.length_append]
  rw [Nat.add_assoc]
end
section
variable {cx:GCx} {lo:List ByteArray}
structure BdG (cx:GCx) (lo:List ByteArray):Prop where
 cs:cx.cs.length≤400000
 gl:cx.gl.length≤400000
 lo:lo.length≤400000
def EX (R:GE) (cx:GCx) (lo:List ByteArray) (d:Nat):Prop:=∀ (c:Cd) (t:Tree),IsE t→gw t→sz t≤d→c.length+4 * sz t≤mx →
 R.Agg cx.cs c cx.gl lo t.kind t.text t.n t.at_ t.kids=some (c++Acf cx lo d 1 c.length t)
def CL (R:GE) (cx:GCx) (lo:List ByteArray) (d:Nat):Prop:=∀ (res:Int) (c:Cd) (t:Tree),IsE t→t.kind=8→gw t→sz t≤d→c.length+4 * sz t≤mx →
 R.Ajz cx.cs c cx.gl lo t.kind t.text t.n t.at_ t.kids res=some (c++Acf cx lo d res c.length t)
def EA (R:GE) (cx:GCx) (lo:List ByteArray) (d:Nat):Prop:=∀ (c:Cd) (l:List Tree),Ajj l→gws l→szs l≤d→c.length+4 * szs l≤mx →
 R.Ahn cx.cs c cx.gl lo l=some (c++Ahl (Acf cx lo d 1) c.length l)
def OP (R:GE) (cx:GCx) (lo:List ByteArray) (d:Nat):Prop:=∀ (c:Cd) (l:List Tree),Ajj l→gws l→szs l≤d→c.length+4 * szs l≤mx →
 R.Alm cx.cs c cx.gl lo l=some (c++Avv (Acf cx lo d) c.length l)
def BI (R:GE) (cx:GCx) (lo:List ByteArray) (d:Nat):Prop:=∀ (c:Cd) (t:ByteArray) (n a:Int) (x y:Tree),IsE x→IsE y→gw x→gw y→sz x+sz y≤d→c.length+4 * (sz x+sz y)+2≤mx →
 R.Ap3 cx.cs c cx.gl lo 11 t n a [x,y]=some (c++Bi4 (Acf cx lo d 1) c.length t x y)
def TA (R:GE) (cx:GCx) (lo:List ByteArray) (d:Nat):Prop:=∀ (c:Cd) (l:List Tree),(∀ x ∈ l,IsF x)→gws l→szs l≤d→c.length+4 * szs l+3≤mx →
 R.Alp cx.cs c cx.gl lo l=some (c++i2 26 (itN (As1 l) l:Nat) (fdN l:Nat) :: Alh (Acf cx lo d) (As1 l) (c.length+1) 0 1 l)
theorem Atn (c e:Cd) (x:Ins):(c++e++[x]).length=c.length+e.length+1:=by simp [Nat.add_assoc]
theorem B43 {R:GE} {d:Nat} (h:EX R cx lo d):∀ (t pre:List Tree) (c:Cd) (m:Nat),pre.length+t.length≤400000→t.length < m→Ajj t→gws t→szs t≤d→c.length+4 * szs t≤mx →
  Ahn.l0 m R cx.cs cx.gl lo (pre++t) (pre.length:Int) c=some (c++Ahl (Acf cx lo d 1) c.length t)
 | [],pre,c,m,hl,hm,hE,hg,hd,hb=>by
  obtain ⟨m,rfl⟩:∃ m',m=m'+1:=⟨m - 1,by omega⟩
  simp only [Ahn.l0]
  rw [ltF (by simp)]
  simp [Ahl]
 | x :: t,pre,c,m,hl,hm,hE,hg,hd,hb=>by
  obtain ⟨m,rfl⟩:∃ m',m=m'+1:=⟨m - 1,by omega⟩
  simp only [List.length_cons] at hl hm
  simp only [szs] at hd hb
  simp only [Ahn.l0]
  rw [ltT (by simp;omega),Ah5]
  simp only [cond_true,Option.bind_some]
  have hx:=hE x (List.mem_cons_self ..)
  have e0:=Akw (cx:=cx) (lo:=lo) d 1 c.length x hx
  rw [h c x hx hg.1 (by omega) (by omega),Option.bind_some,wiC _ (by omega) (by omega)]
  have ih:=B43 h t (pre++[x]) (c++Acf cx lo d 1 c.length x) m (by simp;omega) (by omega) (fun y hy=>hE y (List.mem_cons_of_mem _ hy)) hg.2 (by omega) (by rw [List.length_append];omega)
  rw [show (pre++[x])++t=pre++x :: t by simp,show ((pre++[x]).length:Int)=(pre.length:Int)+1 by simp] at ih
  refine ih.trans ?_
  simp only [Ahl,List.append_assoc,List.length_append]
theorem Bqa {k d:Nat} (hk:500000≤k) (h:EX (GE.at k) cx lo d):EA (GE.at (k+1)) cx lo d:=fun c l hE hg hd hb=>by
 have:=Aju l
 unfold mx at hb
 exact B43 h l [] c k (by simp only [List.length_nil];omega) (by omega) hE hg hd hb
theorem A8m {α:Type} (l:List α):l=[]∨∃ m x,l=m++[x]:=by
 rcases List.eq_nil_or_concat l with h | ⟨m,x,h⟩
 ·exact .inl h
 ·exact .inr ⟨m,x,by simpa using h⟩
theorem A5a {l m:List Tree}:gws (l++m) ↔ gws l∧gws m:=by
 simp only [Bak,List.mem_append]
 exact ⟨fun h=>⟨fun x hx=>h x (.inl hx),fun x hx=>h x (.inr hx)⟩,fun h x hx=>hx.elim (h.1 x) (h.2 x)⟩
theorem Co7 {l m:List Tree}:Ajj (l++m) ↔ Ajj l∧Ajj m:=by
 simp only [Ajj,List.mem_append]
 exact ⟨fun h=>⟨fun x hx=>h x (.inl hx),fun x hx=>h x (.inr hx)⟩,fun h x hx=>hx.elim (h.1 x) (h.2 x)⟩
theorem Cc3 {α:Type} (m:List α) (x:α) (h:m.length≤400000):IntKind.i64.wrap ((((m++[x]).length:Nat):Int) - 1)=(m.length:Int):=by
 rw [List.length_append,List.length_cons,List.length_nil,wiC _ (by omega) (by omega)]
 omega
theorem Ceu {k d:Nat} (h:EA (GE.at k) cx lo d) (h':CL (GE.at k) cx lo d):OP (GE.at (k+1)) cx lo d:=fun c l hE hg hd hb=>by
 show Alm.g (GE.at k) k cx.cs c cx.gl lo l=_
 have hn:=Aju l
 unfold mx at hb
 unfold Alm.g
 rcases A8m l with rfl | ⟨m,x,rfl⟩
 ·rw [wiC _ (by simp) (by simp),decide_eq_false (by simp),cond_false,Option.bind_some,cond_false,h c [] le_nil hg hd hb]
  rfl
 ·rw [List.length_append,List.length_cons,List.length_nil] at hn
  obtain ⟨h1,h2⟩:=Co7.1 hE
  obtain ⟨g1,g2⟩:=A5a.1 hg
  have hx:=h2 x (List.mem_cons_self ..)
  have hx2:=g2.1
  simp only [Aib,szs] at hd hb hn
  rw [Cc3 m x (by omega),decide_eq_true (by omega),cond_true,Ah5,Option.bind_some,Option.bind_some]
  have e0:=Aww (f:=Acf cx lo d 1) (l:=m) (p:=c.length) fun p y hy=>Akw d 1 p y (h1 y hy)
  by_cases hk8:x.kind=8
  ·rw [eqC hk8,cond_true,Anx 0 m.length (show (0:Int)=((0:Nat):Int) from rfl) rfl (by omega) (by simp),Option.bind_some,show ((m++[x]).drop 0).take (m.length - 0)=m by simp,h c m h1 g1 (by omega) (by unfold mx;omega),Option.bind_some,Option.bind_some]
   rw [h' (-1) _ x hx hk8 hx2 (by omega) (by unfold mx;rw [List.length_append];omega),Option.bind_some,Bl7,List.append_assoc,List.length_append]
  ·rw [neC hk8,cond_false,h c _ hE hg (by rw [Aib];simp only [szs];omega) (by rw [Aib];simp only [szs];unfold mx;omega),Option.bind_some,Bl7,B42,Cp8 (r:=-1) hk8]
theorem C0u {t:Tree} (h:IsE t) (hk:t.kind=8):∃ tx n a x l,t=.mk 8 tx n a (x :: l)∧IsE x∧Ajj l:=by
 cases h with
 | call h1 h2=>exact ⟨_,_,_,_,_,rfl,h1,h2⟩
 | _=>simp only [Tree.kind] at hk;omega
theorem Cna {k d:Nat} (h:EX (GE.at k) cx lo d) (h':OP (GE.at k) cx lo d):CL (GE.at (k+1)) cx lo (d+1):=fun res c t hE hk8 hg hd hb=>by
 obtain ⟨tx,n,a,x,l,rfl,hx,hl⟩:=C0u hE hk8
 show Ajz.g (GE.at k) k cx.cs c cx.gl lo 8 tx n a (x :: l) res=_
 simp only [sz,szs] at hd hb
 obtain ⟨_,g1,g2⟩:=hg
 have e0:=Akw (cx:=cx) (lo:=lo) d 1 c.length x hx
 have e1:=A7r (f:=Acf cx lo d) (l:=l) (p:=c.length+(Acf cx lo d 1 c.length x).length+1) fun r p y hy=>Akw d r p y (hl y hy)
 have hn:=Aju l
 unfold mx at hb
 unfold Ajz.g
 rw [show Acz (x :: l) (0:Int)=some x from rfl,Option.bind_some,h c x hx g1 (by omega) (by unfold mx;omega),Option.bind_some,add0 _ _ _ (by unfold mx;rw [List.length_append];omega),Option.bind_some]
 rw [Anx 1 (l.length+1) (show (1:Int)=((1:Nat):Int) from rfl) (by simp) (by omega) (by simp),Option.bind_some,show ((x :: l).drop 1).take (l.length+1 - 1)=l by simp]
 rw [h' _ l hl g2 (by omega) (by unfold mx;rw [Atn];omega),Option.bind_some,Atn,add1 _ _ _ _ (by unfold mx;rw [List.length_append,Atn];omega),Option.bind_some,B5q]
 simp only [Bjk,show Adx (x :: l) 0=x from rfl,List.drop_succ_cons,List.drop_zero,List.append_assoc,List.cons_append,List.nil_append]
theorem ix0 (x:Tree) (l:List Tree):Acz (x :: l) (0:Int)=some x:=rfl
theorem ix1 (x y:Tree) (l:List Tree):Acz (x :: y :: l) (1:Int)=some y:=rfl
theorem Cmr {k d:Nat} (hk:500000≤k) (h:EX (GE.at k) cx lo d):BI (GE.at (k+1)) cx lo d:=fun c t n a x y hx hy gx gy hd hb=>by
 show Ap3.g (GE.at k) k cx.cs c cx.gl lo 11 t n a [x,y]=_
 have e0:=Akw (cx:=cx) (lo:=lo) d 1 c.length x hx
 have e1:=Akw (cx:=cx) (lo:=lo) d 1 (c.length+(Acf cx lo d 1 c.length x).length) y hy
 have e2:=Akw (cx:=cx) (lo:=lo) d 1 (c.length+(Acf cx lo d 1 c.length x).length+1) y hy
 unfold mx at hb
 unfold Ap3.g Bi4 orB
 rw [ix0,Option.bind_some,h c x hx gx (by omega) (by unfold mx;omega),Option.bind_some,Bui k _ t (by decide) (by show 13 < k;omega),Option.bind_some]
 show cond (decide (ixS t opL > 0)) _ _=_
 by_cases hp:ixS t opL > 0
 ·rw [decide_eq_true hp,if_pos hp,cond_true,ix1,Option.bind_some,h _ y hy gy (by omega) (by unfold mx;rw [List.length_append];omega),Option.bind_some,List.length_append]
  rw [add1 _ _ _ _ (by unfold mx;simp only [List.length_append];omega),Option.bind_some]
  show some ((c++_++_)++[i1 17 (ixS t opL)])=_
  simp only [List.append_assoc]
 ·rw [decide_eq_false hp,if_neg hp,cond_false]
  unfold Adg
  have key:∀ o:Int,((Ac7.f k (c++Acf cx lo d 1 c.length x) o []).bind fun r41=>(Acz [x,y] (1:Int)).bind fun x46=>((GE.at k).Agg cx.cs r41.2 cx.gl lo x46.kind x46.text x46.n x46.at_ x46.kids).bind fun r55=>(Aj0.f k r55).bind fun r60=>(Acz r55 r41.1).bind fun x61=>(Aj3 r55 r41.1 (x61.1,r60,x61.2.2.1,x61.2.2.2)).bind fun l68=>some l68) =
    some (c++(Acf cx lo d 1 c.length x++i1 o ((c.length+(Acf cx lo d 1 c.length x).length+1+(Acf cx lo d 1 (c.length+(Acf cx lo d 1 c.length x).length+1) y).length:Nat):Int) :: Acf cx lo d 1 (c.length+(Acf cx lo d 1 c.length x).length+1) y)):=fun o=>by
   rw [add0 _ _ _ (by unfold mx;rw [List.length_append];omega),Option.bind_some,ix1,Option.bind_some,h _ y hy gy (by omega) (by unfold mx;rw [Atn];omega),Option.bind_some,Atn]
   unfold Aj0.f
   rw [Option.bind_some,show ∀ (A B:Cd) (z:Ins),A++[z]++B=A++z :: B by simp,Ah5,Option.bind_some,Ats,Option.bind_some,List.append_assoc]
   simp only [i0,i1,List.length_append,List.length_cons,Nat.add_assoc,Nat.add_comm 1]
  cases t.toList == (⟨#[111,114]⟩:ByteArray).toList with
  | true=>exact key 21
  | false=>exact key 20
theorem Ba3 {k n a:Int} {t:ByteArray} {l:List Tree}:(Tree.mk k t n a l).kind=k:=rfl
theorem Bu5 {k n a:Int} {t:ByteArray} {l:List Tree}:(Tree.mk k t n a l).kids=l:=rfl
theorem By6 (k:Nat) (w key:Int) (c:Cd) (hw0:0≤w) (hw:w≤50) (hk0:0≤key) (hk:key≤1000000000) (hc:c.length≤mx) :
  Au9.f k w c key=some (if w > 0 then 0 else w,c++Aqi w key,if w > 0 then key+w else key):=by
 unfold Au9.f Aqi
 by_cases h:w > 0
 ·rw [decide_eq_true h,cond_true,Bo2 _ _ _ _ _ hc,Option.bind_some,wiC _ (by omega) (by omega),if_pos h,if_pos h,if_pos h]
 ·rw [decide_eq_false h,cond_false,if_neg h,if_neg h,if_neg h,List.append_nil]
theorem Cic {R:GE} {d:Nat} (hE:EX R cx lo d) (hA:EA R cx lo d) (hC:CL R cx lo d) (rest:Bool) (J:Int→Int→Int→Int→Cd→Option Cd) (fin:Int→Int→Cd→Option Cd)
  (hJ:∀ it fd key w c,0≤w→w≤50→0≤key→key≤1000000000→c.length≤mx→J it fd key w c=fin it fd (c++Aqi w key)) :
  ∀ (t pre:List Tree) (m it fd:Nat) (key w:Int) (c:Cd),pre.length+t.length≤400000→t.length < m→it+t.length≤1000000→fd+t.length≤1000000→0≤w→w < 50→0≤key→key+100 * (t.length+1)≤1000000000 →
  (∀ x ∈ t,IsF x)→gws t→szs t≤d→c.length+4 * szs t+1≤mx→(rest=true→t=[]∨As1 t=true) →
  Alp.l0 m R cx.cs cx.gl lo (pre++t) rest J (it:Int) (fd:Int) (pre.length:Int) key w c=fin ((it+itN rest t:Nat):Int) ((fd+fdN t:Nat):Int) (c++Alh (Acf cx lo d) rest c.length w key t)
 | [],pre,m,it,fd,key,w,c,hl,hm,hi,hf,hw0,hw,hk0,hk,hF,hg,hd,hb,hr=>by
  obtain ⟨m,rfl⟩:∃ m',m=m'+1:=⟨m - 1,by omega⟩
  simp only [Alp.l0]
  rw [ltF (by simp),cond_false,hJ _ _ _ _ _ hw0 (by omega) hk0 (by omega) (by omega)]
  rfl
 | x :: t,pre,m,it,fd,key,w,c,hl,hm,hi,hf,hw0,hw,hk0,hk,hF,hg,hd,hb,hr=>by
  obtain ⟨m,rfl⟩:∃ m',m=m'+1:=⟨m - 1,by omega⟩
  simp only [List.length_cons] at hl hm hi hf hk
  simp only [szs] at hd hb
  have ih:=fun m it fd key w c h1 h2 h3 h4 h5 h6 h7 h8=>Cic hE hA hC rest J fin hJ t (pre++[x]) m it fd key w c (by simp;omega) h1 h2 h3 h4 h5 h6 h7 (fun y hy=>hF y (List.mem_cons_of_mem _ hy)) hg.2 (by omega) h8 (fun h=>by
   rcases hr h with h | h
   ·cases h
   ·cases t with
    | nil=>exact .inl rfl
    | cons y t=>exact .inr (by rw [← h];unfold As1;rw [List.getLast?_cons_cons]))
  rw [show (pre++[x])++t=pre++x :: t by simp,show ((pre++[x]).length:Int)=(pre.length:Int)+1 by simp] at ih
  simp only [Alp.l0]
  rw [ltT (by simp;omega),cond_true]
  dsimp only [Adg]
  rw [Ah5,Option.bind_some,wiC ((pre.length:Int)+1) (by omega) (by omega)]
  have hFx:=hF x (List.mem_cons_self ..)
  rcases Bfh hFx with ⟨tx,n,a,y,rfl,hy⟩ | ⟨tx,n,a,y,z,rfl,hy,hz⟩
  ·have hgy:gw y:=hg.1.2.1
   simp only [sz,szs] at hd hb
   simp only [Ba3,Bu5,itN,fdN,Alh,show Adx [y] 0=y from rfl,ix0,Option.bind_some,Int.reduceEq,if_false,Nat.zero_add]
   rw [show ((13:Int) == 14)=false from rfl,cond_false]
   have e1:∀ p,(Acf cx lo d 1 p y).length≤4 * sz y:=fun p=>Akw d 1 p y hy
   have eL:((pre.length:Int) == IntKind.i64.wrap ((((pre++Tree.mk 13 tx n a [y] :: t).length:Nat):Int) - 1))=t.isEmpty:=by
    rw [List.length_append,List.length_cons,wiC _ (by omega) (by omega)]
    cases t with
    | nil=>simp only [List.length_nil,List.isEmpty_nil];rw [beq_iff_eq];omega
    | cons u v=>simp only [List.length_cons,List.isEmpty_cons];rw [beq_eq_false_iff_ne];omega
   rw [eL]
   have eq:(cond rest (some t.isEmpty) (some false):Option Bool)=some (rest && t.isEmpty):=by cases rest <;> rfl
   rw [eq,Option.bind_some]
   by_cases hlast:(rest && t.isEmpty)=true
   ·rw [hlast,cond_true,if_pos rfl,if_pos rfl]
    obtain ⟨hre,hte⟩:rest=true∧t=[]:=by simpa using hlast
    subst hte
    have h8:y.kind=8:=by
     rcases hr hre with h | h
     ·cases h
     ·unfold As1 at h
      simpa [Tree.kids,Tree.kind,Adx] using h
    rw [By6 _ _ _ _ hw0 (by omega) hk0 (by omega) (by omega),Option.bind_some]
    have hs:=By9 w key
    rw [add0 _ _ _ (by rw [List.length_append];omega),Option.bind_some,hC (-1) _ y hy h8 hgy (by omega) (by rw [Atn];omega),Option.bind_some,Atn]
    have e2:=Akw (cx:=cx) (lo:=lo) d (-1) (c.length+(Aqi w key).length+1) y hy
    have ek:(if w > 0 then key+w else key)≤1000000000∧0≤(if w > 0 then key+w else key):=by split <;> omega
    rw [add1 _ _ _ _ (by rw [List.length_append,Atn];omega),Option.bind_some]
    have ih:=ih m it fd (if w > 0 then key+w else key) (if w > 0 then 0 else w) (c++Aqi w key++[i0 22]++Acf cx lo d (-1) (c.length+(Aqi w key).length+1) y++[i1 29 (if w > 0 then key+w else key)]) (by simp only [List.length_nil];omega) (by omega) (by omega) (by split <;> omega) (by split <;> omega) ek.2 (by simp only [List.length_nil];split <;> omega) (by simp only [List.length_append,List.length_cons,List.length_nil,szs];omega)
    refine ih.trans ?_
    have e3:(if w > 0 then 0 else w:Int)=0:=by split <;> omega
    simp only [itN,fdN,Alh,e3,Nat.add_zero]
    congr 1
    simp [Aqi]
   ·rw [Bool.not_eq_true] at hlast
    rw [hlast,cond_false]
    simp only [Bool.false_eq_true,if_false]
    rw [hE c y hy hgy (by omega) (by omega),Option.bind_some,wiC (w+1) (by omega) (by omega),wiC ((it:Int)+1) (by omega) (by omega)]
    have e1c:=e1 c.length
    by_cases h50:w+1=50
    ·rw [eqC h50,cond_true,if_pos h50,h50,By6 _ _ _ _ (by omega) (by omega) hk0 (by omega) (by rw [List.length_append];omega),Option.bind_some]
     have ih:=ih m (it+1) fd (key+50) 0 (c++Acf cx lo d 1 c.length y++[i2 28 50 key]) (by omega) (by omega) (by omega) (by omega) (by omega) (by omega) (by omega) (by rw [Atn];omega)
     refine ih.trans ?_
     rw [Atn]
     simp only [List.append_assoc,List.cons_append,List.nil_append,Nat.add_assoc]
    ·rw [neC h50,cond_false,if_neg h50]
     have ih:=ih m (it+1) fd key (w+1) (c++Acf cx lo d 1 c.length y) (by omega) (by omega) (by omega) (by omega) (by omega) (by omega) (by omega) (by rw [List.length_append];omega)
     refine ih.trans ?_
     rw [List.length_append]
     simp only [List.append_assoc,Nat.add_assoc]
  ·have hgs:gws [y,z]:=hg.1.2
   have hes:Ajj [y,z]:=fun u hu=>by
    rcases List.mem_cons.1 hu with rfl | hu
    ·exact hy
    ·obtain rfl:=List.mem_singleton.1 hu;exact hz
   simp only [sz] at hd hb
   have e1:=Aww (f:=Acf cx lo d 1) (l:=[y,z]) (p:=c.length) fun p u hu=>Akw d 1 p u (hes u hu)
   simp only [Ba3,Bu5,itN,fdN,Alh,if_true]
   rw [show ((14:Int) == 14)=true from rfl,cond_true,hA c _ hes hgs (by omega) (by omega),Option.bind_some,add1 _ _ _ _ (by rw [List.length_append];omega),Option.bind_some,wiC ((fd:Int)+1) (by omega) (by omega)]
   have ih:=ih m it (fd+1) key w (c++Ahl (Acf cx lo d 1) c.length [y,z]++[i1 27 w]) (by omega) (by omega) (by omega) hw0 hw hk0 (by omega) (by rw [Atn];omega)
   refine ih.trans ?_
   rw [Atn,Nat.zero_add]
   simp only [List.append_assoc,List.cons_append,List.nil_append,Nat.add_assoc]
theorem Db7 {k d:Nat} (hk:500000≤k) (hE:EX (GE.at k) cx lo d) (hA:EA (GE.at k) cx lo d) (hC:CL (GE.at k) cx lo d):TA (GE.at (k+1)) cx lo d:=fun c l hF hg hd hb=>by
 show Alp.g (GE.at k) k cx.cs c cx.gl lo l=_
 have hn:=Aju l
 unfold mx at hb
 unfold Alp.g
 have hq:∀ f:Bool→Option Cd,((cond (decide (((l.length:Nat):Int) > 0)) ((Acz l (IntKind.i64.wrap (((l.length:Nat):Int) - 1))).bind fun A1n=>cond (A1n.kind == (13:Int)) ((Acz l (IntKind.i64.wrap (((l.length:Nat):Int) - 1))).bind fun x158=>(Acz x158.kids (0:Int)).bind fun A1s=>some (A1s.kind == (8:Int))) (some false)) (some false):Option Bool).bind f)=f (As1 l):=fun f=>by
  rcases A8m l with rfl | ⟨m,x,rfl⟩
  ·rfl
  ·rw [List.length_append,List.length_cons,List.length_nil] at hn
   rw [Cc3 m x (by omega),decide_eq_true (by simp),cond_true,Ah5,Option.bind_some]
   have hx:=hF x (by simp)
   unfold As1
   rw [List.getLast?_append,List.getLast?_singleton]
   rcases Bfh hx with ⟨_,_,_,y,rfl,_⟩ | ⟨_,_,_,y,z,rfl,_,_⟩
   ·rfl
   ·rfl
 rw [hq,add0 _ _ _ (by unfold mx;omega),Option.bind_some]
 dsimp only [Adg]
 have hfin:=Cic hE hA hC (As1 l) (fun (x10:Int) (x11:Int) (x12:Int) (x13:Int) (l14:Cd)=>(Au9.f k x13 l14 x12).bind fun r20=>(Acz r20.2.1 (c.length:Int)).bind fun x25=>(Aj3 r20.2.1 (c.length:Int) (x25.1,x10,x25.2.2.1,x25.2.2.2)).bind fun l32=>(Acz l32 (c.length:Int)).bind fun x36=>(Aj3 l32 (c.length:Int) (x36.1,x36.2.1,x11,x36.2.2.2)).bind fun l43=>some l43)
  (fun x10 x11 b=>(Acz b (c.length:Int)).bind fun x25=>(Aj3 b (c.length:Int) (x25.1,x10,x25.2.2.1,x25.2.2.2)).bind fun l32=>(Acz l32 (c.length:Int)).bind fun x36=>(Aj3 l32 (c.length:Int) (x36.1,x36.2.1,x11,x36.2.2.2)).bind fun l43=>some l43)
  (fun it fd key w c h1 h2 h3 h4 h5=>by rw [By6 k w key c h1 h2 h3 h4 h5];rfl)
  l [] k 0 0 1 0 (c++[i0 26]) (by simp only [List.length_nil];omega) (by omega) (by omega) (by omega) (by omega) (by omega) (by omega) (by omega) hF hg hd (by unfold mx;simp only [List.length_append,List.length_cons,List.length_nil];omega) (fun h=>.inr h)
 refine hfin.trans ?_
 rw [Nat.zero_add,Nat.zero_add,show ∀ (z:Ins) (B:Cd),c++[z]++B=c++z :: B by simp,Ah5,Option.bind_some,Ats,Option.bind_some,Ah5,Option.bind_some,Ats,List.length_append]
 rfl
theorem Cqj {k d:Nat} (hk:500000≤k) (hB:BdG cx lo) (hE:EX (GE.at k) cx lo d) (hA:EA (GE.at k) cx lo d) (hC:CL (GE.at k) cx lo (d+1)) (hI:BI (GE.at k) cx lo d) (hT:TA (GE.at k) cx lo d):EX (GE.at (k+1)) cx lo (d+1):=fun c t hIs hg hd hb=>by
 have Csm:=hIs
 cases hIs with
 | atom h1 h2 =>
  rename_i kk n a t
  show Agg.g (GE.at k) k cx.cs c cx.gl lo kk t n a []=_
  have hc:c.length≤mx:=by omega
  unfold Agg.g
  obtain rfl | rfl | rfl | rfl | rfl | rfl:kk=1∨kk=2∨kk=3∨kk=4∨kk=5∨kk=6:=by omega
  ·show (Ac7.f k c 3 []).bind _=_
   rw [add0 _ _ _ hc];rfl
  ·show (Ac7.f k c 4 []).bind _=_
   rw [add0 _ _ _ hc];rfl
  ·show (Ac7.f k c 5 []).bind _=_
   rw [add0 _ _ _ hc];rfl
  ·show (Awy.f k cx.cs c 2 n _).bind _=_
   rw [B4p _ _ _ _ _ _ hB.cs hk hc];rfl
  ·show (Awy.f k cx.cs c 3 0 t).bind _=_
   rw [B4p _ _ _ _ _ _ hB.cs hk hc];rfl
  ·simp only [Int.reduceBEq,cond_false,cond_true]
   rw [B5o]
   unfold A2t.f Bvt
   rw [Option.bind_some]
   show cond (decide (Ayi lo t > 0)) ((Ac7.f k c 6 [Ayi lo t]).bind _) _=_
   by_cases h:Ayi lo t > 0
   ·rw [decide_eq_true h,if_pos h,cond_true,add1 _ _ _ _ hc];rfl
   ·rw [decide_eq_false h,if_neg h,cond_false,Bqi k _ _ hB.gl hk,Option.bind_some,add1 _ _ _ _ hc];rfl
 | index h1 h2 =>
  rename_i n a t x y
  show Agg.g (GE.at k) k cx.cs c cx.gl lo 7 t n a [x,y]=_
  have hc:c.length≤mx:=by omega
  obtain ⟨_,gx,gy,_⟩:=hg
  have hsx:x.text.size≤30000:=by cases x;exact gx.1.1
  have hsy:y.text.size≤30000:=by cases y;exact gy.1.1
  unfold Agg.g
  simp only [Int.reduceBEq,cond_false,cond_true]
  rw [ix0,Option.bind_some,B5p]
  have hq:(cond (x.kind == (6:Int)) (cond (x.text.toList == (⟨#[116,97,98,108,101]⟩:ByteArray).toList) (some true) (some (x.text.toList == (⟨#[117,116,102,56]⟩:ByteArray).toList))) (some false):Option Bool)=some (x.kind == 6 && Ar9 x.text):=by
   unfold Ar9
   cases x.kind == 6 with
   | false=>rfl
   | true=>cases x.text.toList == Bpa.toList <;> rfl
  rw [hq,Option.bind_some,show Adx [x,y] 0=x from rfl,show Adx [x,y] 1=y from rfl]
  by_cases h:x.kind=6∧Ar9 x.text=true
  ·rw [if_pos h,h.2,eqC h.1]
   show (Auy x.text Bdl).bind _=_
   rw [A94 (by show x.text.size+1≤_;omega),Option.bind_some,ix1,Option.bind_some,A94 (by rw [ByteArray.size_append];show x.text.size+1+_≤_;omega),Option.bind_some,Cdk k (by omega),Option.bind_some,add1 _ _ _ _ hc]
   rfl
  ·have:(x.kind == 6 && Ar9 x.text)=false:=by
    rw [Bool.eq_false_iff];intro h';exact h (by simpa using h')
   rw [if_neg h,this,cond_false]
   have hes:Ajj [x,y]:=fun u hu=>by
    rcases List.mem_cons.1 hu with rfl | hu
    ·exact h1
    ·obtain rfl:=List.mem_singleton.1 hu;exact h2
   simp only [sz] at hd hb
   have e1:=Aww (f:=Acf cx lo d 1) (l:=[x,y]) (p:=c.length) fun p u hu=>Akw d 1 p u (hes u hu)
   rw [hA c [x,y] hes ⟨gx,gy,trivial⟩ (by omega) (by omega),Option.bind_some,add0 _ _ _ (by rw [List.length_append];omega),Option.bind_some,List.append_assoc]
 | call h1 h2 =>
  rename_i n a t x l
  show Agg.g (GE.at k) k cx.cs c cx.gl lo 8 t n a (x :: l)=_
  unfold Agg.g
  show ((GE.at k).Ajz cx.cs c cx.gl lo 8 t n a (x :: l) 1).bind _=_
  rw [show (GE.at k).Ajz cx.cs c cx.gl lo 8 t n a (x :: l) 1=_ from hC 1 c _ Csm rfl hg hd hb]
  rfl
 | paren h1 =>
  rename_i n a t x
  simp only [sz,szs] at hd hb
  show Agg.g (GE.at k) k cx.cs c cx.gl lo 9 t n a [x]=_
  unfold Agg.g
  simp only [Int.reduceBEq,cond_false,cond_true]
  rw [ix0,Option.bind_some,hE c x h1 hg.2.1 (by omega) (by omega)]
  rfl
 | unary h1 =>
  rename_i n a t x
  simp only [sz,szs] at hd hb
  have e0:=Akw (cx:=cx) (lo:=lo) d 1 c.length x h1
  show Agg.g (GE.at k) k cx.cs c cx.gl lo 10 t n a [x]=_
  unfold Agg.g
  simp only [Int.reduceBEq,cond_false,cond_true]
  rw [ix0,Option.bind_some,hE c x h1 hg.2.1 (by omega) (by omega),Option.bind_some,Bui k _ t (by decide) (by show 4 < k;omega),Option.bind_some,add1 _ _ _ _ (by rw [List.length_append];omega),Option.bind_some,B5j,List.append_assoc]
  rfl
 | binary h1 h2 =>
  rename_i n a t x y
  simp only [sz,szs] at hd hb
  show Agg.g (GE.at k) k cx.cs c cx.gl lo 11 t n a [x,y]=_
  unfold Agg.g
  show ((GE.at k).Ap3 cx.cs c cx.gl lo 11 t n a [x,y]).bind _=_
  rw [hI c t n a x y h1 h2 hg.2.1 hg.2.2.1 (by omega) (by omega)]
  rfl
 | table h1 =>
  rename_i n a t l
  simp only [sz,szs] at hd hb
  show Agg.g (GE.at k) k cx.cs c cx.gl lo 12 t n a l=_
  unfold Agg.g
  show ((GE.at k).Alp cx.cs c cx.gl lo l).bind _=_
  rw [hT c l h1 hg.2 (by omega) (by omega)]
  rfl
theorem A4x (hB:BdG cx lo):∀ (d k:Nat),500004+4 * d≤k→EX (GE.at k) cx lo d∧CL (GE.at (k - 1)) cx lo d
 | 0,k,_=>⟨fun _ t _ _ h=>by have:=Ase t;omega,fun _ _ t _ _ _ h=>by have:=Ase t;omega⟩
 | d+1,k,hk=>by
  have ihE:∀ j,500004+4 * d≤j→EX (GE.at j) cx lo d:=fun j hj=>(A4x hB d j hj).1
  have ihC:∀ j,500003+4 * d≤j→CL (GE.at j) cx lo d:=fun j hj=>(A4x hB d (j+1) (by omega)).2
  obtain ⟨j,rfl⟩:∃ j,k=j+4:=⟨k - 4,by omega⟩
  have hA:∀ i,500005+4 * d≤i→EA (GE.at i) cx lo d:=fun i hi=>by
   obtain ⟨i,rfl⟩:∃ m,i=m+1:=⟨i - 1,by omega⟩
   exact Bqa (by omega) (ihE i (by omega))
  have hC:CL (GE.at (j+3)) cx lo (d+1):=Cna (ihE _ (by omega)) (Ceu (hA _ (by omega)) (ihC _ (by omega)))
  exact ⟨Cqj (by omega) hB (ihE _ (by omega)) (hA _ (by omega)) hC (Cmr (by omega) (ihE _ (by omega))) (Db7 (by omega) (ihE _ (by omega)) (hA _ (by omega)) (ihC _ (by omega))),hC⟩
end
abbrev Hx:=List (Option Ins)
def Aea (e:Int) (X:Hx):Cd:=X.map fun o=>o.getD (18,e,0,0)
def Agx (c:Cd):Hx:=c.map some
def holes:Nat→Hx→List Int
 | _,[]=>[]
 | p,none :: X=>(p:Int) :: holes (p+1) X
 | p,some _ :: X=>holes (p+1) X
theorem A2r {e:Int} {X Y:Hx}:Aea e (X++Y)=Aea e X++Aea e Y:=List.map_append ..
theorem An4 {e:Int} {X:Hx}:(Aea e X).length=X.length:=List.length_map ..
theorem A2s {e:Int}:∀ {c:Cd},Aea e (Agx c)=c
 | []=>rfl
 | x :: c=>congrArg (x :: ·) (A2s (c:=c))
theorem Atq {c:Cd}:(Agx c).length=c.length:=List.length_map ..
theorem Aq7:∀ {X Y:Hx} {p:Nat},holes p (X++Y)=holes p X++holes (p+X.length) Y
 | [],Y,p=>rfl
 | none :: X,Y,p=>by
  show (p:Int) :: holes (p+1) (X++Y)=_
  rw [Aq7 (X:=X),List.length_cons,Nat.add_assoc,Nat.add_comm 1];rfl
 | some _ :: X,Y,p=>by
  show holes (p+1) (X++Y)=_
  rw [Aq7 (X:=X),List.length_cons,Nat.add_assoc,Nat.add_comm 1];rfl
theorem Asl:∀ {c:Cd} {p:Nat},holes p (Agx c)=[]
 | [],_=>rfl
 | x :: c,p=>Asl (c:=c) (p:=p+1)
theorem Bbm {β:Type} (g:Nat→List Int→Int→Cd→Option β) (J:Cd→Option β)
  (hg:∀ m hs x c,g (m+1) hs x c=cond (decide (x < ((hs.length:Nat):Int))) ((Acz hs x).bind fun i=>(Aj0.f m c).bind fun r=>(Acz c i).bind fun z=>(Aj3 c i (z.1,r,z.2.2.1,z.2.2.2)).bind fun l=>g m hs (IntKind.i64.wrap (x+1)) l) (J c)) (e:Nat) (T:Cd) :
  ∀ (X:Hx) (pre:List Int) (A:Cd) (m:Nat),pre.length+X.length≤2000000→X.length < m→e=A.length+X.length+T.length →
   g m (pre++holes A.length X) (pre.length:Int) (A++Aea 0 X++T)=J (A++Aea (e:Int) X++T)
 | [],pre,A,m,hl,hm,he=>by
  obtain ⟨m,rfl⟩:∃ m',m=m'+1:=⟨m - 1,by omega⟩
  rw [hg,ltF (by simp [holes]),cond_false]
  rfl
 | some i :: X,pre,A,m,hl,hm,he=>by
  rw [List.length_cons] at hl hm he
  have ih:=Bbm g J hg e T X pre (A++[i]) m (by omega) (by omega) (by rw [List.length_append];simp only [List.length_cons,List.length_nil];omega)
  rw [List.length_append] at ih
  simp only [List.append_assoc,List.cons_append,List.nil_append] at ih
  simpa [Aea,holes] using ih
 | none :: X,pre,A,m,hl,hm,he=>by
  obtain ⟨m,rfl⟩:∃ m',m=m'+1:=⟨m - 1,by omega⟩
  rw [List.length_cons] at hl hm he
  rw [hg]
  show cond (decide ((pre.length:Int) < (((pre++(A.length:Int) :: holes (A.length+1) X).length:Nat):Int))) ((Acz (pre++(A.length:Int) :: holes (A.length+1) X) (pre.length:Int)).bind fun i=>_) _=_
  rw [ltT (by simp;omega),cond_true,Ah5,Option.bind_some]
  unfold Aj0.f
  rw [Option.bind_some,show A++Aea 0 (none :: X)++T=A++(18,0,0,0) :: (Aea 0 X++T) by simp [Aea],Ah5,Option.bind_some,Ats,Option.bind_some,wiC _ (by omega) (by omega)]
  have ih:=Bbm g J hg e T X (pre++[(A.length:Int)]) (A++[(18,(e:Int),0,0)]) m (by simp;omega) (by omega) (by rw [List.length_append];simp only [List.length_cons,List.length_nil];omega)
  have eA:(A++[((18:Int),(e:Int),(0:Int),(0:Int))]).length=A.length+1:=by simp
  rw [eA,show (pre++[(A.length:Int)])++holes (A.length+1) X=pre++(A.length:Int) :: holes (A.length+1) X by simp,show ((pre++[(A.length:Int)]).length:Int)=(pre.length:Int)+1 by simp] at ih
  rw [show ((A++(18,0,0,0) :: (Aea 0 X++T)).length:Int)=(e:Int) by simp only [List.length_append,List.length_cons,An4];omega]
  have e1:∀ Z:Cd,A++[(18,(e:Int),0,0)]++Z++T=A++(18,(e:Int),0,0) :: (Z++T):=fun Z=>by simp
  rw [e1,e1] at ih
  refine ih.trans ?_
  rw [show A++Aea (e:Int) (none :: X)++T=A++(18,(e:Int),0,0) :: (Aea e X++T) by simp [Aea]]
def An1 (bs:List (List Int)) (h:List Int):List (List Int):=match bs.getLast? with | none=>bs | some b=>bs.dropLast++[b++h]
theorem Ax2 {m:List (List Int)} {b h:List Int}:An1 (m++[b]) h=m++[b++h]:=by simp [An1]
theorem Bi9 {bs:List (List Int)}:An1 bs []=bs:=by
 rcases A8m bs with rfl | ⟨m,x,rfl⟩
 ·rfl
 ·rw [Ax2,List.append_nil]
theorem Bpq {bs:List (List Int)} {h h':List Int}:An1 (An1 bs h) h'=An1 bs (h++h'):=by
 rcases A8m bs with rfl | ⟨m,x,rfl⟩
 ·rfl
 ·rw [Ax2,Ax2,Ax2,List.append_assoc]
theorem Cm1 {bs:List (List Int)} {h:List Int} (hb:bs≠[]):An1 bs h≠[]:=by
 rcases A8m bs with rfl | ⟨m,x,rfl⟩
 ·exact absurd rfl hb
 ·rw [Ax2];simp
def A7l:Nat→Bs→Int→Int→Int
 | 0,_,_,x=>x
 | f+1,l,r,x=>if l=[] then x else if r≤0 then x else A7l f (l.drop (Afg l).2) (r - (Afg l).2) (if (Afg l).1=10 then x+1 else x)
def Amq (src:ByteArray) (at_:Int):Int:=if at_ < 0∨at_ > (src.size:Int) then 0 else A7l (src.size+1) (bs src) at_ 1
theorem Bxs (src:ByteArray) (hs:src.size≤400000) (at_:Int) (J:Int→Int→Option (Int×Int×Int)):∀ (f p m:Nat) (x y:Int),src.size - p < f→src.size - p < m→0≤x→x≤p+1→0≤y→y≤p+1→p≤src.size →
  ∃ y',Asb.l0 m src at_ J x y p=J (A7l f ((bs src).drop p) (at_ - p) x) y'
 | 0,p,m,x,y,hf,hm,_,_,_,_,_=>by omega
 | f+1,p,m,x,y,hf,hm,hx,hx1,hy,hy1,hp=>by
  obtain ⟨m,rfl⟩:∃ m',m=m'+1:=⟨m - 1,by omega⟩
  simp only [Asb.l0]
  by_cases hlt:p < src.size
  ·rw [decide_eq_true hlt,cond_true]
   have hne:(bs src).drop p≠[]:=fun h=>by
    have:=congrArg List.length h
    rw [List.length_drop,List.length_nil,Af7] at this
    omega
   unfold A7l
   rw [if_neg hne]
   by_cases hge:((p:Nat):Int) ≥ at_
   ·rw [decide_eq_true hge,cond_true,if_pos (by omega)]
    exact ⟨y,rfl⟩
   ·rw [decide_eq_false hge,cond_false,if_neg (by omega)]
    have hw:=Avh ((bs src).drop p)
    have hle:=hw.2.2 hne
    rw [List.length_drop,Af7] at hle
    have e1:rNx src p=p+(Afg ((bs src).drop p)).2:=by unfold rNx;rw [decode_eq]
    have e2:rAt src p=(((Afg ((bs src).drop p)).1:Nat):Int):=by unfold rAt;rw [decode_eq]
    rw [e1,e2,List.drop_drop,show at_ - (p:Int) - ((Afg ((bs src).drop p)).2:Nat)=at_ - ((p+(Afg ((bs src).drop p)).2:Nat):Int) by omega]
    by_cases h10:(Afg ((bs src).drop p)).1=10
    ·rw [if_pos h10,h10,wiC (x+1) (by omega) (by omega)]
     exact Bxs src hs at_ J f _ m (x+1) 1 (by omega) (by omega) (by omega) (by omega) (by omega) (by omega) (by omega)
    ·rw [if_neg h10,neC (by omega:(((Afg ((bs src).drop p)).1:Nat):Int)≠10),cond_false,wiC (y+1) (by omega) (by omega)]
     exact Bxs src hs at_ J f _ m x (y+1) (by omega) (by omega) (by omega) (by omega) (by omega) (by omega) (by omega)
  ·rw [decide_eq_false hlt,cond_false]
   have:(bs src).drop p=[]:=List.drop_of_length_le (by rw [Af7];omega)
   unfold A7l
   rw [this,if_pos rfl]
   exact ⟨y,rfl⟩
theorem Cfe (k:Nat) (src:ByteArray) (at_:Int) (hs:src.size≤400000) (hk:500000≤k):∃ y z,Asb.f k src at_=some (Amq src at_,y,z):=by
 unfold Asb.f Amq Adg
 by_cases h0:at_ < 0
 ·rw [decide_eq_true h0,cond_true,if_pos (.inl h0)]
  exact ⟨_,_,rfl⟩
 ·rw [decide_eq_false h0,cond_false,Option.bind_some]
  by_cases h1:at_ > (src.size:Int)
  ·rw [decide_eq_true h1,cond_true,if_pos (.inr h1)]
   exact ⟨_,_,rfl⟩
  ·rw [decide_eq_false h1,cond_false,if_neg (by omega)]
   obtain ⟨y,hy⟩:=Bxs src hs at_ (fun x3 x4=>some (x3,x4,(0:Int))) (src.size+1) 0 k 1 1 (by omega) (by omega) (by omega) (by omega) (by omega) (by omega) (by omega)
   rw [List.drop_zero,show at_ - ((0:Nat):Int)=at_ by omega] at hy
   exact ⟨y,0,hy⟩
section
variable (cx:GCx)
def Apw (f:Int→Nat→Tree→Cd) (p:Nat) (l:List Tree) (n:Nat):Cd :=
 if l.length=n then Ahl (f 1) p l else if l=[] then List.replicate n (i0 3) else i0 22 :: (Avv f (p+1) l++[i1 23 (n:Int)])
def A8j (there:Nat):Nat→Cd
 | 0=>[]
 | i+1=>i1 7 ((there+(i+1):Nat):Int) :: A8j there i
def As5 (f:Nat→List Tree→Cd):Nat→List Tree→Cd
 | _,[]=>[]
 | p,x :: l=>if x.kind=7 then f p x.kids++As5 f (p+(f p x.kids).length) l else As5 f p l
def Arx:List Tree→Nat
 | []=>0
 | x :: l=>if x.kind=7 then 2+Arx l else Arx l
def Cdr (lo:List ByteArray) (t:ByteArray):Ins:=if Ayi lo t > 0 then i1 7 (Ayi lo t) else i1 9 (glN cx.gl t)
def A0k (lo:List ByteArray) (n:Nat):List Tree→Cd
 | []=>[]
 | x :: l=>if x.kind=7 then i2 13 ((n+Arx l:Nat):Int) (l.length:Nat) :: A0k lo n l else i1 14 (l.length:Nat) :: Cdr cx lo x.text :: A0k lo n l
def A2k (lo:List ByteArray) (f:Int→Nat→Tree→Cd) (p:Nat) (l m:List Tree):Cd :=
 As5 (Ahl (f 1)) p l++(Apw f (p+(As5 (Ahl (f 1)) p l).length) m l.length++(A0k cx lo l.length l++[i1 15 ((l.length+Arx l:Nat):Int)]))
def Bm9 (f:Int→Nat→Tree→Cd) (p:Nat) (l:List Tree):Cd:=i0 22 :: (Avv f (p+1) l++[i0 25])
abbrev SG:=List ByteArray→Nat→Tree→Hx×List ByteArray
def Aqt (f:SG):List ByteArray→Nat→List Tree→Hx
 | _,_,[]=>[]
 | lo,p,x :: l=>some (i1 1 (Amq cx.src x.at_)) :: ((f lo (p+1) x).1++Aqt f (f lo (p+1) x).2 (p+1+(f lo (p+1) x).1.length) l)
def Avr (X:Hx) (back:Ins) (p:Nat):Cd:=Aea ((p+X.length+1:Nat):Int) X++[back]
def brX (e:Nat→Tree→Cd) (b:Nat→Tree→Hx):Nat→List Tree→List (Option (Option Ins))
 | _,[]=>[]
 | p,[x]=>(b p x).map some
 | p,x :: y :: l =>
  let E:=e p x
  let B:=b (p+E.length+1) y
  let m:Nat:=if l.isEmpty then 0 else 1
  E.map (fun i=>some (some i))++some (some (i1 19 ((p+E.length+1+B.length+m:Nat):Int))) :: (B.map some++(if l.isEmpty then [] else [none])++brX e b (p+E.length+1+B.length+m) l)
def ifH (e:Nat→Tree→Cd) (b:Nat→Tree→Hx) (p:Nat) (l:List Tree):Hx:=(brX e b p l).map fun o=>o.getD (some (i1 18 ((p+(brX e b p l).length:Nat):Int)))
def Ap8 (lo:List ByteArray) (l:List Tree):List ByteArray:=lo++List.replicate 3 ⟨#[]⟩++l.map (·.text)
def Aeb:Nat→SG
 | 0,lo,_,_=>([],lo)
 | d+1,lo,p,.mk k t n a l =>
  let f:=Acf cx lo d
  let B:=fun lo p (x:Tree)=>Aqt cx (Aeb d) lo p x.kids
  if k=21 then (Agx (Apw f p (l.drop n.toNat) n.toNat++A8j lo.length n.toNat),lo++(l.take n.toNat).map (·.text))
  else if k=22 then (Agx (A2k cx lo f p (l.take n.toNat) (l.drop n.toNat)),lo)
  else if k=23 then (Agx (f 0 p (Adx l 0)),lo)
  else if k=24 then (ifH (f 1) (B lo) p l,lo)
  else if k=25 then
   let E:=f 1 p (Adx l 0)
   let L:=Avr (B lo (p+E.length+2) (Adx l 1)) (i1 18 p) (p+E.length+2)
   (Agx (E++i1 19 ((p+E.length+2+L.length:Nat):Int) :: i0 34 :: L),lo)
  else if k=26 then
   let m:=l.length - 2
   let E:=Ahl (f 1) p ((l.drop 1).take m)
   let L:=Avr (B (Ap8 lo (l.take 1)) (p+E.length+1) (Adx l (m+1))) (i2 31 ((lo.length+1:Nat):Int) ((p+E.length+1:Nat):Int)) (p+E.length+1)
   (Agx (E++i3 30 ((lo.length+1:Nat):Int) ((p+E.length+1+L.length:Nat):Int) ((m:Nat) - 2:Int) :: L),lo)
  else if k=27 then
   let s:Int:=((lo.length+1:Nat):Int)
   let E:=Apw f p ((l.drop n.toNat).take (l.length - 1 - n.toNat)) 3
   let q:=p+E.length
   let L:=Avr (B (Ap8 lo (l.take n.toNat)) (q+7) (Adx l (l.length - 1))) (i1 18 ((q+1:Nat):Int)) (q+7)
   (Agx (E++i1 32 s :: i1 6 s :: i0 22 :: i1 6 (s+1) :: i1 6 (s+2) :: i1 24 n :: i3 33 s ((q+7+L.length:Nat):Int) n :: L),lo)
  else if k=28 then (B lo p (Adx l 0),lo)
  else if k=29 then ([none],lo)
  else if k=30 then (Agx (Bm9 f p l),lo)
  else ([],lo)
end
section
variable {cx:GCx}
abbrev Agd (cx:GCx) (d:Nat) (lo:List ByteArray) (p:Nat) (x:Tree):Hx:=Aqt cx (Aeb cx d) lo p x.kids
def B0b (E:Cd) (X:Hx) (p:Nat):Cd:=E++i1 19 ((p+E.length+2+(X.length+1):Nat):Int) :: i0 34 :: Avr X (i1 18 p) (p+E.length+2)
def Bqe (E:Cd) (X:Hx) (s m:Nat) (p:Nat):Cd :=
 E++i3 30 (s:Int) ((p+E.length+1+(X.length+1):Nat):Int) ((m:Int) - 2) :: Avr X (i2 31 (s:Int) ((p+E.length+1:Nat):Int)) (p+E.length+1)
def inG (E:Cd) (X:Hx) (s:Nat) (n:Int) (p:Nat):Cd :=
 E++i1 32 (s:Int) :: i1 6 (s:Int) :: i0 22 :: i1 6 ((s:Int)+1) :: i1 6 ((s:Int)+2) :: i1 24 n :: i3 33 (s:Int) ((p+E.length+7+(X.length+1):Nat):Int) n :: Avr X (i1 18 ((p+E.length+1:Nat):Int)) (p+E.length+7)
theorem A0c {X:Hx} {i:Ins} {p:Nat}:(Avr X i p).length=X.length+1:=by simp [Avr,An4]
variable {d:Nat} {lo:List ByteArray} {p:Nat} {n a:Int} {t:ByteArray}
theorem Bns {l m:List Tree}:Aeb cx (d+1) lo p (.mk 21 t (l.length:Nat) a (l++m))=(Agx (Apw (Acf cx lo d) p m l.length++A8j lo.length l.length),lo++l.map (·.text)):=by
 simp only [Aeb,if_true,Int.toNat_natCast,List.drop_left,List.take_left]
theorem Bhl {l m:List Tree}:Aeb cx (d+1) lo p (.mk 22 t (l.length:Nat) a (l++m))=(Agx (A2k cx lo (Acf cx lo d) p l m),lo):=by
 simp only [Aeb,Int.reduceEq,if_false,if_true,Int.toNat_natCast,List.drop_left,List.take_left]
theorem Bnv {x:Tree}:Aeb cx (d+1) lo p (.mk 23 t n a [x])=(Agx (Acf cx lo d 0 p x),lo):=by
 simp only [Aeb,Int.reduceEq,if_false,if_true];rfl
theorem Bhn {l:List Tree}:Aeb cx (d+1) lo p (.mk 24 t n a l)=(ifH (Acf cx lo d 1) (Agd cx d lo) p l,lo):=by
 simp only [Aeb,Int.reduceEq,if_false,if_true]
theorem Bnx {x b:Tree}:Aeb cx (d+1) lo p (.mk 25 t n a [x,b])=(Agx (B0b (Acf cx lo d 1 p x) (Agd cx d lo (p+(Acf cx lo d 1 p x).length+2) b) p),lo):=by
 simp only [Aeb,Int.reduceEq,if_false,if_true,A0c];rfl
theorem Bnm {x b:Tree} {l:List Tree}:Aeb cx (d+1) lo p (.mk 26 t n a (x :: l++[b]))=(Agx (Bqe (Ahl (Acf cx lo d 1) p l) (Agd cx d (Ap8 lo [x]) (p+(Ahl (Acf cx lo d 1) p l).length+1) b) (lo.length+1) l.length p),lo):=by
 have e1:(x :: l++[b]).length - 2=l.length:=by simp
 have e2:((x :: l++[b]).drop 1).take l.length=l:=by simp
 have e3:Adx (x :: l++[b]) (l.length+1)=b:=by simp [Adx]
 have e4:(x :: l++[b]).take 1=[x]:=rfl
 simp only [Aeb,Int.reduceEq,if_false,if_true,e1,e2,e3,e4,A0c];rfl
theorem Bnp {b:Tree} {l m:List Tree}:Aeb cx (d+1) lo p (.mk 27 t (l.length:Nat) a (l++m++[b]))=(Agx (inG (Apw (Acf cx lo d) p m 3) (Agd cx d (Ap8 lo l) (p+(Apw (Acf cx lo d) p m 3).length+7) b) (lo.length+1) (l.length:Nat) p),lo):=by
 have e1:(l++m++[b]).length - 1 - l.length=m.length:=by simp
 have e2:((l++m++[b]).drop l.length).take m.length=m:=by simp
 have e3:Adx (l++m++[b]) ((l++m++[b]).length - 1)=b:=by simp [Adx]
 have e4:(l++m++[b]).take l.length=l:=by simp
 simp only [Aeb,Int.reduceEq,if_false,if_true,Int.toNat_natCast,e1,e2,e3,e4,A0c];rfl
theorem Bhm {b:Tree}:Aeb cx (d+1) lo p (.mk 28 t n a [b])=(Agd cx d lo p b,lo):=by
 simp only [Aeb,Int.reduceEq,if_false,if_true];rfl
theorem Bnl {l:List Tree}:Aeb cx (d+1) lo p (.mk 29 t n a l)=([none],lo):=by
 simp only [Aeb,Int.reduceEq,if_false,if_true]
theorem Bnt {l:List Tree}:Aeb cx (d+1) lo p (.mk 30 t n a l)=(Agx (Bm9 (Acf cx lo d) p l),lo):=by
 simp only [Aeb,Int.reduceEq,if_false,if_true]
theorem Bcc {l:List Tree} {n:Nat} (h:Ajj l):(Apw (Acf cx lo d) p l n).length≤4 * szs l+n+2:=by
 unfold Apw
 split
 ·have:=Aww (f:=Acf cx lo d 1) (l:=l) (p:=p) fun p y hy=>Akw d 1 p y (h y hy)
  omega
 split
 ·rw [List.length_replicate];omega
 ·have:=A7r (f:=Acf cx lo d) (l:=l) (p:=p+1) fun r p y hy=>Akw d r p y (h y hy)
  simp only [List.length_cons,List.length_append,List.length_nil]
  omega
theorem Cgq {m:Nat}:∀ {i:Nat},(A8j m i).length=i
 | 0=>rfl
 | i+1=>by simp only [A8j,List.length_cons,Cgq (i:=i)]
theorem C0s {t:Tree} (h:IsE t) (hk:t.kind=7):∃ tx n a x y,t=.mk 7 tx n a [x,y]∧IsE x∧IsE y:=by
 cases h with
 | index h1 h2=>exact ⟨_,_,_,_,_,rfl,h1,h2⟩
 | _=>simp only [Tree.kind] at hk;omega
theorem B81 {t:Tree} (h:IsE t) (hk:t.kind=7):Ajj t.kids∧szs t.kids+1=sz t:=by
 obtain ⟨tx,n,a,x,y,rfl,hx,hy⟩:=C0s h hk
 refine ⟨fun u hu=>?_,by simp only [Tree.kids,sz]⟩
 rcases List.mem_cons.1 hu with rfl | hu
 ·exact hx
 ·obtain rfl:=List.mem_singleton.1 hu;exact hy
theorem Bzk:∀ {l:List Tree} {p:Nat},Ajj l→(As5 (Ahl (Acf cx lo d 1)) p l).length+4 * l.length≤4 * szs l
 | [],_,_=>Nat.le_refl _
 | x :: l,p,h=>by
  have ih:=fun p=>Bzk (l:=l) (p:=p) fun y hy=>h y (List.mem_cons_of_mem _ hy)
  unfold As5
  split
  ·rename_i h7
   have hk:=B81 (h x (List.mem_cons_self ..)) h7
   have:=Aww (f:=Acf cx lo d 1) (l:=x.kids) (p:=p) fun p y hy=>Akw d 1 p y (hk.1 y hy)
   have:=ih (p+(Ahl (Acf cx lo d 1) p x.kids).length)
   simp only [List.length_append,List.length_cons,szs]
   omega
  ·have:=ih p
   have:=Ase x
   simp only [List.length_cons,szs]
   omega
theorem Bzo:∀ (l:List Tree),Arx l≤2 * l.length
 | []=>Nat.le_refl _
 | x :: l=>by
  have:=Bzo l
  unfold Arx
  split <;> simp only [List.length_cons] <;> omega
theorem Bxw {n:Nat}:∀ (l:List Tree),(A0k cx lo n l).length≤2 * l.length
 | []=>Nat.le_refl _
 | x :: l=>by
  have:=Bxw (n:=n) l
  unfold A0k
  split <;> simp only [List.length_cons] <;> omega
theorem Cle {l m:List Tree} (hl:Ajj l) (hm:Ajj m):(A2k cx lo (Acf cx lo d) p l m).length+l.length≤4 * szs l+4 * szs m+3:=by
 have h1:=Bzk (cx:=cx) (lo:=lo) (d:=d) (p:=p) hl
 have h2:=Bcc (cx:=cx) (lo:=lo) (d:=d) (p:=p+(As5 (Ahl (Acf cx lo d 1)) p l).length) (n:=l.length) hm
 have h3:=Bxw (cx:=cx) (lo:=lo) (n:=l.length) l
 unfold A2k
 simp only [List.length_append,List.length_cons,List.length_nil]
 omega
theorem Bpe {f:SG}:∀ {l:List Tree} {lo:List ByteArray} {p:Nat},(∀ lo p x,x ∈ l→(f lo p x).1.length+1≤5 * sz x)→(Aqt cx f lo p l).length≤5 * szs l
 | [],_,_,_=>Nat.zero_le _
 | x :: l,lo,p,h=>by
  have h1:=h lo (p+1) x (List.mem_cons_self ..)
  have h2:=Bpe (l:=l) (lo:=(f lo (p+1) x).2) (p:=p+1+(f lo (p+1) x).1.length) fun lo p y hy=>h lo p y (List.mem_cons_of_mem _ hy)
  simp only [Aqt,List.length_cons,List.length_append,szs]
  omega
theorem B37 {e:Nat→Tree→Cd} {b:Nat→Tree→Hx} (he:∀ p x,IsE x→(e p x).length≤4 * sz x):∀ {l:List Tree} {p:Nat},IsR l→(∀ p x,x ∈ l→IsB x→(b p x).length+5≤5 * sz x)→(brX e b p l).length≤5 * szs l
 | _,_,.nil,_=>Nat.zero_le _
 | _,p,.last hb,h=>by
  have:=h p _ (List.mem_cons_self ..) hb
  simp only [brX,List.length_map,szs]
  omega
 | _,p,.more (e:=x) (b:=y) (l:=l) hx hy hr,h=>by
  have ih:=fun p=>B37 (b:=b) he (p:=p) hr fun p z hz=>h p z (List.mem_cons_of_mem _ (List.mem_cons_of_mem _ hz))
  have h1:=he p x hx
  have h2:=h (p+(e p x).length+1) y (List.mem_cons_of_mem _ (List.mem_cons_self ..)) hy
  have h3:=ih (p+(e p x).length+1+(b (p+(e p x).length+1) y).length+if l.isEmpty then 0 else 1)
  have h4:(if l.isEmpty then [] else [none]:List (Option (Option Ins))).length≤1:=by split <;> simp
  simp only [brX,List.length_append,List.length_cons,List.length_map,szs] at h3 ⊢
  omega
theorem Buh {b:Tree} (h:IsB b):(∀ x ∈ b.kids,IsS x)∧sz b=szs b.kids+1∧b.kind=20:=by
 cases h with
 | block h=>exact ⟨h,by simp only [sz,Tree.kids],rfl⟩
theorem Bho:∀ (d:Nat) (lo:List ByteArray) (p:Nat) (t:Tree),IsS t→(Aeb cx d lo p t).1.length+1≤5 * sz t
 | 0,_,_,t,_=>by have:=Ase t;show 0+1≤_;omega
 | d+1,lo,p,t,h=>by
  have hB:∀ lo p b,IsB b→(Agd cx d lo p b).length+5≤5 * sz b:=fun lo p b hb=>by
   obtain ⟨h1,h2,_⟩:=Buh hb
   have:=Bpe (cx:=cx) (f:=Aeb cx d) (l:=b.kids) (lo:=lo) (p:=p) fun lo p x hx=>Bho d lo p x (h1 x hx)
   show (Aqt cx (Aeb cx d) lo p b.kids).length+5≤_
   omega
  cases h with
  | loc hl hm =>
   rename_i a t l m
   rw [Bns]
   have h1:=Bcc (cx:=cx) (lo:=lo) (d:=d) (p:=p) (n:=l.length) hm
   have h2:=Aju l
   simp only [Atq,List.length_append,Cgq,sz,Aib]
   omega
  | asg hl hx hm hy =>
   rename_i a t l m
   rw [Bhl]
   have h1:=Cle (cx:=cx) (lo:=lo) (d:=d) (p:=p) (l:=l) (m:=m) (fun x h=>(hx x h).1) hy
   have h2:=Aju l
   simp only [Atq,sz,Aib]
   omega
  | run hx h8 =>
   rename_i n a t x
   rw [Bnv]
   have h1:=Akw (cx:=cx) (lo:=lo) d 0 p x hx
   simp only [Atq,sz,szs]
   omega
  | if_ hr =>
   rename_i n a t l
   rw [Bhn]
   have h1:=B37 (e:=Acf cx lo d 1) (b:=Agd cx d lo) (fun p x hx=>Akw d 1 p x hx) (p:=p) hr fun p x _ hx=>hB lo p x hx
   simp only [ifH,List.length_map,sz]
   omega
  | while_ hx hb =>
   rename_i n a t x b
   rw [Bnx]
   have h1:=Akw (cx:=cx) (lo:=lo) d 1 p x hx
   have h2:=hB lo (p+(Acf cx lo d 1 p x).length+2) b hb
   simp only [Atq,B0b,List.length_append,List.length_cons,A0c,sz,szs]
   omega
  | for_ hl hx hb =>
   rename_i n a t x b l
   rw [Bnm]
   have h1:=Aww (f:=Acf cx lo d 1) (l:=l) (p:=p) fun p y hy=>Akw d 1 p y (hx y hy)
   have h2:=hB (Ap8 lo [x]) (p+(Ahl (Acf cx lo d 1) p l).length+1) b hb
   simp only [Atq,Bqe,List.length_append,List.length_cons,A0c,sz,szs,Aib]
   omega
  | forIn hl hm hx hb =>
   rename_i a t b l m
   rw [Bnp]
   have h1:=Bcc (cx:=cx) (lo:=lo) (d:=d) (p:=p) (n:=3) hx
   have h2:=hB (Ap8 lo l) (p+(Apw (Acf cx lo d) p m 3).length+7) b hb
   have h3:=Aju l
   have h4:=List.length_pos_iff.2 hl
   simp only [Atq,inG,List.length_append,List.length_cons,A0c,sz,szs,Aib]
   omega
  | do_ hb =>
   rename_i n a t b
   rw [Bhm]
   have h2:=hB lo p b hb
   simp only [sz,szs]
   omega
  | break_ =>
   rw [Bnl]
   simp only [sz,szs,List.length_cons,List.length_nil]
   omega
  | ret hx =>
   rename_i n a t l
   rw [Bnt]
   have h1:=A7r (f:=Acf cx lo d) (l:=l) (p:=p+1) fun r p y hy=>Akw d r p y (hx y hy)
   simp only [Atq,Bm9,List.length_append,List.length_cons,List.length_nil,sz]
   omega
end
section
variable {cx:GCx} {lo:List ByteArray} {d k:Nat}
theorem B5i (hB:BdG cx lo) (hk:500010+4 * d≤k) {c:Cd} {t:Tree} (hE:IsE t) (hg:gw t) (hd:sz t≤d) (hb:c.length+4 * sz t≤mx):Agg.f k cx.cs c cx.gl lo t.kind t.text t.n t.at_ t.kids=some (c++Acf cx lo d 1 c.length t) :=
 (A4x hB d (k+1) (by omega)).1 c t hE hg hd hb
theorem Bp9 (hB:BdG cx lo) (hk:500010+4 * d≤k) {c:Cd} {l:List Tree} (hE:Ajj l) (hg:gws l) (hd:szs l≤d) (hb:c.length+4 * szs l≤mx):Ahn.f k cx.cs c cx.gl lo l=some (c++Ahl (Acf cx lo d 1) c.length l) :=
 Bqa (by omega) (A4x hB d k (by omega)).1 c l hE hg hd hb
theorem Cet (hB:BdG cx lo) (hk:500010+4 * d≤k) {c:Cd} {l:List Tree} (hE:Ajj l) (hg:gws l) (hd:szs l≤d) (hb:c.length+4 * szs l≤mx):Alm.f k cx.cs c cx.gl lo l=some (c++Avv (Acf cx lo d) c.length l):=by
 obtain ⟨j,rfl⟩:∃ j,k=j+1:=⟨k - 1,by omega⟩
 exact Ceu (Bqa (by omega) (A4x hB d j (by omega)).1) (A4x hB d (j+2) (by omega)).2 c l hE hg hd hb
theorem Cm6 (hB:BdG cx lo) (hk:500010+4 * d≤k) (res:Int) {c:Cd} {t:Tree} (hE:IsE t) (h8:t.kind=8) (hg:gw t) (hd:sz t≤d) (hb:c.length+4 * sz t≤mx):Ajz.f k cx.cs c cx.gl lo t.kind t.text t.n t.at_ t.kids res=some (c++Acf cx lo d res c.length t) :=
 (A4x hB d (k+2) (by omega)).2 res c t hE h8 hg hd hb
theorem Cdy (n:Nat) (hn:n≤400000):∀ (i m:Nat) (c:Cd),i≤n→n - i < m→c.length+(n - i)≤mx→Aow.l0 m (n:Int) (i:Int) c=some (c++List.replicate (n - i) (i0 3))
 | i,0,c,hi,hm,hb=>by omega
 | i,m+1,c,hi,hm,hb=>by
  simp only [Aow.l0]
  by_cases h:i < n
  ·rw [ltT (by omega),cond_true,add0 _ _ _ (by omega),Option.bind_some,wiC _ (by omega) (by omega)]
   have ih:=Cdy n hn (i+1) m (c++[i0 3]) (by omega) (by omega) (by rw [List.length_append];simp only [List.length_cons,List.length_nil];omega)
   refine (show _=_ from ih).trans ?_
   rw [show n - i=(n - (i+1))+1 by omega,List.replicate_succ,List.append_assoc]
   rfl
  ·rw [ltF (by omega),cond_false,show n - i=0 by omega]
   simp
theorem Bz3 (hB:BdG cx lo) (hk:500010+4 * d≤k) {c:Cd} {l:List Tree} {n:Nat} (hE:Ajj l) (hg:gws l) (hd:szs l≤d) (hn:n≤400000) (hb:c.length+4 * szs l+n+3≤mx):Aow.f k cx.cs c cx.gl lo l (n:Int)=some (c++Apw (Acf cx lo d) c.length l n):=by
 have hs:=Aju l
 unfold Aow.f Apw
 by_cases h1:l.length=n
 ·rw [if_pos h1,eqC (by omega),cond_true,Bp9 hB hk hE hg hd (by omega)]
  rfl
 ·rw [if_neg h1,neC (by omega),cond_false]
  by_cases h2:l=[]
  ·subst h2
   rw [if_pos rfl,eqC (by simp),cond_true]
   have:=Cdy n hn 0 k c (by omega) (by omega) (by omega)
   exact this
  ·have:=List.length_pos_iff.2 h2
   rw [if_neg h2,neC (by omega),cond_false,add0 _ _ _ (by omega),Option.bind_some]
   have e1:=A7r (f:=Acf cx lo d) (l:=l) (p:=c.length+1) fun r p y hy=>Akw d r p y (hE y hy)
   have e2:(c++[i0 22]).length=c.length+1:=by simp
   rw [Cet hB hk hE hg hd (by rw [e2];omega),Option.bind_some,e2,add1 _ _ _ _ (by rw [List.length_append,e2];omega),Option.bind_some]
   simp only [List.append_assoc,List.cons_append,List.nil_append]
theorem Cgr (bs:List (List Int)) (nx:Int) (us:List (Option Agt)) (r:List ByteArray) (hl:lo.length≤400000):∀ (i m:Nat) (c:Cd),i < m→i≤400000→c.length+i≤mx →
  Ag2.l0 m lo bs nx us r (i:Int) c=some (c++A8j lo.length i,r,bs,nx,us)
 | i,0,c,hm,_,_=>by omega
 | 0,m+1,c,hm,_,hb=>by
  simp only [Ag2.l0]
  rw [show decide (((0:Nat):Int) > 0)=false from rfl,cond_false]
  simp [A8j]
 | i+1,m+1,c,hm,hi,hb=>by
  simp only [Ag2.l0]
  rw [decide_eq_true (by omega),cond_true,wiC (((lo.length:Nat):Int)+_) (by omega) (by omega),add1 _ _ _ _ (by omega),Option.bind_some,wiC _ (by omega) (by omega),show ((i+1:Nat):Int) - 1=(i:Int) by omega]
  have ih:=Cgr bs nx us r hl i m (c++[i1 7 (((lo.length:Nat):Int)+((i+1:Nat):Int))]) (by omega) (by omega) (by rw [List.length_append];simp only [List.length_cons,List.length_nil];omega)
  refine (show _=_ from ih).trans ?_
  rw [List.append_assoc,show ((lo.length:Nat):Int)+((i+1:Nat):Int)=((lo.length+(i+1):Nat):Int) by omega]
  rfl
theorem Cie (hB:BdG cx lo) (J:Int→Cd→Option Cd):∀ (t pre:List Tree) (m z:Nat) (c:Cd),500010+4 * d+t.length≤m→pre.length+t.length≤400000→Ajj t→gws t→szs t≤d→c.length+4 * szs t≤mx→z+2 * t.length≤1000000 →
  Al5.l1 m cx.cs cx.gl lo (pre++t) J (z:Int) (pre.length:Int) c=J ((z+Arx t:Nat):Int) (c++As5 (Ahl (Acf cx lo d 1)) c.length t)
 | [],pre,m,z,c,hm,hl,hE,hg,hd,hb,hz=>by
  obtain ⟨m,rfl⟩:∃ m',m=m'+1:=⟨m - 1,by omega⟩
  simp only [Al5.l1]
  rw [ltF (by simp),cond_false]
  simp [As5,Arx]
 | x :: t,pre,m,z,c,hm,hl,hE,hg,hd,hb,hz=>by
  obtain ⟨m,rfl⟩:∃ m',m=m'+1:=⟨m - 1,by omega⟩
  simp only [List.length_cons] at hl hm hz
  simp only [szs] at hd hb
  have ih:=fun z c h1 h2=>Cie hB J t (pre++[x]) m z c (by omega) (by simp;omega) (fun y hy=>hE y (List.mem_cons_of_mem _ hy)) hg.2 (by omega) h1 h2
  rw [show (pre++[x])++t=pre++x :: t by simp,show ((pre++[x]).length:Int)=(pre.length:Int)+1 by simp] at ih
  simp only [Al5.l1]
  rw [ltT (by simp;omega),cond_true]
  dsimp only [Adg]
  rw [Ah5,Option.bind_some,wiC ((pre.length:Int)+1) (by omega) (by omega)]
  unfold Arx As5
  by_cases h7:x.kind=7
  ·have hk:=B81 (hE x (List.mem_cons_self ..)) h7
   have hgx:gws x.kids:=by cases x;exact hg.1.2
   have e1:=Aww (f:=Acf cx lo d 1) (l:=x.kids) (p:=c.length) fun p y hy=>Akw d 1 p y (hk.1 y hy)
   rw [eqC h7,cond_true,Bp9 (d:=d) hB (by omega) hk.1 hgx (by omega) (by omega),Option.bind_some,wiC _ (by omega) (by omega),if_pos h7,if_pos h7]
   refine (show _=_ from ih (z+2) _ (by rw [List.length_append];omega) (by omega)).trans ?_
   rw [List.append_assoc,List.length_append,Nat.add_assoc z 2]
  ·rw [neC h7,cond_false,if_neg h7,if_neg h7]
   exact ih z c (by omega) (by omega)
theorem Cfk (hB:BdG cx lo) (N:Nat) (J:Cd→Option Cd):∀ (t pre:List Tree) (m:Nat) (c:Cd),500010+t.length≤m→pre.length+t.length=N→N≤400000→c.length+2 * t.length≤mx →
  Al5.l0 m cx.gl lo (pre++t) J (Arx t:Nat) (pre.length:Int) c=J (c++A0k cx lo N t)
 | [],pre,m,c,hm,hl,hN,hb=>by
  obtain ⟨m,rfl⟩:∃ m',m=m'+1:=⟨m - 1,by omega⟩
  simp only [Al5.l0]
  rw [ltF (by simp),cond_false]
  simp [A0k]
 | x :: t,pre,m,c,hm,hl,hN,hb=>by
  obtain ⟨m,rfl⟩:∃ m',m=m'+1:=⟨m - 1,by omega⟩
  simp only [List.length_cons] at hl hm hb
  have ih:=fun c h1=>Cfk hB N J t (pre++[x]) m c (by omega) (by simp;omega) hN h1
  rw [show (pre++[x])++t=pre++x :: t by simp,show ((pre++[x]).length:Int)=(pre.length:Int)+1 by simp] at ih
  have ht:=Bzo t
  have eN:((pre++x :: t).length:Int)=(N:Int):=by rw [List.length_append,List.length_cons];omega
  simp only [Al5.l0]
  rw [eN,ltT (by omega),cond_true]
  dsimp only [Adg]
  rw [Ah5,Option.bind_some,wiC ((pre.length:Int)+1) (by omega) (by omega),wiC ((N:Int) - 1) (by omega) (by omega),wiC ((N:Int) - 1 - (pre.length:Int)) (by omega) (by omega),show (N:Int) - 1 - (pre.length:Int)=(t.length:Int) by omega]
  unfold Arx A0k
  by_cases h7:x.kind=7
  ·rw [eqC h7,cond_true,if_pos h7,if_pos h7,show ((2+Arx t:Nat):Int) - 2=(Arx t:Int) by omega,wiC (Arx t:Int) (by omega) (by omega),wiC ((N:Int)+(Arx t:Int)) (by omega) (by omega),Bo2 _ _ _ _ _ (by omega),Option.bind_some]
   refine (show _=_ from ih (c++[i2 13 ((N:Int)+(Arx t:Int)) (t.length:Int)]) (by rw [List.length_append];simp only [List.length_cons,List.length_nil];omega)).trans ?_
   rw [List.append_assoc]
   rfl
  ·rw [neC h7,cond_false,if_neg h7,if_neg h7,add1 _ _ _ _ (by omega),Option.bind_some]
   have e2:∀ z:Ins,(c++[z]).length=c.length+1:=fun z=>by simp
   unfold A2t.f Cdr
   rw [Option.bind_some]
   have hq:∀ i:Ins,(c++[i1 14 (t.length:Int)]++[i]).length+2 * t.length≤mx:=fun i=>by rw [List.length_append,e2];simp only [List.length_cons,List.length_nil];omega
   show cond (decide (Ayi lo x.text > 0)) _ _=_
   by_cases h:Ayi lo x.text > 0
   ·rw [decide_eq_true h,cond_true,if_pos h]
    show (Ac7.f m (c++[i1 14 (t.length:Int)]) 7 [Ayi lo x.text]).bind _=_
    rw [add1 _ _ _ _ (by rw [e2];omega),Option.bind_some]
    refine (show _=_ from ih _ (hq _)).trans ?_
    simp only [List.append_assoc,List.cons_append,List.nil_append]
   ·rw [decide_eq_false h,cond_false,if_neg h,Bqi m _ _ hB.gl (by omega),Option.bind_some,add1 _ _ _ _ (by rw [e2];omega),Option.bind_some]
    refine (show _=_ from ih _ (hq _)).trans ?_
    simp only [List.append_assoc,List.cons_append,List.nil_append]
theorem Cld (hB:BdG cx lo) {l m:List Tree} (hk:500010+4 * d+l.length≤k) {c:Cd} (hl:Ajj l) (hm:Ajj m) (gl:gws l) (gm:gws m) (hd:szs l+szs m≤d) (hb:c.length+4 * szs l+4 * szs m+3 * l.length+5≤mx) (hn:l.length≤400000) :
  Al5.f k cx.cs c cx.gl lo l m=some (c++A2k cx lo (Acf cx lo d) c.length l m):=by
 unfold Al5.f
 dsimp only [Adg]
 have ht:=Bzo l
 have h1:=Bzk (cx:=cx) (lo:=lo) (d:=d) (p:=c.length) hl
 have h2:=Bcc (cx:=cx) (lo:=lo) (d:=d) (p:=c.length+(As5 (Ahl (Acf cx lo d 1)) c.length l).length) (n:=l.length) hm
 have h3:=Bxw (cx:=cx) (lo:=lo) (n:=l.length) l
 have e:=Cie (d:=d) hB (fun (x1:Int) (l2:Cd)=>(Aow.f k cx.cs l2 cx.gl lo m ((l.length:Nat):Int)).bind fun r8=>Al5.l0 k cx.gl lo l (fun (l13:Cd)=>(Ac7.f k l13 (15:Int) ([IntKind.i64.wrap (((l.length:Nat):Int)+x1)])).bind fun r20=>some (r20.2)) x1 (0:Int) r8) l [] k 0 c (by omega) (by simp only [List.length_nil];omega) hl gl (by omega) (by omega) (by omega)
 refine (show _=_ from e).trans ?_
 rw [Bz3 (d:=d) hB (by omega) hm gm (by omega) hn (by rw [List.length_append];omega),Option.bind_some,Nat.zero_add,List.length_append]
 have e2:=Cfk hB l.length (fun (l13:Cd)=>(Ac7.f k l13 (15:Int) ([IntKind.i64.wrap (((l.length:Nat):Int)+(Arx l:Int))])).bind fun r20=>some (r20.2)) l [] k (c++As5 (Ahl (Acf cx lo d 1)) c.length l++Apw (Acf cx lo d) (c.length+(As5 (Ahl (Acf cx lo d 1)) c.length l).length) m l.length) (by omega) (by simp) hn (by simp only [List.length_append];omega)
 refine (show _=_ from e2).trans ?_
 rw [wiC _ (by omega) (by omega),add1 _ _ _ _ (by simp only [List.length_append];omega),Option.bind_some]
 unfold A2k
 simp only [List.append_assoc]
 rfl
end
def bw (bs:List (List Int)):Nat:=bs.length+(bs.map List.length).sum
theorem B4i {bs:List (List Int)} {h:List Int}:bw (An1 bs h)≤bw bs+h.length:=by
 rcases A8m bs with rfl | ⟨m,x,rfl⟩
 ·show 0+0≤_;omega
 ·rw [Ax2]
  simp only [bw,List.length_append,List.map_append,List.sum_append,List.map_cons,List.map_nil,List.sum_cons,List.sum_nil,List.length_cons,List.length_nil]
  omega
theorem Bjg (bs:List (List Int)):bs.length≤bw bs:=by unfold bw;omega
theorem Cm4 {m:List (List Int)} {b:List Int}:b.length≤bw (m++[b]):=by
 simp only [bw,List.map_append,List.sum_append,List.map_cons,List.map_nil,List.sum_cons,List.sum_nil]
 omega
theorem Bes:∀ {X:Hx} {p:Nat},(holes p X).length≤X.length
 | [],_=>Nat.le_refl _
 | none :: X,p=>by have:=Bes (X:=X) (p:=p+1);simp only [holes,List.length_cons];omega
 | some _ :: X,p=>by have:=Bes (X:=X) (p:=p+1);simp only [holes,List.length_cons];omega
structure BdX (cx:GCx) (lo:List ByteArray) (c:Nat) (bs:List (List Int)) (n:Nat):Prop where
 cs:cx.cs.length≤400000
 gl:cx.gl.length≤400000
 src:cx.src.size≤400000
 lo:lo.length+4 * n≤400000
 c:c+5 * n≤450000
 bs:bw bs+5 * n≤2000000
theorem BdX.b {cx:GCx} {lo:List ByteArray} {c:Nat} {bs:List (List Int)} {n:Nat} (h:BdX cx lo c bs n):BdG cx lo:=⟨h.cs,h.gl,by have:=h.lo;omega⟩
theorem BdX.to {cx:GCx} {lo lo':TyC} {c c':Nat} {bs bs':TyL} {n n':Nat} (h:BdX cx lo c bs n) (h1:lo'.length+4 * n'≤lo.length+4 * n) (h2:c'+5 * n'≤c+5 * n) (h3:bw bs'+5 * n'≤bw bs+5 * n):BdX cx lo' c' bs' n' :=
 ⟨h.cs,h.gl,h.src,by have:=h.lo;omega,by have:=h.c;omega,by have:=h.bs;omega⟩
abbrev A2d:=Option (Cd×List ByteArray×List (List Int)×Int×List (Option Agt))
def ST (R:GS) (cx:GCx) (d:Nat):Prop:=∀ (lo:TyC) (c:Cd) (bs:TyL) (nx:Int) (us:List (Option Agt)) (t:Tree),IsS t→gw t→sz t≤d→BdX cx lo (c.length - 1) bs (sz t)→(bs≠[]∨holes c.length (Aeb cx d lo c.length t).1=[]) →
 R.Ag2 cx.cs c cx.src cx.gl lo bs nx us t.kind t.text t.n t.at_ t.kids=some (c++Aea 0 (Aeb cx d lo c.length t).1,(Aeb cx d lo c.length t).2,An1 bs (holes c.length (Aeb cx d lo c.length t).1),nx,us)
def BK (R:GS) (cx:GCx) (d:Nat):Prop:=∀ (lo:TyC) (c:Cd) (bs:TyL) (nx:Int) (us:List (Option Agt)) (b:Tree),IsB b→gw b→sz b≤d+1→BdX cx lo c.length bs (sz b - 1)→(bs≠[]∨holes c.length (Agd cx d lo c.length b)=[]) →
 R.Ahb cx.cs c cx.src cx.gl lo bs nx us b.kind b.text b.n b.at_ b.kids=some (c++Aea 0 (Agd cx d lo c.length b),lo,An1 bs (holes c.length (Agd cx d lo c.length b)),nx,us)
section
variable {cx:GCx} {d k:Nat}
theorem Cg8:∀ (d:Nat) (lo:List ByteArray) (p:Nat) (t:Tree),IsS t→lo <+: (Aeb cx d lo p t).2∧(Aeb cx d lo p t).2.length≤lo.length+sz t
 | 0,lo,p,t,_=>⟨List.prefix_refl _,Nat.le_add_right _ _⟩
 | d+1,lo,p,t,h=>by
  have same:∀ l:List ByteArray,lo=l→lo <+: l∧l.length≤lo.length+sz t:=fun l h=>by subst h;exact ⟨List.prefix_refl _,Nat.le_add_right _ _⟩
  cases h with
  | loc hl hm =>
   rename_i a t l m
   rw [Bns]
   have h2:=Aju l
   refine ⟨⟨_,rfl⟩,?_⟩
   simp only [List.length_append,List.length_map,sz,Aib]
   omega
  | asg=>rw [Bhl];exact same _ rfl
  | run=>rw [Bnv];exact same _ rfl
  | if_=>rw [Bhn];exact same _ rfl
  | while_=>rw [Bnx];exact same _ rfl
  | for_=>rw [Bnm];exact same _ rfl
  | forIn=>rw [Bnp];exact same _ rfl
  | do_=>rw [Bhm];exact same _ rfl
  | break_=>rw [Bnl];exact same _ rfl
  | ret=>rw [Bnt];exact same _ rfl
theorem Bvx {bs:List (List Int)} {h1 h2:List Int} (h:bs≠[]∨h1++h2=[]):(bs≠[]∨h1=[])∧(An1 bs h1≠[]∨h2=[]):=by
 rcases h with h | h
 ·exact ⟨.inl h,.inl (Cm1 h)⟩
 ·have:=List.append_eq_nil_iff.1 h
  exact ⟨.inr this.1,.inr this.2⟩
theorem B34 {R:GS} (hS:ST R cx d) (J:Cd→TyC→TyL→Int→List (Option Agt)→A2d) (nx:Int) (us:List (Option Agt)):∀ (t pre:List Tree) (lo:TyC) (c:Cd) (bs:TyL) (m:Nat),500000+t.length≤m→pre.length+t.length≤400000→(∀ x ∈ t,IsS x)→gws t→szs t≤d→BdX cx lo c.length bs (szs t) →
  (bs≠[]∨holes c.length (Aqt cx (Aeb cx d) lo c.length t)=[]) →
  ∃ lo',lo <+: lo'∧Ahb.l0 m R cx.cs cx.src cx.gl (pre++t) J (pre.length:Int) c lo bs nx us=J (c++Aea 0 (Aqt cx (Aeb cx d) lo c.length t)) lo' (An1 bs (holes c.length (Aqt cx (Aeb cx d) lo c.length t))) nx us
 | [],pre,lo,c,bs,m,hm,hl,hS',hg,hd,hB,hn=>by
  obtain ⟨m,rfl⟩:∃ m',m=m'+1:=⟨m - 1,by omega⟩
  refine ⟨lo,List.prefix_refl _,?_⟩
  simp only [Ahb.l0]
  rw [ltF (by simp),cond_false]
  simp only [Aqt,holes,Bi9]
  simp [Aea]
 | x :: t,pre,lo,c,bs,m,hm,hl,hI,hg,hd,hB,hn=>by
  obtain ⟨m,rfl⟩:∃ m',m=m'+1:=⟨m - 1,by omega⟩
  simp only [List.length_cons] at hl hm
  simp only [szs] at hd hB
  have hx:=hI x (List.mem_cons_self ..)
  obtain ⟨y,z,hp⟩:=Cfe m cx.src x.at_ hB.src (by omega)
  have hc:=hB.c
  have e1:∀ i:Ins,(c++[i]).length=c.length+1:=fun i=>by simp
  have hX:=Bho (cx:=cx) d lo (c.length+1) x hx
  obtain ⟨hlo,hlo2⟩:=Cg8 (cx:=cx) d lo (c.length+1) x hx
  have hlen:(c++[i1 1 (Amq cx.src x.at_)]++Aea 0 (Aeb cx d lo (c.length+1) x).1).length=c.length+1+(Aeb cx d lo (c.length+1) x).1.length:=by rw [List.length_append,e1,An4]
  simp only [Aqt] at hn ⊢
  rw [show holes c.length (some (i1 1 (Amq cx.src x.at_)) :: ((Aeb cx d lo (c.length+1) x).1++Aqt cx (Aeb cx d) (Aeb cx d lo (c.length+1) x).2 (c.length+1+(Aeb cx d lo (c.length+1) x).1.length) t))=holes (c.length+1) (Aeb cx d lo (c.length+1) x).1++holes (c.length+1+(Aeb cx d lo (c.length+1) x).1.length) (Aqt cx (Aeb cx d) (Aeb cx d lo (c.length+1) x).2 (c.length+1+(Aeb cx d lo (c.length+1) x).1.length) t) from Aq7] at hn ⊢
  obtain ⟨hn1,hn2⟩:=Bvx hn
  have hst:=hS lo (c++[i1 1 (Amq cx.src x.at_)]) bs nx us x hx hg.1 (by omega) (hB.to (by omega) (by rw [e1];omega) (by omega)) (by rw [e1];exact hn1)
  rw [e1] at hst
  simp only [Ahb.l0]
  rw [ltT (by simp;omega),cond_true,Ah5,Option.bind_some,hp,Option.bind_some,add1 _ _ _ _ (by unfold mx;omega),Option.bind_some]
  have hh:=Bes (X:=(Aeb cx d lo (c.length+1) x).1) (p:=c.length+1)
  have hbw:=B4i (bs:=bs) (h:=holes (c.length+1) (Aeb cx d lo (c.length+1) x).1)
  obtain ⟨lo',h1,h2⟩:=B34 hS J nx us t (pre++[x]) (Aeb cx d lo (c.length+1) x).2 (c++[i1 1 (Amq cx.src x.at_)]++Aea 0 (Aeb cx d lo (c.length+1) x).1) (An1 bs (holes (c.length+1) (Aeb cx d lo (c.length+1) x).1)) m (by omega) (by simp;omega) (fun y hy=>hI y (List.mem_cons_of_mem _ hy)) hg.2 (by omega) (hB.to (by omega) (by rw [hlen];omega) (by omega)) (by rw [hlen];exact hn2)
  refine ⟨lo',hlo.trans h1,?_⟩
  rw [show (pre++[x])++t=pre++x :: t by simp,show ((pre++[x]).length:Int)=(pre.length:Int)+1 by simp,hlen,Bpq] at h2
  refine (congrArg (fun z=>Option.bind z _) hst).trans ?_
  rw [Option.bind_some,wiC _ (by omega) (by omega)]
  refine h2.trans ?_
  rw [show Aea 0 (some (i1 1 (Amq cx.src x.at_)) :: ((Aeb cx d lo (c.length+1) x).1++Aqt cx (Aeb cx d) (Aeb cx d lo (c.length+1) x).2 (c.length+1+(Aeb cx d lo (c.length+1) x).1.length) t))=i1 1 (Amq cx.src x.at_) :: (Aea 0 (Aeb cx d lo (c.length+1) x).1++Aea 0 (Aqt cx (Aeb cx d) (Aeb cx d lo (c.length+1) x).2 (c.length+1+(Aeb cx d lo (c.length+1) x).1.length) t)) from congrArg (i1 1 (Amq cx.src x.at_) :: ·) A2r]
  simp only [List.append_assoc,List.cons_append,List.nil_append]
theorem B36 (hk:500020+4 * d≤k) (hS:ST (GS.at k) cx d):BK (GS.at (k+1)) cx d:=fun lo c bs nx us b hb hg hd hB hn=>by
 show Ahb.g (GS.at k) k cx.cs c cx.src cx.gl lo bs nx us b.kind b.text b.n b.at_ b.kids=_
 obtain ⟨h1,h2,h3⟩:=Buh hb
 have hs:=Aju b.kids
 have hlo:=hB.lo
 unfold Ahb.g
 dsimp only [Adg]
 obtain ⟨lo',e1,e2⟩:=B34 hS (fun (l2:Cd) (l7:TyC) (l12:TyL) (x17:Int) (l18:List (Option Agt))=>(Ah4 l7 (0:Int) ((lo.length:Nat):Int)).bind fun l24=>some (l2,l24,l12,x17,l18)) nx us b.kids [] lo c bs k (by omega) (by simp only [List.length_nil];omega) h1 (by cases b;exact hg.2) (by omega) (hB.to (by omega) (by omega) (by omega)) hn
 refine (show _=_ from e2).trans ?_
 rw [Bht e1,Option.bind_some,Bhx e1]
theorem C9f (J:Cd→A2d) (X:Hx) (A T:Cd) (m e:Nat) (h1:X.length≤1000000) (h2:X.length < m) (he:e=A.length+X.length+T.length):Al7.l0 m (holes A.length X) J 0 (A++Aea 0 X++T)=J (A++Aea (e:Int) X++T) :=
 Bbm (fun m hs x c=>Al7.l0 m hs J x c) J (fun _ _ _ _=>rfl) e T X [] A m (by simp only [List.length_nil];omega) h2 he
theorem C9m (J:Cd→A2d) (X:Hx) (A T:Cd) (m e:Nat) (h1:X.length≤1000000) (h2:X.length < m) (he:e=A.length+X.length+T.length):Al8.l0 m (holes A.length X) J 0 (A++Aea 0 X++T)=J (A++Aea (e:Int) X++T) :=
 Bbm (fun m hs x c=>Al8.l0 m hs J x c) J (fun _ _ _ _=>rfl) e T X [] A m (by simp only [List.length_nil];omega) h2 he
theorem C9d (J:Cd→A2d) (X:Hx) (A T:Cd) (m e:Nat) (h1:X.length≤1000000) (h2:X.length < m) (he:e=A.length+X.length+T.length):Alk.l0 m (holes A.length X) J 0 (A++Aea 0 X++T)=J (A++Aea (e:Int) X++T) :=
 Bbm (fun m hs x c=>Alk.l0 m hs J x c) J (fun _ _ _ _=>rfl) e T X [] A m (by simp only [List.length_nil];omega) h2 he
theorem Ce8 (lo:TyC) (bs:TyL) (nx:Int) (us:List (Option Agt)) (X:Hx) (A T:Cd) (m e:Nat) (h1:X.length≤1000000) (h2:X.length < m) (he:e=A.length+X.length+T.length):Ah2.l0 m (holes A.length X) lo bs nx us 0 (A++Aea 0 X++T)=some (A++Aea (e:Int) X++T,lo,bs,nx,us) :=
 Bbm (fun m hs x c=>Ah2.l0 m hs lo bs nx us x c) (fun c=>some (c,lo,bs,nx,us)) (fun _ _ _ _=>rfl) e T X [] A m (by simp only [List.length_nil];omega) h2 he
theorem A4l {b:Tree} (hb:IsB b) (lo:List ByteArray) (p:Nat):(Agd cx d lo p b).length+5≤5 * sz b:=by
 obtain ⟨h1,h2,_⟩:=Buh hb
 have:=Bpe (cx:=cx) (f:=Aeb cx d) (l:=b.kids) (lo:=lo) (p:=p) fun lo p x hx=>Bho d lo p x (h1 x hx)
 show (Aqt cx (Aeb cx d) lo p b.kids).length+5≤_
 omega
theorem lastB (bs:List (List Int)) (h:List Int) (hb:bs.length≤2000000):IntKind.i64.wrap ((((bs++[h]).length:Nat):Int) - 1)=(bs.length:Int):=by
 rw [List.length_append,List.length_cons,List.length_nil,wiC _ (by omega) (by omega)]
 omega
def LP (F:Cd→TyC→TyL→Int→List (Option Agt)→Tree→A2d) (cx:GCx) (d:Nat) (back:Ins):Prop:=∀ (lo:TyC) (c:Cd) (bs:TyL) (nx:Int) (us:List (Option Agt)) (b:Tree),IsB b→gw b→sz b≤d+1→BdX cx lo (c.length+2) (bs++[[]]) (sz b - 1) →
 F c lo bs nx us b=some (c++Avr (Agd cx d lo c.length b) back c.length,lo,bs,nx,us)
theorem C36 (hk:500020+4 * d≤k) (hK:BK (GS.at k) cx d) (top:Int):LP (fun c lo bs nx us b=>(GS.at (k+1)).Al7 cx.cs c cx.src cx.gl lo bs nx us b.kind b.text b.n b.at_ b.kids top) cx d (i1 18 top):=fun lo c bs nx us b hb hg hd hB=>by
 show Al7.g (GS.at k) k cx.cs c cx.src cx.gl lo bs nx us b.kind b.text b.n b.at_ b.kids top=_
 have hX:=A4l (cx:=cx) (d:=d) hb lo c.length
 have h1:=hB.bs;have h2:=hB.c
 have h3:=Bjg (bs++[[]])
 rw [List.length_append,List.length_cons,List.length_nil] at h3
 unfold Al7.g
 rw [Ava (by simp only [List.length_cons,List.length_nil];omega),Option.bind_some,hK lo c (bs++[[]]) nx us b hb hg hd (hB.to (by omega) (by omega) (by omega)) (.inl (by simp)),Option.bind_some]
 unfold A9l.f
 rw [add1 _ _ _ _ (by rw [List.length_append,An4];unfold mx;omega),Option.bind_some,Option.bind_some]
 dsimp only [Adg]
 rw [Ax2,lastB bs _ (by omega),Ah5,Option.bind_some,List.nil_append]
 refine (C9f _ _ c [i1 18 top] k (c.length+(Agd cx d lo c.length b).length+1) (by omega) (by omega) (by simp)).trans ?_
 rw [Anx 0 bs.length (show (0:Int)=((0:Nat):Int) from rfl) rfl (by omega) (by simp),Option.bind_some]
 unfold Avr
 simp
theorem C37 (hk:500020+4 * d≤k) (hK:BK (GS.at k) cx d) (s pr:Int) (hpr:0≤pr∧pr≤1000000):LP (fun c lo bs nx us b=>(GS.at (k+1)).Al8 cx.cs c cx.src cx.gl lo bs nx us b.kind b.text b.n b.at_ b.kids s pr) cx d (i2 31 s (pr+1)):=fun lo c bs nx us b hb hg hd hB=>by
 show Al8.g (GS.at k) k cx.cs c cx.src cx.gl lo bs nx us b.kind b.text b.n b.at_ b.kids s pr=_
 have hX:=A4l (cx:=cx) (d:=d) hb lo c.length
 have h1:=hB.bs;have h2:=hB.c
 have h3:=Bjg (bs++[[]])
 rw [List.length_append,List.length_cons,List.length_nil] at h3
 unfold Al8.g
 rw [Ava (by simp only [List.length_cons,List.length_nil];omega),Option.bind_some,hK lo c (bs++[[]]) nx us b hb hg hd (hB.to (by omega) (by omega) (by omega)) (.inl (by simp)),Option.bind_some]
 unfold A9m.f
 rw [wiC (pr+1) (by omega) (by omega),Bo2 _ _ _ _ _ (by rw [List.length_append,An4];unfold mx;omega),Option.bind_some,Option.bind_some]
 dsimp only [Adg]
 rw [Ax2,lastB bs _ (by omega),Ah5,Option.bind_some,List.nil_append]
 refine (C9m _ _ c [i2 31 s (pr+1)] k (c.length+(Agd cx d lo c.length b).length+1) (by omega) (by omega) (by simp)).trans ?_
 rw [Anx 0 bs.length (show (0:Int)=((0:Nat):Int) from rfl) rfl (by omega) (by simp),Option.bind_some]
 unfold Avr
 simp
theorem C35 (hk:500020+4 * d≤k) (hK:BK (GS.at k) cx d) (top:Int):LP (fun c lo bs nx us b=>(GS.at (k+1)).Alk cx.cs c cx.src cx.gl lo bs nx us b.kind b.text b.n b.at_ b.kids top) cx d (i1 18 top):=fun lo c bs nx us b hb hg hd hB=>by
 show Alk.g (GS.at k) k cx.cs c cx.src cx.gl lo bs nx us b.kind b.text b.n b.at_ b.kids top=_
 have hX:=A4l (cx:=cx) (d:=d) hb lo c.length
 have h1:=hB.bs;have h2:=hB.c
 have h3:=Bjg (bs++[[]])
 rw [List.length_append,List.length_cons,List.length_nil] at h3
 unfold Alk.g
 rw [Ava (by simp only [List.length_cons,List.length_nil];omega),Option.bind_some,hK lo c (bs++[[]]) nx us b hb hg hd (hB.to (by omega) (by omega) (by omega)) (.inl (by simp)),Option.bind_some]
 unfold A9f.f
 rw [add1 _ _ _ _ (by rw [List.length_append,An4];unfold mx;omega),Option.bind_some,Option.bind_some]
 dsimp only [Adg]
 rw [Ax2,lastB bs _ (by omega),Ah5,Option.bind_some,List.nil_append]
 refine (C9d _ _ c [i1 18 top] k (c.length+(Agd cx d lo c.length b).length+1) (by omega) (by omega) (by simp)).trans ?_
 rw [Anx 0 bs.length (show (0:Int)=((0:Nat):Int) from rfl) rfl (by omega) (by simp),Option.bind_some]
 unfold Avr
 simp
end
abbrev HHx:=List (Option (Option Ins))
def v1 (X:HHx):Hx:=X.map fun o=>o.map fun i=>i.getD (18,0,0,0)
def v2 (e:Int) (X:HHx):Hx:=X.map fun o=>o.getD (some (i1 18 e))
theorem Bjr {e:Int}:∀ {X:HHx},Aea e (v1 X)=Aea 0 (v2 e X)
 | []=>rfl
 | none :: X=>congrArg ((18,e,0,0) :: ·) (Bjr (X:=X))
 | some none :: X=>congrArg ((18,0,0,0) :: ·) (Bjr (X:=X))
 | some (some i) :: X=>congrArg (i :: ·) (Bjr (X:=X))
theorem Bat {e:Int}:∀ {X:HHx} {p:Nat},holes p (v2 e X)=holes p (v2 0 X)
 | [],_=>rfl
 | none :: X,p=>Bat (X:=X) (p:=p+1)
 | some none :: X,p=>congrArg ((p:Int) :: ·) (Bat (X:=X) (p:=p+1))
 | some (some i) :: X,p=>Bat (X:=X) (p:=p+1)
theorem Bzu {X Y:HHx}:v1 (X++Y)=v1 X++v1 Y:=List.map_append ..
theorem Bbz {e:Int} {X Y:HHx}:v2 e (X++Y)=v2 e X++v2 e Y:=List.map_append ..
theorem Bzv:∀ {B:Hx},v1 (B.map some)=Agx (Aea 0 B)
 | []=>rfl
 | o :: B=>congrArg (some (o.getD (18,0,0,0)) :: ·) (Bzv (B:=B))
theorem Bb1 {e:Int}:∀ {B:Hx},v2 e (B.map some)=B
 | []=>rfl
 | o :: B=>congrArg (o :: ·) (Bb1 (B:=B))
theorem Cir:∀ {E:Cd},v1 (E.map fun i=>some (some i))=Agx E
 | []=>rfl
 | i :: E=>congrArg (some i :: ·) (Cir (E:=E))
theorem Bzw {e:Int}:∀ {E:Cd},v2 e (E.map fun i=>some (some i))=Agx E
 | []=>rfl
 | i :: E=>congrArg (some i :: ·) (Bzw (E:=E))
section
variable {cx:GCx} {d k:Nat}
def BR (R:GS) (cx:GCx) (d:Nat):Prop:=∀ (lo:TyC) (c:Cd) (bs:TyL) (nx:Int) (us:List (Option Agt)) (l:List Tree),IsR l→gws l→szs l≤d→BdX cx lo c.length bs (szs l)→(bs≠[]∨holes c.length (ifH (Acf cx lo d 1) (Agd cx d lo) c.length l)=[]) →
 R.Ah2 cx.cs c cx.src cx.gl lo bs nx us l=some (c++Aea 0 (ifH (Acf cx lo d 1) (Agd cx d lo) c.length l),lo,An1 bs (holes c.length (ifH (Acf cx lo d 1) (Agd cx d lo) c.length l)),nx,us)
theorem Bpl {R:GS} (hK:BK R cx d) (lo:List ByteArray) (nx:Int) (us:List (Option Agt)) (k:Nat) (hk:500020+4 * d≤k)
  (J:List Tree→List Int→Cd→List ByteArray→List (List Int)→Int→List (Option Agt)→A2d)
  (hJ0:∀ ends c bs,J [] ends c lo bs nx us=Ah2.l0 k ends lo bs nx us 0 c)
  (hJ1:∀ b ends c bs,J [b] ends c lo bs nx us=(R.Ahb cx.cs c cx.src cx.gl lo bs nx us b.kind b.text b.n b.at_ b.kids).bind fun r89=>Ah2.l0 k ends r89.2.1 r89.2.2.1 r89.2.2.2.1 r89.2.2.2.2 0 r89.1) :
  ∀ (l:List Tree),IsR l→∀ (A:Cd) (Y:Hx) (bs:List (List Int)) (m:Nat),500020+4 * d+l.length≤m→gws l→szs l≤d→BdX cx lo (A.length+Y.length) bs (szs l)→Y.length≤450000 →
   (bs≠[]∨holes (A.length+Y.length) (v2 0 (brX (Acf cx lo d 1) (Agd cx d lo) (A.length+Y.length) l))=[]) →
   Ah2.l1 m R cx.cs cx.src cx.gl J l (holes A.length Y) (A++Aea 0 Y) lo bs nx us =
    some (A++Aea ((A.length+Y.length+(brX (Acf cx lo d 1) (Agd cx d lo) (A.length+Y.length) l).length:Nat):Int) (Y++v1 (brX (Acf cx lo d 1) (Agd cx d lo) (A.length+Y.length) l)),lo,An1 bs (holes (A.length+Y.length) (v2 0 (brX (Acf cx lo d 1) (Agd cx d lo) (A.length+Y.length) l))),nx,us)
 | [],_,A,Y,bs,m,hm,hg,hd,hB,hY,hn=>by
  obtain ⟨m,rfl⟩:∃ m',m=m'+1:=⟨m - 1,by omega⟩
  simp only [Ah2.l1]
  rw [show decide ((([]:List Tree).length:Int) > 1)=false from rfl,cond_false,hJ0]
  have:=Ce8 lo bs nx us Y A [] k (A.length+Y.length) (by omega) (by omega) (by simp)
  rw [List.append_nil,List.append_nil] at this
  refine this.trans ?_
  simp only [brX,v1,v2,List.map_nil,holes,Bi9,List.append_nil,List.length_nil,Nat.add_zero]
 | [b],hr,A,Y,bs,m,hm,hg,hd,hB,hY,hn=>by
  obtain ⟨m,rfl⟩:∃ m',m=m'+1:=⟨m - 1,by omega⟩
  have hb:IsB b:=by cases hr with | last h=>exact h
  simp only [szs] at hd hB
  have hl:(A++Aea 0 Y).length=A.length+Y.length:=by rw [List.length_append,An4]
  have eX:brX (Acf cx lo d 1) (Agd cx d lo) (A.length+Y.length) [b]=(Agd cx d lo (A.length+Y.length) b).map some:=rfl
  rw [eX,Bb1] at hn
  rw [eX,Bb1,Bzv]
  simp only [Ah2.l1]
  rw [show decide ((([b]:List Tree).length:Int) > 1)=false from rfl,cond_false,hJ1,hK lo _ bs nx us b hb hg.1 (by omega) (hB.to (by omega) (by rw [hl];omega) (by omega)) (by rw [hl];exact hn),Option.bind_some,hl]
  have:=Ce8 lo (An1 bs (holes (A.length+Y.length) (Agd cx d lo (A.length+Y.length) b))) nx us Y A (Aea 0 (Agd cx d lo (A.length+Y.length) b)) k (A.length+Y.length+(Agd cx d lo (A.length+Y.length) b).length) (by omega) (by omega) (by rw [An4])
  refine this.trans ?_
  rw [A2r,A2s,List.length_map,List.append_assoc]
 | x :: y :: l,hr,A,Y,bs,m,hm,hg,hd,hB,hY,hn=>by
  obtain ⟨m,rfl⟩:∃ m',m=m'+1:=⟨m - 1,by omega⟩
  obtain ⟨hx,hy,hl⟩:IsE x∧IsB y∧IsR l:=by cases hr with | more h1 h2 h3=>exact ⟨h1,h2,h3⟩
  obtain ⟨gx,gy,gl⟩:=hg
  simp only [szs] at hd hB
  simp only [List.length_cons] at hm
  have hc:=hB.c
  have hxp:=Ase x
  have hlC:(A++Aea 0 Y).length=A.length+Y.length:=by rw [List.length_append,An4]
  generalize hC:A++Aea 0 Y=C at hlC ⊢
  generalize hp:A.length+Y.length=p at hB hn hlC hc ⊢
  generalize hE:Acf cx lo d 1 p x=E
  have hEl:E.length≤4 * sz x:=by rw [← hE];exact Akw d 1 p x hx
  generalize hBk:Agd cx d lo (p+E.length+1) y=B
  have hBl:B.length+5≤5 * sz y:=by rw [← hBk];exact A4l hy lo _
  have hBh:=Bes (X:=B) (p:=p+E.length+1)
  have hbw:=B4i (bs:=bs) (h:=holes (p+E.length+1) B)
  have hlE:(C++E++[i0 19]).length=p+E.length+1:=by rw [Atn,hlC]
  have hexp:Agg.f m cx.cs C cx.gl lo x.kind x.text x.n x.at_ x.kids=some (C++E):=by
   have:=B5i (d:=d) hB.b (by omega:500010+4 * d≤m) (c:=C) hx gx (by omega) (by rw [hlC];unfold mx;omega)
   rw [hlC,hE] at this
   exact this
  -- what the pair lays, and the rest
  have key:∀ (mo:Nat) (ho:HHx),mo=(if l.isEmpty then 0 else 1)→ho=(if l.isEmpty then [] else [none]) →
    brX (Acf cx lo d 1) (Agd cx d lo) p (x :: y :: l)=E.map (fun i=>some (some i))++some (some (i1 19 ((p+E.length+1+B.length+mo:Nat):Int))) :: (B.map some++ho++brX (Acf cx lo d 1) (Agd cx d lo) (p+E.length+1+B.length+mo) l):=fun mo ho h1 h2=>by
   subst h1 h2 hE hBk;rfl
  simp only [Ah2.l1]
  rw [decide_eq_true (by simp only [List.length_cons];omega),cond_true,ix0,Option.bind_some,hexp,Option.bind_some,add0 _ _ _ (by rw [List.length_append,hlC];unfold mx;omega),Option.bind_some,ix1,Option.bind_some]
  have B70:∀ (mo:Nat) (ho:HHx),mo=(if l.isEmpty then 0 else 1)→ho=(if l.isEmpty then [] else [none])→holes p (v2 0 (brX (Acf cx lo d 1) (Agd cx d lo) p (x :: y :: l)))=holes (p+E.length+1) B++holes (p+E.length+1+B.length+mo) (v2 0 (brX (Acf cx lo d 1) (Agd cx d lo) (p+E.length+1+B.length+mo) l)):=fun mo ho h1 h2=>by
   rw [key mo ho h1 h2,Bbz,Bzw,Aq7,Asl,List.nil_append,Atq]
   show holes (p+E.length+1) (v2 0 (B.map some++ho++_))=_
   rw [Bbz,Bbz,Bb1,List.append_assoc,Aq7]
   congr 1
   rw [Aq7]
   cases l with
   | nil=>subst h1 h2;rfl
   | cons u v=>subst h1 h2;rfl
  have B8d:∀ (mo:Nat) (ho:HHx),mo=(if l.isEmpty then 0 else 1)→ho=(if l.isEmpty then [] else [none])→p+(brX (Acf cx lo d 1) (Agd cx d lo) p (x :: y :: l)).length=p+E.length+1+B.length+mo+(brX (Acf cx lo d 1) (Agd cx d lo) (p+E.length+1+B.length+mo) l).length:=fun mo ho h1 h2=>by
   have hm:ho.length=mo:=by subst h1 h2;cases l <;> rfl
   rw [key mo ho h1 h2]
   simp only [List.length_append,List.length_map,List.length_cons]
   omega
  have hv:∀ (mo:Nat) (ho:HHx),mo=(if l.isEmpty then 0 else 1)→ho=(if l.isEmpty then [] else [none])→v1 (brX (Acf cx lo d 1) (Agd cx d lo) p (x :: y :: l))=Agx E++some (i1 19 ((p+E.length+1+B.length+mo:Nat):Int)) :: (Agx (Aea 0 B)++v1 ho++v1 (brX (Acf cx lo d 1) (Agd cx d lo) (p+E.length+1+B.length+mo) l)):=fun mo ho h1 h2=>by
   rw [key mo ho h1 h2,Bzu,Cir]
   show Agx E++some (i1 19 ((p+E.length+1+B.length+mo:Nat):Int)) :: v1 (B.map some++ho++_)=_
   rw [Bzu,Bzu,Bzv]
  have hblk:∀ h2:(bs≠[]∨holes (p+E.length+1) B=[]),R.Ahb cx.cs (C++E++[i0 19]) cx.src cx.gl lo bs nx us y.kind y.text y.n y.at_ y.kids=some (C++E++[i0 19]++Aea 0 B,lo,An1 bs (holes (p+E.length+1) B),nx,us):=fun h2=>by
   have:=hK lo (C++E++[i0 19]) bs nx us y hy gy (by omega) (hB.to (by omega) (by rw [hlE];omega) (by omega)) (by rw [hlE,hBk];exact h2)
   rw [hlE,hBk] at this
   exact this
  have hsub:Ah4 (x :: y :: l) (2:Int) (((x :: y :: l).length:Nat):Int)=some l:=by
   rw [Anx 2 (l.length+2) (show (2:Int)=((2:Nat):Int) from rfl) (by simp only [List.length_cons]) (by omega) (by simp)]
   simp
  cases l with
  | nil =>
   have hh:=B70 0 [] rfl rfl
   rw [hh] at hn
   obtain ⟨hn1,hn2⟩:=Bvx hn
   rw [hblk hn1,Option.bind_some,hsub,Option.bind_some]
   dsimp only [Adg]
   rw [show decide ((([]:List Tree).length:Int) > 0)=false from rfl,cond_false]
   unfold Aj0.f
   rw [Option.bind_some,List.append_assoc (C++E),show ∀ Z:Cd,C++E++([i0 19]++Z)=(C++E)++i0 19 :: Z from fun _=>rfl,Ah5,Option.bind_some,Ats,Option.bind_some]
   have eY:∀ q:Int,(C++E)++i1 19 q :: Aea 0 B=A++Aea 0 (Y++Agx E++some (i1 19 q) :: Agx (Aea 0 B)):=fun q=>by
    rw [A2r,A2r,A2s,show Aea 0 (some (i1 19 q) :: Agx (Aea 0 B))=i1 19 q :: Aea 0 (Agx (Aea 0 B)) from rfl,A2s,← hC]
    simp only [List.append_assoc]
   have eQ:(((C++E++i0 19 :: Aea 0 B).length:Nat):Int)=((p+E.length+1+B.length+0:Nat):Int):=by
    simp only [List.length_append,List.length_cons,An4,hlC];omega
   have eH:holes A.length Y=holes A.length (Y++Agx E++some (i1 19 ((p+E.length+1+B.length+0:Nat):Int)) :: Agx (Aea 0 B)):=by
    rw [Aq7,Aq7,Asl,List.append_nil]
    show _=_++holes _ (Agx _)
    rw [Asl,List.append_nil]
   have eL:A.length+(Y++Agx E++some (i1 19 ((p+E.length+1+B.length+0:Nat):Int)) :: Agx (Aea 0 B)).length=p+E.length+1+B.length+0:=by
    simp only [List.length_append,List.length_cons,Atq,An4];omega
   have ih:=Bpl hK lo nx us k hk J hJ0 hJ1 [] hl A (Y++Agx E++some (i1 19 ((p+E.length+1+B.length+0:Nat):Int)) :: Agx (Aea 0 B)) (An1 bs (holes (p+E.length+1) B)) m (by omega) gl (by omega) (hB.to (by omega) (by rw [eL];simp only [szs];omega) (by simp only [szs];omega)) (by simp only [List.length_append,List.length_cons,Atq,An4];omega) (by rw [eL];exact hn2)
   rw [eL,← eY,← eH,Bpq,← hh] at ih
   rw [eQ]
   refine (show _=_ from ih).trans ?_
   rw [hv 0 [] rfl rfl,B8d 0 [] rfl rfl]
   simp only [List.append_assoc,List.cons_append,show v1 []=[] from rfl,List.nil_append]
  | cons u v =>
   have hh:=B70 1 [none] rfl rfl
   rw [hh] at hn
   obtain ⟨hn1,hn2⟩:=Bvx hn
   rw [hblk hn1,Option.bind_some,hsub,Option.bind_some]
   dsimp only [Adg]
   have hYh:=Bes (X:=Y) (p:=A.length)
   have lB:(C++E++[i0 19]++Aea 0 B).length=p+E.length+1+B.length:=by rw [List.length_append,hlE,An4]
   rw [decide_eq_true (by simp only [List.length_cons];omega),cond_true,add0 _ _ _ (by rw [lB];unfold mx;omega),Option.bind_some,lB,Ava (by simp only [List.length_cons,List.length_nil];omega),Option.bind_some]
   unfold Aj0.f
   rw [Option.bind_some,show ∀ Z:Cd,C++E++[i0 19]++Z++[i0 18]=(C++E)++i0 19 :: (Z++[i0 18]) from fun Z=>by simp,Ah5,Option.bind_some,Ats,Option.bind_some]
   have eY:∀ q:Int,(C++E)++i1 19 q :: (Aea 0 B++[i0 18])=A++Aea 0 (Y++Agx E++some (i1 19 q) :: (Agx (Aea 0 B)++[none])):=fun q=>by
    rw [A2r,A2r,A2s,show Aea 0 (some (i1 19 q) :: (Agx (Aea 0 B)++[none]))=i1 19 q :: Aea 0 (Agx (Aea 0 B)++[none]) from rfl,A2r,A2s,← hC]
    simp only [List.append_assoc]
    rfl
   have eQ:(((C++E++i0 19 :: (Aea 0 B++[i0 18])).length:Nat):Int)=((p+E.length+1+B.length+1:Nat):Int):=by
    simp only [List.length_append,List.length_cons,List.length_nil,An4,hlC];omega
   have eH:holes A.length Y++[((p+E.length+1+B.length:Nat):Int)]=holes A.length (Y++Agx E++some (i1 19 ((p+E.length+1+B.length+1:Nat):Int)) :: (Agx (Aea 0 B)++[none])):=by
    rw [Aq7,Aq7,Asl,List.append_nil]
    show _=_++holes _ (Agx _++[none])
    rw [Aq7,Asl,List.nil_append]
    show _=_++[_]
    congr 3
    simp only [List.length_append,Atq,An4];omega
   have eL:A.length+(Y++Agx E++some (i1 19 ((p+E.length+1+B.length+1:Nat):Int)) :: (Agx (Aea 0 B)++[none])).length=p+E.length+1+B.length+1:=by
    simp only [List.length_append,List.length_cons,List.length_nil,Atq,An4];omega
   have ih:=Bpl hK lo nx us k hk J hJ0 hJ1 (u :: v) hl A (Y++Agx E++some (i1 19 ((p+E.length+1+B.length+1:Nat):Int)) :: (Agx (Aea 0 B)++[none])) (An1 bs (holes (p+E.length+1) B)) m (by omega) gl (by omega) (hB.to (by omega) (by rw [eL];omega) (by omega)) (by simp only [List.length_append,List.length_cons,List.length_nil,Atq,An4];omega) (by rw [eL];exact hn2)
   rw [eL,← eY,← eH,Bpq,← hh] at ih
   rw [eQ]
   refine (show _=_ from ih).trans ?_
   rw [hv 1 [none] rfl rfl,B8d 1 [none] rfl rfl]
   simp only [List.append_assoc,List.cons_append,show v1 [none]=[none] from rfl,List.nil_append]
theorem Cm0 (hk:500020+5 * d≤k) (hK:BK (GS.at k) cx d):BR (GS.at (k+1)) cx d:=fun lo c bs nx us l hr hg hd hB hn=>by
 show Ah2.g (GS.at k) k cx.cs c cx.src cx.gl lo bs nx us l=_
 have hs:=Aju l
 have eI:ifH (Acf cx lo d 1) (Agd cx d lo) c.length l=v2 ((c.length+(brX (Acf cx lo d 1) (Agd cx d lo) c.length l).length:Nat):Int) (brX (Acf cx lo d 1) (Agd cx d lo) c.length l):=rfl
 rw [eI,Bat] at hn
 have hh:∀ (J:List Tree→List Int→Cd→TyC→TyL→Int→List (Option Agt)→A2d) (_:∀ ends c bs,J [] ends c lo bs nx us=Ah2.l0 k ends lo bs nx us 0 c) (_:∀ b ends c bs,J [b] ends c lo bs nx us=((GS.at k).Ahb cx.cs c cx.src cx.gl lo bs nx us b.kind b.text b.n b.at_ b.kids).bind fun r89=>Ah2.l0 k ends r89.2.1 r89.2.2.1 r89.2.2.2.1 r89.2.2.2.2 0 r89.1),
   Ah2.l1 k (GS.at k) cx.cs cx.src cx.gl J l [] c lo bs nx us=some (c++Aea ((c.length+(brX (Acf cx lo d 1) (Agd cx d lo) c.length l).length:Nat):Int) (v1 (brX (Acf cx lo d 1) (Agd cx d lo) c.length l)),lo,An1 bs (holes c.length (v2 0 (brX (Acf cx lo d 1) (Agd cx d lo) c.length l))),nx,us):=fun J h0 h1=>by
  have h:=Bpl hK lo nx us k (by omega) J h0 h1 l hr c [] bs k (by omega) hg hd hB (by simp) hn
  rw [show c++Aea 0 []=c by simp [Aea]] at h
  exact h
 unfold Ah2.g
 dsimp only [Adg]
 refine (hh _ ?_ ?_).trans ?_
 ·intro ends c bs;rfl
 ·intro b ends c bs;rfl
 ·rw [eI,← Bjr,Bat (e:=((c.length+(brX (Acf cx lo d 1) (Agd cx d lo) c.length l).length:Nat):Int))]
theorem B5c (hk:500000≤k) {lo:List ByteArray} {l:List Tree} (hl:l.length≤400000) (ho:lo.length+3≤400000):Ayb.f k lo l=some (((lo.length+1:Nat):Int),Ap8 lo l):=by
 unfold Ayb.f
 have:A4k 16 lo (⟨#[]⟩:ByteArray) (3:Int)=some (lo++List.replicate 3 ⟨#[]⟩):=by
  unfold A4k
  rw [decide_eq_true (⟨by omega,by show (lo.length+3) * 16≤_;omega⟩),cond_true]
  rfl
 rw [this,Option.bind_some,Bpm k _ _ hl (by simp;omega) hk,Option.bind_some,wiC _ (by omega) (by omega)]
 rfl
theorem Cdc {lo:List ByteArray} {l:List Tree} (ho:lo.length+3≤400000):Azu.f k (Ap8 lo l) ((lo.length+1:Nat):Int)=some lo:=by
 unfold Azu.f
 rw [wiC _ (by omega) (by omega),show ((lo.length+1:Nat):Int) - 1=(lo.length:Int) by omega]
 have hp:lo <+: Ap8 lo l:=⟨_,by unfold Ap8;rw [List.append_assoc]⟩
 rw [Bht hp,Option.bind_some,Bhx hp]
theorem Cdl {lo:List ByteArray} {l:List Tree}:(Ap8 lo l).length=lo.length+3+l.length:=by simp [Ap8];omega
theorem Bpu {bs:List (List Int)}:bw (bs++[[]])=bw bs+1:=by
 simp only [bw,List.length_append,List.map_append,List.sum_append,List.map_cons,List.map_nil,List.sum_cons,List.sum_nil,List.length_cons,List.length_nil]
 omega
theorem Cra (hk:500020+5 * d≤k) (hL:∀ top,LP (fun c lo bs nx us b=>(GS.at k).Alk cx.cs c cx.src cx.gl lo bs nx us b.kind b.text b.n b.at_ b.kids top) cx d (i1 18 top))
  (lo:TyC) (c:Cd) (bs:TyL) (nx:Int) (us:List (Option Agt)) (t:ByteArray) (a:Int) (l m:List Tree) (b:Tree) (hm:Ajj m) (hb:IsB b) (gm:gws m) (gb:gw b) (hd:szs l+szs m+sz b≤d) (hB:BdX cx lo (c.length - 1) bs (szs l+szs m+sz b+1)) (hl1:l≠[]) :
  (GS.at (k+1)).Ap6 cx.cs c cx.src cx.gl lo bs nx us 27 t (l.length:Nat) a (l++m++[b]) ((l++m++[b]).length - 1:Nat) =
   some (c++inG (Apw (Acf cx lo d) c.length m 3) (Agd cx d (Ap8 lo l) (c.length+(Apw (Acf cx lo d) c.length m 3).length+7) b) (lo.length+1) (l.length:Nat) c.length,lo,bs,nx,us):=by
 show Ap6.g (GS.at k) k cx.cs c cx.src cx.gl lo bs nx us 27 t (l.length:Nat) a (l++m++[b]) ((l++m++[b]).length - 1:Nat)=_
 have hs:=Aju l
 have hlo:=hB.lo;have hc:=hB.c;have hbs:=hB.bs
 have hlp:=List.length_pos_iff.2 hl1
 have hbp:=Ase b
 have hv:=Bcc (cx:=cx) (lo:=lo) (d:=d) (p:=c.length) (n:=3) hm
 have hX:=A4l (cx:=cx) (d:=d) hb (Ap8 lo l) (c.length+(Apw (Acf cx lo d) c.length m 3).length+7)
 have hle:(l++m++[b]).length - 1=l.length+m.length:=by simp
 rw [hle]
 unfold Ap6.g
 rw [Anx l.length (l.length+m.length) rfl rfl (by omega) (by simp),Option.bind_some,show ((l++m++[b]).drop l.length).take (l.length+m.length - l.length)=m by simp]
 rw [show ((3:Int))=((3:Nat):Int) from rfl,Bz3 (d:=d) hB.b (by omega) hm gm (by omega) (by omega) (by unfold mx;omega),Option.bind_some]
 rw [Anx 0 l.length (show (0:Int)=((0:Nat):Int) from rfl) rfl (by omega) (by simp),Option.bind_some,show ((l++m++[b]).drop 0).take (l.length - 0)=l by simp,B5c (by omega) (by omega) (by omega),Option.bind_some]
 generalize hE:Apw (Acf cx lo d) c.length m 3=E at hv hX ⊢
 have lE:(c++E).length=c.length+E.length:=List.length_append
 generalize hC:c++E=C at lE ⊢
 have l1:∀ (D:Cd) (i:Ins),(D++[i]).length=D.length+1:=fun D i=>by simp
 dsimp only
 rw [add1 _ _ _ _ (by unfold mx;omega),Option.bind_some]
 dsimp only
 rw [add1 _ _ _ _ (by rw [l1];unfold mx;omega),Option.bind_some]
 dsimp only
 rw [add0 _ _ _ (by rw [l1,l1];unfold mx;omega),Option.bind_some]
 dsimp only
 rw [add1 _ _ _ _ (by rw [l1,l1,l1];unfold mx;omega),Option.bind_some]
 dsimp only
 rw [add1 _ _ _ _ (by rw [l1,l1,l1,l1];unfold mx;omega),Option.bind_some]
 dsimp only
 rw [add1 _ _ _ _ (by rw [l1,l1,l1,l1,l1];unfold mx;omega),Option.bind_some]
 dsimp only
 rw [B23 _ _ _ _ _ _ (by rw [l1,l1,l1,l1,l1,l1];unfold mx;omega),Option.bind_some]
 dsimp only
 rw [show Acz (l++m++[b]) ((l.length+m.length:Nat):Int)=some b by rw [← List.length_append];exact Ah5 (l++m) b [],Option.bind_some]
 rw [wiC (((lo.length+1:Nat):Int)+1) (by omega) (by omega),wiC (((lo.length+1:Nat):Int)+2) (by omega) (by omega)]
 generalize hsI:((lo.length+1:Nat):Int)=s
 generalize hnI:((l.length:Nat):Int)=n
 have hloop:=hL (((C++[i1 32 s]).length:Nat):Int) (Ap8 lo l) (C++[i1 32 s]++[i1 6 s]++[i0 22]++[i1 6 (s+1)]++[i1 6 (s+2)]++[i1 24 n]++[i3 33 s 0 n]) bs nx us b hb gb (by omega) (hB.to (by rw [Cdl];omega) (by simp only [l1];omega) (by rw [Bpu];omega))
 have hlen:(C++[i1 32 s]++[i1 6 s]++[i0 22]++[i1 6 (s+1)]++[i1 6 (s+2)]++[i1 24 n]++[i3 33 s 0 n]).length=c.length+E.length+7:=by simp only [l1];omega
 rw [hlen] at hloop
 refine (congrArg (fun z=>Option.bind z _) hloop).trans ?_
 rw [Option.bind_some]
 unfold Aj0.f
 rw [Option.bind_some,show ∀ (Q L:Cd) (z:Ins),Q++[z]++L=Q++z :: L from fun Q L z=>by simp,Ah5,Option.bind_some,Ats,Option.bind_some,← hsI,Cdc (by omega),Option.bind_some]
 unfold inG
 rw [l1,lE,← hC]
 simp only [List.length_append,List.length_cons,List.length_nil,A0c,List.append_assoc,List.cons_append,List.nil_append,i3,hsI]
 rw [show ∀ x:Nat,c.length+(E.length+(x+1+1+1+1+1+1+1+1))=c.length+E.length+7+(x+1) from fun x=>by omega]
theorem Dbw (hk:500020+5 * d≤k) (hK:BK (GS.at k) cx d) (hR:BR (GS.at k) cx d)
  (Ctk:∀ top,LP (fun c lo bs nx us b=>(GS.at k).Al7 cx.cs c cx.src cx.gl lo bs nx us b.kind b.text b.n b.at_ b.kids top) cx d (i1 18 top))
  (Ctm:∀ s pr,0≤pr∧pr≤1000000→LP (fun c lo bs nx us b=>(GS.at k).Al8 cx.cs c cx.src cx.gl lo bs nx us b.kind b.text b.n b.at_ b.kids s pr) cx d (i2 31 s (pr+1)))
  (hF:∀ (lo:TyC) (c:Cd) (bs:TyL) (nx:Int) (us:List (Option Agt)) (t:ByteArray) (a:Int) (l m:List Tree) (b:Tree),Ajj m→IsB b→gws m→gw b→szs l+szs m+sz b≤d→BdX cx lo (c.length - 1) bs (szs l+szs m+sz b+1)→l≠[] →
   (GS.at k).Ap6 cx.cs c cx.src cx.gl lo bs nx us 27 t (l.length:Nat) a (l++m++[b]) ((l++m++[b]).length - 1:Nat) =
   some (c++inG (Apw (Acf cx lo d) c.length m 3) (Agd cx d (Ap8 lo l) (c.length+(Apw (Acf cx lo d) c.length m 3).length+7) b) (lo.length+1) (l.length:Nat) c.length,lo,bs,nx,us)) :
  ST (GS.at (k+1)) cx (d+1):=fun lo c bs nx us t hI hg hd hB hn=>by
 have hP:∀ (G:Cd) (lo':List ByteArray) (p:Nat),some (c++G,lo',bs,nx,us)=some (c++Aea 0 (Agx G),lo',An1 bs (holes p (Agx G)),nx,us):=fun G lo' p=>by rw [A2s,Asl,Bi9]
 have hlo:=hB.lo;have hc:=hB.c;have hbs:=hB.bs
 have l1:∀ (D:Cd) (i:Ins),(D++[i]).length=D.length+1:=fun D i=>by simp
 cases hI with
 | loc hl hm =>
  rename_i a t l m
  obtain ⟨_,hg⟩:=hg
  obtain ⟨_,gm⟩:=A5a.1 hg
  simp only [sz,Aib] at hd hlo hc hbs
  have hs:=Aju l
  have hv:=Bcc (cx:=cx) (lo:=lo) (d:=d) (p:=c.length) (n:=l.length) hm
  show Ag2.g (GS.at k) k cx.cs c cx.src cx.gl lo bs nx us 21 t (l.length:Nat) a (l++m)=_
  unfold Ag2.g
  simp only [Int.reduceBEq,cond_true,cond_false]
  rw [Anx l.length (l++m).length rfl rfl (by simp) (by simp),Option.bind_some,show ((l++m).drop l.length).take ((l++m).length - l.length)=m by simp,Bz3 (d:=d) hB.b (by omega) hm gm (by omega) (by omega) (by unfold mx;omega),Option.bind_some]
  rw [Anx 0 l.length (show (0:Int)=((0:Nat):Int) from rfl) rfl (by omega) (by simp),Option.bind_some,show ((l++m).drop 0).take (l.length - 0)=l by simp,Bpm k _ _ (by omega) (by omega) (by omega),Option.bind_some]
  rw [Cgr bs nx us _ (by omega) l.length k _ (by omega) (by omega) (by rw [List.length_append];unfold mx;omega),Bns,List.append_assoc]
  exact hP _ _ _
 | asg hl hx hm hy =>
  rename_i a t l m
  obtain ⟨_,hg⟩:=hg
  obtain ⟨gl,gm⟩:=A5a.1 hg
  simp only [sz,Aib] at hd hlo hc hbs
  have hs:=Aju l
  show Ag2.g (GS.at k) k cx.cs c cx.src cx.gl lo bs nx us 22 t (l.length:Nat) a (l++m)=_
  unfold Ag2.g
  simp only [Int.reduceBEq,cond_true,cond_false]
  rw [Anx 0 l.length (show (0:Int)=((0:Nat):Int) from rfl) rfl (by omega) (by simp),Option.bind_some,show ((l++m).drop 0).take (l.length - 0)=l by simp,Anx l.length (l++m).length rfl rfl (by simp) (by simp),Option.bind_some,show ((l++m).drop l.length).take ((l++m).length - l.length)=m by simp]
  rw [Cld (d:=d) hB.b (by omega) (fun x h=>(hx x h).1) hy gl gm (by omega) (by unfold mx;omega) (by omega),Option.bind_some,Bhl]
  exact hP _ _ _
 | run hx h8 =>
  rename_i n a t x
  simp only [sz,szs] at hd hlo hc hbs
  show Ag2.g (GS.at k) k cx.cs c cx.src cx.gl lo bs nx us 23 t n a [x]=_
  unfold Ag2.g
  simp only [Int.reduceBEq,cond_true,cond_false]
  rw [ix0,Option.bind_some,Cm6 (d:=d) hB.b (by omega) 0 hx h8 hg.2.1 (by omega) (by unfold mx;omega),Option.bind_some,Bnv]
  exact hP _ _ _
 | if_ hr =>
  rename_i n a t l
  simp only [sz] at hd hlo hc hbs
  rw [Bhn] at hn
  show Ag2.g (GS.at k) k cx.cs c cx.src cx.gl lo bs nx us 24 t n a l=_
  unfold Ag2.g
  simp only [Int.reduceBEq,cond_true,cond_false]
  rw [hR lo c bs nx us l hr hg.2 (by omega) (hB.to (by simp only [sz];omega) (by simp only [sz];omega) (by simp only [sz];omega)) hn,Option.bind_some,Bhn]
 | while_ hx hb =>
  rename_i n a t x b
  obtain ⟨_,gx,gb,_⟩:=hg
  simp only [sz,szs] at hd hlo hc hbs
  have hxl:=Akw (cx:=cx) (lo:=lo) d 1 c.length x hx
  have hbp:=Ase b
  show Ag2.g (GS.at k) k cx.cs c cx.src cx.gl lo bs nx us 25 t n a [x,b]=_
  unfold Ag2.g Aj0.f
  simp only [Int.reduceBEq,cond_true,cond_false]
  rw [Option.bind_some,ix0,Option.bind_some,B5i (d:=d) hB.b (by omega) hx gx (by omega) (by unfold mx;omega),Option.bind_some,Bnx]
  generalize hE:Acf cx lo d 1 c.length x=E at hxl ⊢
  rw [add0 _ _ _ (by rw [List.length_append];unfold mx;omega),Option.bind_some,add0 _ _ _ (by rw [l1,List.length_append];unfold mx;omega),Option.bind_some,ix1,Option.bind_some]
  have hlen:(c++E++[i0 19]++[i0 34]).length=c.length+E.length+2:=by rw [l1,l1,List.length_append]
  have hloop:=Ctk (c.length:Int) lo (c++E++[i0 19]++[i0 34]) bs nx us b hb gb (by omega) (hB.to (by simp only [sz,szs];omega) (by rw [hlen];simp only [sz,szs];omega) (by rw [Bpu];simp only [sz,szs];omega))
  rw [hlen] at hloop
  refine (congrArg (fun z=>Option.bind z _) hloop).trans ?_
  rw [Option.bind_some,Option.bind_some,show ∀ (Q L:Cd) (z w:Ins),Q++[z]++[w]++L=Q++z :: (w :: L) from fun Q L z w=>by simp,Ah5,Option.bind_some,Ats,Option.bind_some]
  refine Eq.trans ?_ (hP _ _ c.length)
  unfold B0b
  simp only [List.length_append,List.length_cons,A0c,List.append_assoc]
  rw [show ∀ x:Nat,c.length+(E.length+(x+1+1+1))=c.length+E.length+2+(x+1) from fun x=>by omega]
  rfl
 | for_ hl hx hb =>
  rename_i n a t x b l
  obtain ⟨_,gx,hg⟩:=hg
  obtain ⟨gl,gb,_⟩:=A5a.1 (show gws (l++[b]) from hg)
  simp only [sz,szs,Aib] at hd hlo hc hbs
  have hxl:=Aww (f:=Acf cx lo d 1) (l:=l) (p:=c.length) fun p y hy=>Akw d 1 p y (hx y hy)
  have hbp:=Ase b
  have hxp:=Ase x
  have hX:=A4l (cx:=cx) (d:=d) hb (Ap8 lo [x]) (c.length+(Ahl (Acf cx lo d 1) c.length l).length+1)
  show Ag2.g (GS.at k) k cx.cs c cx.src cx.gl lo bs nx us 26 t n a (x :: l++[b])=_
  have hlen0:(x :: l++[b]).length=l.length+2:=by simp
  have eW:IntKind.i64.wrap ((((x :: l++[b]).length:Nat):Int) - 1)=((l.length+1:Nat):Int):=by rw [hlen0,wiC _ (by omega) (by omega)];omega
  unfold Ag2.g Aj0.f
  simp only [Int.reduceBEq,cond_true,cond_false]
  rw [eW,Anx 1 (l.length+1) (show (1:Int)=((1:Nat):Int) from rfl) rfl (by omega) (by simp),Option.bind_some,show ((x :: l++[b]).drop 1).take (l.length+1 - 1)=l by simp]
  rw [Bp9 (d:=d) hB.b (by omega) hx gl (by omega) (by unfold mx;omega),Option.bind_some]
  dsimp only [Adg]
  rw [Anx 0 1 (show (0:Int)=((0:Nat):Int) from rfl) (show (1:Int)=((1:Nat):Int) from rfl) (by omega) (by simp),Option.bind_some,show ((x :: l++[b]).drop 0).take (1 - 0)=[x] from rfl,B5c (by omega) (by simp) (by omega),Option.bind_some,Bnm]
  generalize hE:Ahl (Acf cx lo d 1) c.length l=E at hxl hX ⊢
  rw [wiC (((l.length+1:Nat):Int) - 3) (by omega) (by omega),show ((l.length+1:Nat):Int) - 3=(l.length:Int) - 2 by omega]
  rw [B23 _ _ _ _ _ _ (by rw [List.length_append];unfold mx;omega),Option.bind_some,show Acz (x :: l++[b]) ((l.length+1:Nat):Int)=some b from Ah5 (x :: l) b [],Option.bind_some]
  generalize hsI:((lo.length+1:Nat):Int)=s
  have hlen:(c++E++[i3 30 s 0 ((l.length:Int) - 2)]).length=c.length+E.length+1:=Atn ..
  have hloop:=Ctm s (((c++E).length:Nat):Int) ⟨by omega,by rw [List.length_append];omega⟩ (Ap8 lo [x]) (c++E++[i3 30 s 0 ((l.length:Int) - 2)]) bs nx us b hb gb (by omega) (hB.to (by rw [Cdl];simp only [sz,szs,Aib,List.length_cons,List.length_nil];omega) (by rw [hlen];simp only [sz,szs,Aib];omega) (by rw [Bpu];simp only [sz,szs,Aib];omega))
  rw [hlen] at hloop
  refine (congrArg (fun z=>Option.bind z _) hloop).trans ?_
  rw [Option.bind_some,Option.bind_some,show ∀ (Q L:Cd) (z:Ins),Q++[z]++L=Q++z :: L from fun Q L z=>by simp,Ah5,Option.bind_some,Ats,Option.bind_some,← hsI,Cdc (by omega),Option.bind_some]
  refine Eq.trans ?_ (hP _ _ c.length)
  unfold Bqe
  simp only [List.length_append,List.length_cons,A0c,List.append_assoc]
  rw [show ∀ x:Nat,c.length+(E.length+(x+1+1))=c.length+E.length+1+(x+1) from fun x=>by omega]
  rfl
 | forIn hl hm hx hb =>
  rename_i a t b l m
  obtain ⟨_,hg⟩:=hg
  obtain ⟨hg,gb,_⟩:=A5a.1 hg
  obtain ⟨_,gm⟩:=A5a.1 hg
  simp only [sz,szs,Aib] at hd hlo hc hbs
  show Ag2.g (GS.at k) k cx.cs c cx.src cx.gl lo bs nx us 27 t (l.length:Nat) a (l++m++[b])=_
  have hs:=Aju (l++m++[b])
  simp only [Aib,szs] at hs
  have eW:IntKind.i64.wrap ((((l++m++[b]).length:Nat):Int) - 1)=(((l++m++[b]).length - 1:Nat):Int):=by
   have:1≤(l++m++[b]).length:=by simp;omega
   rw [wiC _ (by omega) (by omega)];omega
  unfold Ag2.g
  simp only [Int.reduceBEq,cond_true,cond_false]
  rw [eW,hF lo c bs nx us t a l m b hx hb gm gb (by omega) (hB.to (by simp only [sz,szs,Aib];omega) (by simp only [sz,szs,Aib];omega) (by simp only [sz,szs,Aib];omega)) hl,Option.bind_some,Bnp]
  exact hP _ _ _
 | do_ hb =>
  rename_i n a t b
  simp only [sz,szs] at hd hlo hc hbs
  rw [Bhm] at hn
  show Ag2.g (GS.at k) k cx.cs c cx.src cx.gl lo bs nx us 28 t n a [b]=_
  unfold Ag2.g
  simp only [Int.reduceBEq,cond_true,cond_false]
  rw [ix0,Option.bind_some,hK lo c bs nx us b hb hg.2.1 (by omega) (hB.to (by simp only [sz,szs];omega) (by simp only [sz,szs];omega) (by simp only [sz,szs];omega)) hn,Option.bind_some,Bhm]
 | break_ =>
  rename_i n a t
  rw [Bnl] at hn
  simp only [sz,szs] at hd hlo hc hbs
  show Ag2.g (GS.at k) k cx.cs c cx.src cx.gl lo bs nx us 29 t n a []=_
  unfold Ag2.g
  simp only [Int.reduceBEq,cond_true,cond_false]
  rcases A8m bs with rfl | ⟨M,h,rfl⟩
  ·rcases hn with hn | hn
   ·exact absurd rfl hn
   ·cases hn
  ·have h1:=Bjg (M++[h])
   have h2:=Cm4 (m:=M) (b:=h)
   rw [List.length_append,List.length_cons,List.length_nil] at h1
   rw [lastB M h (by omega),Ah5,Option.bind_some,add0 _ _ _ (by unfold mx;omega),Option.bind_some]
   rw [Ava (by simp only [List.length_cons,List.length_nil];omega),Option.bind_some,Ats,Option.bind_some,Bnl,Ax2]
   rfl
 | ret hx =>
  rename_i n a t l
  simp only [sz] at hd hlo hc hbs
  have e1:=A7r (f:=Acf cx lo d) (l:=l) (p:=c.length+1) fun r p y hy=>Akw d r p y (hx y hy)
  show Ag2.g (GS.at k) k cx.cs c cx.src cx.gl lo bs nx us 30 t n a l=_
  unfold Ag2.g
  simp only [Int.reduceBEq,cond_true,cond_false]
  rw [add0 _ _ _ (by unfold mx;omega),Option.bind_some,Cet (d:=d) hB.b (by omega) hx hg.2 (by omega) (by rw [l1];unfold mx;omega),Option.bind_some,l1,add0 _ _ _ (by rw [List.length_append,l1];unfold mx;omega),Option.bind_some,Bnt]
  refine Eq.trans ?_ (hP _ _ c.length)
  unfold Bm9
  simp only [List.append_assoc,List.cons_append,List.nil_append]
theorem Bny:∀ (d k:Nat),500040+5 * d≤k→ST (GS.at k) cx d∧BK (GS.at (k+1)) cx d
 | 0,k,hk=>by
  have h:ST (GS.at k) cx 0:=fun _ _ _ _ _ t _ _ h=>by have:=Ase t;omega
  exact ⟨h,B36 (by omega) h⟩
 | d+1,k,hk=>by
  obtain ⟨j,rfl⟩:∃ j,k=j+5:=⟨k - 5,by omega⟩
  have hS:=fun i (hi:500040+5 * d≤i)=>(Bny d i hi).1
  have hK:∀ i,500041+5 * d≤i→BK (GS.at i) cx d:=fun i hi=>by
   obtain ⟨i,rfl⟩:∃ m,i=m+1:=⟨i - 1,by omega⟩
   exact (Bny d i (by omega)).2
  have Ctj:∀ top,LP (fun c lo bs nx us b=>(GS.at (j+3)).Alk cx.cs c cx.src cx.gl lo bs nx us b.kind b.text b.n b.at_ b.kids top) cx d (i1 18 top):=fun top=>C35 (by omega) (hK _ (by omega)) top
  have h:ST (GS.at (j+5)) cx (d+1):=Dbw (by omega) (hK _ (by omega)) (Cm0 (by omega) (hK _ (by omega))) (fun top=>C36 (by omega) (hK _ (by omega)) top) (fun s pr h=>C37 (by omega) (hK _ (by omega)) s pr h) (fun lo c bs nx us t a l m b=>Cra (by omega) Ctj lo c bs nx us t a l m b)
  exact ⟨h,B36 (by omega) h⟩
end
mutual
/-- Does a node of the tree begin at a? -/
def bgT (a:Int):Tree→Prop
 | .mk _ _ _ p l=>p=a∨Bdm a l
def Bdm (a:Int):List Tree→Prop
 | []=>False
 | x :: l=>bgT a x∨Bdm a l
end
theorem B3t {a:Int}:∀ {l:List Tree},Bdm a l ↔ ∃ x ∈ l,bgT a x
 | []=>by simp [Bdm]
 | x :: l=>by simp [Bdm,B3t (l:=l)]
theorem Cmo (x:Tree):bgT x.at_ x:=by cases x;exact .inl rfl
def Flt (e:Int×Int) (t:Tree):Prop:=(e.1=5∨e.1=6)∧bgT e.2 t
theorem Flt.kid {e:Int×Int} {k n a:Int} {t:ByteArray} {l:List Tree} {x:Tree} (hx:x ∈ l) (h:Flt e x):Flt e (.mk k t n a l):=⟨h.1,.inr (B3t.2 ⟨x,hx,h.2⟩)⟩
theorem Flt.at5 {k n a:Int} {t:ByteArray} {l:List Tree}:Flt (5,a) (.mk k t n a l):=⟨.inl rfl,.inl rfl⟩
theorem Flt.at6 {k n a:Int} {t:ByteArray} {l:List Tree}:Flt (6,a) (.mk k t n a l):=⟨.inr rfl,.inl rfl⟩
theorem Bae {a c m:Int} {e:Int×Int} (h:Aoe a c m=.bad e):e=(6,a):=by
 unfold Aoe at h
 split at h
 ·cases h;rfl
 ·cases h
theorem Cdv {e:Int×Int}:∀ {l:List Tree} {lo:List ByteArray},Ayl lo l=.bad e→∃ x ∈ l,e=(5,x.at_)
 | [],_,h=>by cases h
 | x :: l,lo,h=>by
  unfold Ayl at h
  split at h
  ·cases h;exact ⟨x,List.mem_cons_self ..,rfl⟩
  ·obtain ⟨y,hy,e⟩:=Cdv h
   exact ⟨y,List.mem_cons_of_mem _ hy,e⟩
theorem Bpo {a sl:Int} {lo:List ByteArray} {l:List Tree} {e:Int×Int} (h:Azk a sl lo l=.bad e):(∃ x ∈ l,e=(5,x.at_))∨e=(6,a):=by
 unfold Azk at h
 rcases Alb h with h | ⟨lo',_,h⟩
 ·exact .inl (Cdv h)
 rcases Alb h with h | ⟨_,_,h⟩
 ·exact .inr (Bae h)
 ·cases h
theorem Cd1 {f:CSt→Tree→PC CSt} {e:Int×Int}:∀ {l:List Tree} {s:CSt},Ai1 f s l=.bad e→∃ x ∈ l,∃ s,f s x=.bad e
 | [],_,h=>by cases h
 | x :: l,s,h=>by
  unfold Ai1 at h
  rcases Alb h with h | ⟨s1,_,h⟩
  ·exact ⟨x,List.mem_cons_self ..,s,h⟩
  ·obtain ⟨y,hy,e⟩:=Cd1 h
   exact ⟨y,List.mem_cons_of_mem _ hy,e⟩
theorem B3a {f:CSt→Tree→Bool→PC CSt} {n:Int} {e:Int×Int}:∀ {l:List Tree} {i:Nat} {s:CSt},Ar5 f n i s l=.bad e→∃ x ∈ l,∃ s b,f s x b=.bad e
 | [],_,_,h=>by cases h
 | x :: l,i,s,h=>by
  unfold Ar5 at h
  rcases Alb h with h | ⟨s1,_,h⟩
  ·exact ⟨x,List.mem_cons_self ..,s,_,h⟩
  ·obtain ⟨y,hy,e⟩:=B3a h
   exact ⟨y,List.mem_cons_of_mem _ hy,e⟩
theorem C38 {f:CSt→Tree→PC CSt} {a:Int} {s:CSt} {names:List Tree} {b:Tree} {more:Nat} {e:Int×Int} (h:Ato f a s names b more=.bad e):(∃ x ∈ names,e=(5,x.at_))∨e=(6,a)∨∃ s,f s b=.bad e:=by
 unfold Ato at h
 rcases Alb h with h | ⟨r,_,h⟩
 ·split at h
  ·rcases Bpo h with h | h
   ·exact .inl h
   ·exact .inr (.inl h)
  ·cases h
 rcases Alb h with h | ⟨_,_,h⟩
 ·exact .inr (.inr ⟨_,h⟩)
 ·cases h
theorem Cp9 {f:CSt→List Tree→PC CSt} {ab:List ByteArray} {s:CSt} {k n a:Int} {t:ByteArray} {l:List Tree} {tg:Bool} {e:Int×Int} (h:Ath f ab s k t n a l tg=.bad e):e=(5,a)∨e=(6,a)∨∃ s,f s l=.bad e:=by
 unfold Ath at h
 have cst:∀ {v:V3},Ax5 a s.cs v=.bad e→e=(6,a):=fun h=>by
  unfold Ax5 at h
  split at h
  ·cases h
  rcases Alb h with h | ⟨_,_,h⟩
  ·exact Bae h
  ·cases h
 have nme:A7o a t s.gl s.lo ab=.bad e→e=(5,a):=fun h=>by
  unfold A7o at h
  split at h
  ·cases h;rfl
  split at h
  ·cases h
  split at h
  ·cases h;rfl
  ·cases h
 split at h
 ·rcases Alb h with h | ⟨_,_,h⟩
  ·exact .inr (.inl (Bae h))
  ·exact .inr (.inr ⟨_,h⟩)
 split at h
 ·rcases Alb h with h | ⟨_,_,h⟩
  ·exact .inr (.inl (Bae h))
  ·exact .inr (.inr ⟨_,h⟩)
 split at h
 ·rcases Alb h with h | ⟨_,_,h⟩
  ·exact .inr (.inl (Bae h))
  ·exact .inr (.inr ⟨_,h⟩)
 split at h
 ·rcases Alb h with h | ⟨_,_,h⟩
  ·exact .inr (.inl (cst h))
  ·exact .inr (.inr ⟨_,h⟩)
 split at h
 ·rcases Alb h with h | ⟨_,_,h⟩
  ·exact .inr (.inl (cst h))
  ·exact .inr (.inr ⟨_,h⟩)
 split at h
 ·rcases Alb h with h | ⟨_,_,h⟩
  ·exact .inl (nme h)
  ·exact .inr (.inr ⟨_,h⟩)
 split at h
 ·split at h
  ·cases h;exact .inl rfl
  ·cases h
 ·exact .inr (.inr ⟨_,h⟩)
theorem Cd0 {e:Int×Int}:∀ {d:Nat} {ab:List ByteArray} {s:CSt} {t:Tree} {tg:Bool},sz t≤d→gw t→Aeo d ab s t tg=.bad e→Flt e t
 | 0,_,_,t,_,hd,_,_=>by have:=Ase t;omega
 | d+1,ab,s,.mk k t n a l,tg,hd,hw,h=>by
  obtain ⟨⟨hs1,hs7,A6a,A6b,Bav,A6c,Be8⟩,hw⟩:=hw
  rw [Bak] at hw
  simp only [sz] at hd
  have hlen:=Aju l
  have K:∀ {x:Tree} {ab s tg},x ∈ l→Aeo d ab s x tg=.bad e→Flt e (.mk k t n a l):=fun hx h=>Flt.kid hx (Cd0 (by have:=Bn2 hx;omega) (hw _ hx) h)
  have L:∀ {m:List Tree} {ab s},(∀ x ∈ m,x ∈ l)→Ai1 (fun s x=>Aeo d ab s x false) s m=.bad e→Flt e (.mk k t n a l):=fun hm h=>by
   obtain ⟨x,hx,s,h⟩:=Cd1 h
   exact K (hm x hx) h
  have N:∀ {m:List Tree},(∀ x ∈ m,x ∈ l)→((∃ x ∈ m,e=(5,x.at_))∨e=(6,a))→Flt e (.mk k t n a l):=fun hm h=>by
   rcases h with ⟨x,hx,rfl⟩ | rfl
   ·exact Flt.kid (hm x hx) ⟨.inl rfl,Cmo x⟩
   ·exact Flt.at6
  have P:∀ {m:List Tree} {b:Tree} {more ab s},(∀ x ∈ m,x ∈ l)→b ∈ l→Ato (fun s x=>Aeo d ab s x false) a s m b more=.bad e→Flt e (.mk k t n a l):=fun hm hb h=>by
   rcases C38 h with h | h | ⟨s,h⟩
   ·exact N hm (.inl h)
   ·exact N hm (.inr h)
   ·exact K hb h
  have F:∀ {c m:Int},Aoe a c m=.bad e→Flt e (.mk k t n a l):=fun h=>by rw [Bae h];exact Flt.at6
  unfold Aeo at h
  split at h
  ·rcases Alb h with h | ⟨_,_,h⟩
   ·exact L (fun _ h=>h) h
   ·cases h
  split at h
  ·rename_i hk
   obtain ⟨m,rfl,hm⟩:=Be8 hk
   rcases Alb h with h | ⟨_,_,h⟩
   ·exact F h
   split at h
   ·cases h;exact Flt.at5
   rcases Alb h with h | ⟨_,_,h⟩
   ·exact F h
   rcases Alb h with h | ⟨_,_,h⟩
   ·exact N (fun x hx=>List.mem_of_mem_take hx) (Bpo h)
   rcases Alb h with h | ⟨_,_,h⟩
   ·exact K (Anp (by rw [Int.toNat_natCast];omega)).2 h
   ·cases h
  split at h
  ·rcases Alb h with h | ⟨_,_,h⟩
   ·exact F h
   rcases Alb h with h | ⟨_,_,h⟩
   ·exact F h
   rcases Alb h with h | ⟨_,_,h⟩
   ·exact L (fun x hx=>List.mem_of_mem_drop hx) h
   rcases Alb h with h | ⟨_,_,h⟩
   ·exact N (fun x hx=>List.mem_of_mem_take hx) (Bpo h)
   ·cases h
  split at h
  ·rcases Alb h with h | ⟨_,_,h⟩
   ·exact F h
   rcases Alb h with h | ⟨_,_,h⟩
   ·exact F h
   obtain ⟨x,hx,s,b,h⟩:=B3a h
   exact K hx h
  split at h
  ·rename_i hk
   have h2:=A6a hk
   rcases Alb h with h | ⟨_,_,h⟩
   ·exact K (Anp (by omega)).2 h
   ·exact P (m:=[]) (fun x hx=>absurd hx List.not_mem_nil) (Anp (by omega)).2 h
  split at h
  ·rename_i hk
   have h2:=A6b hk
   rcases Alb h with h | ⟨_,_,h⟩
   ·exact L (fun x hx=>List.mem_of_mem_drop (List.mem_of_mem_take hx)) h
   ·exact P (fun x hx=>List.mem_of_mem_take hx) (Anp (by omega)).2 h
  split at h
  ·rename_i hk
   obtain ⟨m,rfl,hm⟩:=A6c hk
   rcases Alb h with h | ⟨_,_,h⟩
   ·exact F h
   rcases Alb h with h | ⟨_,_,h⟩
   ·exact F h
   rcases Alb h with h | ⟨_,_,h⟩
   ·exact L (fun x hx=>List.mem_of_mem_drop (List.mem_of_mem_take hx)) h
   ·exact P (fun x hx=>List.mem_of_mem_take hx) (Anp (by omega)).2 h
  split at h
  ·split at h
   ·cases h;exact Flt.at5
   ·cases h
  ·rcases Cp9 h with rfl | rfl | ⟨s,h⟩
   ·exact Flt.at5
   ·exact Flt.at6
   ·exact L (fun _ h=>h) h
theorem Bbc:∀ {d:Nat} {ab:List ByteArray} {s s':CSt} {t:Tree} {tg:Bool},wfT t→Aeo d ab s t tg=.ok s'→s'.fs=s.fs
 | 0,_,_,_,_,_,_,h=>by unfold Aeo at h;cases h
 | d+1,ab,s,s',.mk k t n a l,tg,hw,h=>by
  obtain ⟨⟨hs1,h31,hs7,A6a,A6b,Bav,A6c⟩,hw⟩:=hw
  rw [Bh4] at hw
  have hN:∀ {m:List Tree} {ab s s'},(∀ x ∈ m,x ∈ l)→Ai1 (fun s x=>Aeo d ab s x false) s m=.ok s'→s'.fs=s.fs:=by
   intro m
   induction m with
   | nil=>intro ab s s' _ h;cases h;rfl
   | cons x m ihm =>
    intro ab s s' hm h
    unfold Ai1 at h
    obtain ⟨s1,h1,h⟩:=Aer h
    rw [ihm (fun y hy=>hm y (List.mem_cons_of_mem _ hy)) h,Bbc (hw _ (hm _ (List.mem_cons_self ..))) h1]
  have hA:∀ {m:List Tree} {n i ab s s'},(∀ x ∈ m,x ∈ l)→Ar5 (fun s x b=>Aeo d ab s x b) n i s m=.ok s'→s'.fs=s.fs:=by
   intro m
   induction m with
   | nil=>intro n i ab s s' _ h;cases h;rfl
   | cons x m ihm =>
    intro n i ab s s' hm h
    unfold Ar5 at h
    obtain ⟨s1,h1,h⟩:=Aer h
    rw [ihm (fun y hy=>hm y (List.mem_cons_of_mem _ hy)) h,Bbc (hw _ (hm _ (List.mem_cons_self ..))) h1]
  have hP:∀ {a:Int} {names:List Tree} {b:Tree} {more:Nat} {ab s s'},b ∈ l→Ato (fun s x=>Aeo d ab s x false) a s names b more=.ok s'→s'.fs=s.fs:=by
   intro a names b more ab s s' hb h
   unfold Ato at h
   obtain ⟨r,_,h⟩:=Aer h
   obtain ⟨s1,h1,h⟩:=Aer h
   cases h
   have h2:=Bbc (hw _ hb) (show Aeo d ab _ b false=_ from h1)
   exact h2
  unfold Aeo at h
  split at h
  ·obtain ⟨s1,h1,h⟩:=Aer h;cases h;have h2:=hN (fun _ h=>h) h1;exact h2
  split at h
  ·obtain ⟨_,_,h⟩:=Aer h
   obtain ⟨_,_,h⟩:=Aer h
   obtain ⟨s1,h1,h⟩:=Aer h
   obtain ⟨r,_,h⟩:=Aer h
   cases h;have h2:=hN (fun x hx=>List.mem_of_mem_drop hx) h1;exact h2
  split at h
  ·obtain ⟨_,_,h⟩:=Aer h
   obtain ⟨_,_,h⟩:=Aer h
   exact hA (fun _ h=>h) h
  split at h
  ·rename_i hk
   have h2:=A6a hk
   obtain ⟨s1,h1,h⟩:=Aer h
   rw [hP (Anp (by omega)).2 h,Bbc (hw _ (Anp (by omega)).2) h1]
  split at h
  ·rename_i hk
   have h2:=A6b hk
   obtain ⟨s1,h1,h⟩:=Aer h
   rw [hP (Anp (by omega)).2 h,hN (fun x hx=>List.mem_of_mem_drop (List.mem_of_mem_take hx)) h1]
  split at h
  ·rename_i hk
   obtain ⟨m,rfl,hm⟩:=A6c hk
   obtain ⟨_,_,h⟩:=Aer h
   obtain ⟨_,_,h⟩:=Aer h
   obtain ⟨s1,h1,h⟩:=Aer h
   rw [hP (Anp (by omega)).2 h,hN (fun x hx=>List.mem_of_mem_drop (List.mem_of_mem_take hx)) h1]
  split at h
  ·split at h
   ·cases h
   ·cases h;rfl
  ·have X:∀ {s s':CSt},Ai1 (fun s x=>Aeo d ab s x false) s l=.ok s'→s'.fs=s.fs:=fun h=>hN (fun _ h=>h) h
   unfold Ath at h
   (repeat' split at h) <;> first
    | (cases h;done)
    | (cases h;rfl)
    | exact X h
    | (obtain ⟨_,_,h⟩:=Aer h;have h2:=X (show Ai1 (fun s x=>Aeo d ab s x false) _ l=_ from h);exact h2)
theorem Cd6 {cx:GCx} {d:Nat} (ih:∀ (lo:List ByteArray) (p:Nat) (t:Tree),IsS t→∀ (d':Nat) (ab:List ByteArray) (s s':CSt),gw t→Aeo d' ab s t false=.ok s'→s.lp=0→holes p (Aeb cx d lo p t).1=[]) :
  ∀ (l:List Tree) (lo:List ByteArray) (p:Nat) (d':Nat) (ab:List ByteArray) (s s':CSt),(∀ x ∈ l,IsS x)→gws l→Ai1 (fun s x=>Aeo d' ab s x false) s l=.ok s'→s.lp=0→holes p (Aqt cx (Aeb cx d) lo p l)=[]
 | [],_,_,_,_,_,_,_,_,_,_=>rfl
 | x :: l,lo,p,d',ab,s,s',hI,hg,h,h0=>by
  unfold Ai1 at h
  obtain ⟨s1,h1,h⟩:=Aer h
  have hp:=Apr hg.1 h1
  show holes (p+1) (_++_)=[]
  rw [Aq7,ih lo (p+1) x (hI x (List.mem_cons_self ..)) d' ab s s1 hg.1 h1 h0,List.nil_append]
  exact Cd6 ih l _ _ d' ab s1 s' (fun y hy=>hI y (List.mem_cons_of_mem _ hy)) hg.2 h (by rw [hp.lp];exact h0)
theorem Blx {cx:GCx} {d:Nat} (ih:∀ (lo:List ByteArray) (p:Nat) (t:Tree),IsS t→∀ (d':Nat) (ab:List ByteArray) (s s':CSt),gw t→Aeo d' ab s t false=.ok s'→s.lp=0→holes p (Aeb cx d lo p t).1=[])
  (b:Tree) (lo:List ByteArray) (p:Nat) (d':Nat) (ab:List ByteArray) (s s':CSt) (hb:IsB b) (hg:gw b) (h:Aeo d' ab s b false=.ok s') (h0:s.lp=0):holes p (Agd cx d lo p b)=[]:=by
 cases hb with
 | block hl =>
  cases d' with
  | zero=>unfold Aeo at h;cases h
  | succ d' =>
   unfold Aeo at h
   rw [if_pos rfl] at h
   obtain ⟨s1,h1,_⟩:=Aer h
   exact Cd6 ih _ lo p d' ab s s1 hl hg.2 h1 h0
theorem Cea {cx:GCx} {d:Nat} {e:Nat→Tree→Cd} (ih:∀ (lo:TyC) (p:Nat) (t:Tree),IsS t→∀ (d':Nat) (ab:TyC) (s s':CSt),gw t→Aeo d' ab s t false=.ok s'→s.lp=0→holes p (Aeb cx d lo p t).1=[]) (lo:TyC) :
  ∀ (l:List Tree) (p:Nat) (d':Nat) (ab:List ByteArray) (s s':CSt),IsR l→gws l→Ai1 (fun s x=>Aeo d' ab s x false) s l=.ok s'→s.lp=0→holes p (v2 0 (brX e (Agd cx d lo) p l))=[]
 | [],_,_,_,_,_,_,_,_,_=>rfl
 | [b],p,d',ab,s,s',hr,hg,h,h0=>by
  have hb:IsB b:=by cases hr with | last h=>exact h
  unfold Ai1 at h
  obtain ⟨s1,h1,h⟩:=Aer h
  show holes p (v2 0 ((Agd cx d lo p b).map some))=[]
  rw [Bb1]
  exact Blx ih b lo p d' ab s s1 hb hg.1 h1 h0
 | x :: y :: l,p,d',ab,s,s',hr,hg,h,h0=>by
  obtain ⟨hx,hy,hl⟩:IsE x∧IsB y∧IsR l:=by cases hr with | more h1 h2 h3=>exact ⟨h1,h2,h3⟩
  unfold Ai1 at h
  obtain ⟨s1,h1,h⟩:=Aer h
  unfold Ai1 at h
  obtain ⟨s2,h2,h⟩:=Aer h
  have p1:=(Apr hg.1 h1).lp.trans h0
  have p2:=(Apr hg.2.1 h2).lp.trans p1
  have e1:=Blx ih y lo (p+(e p x).length+1) d' ab s1 s2 hy hg.2.1 h2 p1
  have e2:=fun q=>Cea (e:=e) ih lo l q d' ab s2 s' hl hg.2.2 h p2
  simp only [brX]
  rw [Bbz,Bzw,Aq7,Asl,List.nil_append,Atq]
  show holes (p+(e p x).length+1) (v2 0 ((Agd cx d lo (p+(e p x).length+1) y).map some++_++_))=[]
  rw [Bbz,Bbz,Bb1,List.append_assoc,Aq7,e1,List.nil_append,Aq7]
  cases l with
  | nil=>rfl
  | cons u v=>exact e2 _
theorem noh {cx:GCx}:∀ (d:Nat) (lo:List ByteArray) (p:Nat) (t:Tree),IsS t→∀ (d':Nat) (ab:List ByteArray) (s s':CSt),gw t→Aeo d' ab s t false=.ok s'→s.lp=0→holes p (Aeb cx d lo p t).1=[]
 | 0,_,_,_,_,_,_,_,_,_,_,_=>rfl
 | d+1,lo,p,t,hI,0,ab,s,s',hg,h,h0=>by unfold Aeo at h;cases h
 | d+1,lo,p,t,hI,d'+1,ab,s,s',hg,h,h0=>by
  have ih:=fun lo p t h=>noh (cx:=cx) d lo p t h
  cases hI with
  | loc=>rw [Bns];exact Asl
  | asg=>rw [Bhl];exact Asl
  | run=>rw [Bnv];exact Asl
  | if_ hr =>
   rw [Bhn]
   unfold Aeo at h
   simp only [Int.reduceEq,if_false] at h
   unfold Ath at h
   simp only [Int.reduceEq,if_false,false_and] at h
   show holes p (v2 _ (brX _ _ p _))=[]
   rw [Bat]
   exact Cea ih lo _ p d' ab s s' hr hg.2 h h0
  | while_=>rw [Bnx];exact Asl
  | for_=>rw [Bnm];exact Asl
  | forIn=>rw [Bnp];exact Asl
  | do_ hb =>
   rw [Bhm]
   unfold Aeo at h
   simp only [Int.reduceEq,if_false] at h
   unfold Ath at h
   simp only [Int.reduceEq,if_false,false_and] at h
   unfold Ai1 at h
   obtain ⟨s1,h1,h⟩:=Aer h
   exact Blx ih _ lo p d' ab s s1 hb hg.2.1 h1 h0
  | break_ =>
   unfold Aeo at h
   simp only [Int.reduceEq,if_false,if_true] at h
   rw [if_pos h0] at h
   cases h
  | ret=>rw [Bnt];exact Asl
def A8v (u:Agt) (c:Cd):Agt:=(u.1,u.2.1,u.2.2.1,u.2.2.2.1,c)
def A8u (r:Axx):Agt:=(r.1,r.2.2.1,r.2.2.2.1,r.2.2.2.2,[])
def A4o (gl:List ByteArray) (src:ByteArray) (d:Nat) (cs:List V3) (x:Tree):Hx:=Agd ⟨cs,gl,src⟩ d ((x.kids.take x.n.toNat).map (·.text)) 0 (Adx x.kids x.n.toNat)
def fnG (gl:List ByteArray) (src:ByteArray) (d:Nat) (cs:List V3) (x:Tree):Cd:=Aea 0 (A4o gl src d cs x)++[i0 22]++[i0 25]
def An0 (cx:GCx) (d:Nat):List ByteArray→Nat→Nat→List Tree→Hx
 | _,_,_,[]=>[]
 | lo,p,nx,x :: l =>
  if x.kind=31 then some (i1 1 (Amq cx.src x.at_)) :: some (i1 11 (nx:Int)) :: some (i1 9 (glN cx.gl x.text)) :: An0 cx d lo (p+3) (nx+1) l
  else some (i1 1 (Amq cx.src x.at_)) :: ((Aeb cx d lo (p+1) x).1++An0 cx d (Aeb cx d lo (p+1) x).2 (p+1+(Aeb cx d lo (p+1) x).1.length) nx l)
def Azr (gl:List ByteArray) (src:ByteArray) (d:Nat):List Tree→List Agt→List Agt
 | [],U=>U
 | x :: l,U=>if x.kind=31 then (match U with | []=>[] | u :: U=>A8v u (fnG gl src d u.2.2.2.1 x) :: Azr gl src d l U) else Azr gl src d l U
def okU (gl:List ByteArray) (src:ByteArray) (d:Nat):List Tree→List Agt→Prop
 | [],_=>True
 | x :: l,U=>if x.kind=31 then ∃ u V,U=u :: V∧u.2.2.2.2=[]∧u.2.2.2.1.length≤400000∧holes 0 (A4o gl src d u.2.2.2.1 x)=[]∧okU gl src d l V else okU gl src d l U
theorem B83 {t:Tree} (h:IsS t):t.kind≠31:=by cases h <;> (simp only [Tree.kind];decide)
theorem Bfi {t:Tree} (h:Awb t):∃ a tx l b,t=.mk 31 tx (l.length:Nat) a (l++[b])∧IsB b:=by
 cases h with | fn hb=>exact ⟨_,_,_,_,rfl,hb⟩
section
variable {cx:GCx} {d k:Nat}
theorem Crd (hk:500000≤k) (hK:BK (GS.at k) cx d) (lo:TyC) (c:Cd) (bs:TyL) (nx:Int) (us:List (Option Agt)) (b:Tree) (hb:IsB b) (hg:gw b) (hd:sz b≤d+1) (hB:BdX cx lo c.length bs (sz b - 1)) (hn:bs≠[]∨holes c.length (Agd cx d lo c.length b)=[]) :
  (GS.at (k+1)).Alj cx.cs c cx.src cx.gl lo bs nx us b.kind b.text b.n b.at_ b.kids=some (c++Aea 0 (Agd cx d lo c.length b)++[i0 22]++[i0 25],lo,An1 bs (holes c.length (Agd cx d lo c.length b)),nx,us):=by
 show Alj.g (GS.at k) k cx.cs c cx.src cx.gl lo bs nx us b.kind b.text b.n b.at_ b.kids=_
 have hX:=A4l (cx:=cx) (d:=d) hb lo c.length
 have hc:=hB.c
 unfold Alj.g
 rw [hK lo c bs nx us b hb hg hd hB hn,Option.bind_some,add0 _ _ _ (by rw [List.length_append,An4];unfold mx;omega),Option.bind_some,add0 _ _ _ (by rw [List.length_append,List.length_append,An4];simp only [List.length_cons,List.length_nil];unfold mx;omega),Option.bind_some]
theorem C0q {gl:TyC} {src:ByteArray} (hk:500050+5 * d≤k) (D T:List (Option Agt)) (u:Agt) (t:ByteArray) (a:Int) (l:List Tree) (b:Tree) (hb:IsB b) (hg:gw b) (hd:sz b≤d) (hu:u.2.2.2.2=[]) (hus:u.2.2.2.1.length≤400000) (hgl:gl.length≤400000) (hsrc:src.size≤400000) (hl:l.length+4 * sz b≤400000) (hl5:5 * sz b≤450000) (hD:D.length≤1000000)
  (hn:holes 0 (A4o gl src d u.2.2.2.1 (.mk 31 t (l.length:Nat) a (l++[b])))=[]) :
  (GS.at (k+3)).Aq5 src gl (D.length:Int) (D++some u :: T) 31 t (l.length:Nat) a (l++[b])=some (((D.length+1:Nat):Int),D++some (A8v u (fnG gl src d u.2.2.2.1 (.mk 31 t (l.length:Nat) a (l++[b])))) :: T):=by
 show Aq5.g (GS.at (k+2)) (k+2) src gl (D.length:Int) (D++some u :: T) 31 t (l.length:Nat) a (l++[b])=_
 obtain ⟨u0,u1,u2,cs,cd⟩:=u
 have hu:cd=[]:=hu
 subst hu
 have e1:(l++[b]).take l.length=l:=by simp
 have e2:Adx (l++[b]) l.length=b:=by simp [Adx]
 have eb:A4o gl src d cs (.mk 31 t (l.length:Nat) a (l++[b]))=Agd ⟨cs,gl,src⟩ d (l.map (·.text)) 0 b:=by
  show Agd ⟨cs,gl,src⟩ d (((l++[b]).take ((l.length:Nat):Int).toNat).map (·.text)) 0 (Adx (l++[b]) ((l.length:Nat):Int).toNat)=_
  rw [Int.toNat_natCast,e1,e2]
 have hn:holes 0 (A4o gl src d cs (.mk 31 t (l.length:Nat) a (l++[b])))=[]:=hn
 rw [eb] at hn
 have hbp:=Ase b
 unfold Aq5.g
 rw [Ah5,Option.bind_some,Option.bind_some,Ats,Option.bind_some,Anx 0 l.length (show (0:Int)=((0:Nat):Int) from rfl) rfl (by omega) (by simp),Option.bind_some,show ((l++[b]).drop 0).take (l.length - 0)=l by simp,Bpm _ _ _ (by omega) (by simp) (by omega),Option.bind_some,List.nil_append,Ah5,Option.bind_some,wiC _ (by omega) (by omega)]
 have hf:=Crd (cx:=⟨cs,gl,src⟩) (d:=d) (k:=k+1) (by omega) (Bny d k (by omega)).2 (l.map (·.text)) [] [] ((D.length:Int)+1) (D++none :: T) b hb hg (by omega) ⟨hus,hgl,hsrc,by rw [List.length_map];omega,by simp only [List.length_nil];omega,by show 0+0+_≤_;omega⟩ (.inr hn)
 refine (congrArg (fun z=>Option.bind z _) hf).trans ?_
 rw [Option.bind_some,Ah5,Option.bind_some,Ats,Option.bind_some]
 unfold A8v fnG
 rw [eb,List.nil_append,show ((D.length+1:Nat):Int)=(D.length:Int)+1 by omega]
 rfl
theorem Crb (hk:500060+5 * d≤k) (lo:List ByteArray) (c:Cd) (D T:List (Option Agt)) (u:Agt) (x:Tree) (hx:Awb x) (hg:gw x) (hd:sz x≤d) (hu:u.2.2.2.2=[]) (hus:u.2.2.2.1.length≤400000) (hD:D.length≤900000)
  (hB:BdX cx lo (c.length - 1) [] (sz x)) (hn:holes 0 (A4o cx.gl cx.src d u.2.2.2.1 x)=[]) :
  (GS.at (k+4)).Ag2 cx.cs c cx.src cx.gl lo [] (D.length:Int) (D++some u :: T) x.kind x.text x.n x.at_ x.kids=some (c++[i1 11 (D.length:Int)]++[i1 9 (glN cx.gl x.text)],lo,[],((D.length+1:Nat):Int),D++some (A8v u (fnG cx.gl cx.src d u.2.2.2.1 x)) :: T):=by
 obtain ⟨a,t,l,b,rfl,hb⟩:=Bfi hx
 obtain ⟨_,hg⟩:=hg
 obtain ⟨_,gb,_⟩:=A5a.1 hg
 have hc:=hB.c
 have hlo:=hB.lo
 simp only [sz,szs,Aib] at hd hc hlo
 have hs:=Aju l
 show Ag2.g (GS.at (k+3)) (k+3) cx.cs c cx.src cx.gl lo [] (D.length:Int) (D++some u :: T) 31 t (l.length:Nat) a (l++[b])=_
 unfold Ag2.g
 simp only [Int.reduceBEq,cond_true,cond_false]
 rw [add1 _ _ _ _ (by unfold mx;omega),Option.bind_some,Bqi _ _ _ hB.gl (by omega),Option.bind_some,add1 _ _ _ _ (by rw [List.length_append];simp only [List.length_cons,List.length_nil];unfold mx;omega),Option.bind_some]
 have hi:=C0q (gl:=cx.gl) (src:=cx.src) (d:=d) (k:=k) (by omega) D T u t a l b hb gb (by omega) hu hus hB.gl hB.src (by omega) (by omega) (by omega) hn
 refine (congrArg (fun z=>Option.bind z _) hi).trans ?_
 rw [Option.bind_some]
 rfl
theorem Bzq {R:GS} (hS:ST R cx d)
  (hF:∀ (lo:TyC) (c:Cd) (D T:List (Option Agt)) (u:Agt) (x:Tree),Awb x→gw x→sz x≤d→u.2.2.2.2=[]→u.2.2.2.1.length≤400000→D.length≤900000→BdX cx lo (c.length - 1) [] (sz x)→holes 0 (A4o cx.gl cx.src d u.2.2.2.1 x)=[] →
   R.Ag2 cx.cs c cx.src cx.gl lo [] (D.length:Int) (D++some u :: T) x.kind x.text x.n x.at_ x.kids=some (c++[i1 11 (D.length:Int)]++[i1 9 (glN cx.gl x.text)],lo,[],((D.length+1:Nat):Int),D++some (A8v u (fnG cx.gl cx.src d u.2.2.2.1 x)) :: T))
  (J:Cd→List ByteArray→List (List Int)→Int→List (Option Agt)→A2d) :
  ∀ (t pre:List Tree) (lo:TyC) (c:Cd) (D:List (Option Agt)) (U:List Agt) (m:Nat),500000+t.length≤m→pre.length+t.length≤400000→(∀ x ∈ t,IsS x∨Awb x)→gws t→szs t≤d→D.length+t.length≤900000→okU cx.gl cx.src d t U→BdX cx lo c.length [] (szs t) →
   holes c.length (An0 cx d lo c.length D.length t)=[] →
   ∃ lo' nx',lo <+: lo'∧Ahb.l0 m R cx.cs cx.src cx.gl (pre++t) J (pre.length:Int) c lo [] (D.length:Int) (D++U.map some)=J (c++Aea 0 (An0 cx d lo c.length D.length t)) lo' [] nx' (D++(Azr cx.gl cx.src d t U).map some)
 | [],pre,lo,c,D,U,m,hm,hl,hI,hg,hd,hD,hU,hB,hn=>by
  obtain ⟨m,rfl⟩:∃ m',m=m'+1:=⟨m - 1,by omega⟩
  refine ⟨lo,(D.length:Int),List.prefix_refl _,?_⟩
  simp only [Ahb.l0]
  rw [ltF (by simp),cond_false]
  simp [An0,Aea,Azr]
 | x :: t,pre,lo,c,D,U,m,hm,hl,hI,hg,hd,hD,hU,hB,hn=>by
  obtain ⟨m,rfl⟩:∃ m',m=m'+1:=⟨m - 1,by omega⟩
  simp only [List.length_cons] at hl hm hD
  simp only [szs] at hd hB
  obtain ⟨y,z,hp⟩:=Cfe m cx.src x.at_ hB.src (by omega)
  have hc:=hB.c
  have hxp:=Ase x
  have l1:∀ (D:Cd) (i:Ins),(D++[i]).length=D.length+1:=fun D i=>by simp
  have e2:(pre++[x])++t=pre++x :: t:=by simp
  have e3:((pre++[x]).length:Int)=(pre.length:Int)+1:=by simp
  simp only [Ahb.l0]
  rw [ltT (by simp;omega),cond_true,Ah5,Option.bind_some,hp,Option.bind_some,add1 _ _ _ _ (by unfold mx;omega),Option.bind_some]
  rcases hI x (List.mem_cons_self ..) with hx | hx
  ·have h31:=B83 hx
   simp only [An0,if_neg h31] at hn ⊢
   simp only [Azr,okU,if_neg h31] at hU ⊢
   have hX:=Bho (cx:=cx) d lo (c.length+1) x hx
   obtain ⟨hlo,hlo2⟩:=Cg8 (cx:=cx) d lo (c.length+1) x hx
   have hlen:(c++[i1 1 (Amq cx.src x.at_)]++Aea 0 (Aeb cx d lo (c.length+1) x).1).length=c.length+1+(Aeb cx d lo (c.length+1) x).1.length:=by rw [List.length_append,l1,An4]
   rw [show holes c.length (some (i1 1 (Amq cx.src x.at_)) :: ((Aeb cx d lo (c.length+1) x).1++An0 cx d (Aeb cx d lo (c.length+1) x).2 (c.length+1+(Aeb cx d lo (c.length+1) x).1.length) D.length t))=holes (c.length+1) (Aeb cx d lo (c.length+1) x).1++holes (c.length+1+(Aeb cx d lo (c.length+1) x).1.length) (An0 cx d (Aeb cx d lo (c.length+1) x).2 (c.length+1+(Aeb cx d lo (c.length+1) x).1.length) D.length t) from Aq7] at hn
   obtain ⟨hn1,hn2⟩:=List.append_eq_nil_iff.1 hn
   have hst:=hS lo (c++[i1 1 (Amq cx.src x.at_)]) [] (D.length:Int) (D++U.map some) x hx hg.1 (by omega) (hB.to (by omega) (by rw [l1];omega) (by omega)) (by rw [l1];exact .inr hn1)
   rw [l1,hn1,Bi9] at hst
   obtain ⟨lo',nx',h1,h2⟩:=Bzq hS hF J t (pre++[x]) (Aeb cx d lo (c.length+1) x).2 (c++[i1 1 (Amq cx.src x.at_)]++Aea 0 (Aeb cx d lo (c.length+1) x).1) D U m (by omega) (by simp;omega) (fun y hy=>hI y (List.mem_cons_of_mem _ hy)) hg.2 (by omega) (by omega) hU (hB.to (by omega) (by rw [hlen];omega) (by omega)) (by rw [hlen];exact hn2)
   refine ⟨lo',nx',hlo.trans h1,?_⟩
   rw [e2,e3,hlen] at h2
   refine (congrArg (fun z=>Option.bind z _) hst).trans ?_
   rw [Option.bind_some,wiC _ (by omega) (by omega)]
   refine h2.trans ?_
   rw [show Aea 0 (some (i1 1 (Amq cx.src x.at_)) :: ((Aeb cx d lo (c.length+1) x).1++An0 cx d (Aeb cx d lo (c.length+1) x).2 (c.length+1+(Aeb cx d lo (c.length+1) x).1.length) D.length t))=i1 1 (Amq cx.src x.at_) :: (Aea 0 (Aeb cx d lo (c.length+1) x).1++Aea 0 (An0 cx d (Aeb cx d lo (c.length+1) x).2 (c.length+1+(Aeb cx d lo (c.length+1) x).1.length) D.length t)) from congrArg (i1 1 (Amq cx.src x.at_) :: ·) A2r]
   simp only [List.append_assoc,List.cons_append,List.nil_append]
  ·have h31:x.kind=31:=by obtain ⟨_,_,_,_,rfl,_⟩:=Bfi hx;rfl
   simp only [An0,if_pos h31] at hn ⊢
   simp only [Azr,okU,if_pos h31] at hU ⊢
   obtain ⟨u,V,rfl,hu,hus,hh,hV⟩:=hU
   have hst:=hF lo (c++[i1 1 (Amq cx.src x.at_)]) D (V.map some) u x hx hg.1 (by omega) hu hus (by omega) (hB.to (by omega) (by rw [l1];omega) (by omega)) hh
   have hlen:(c++[i1 1 (Amq cx.src x.at_)]++[i1 11 (D.length:Int)]++[i1 9 (glN cx.gl x.text)]).length=c.length+3:=by rw [l1,l1,l1]
   have lD:(D++[some (A8v u (fnG cx.gl cx.src d u.2.2.2.1 x))]).length=D.length+1:=by simp
   obtain ⟨lo',nx',h1,h2⟩:=Bzq hS hF J t (pre++[x]) lo (c++[i1 1 (Amq cx.src x.at_)]++[i1 11 (D.length:Int)]++[i1 9 (glN cx.gl x.text)]) (D++[some (A8v u (fnG cx.gl cx.src d u.2.2.2.1 x))]) V m (by omega) (by simp;omega) (fun y hy=>hI y (List.mem_cons_of_mem _ hy)) hg.2 (by omega) (by rw [lD];omega) hV (hB.to (by omega) (by rw [hlen];omega) (by omega)) (by rw [hlen,lD];exact hn)
   refine ⟨lo',nx',h1,?_⟩
   rw [e2,e3,hlen,lD,show ∀ (A B:List (Option Agt)) (z:Option Agt),A++[z]++B=A++z :: B from fun A B z=>by simp,show ∀ (A B:List (Option Agt)) (z:Option Agt),A++[z]++B=A++z :: B from fun A B z=>by simp] at h2
   refine (congrArg (fun z=>Option.bind z _) hst).trans ?_
   rw [Option.bind_some,wiC _ (by omega) (by omega)]
   refine h2.trans ?_
   simp only [Aea,List.map_cons,Option.getD_some,List.append_assoc,List.cons_append,List.nil_append]
end
theorem C9a (s:ByteArray):(∃ c a,c≠0∧Asy s=A3i c a)∨∃ n,Asy s=A8s n∧wfC n∧sz n≤80010∧IsC n∧s.size≤20000:=by
 cases hs:Aoq (bs s) with
 | inl x =>
  obtain ⟨c,p⟩:=x
  exact .inl ⟨c,p,Byu _ _ _ hs,Ce4 hs⟩
 | inr t =>
  have hT:=By0 s t hs
  rcases Bzx hT with ⟨b,r,hb,hB,⟨_,he⟩ | ⟨_,he⟩⟩ | ⟨j,hb,he⟩
  ·refine .inr ⟨b,Bxr hs he,?_,?_,Dch hb,?_⟩
   ·obtain ⟨⟨a,l,rfl,hl⟩,_⟩:=(wS (fu _)).block true _ (Cgp hs) _ _ (val_ok hb)
    exact ⟨rfl,Amt,fun x hx=>Or.elim (hl x hx) .inl (fun h=>.inr h.2)⟩
   ·have:=hB.size;have:=hT.len;omega
   ·unfold Aoq at hs
    split at hs
    ·cases hs
    ·have:=Af7 s
     omega
  ·exact .inl ⟨4,_,by decide,Bmh hs he⟩
  ·exact .inl ⟨4,_,by decide,Bmh hs he⟩
theorem Cik {gl:TyC} {src:ByteArray} {d:Nat}:∀ (l:List Tree) (d':Nat) (s s':CSt),(∀ x ∈ l,IsS x∨Awb x)→(∀ x ∈ l,Cij x)→gws l→Ai1 (fun s x=>Aeo d' [] s x false) s l=.ok s'→s.lp=0→pot s+4 * szs l+100≤400000 →
  ∃ fs2,s'.fs=s.fs++fs2∧okU gl src d l (fs2.map A8u)∧∀ cs lo p nx,holes p (An0 ⟨cs,gl,src⟩ d lo p nx l)=[]
 | [],d',s,s',_,_,_,h,_,_=>by cases h;exact ⟨[],by simp,trivial,fun _ _ _ _=>rfl⟩
 | x :: l,d',s,s',hI,hT,hg,h,h0,hp=>by
  unfold Ai1 at h
  obtain ⟨s1,h1,h⟩:=Aer h
  have post:=Apr hg.1 h1
  have Dgp:=post.pot
  simp only [szs] at hp
  obtain ⟨fs2,e1,e2,e3⟩:=Cik (gl:=gl) (src:=src) (d:=d) l d' s1 s' (fun y hy=>hI y (List.mem_cons_of_mem _ hy)) (fun y hy=>hT y (List.mem_cons_of_mem _ hy)) hg.2 h (by rw [post.lp];exact h0) (by omega)
  rcases hI x (List.mem_cons_self ..) with hx | hx
  ·have h31:=B83 hx
   have hw:wfT x:=(hT x (List.mem_cons_self ..)).elim id fun h=>absurd (by cases x;exact h.2.1) h31
   refine ⟨fs2,by rw [e1,Bbc hw h1],?_,fun cs lo p nx=>?_⟩
   ·simp only [okU,if_neg h31];exact e2
   ·simp only [An0,if_neg h31]
    show holes (p+1) (_++_)=[]
    rw [Aq7,noh d lo (p+1) x hx d' [] s s1 hg.1 h1 h0,List.nil_append]
    exact e3 _ _ _ _
  ·have hfn:fnT x:=(hT x (List.mem_cons_self ..)).elim (fun h=>by obtain ⟨_,_,_,_,rfl,_⟩:=Bfi hx;exact absurd rfl h.1.2.1) id
   obtain ⟨a,t,m,b,rfl,hb⟩:=Bfi hx
   obtain ⟨_,_,_,hws⟩:=hfn
   have hwb:wfT b:=by rw [Bh4] at hws;exact hws b (by simp)
   have hgb:gw b:=Bz6 hwb
   have hk:Adx (m++[b]) m.length=b:=by simp [Adx]
   have h1':=h1
   cases d' with
   | zero=>unfold Aeo at h1;cases h1
   | succ d' =>
    unfold Aeo at h1
    rw [if_neg (by decide),if_pos rfl] at h1
    obtain ⟨_,_,h1⟩:=Aer h1
    split at h1
    ·cases h1
    obtain ⟨_,_,h1⟩:=Aer h1
    obtain ⟨r,hr,h1⟩:=Aer h1
    obtain ⟨sb,h2,h1⟩:=Aer h1
    rw [Int.toNat_natCast,hk] at h2
    cases h1
    have hfs:=Bbc hwb h2
    have pb:=Apr hgb h2
    have hpb:=pb.pot
    have hbr:=A93 hr
    have hgl:=Bix s.gl t
    refine ⟨(t,a,(m.length:Nat),sb.sl,sb.cs) :: fs2,by rw [e1,hfs];simp,?_,fun cs lo p nx=>?_⟩
    ·simp only [okU,Tree.kind,if_true,List.map_cons]
     refine ⟨_,_,rfl,rfl,?_,?_,e2⟩
     ·show sb.cs.length≤400000
      simp only [pot,List.length_nil] at hpb hp
      simp only [sz,szs,Aib] at hp
      omega
     ·show holes 0 (Agd ⟨_,gl,src⟩ d _ 0 (Adx (m++[b]) ((m.length:Nat):Int).toNat))=[]
      rw [Int.toNat_natCast,hk]
      exact Blx (fun lo p t h=>noh d lo p t h) b _ 0 d' s.lo _ sb hb hgb h2 rfl
    ·simp only [An0,Tree.kind,if_true]
     exact e3 _ _ _ _
def dG:Nat:=80010
def Bah (src:ByteArray) (n:Tree) (s:CSt):List Agt :=
 (⟨#[]⟩,0,s.sl,s.cs,Aea 0 (An0 ⟨s.cs,s.gl,src⟩ dG [] 0 1 n.kids)++[i0 22]++[i0 25]) :: Azr s.gl src dG n.kids (s.fs.tail.map A8u)
def Bjw (src:ByteArray):List Agt×List ByteArray×Int×Int :=
 match Asy src with
 | (kd,tx,n,a,l,c,p)=>if c≠0 then ([],[],c,p) else
  match A0q 100000 (.mk kd tx n a l) with
  | .bad e=>([],[],e.1,e.2)
  | .ok s=>(Bah src (.mk kd tx n a l) s,s.gl,0,0)
theorem Cin (J:List (Option Agt)→Option (List (Option Agt)×TyC×Int×Int)) (l0:List (Option Axx)):∀ (t:List Axx) (D:List (Option Axx)) (m:Nat) (r:List (Option Agt)),D.length+t.length=l0.length→t.length < m→l0.length≤400000→r.length+t.length≤400000 →
  Am6.l0 m J l0 (D++t.map some) (D.length:Int) r=J (r++t.map fun x=>some (A8u x))
 | [],D,m,r,hl,hm,h1,h2=>by
  obtain ⟨m,rfl⟩:∃ m',m=m'+1:=⟨m - 1,by omega⟩
  simp only [Am6.l0]
  rw [ltF (by simp only [List.length_nil] at hl;omega),cond_false]
  simp
 | x :: t,D,m,r,hl,hm,h1,h2=>by
  obtain ⟨m,rfl⟩:∃ m',m=m'+1:=⟨m - 1,by omega⟩
  simp only [List.length_cons] at hl hm h2
  simp only [Am6.l0,List.map_cons]
  rw [ltT (by omega),cond_true,Ah5,Option.bind_some,Option.bind_some,Ats,Option.bind_some,Ava (by simp only [List.length_cons,List.length_nil];omega),Option.bind_some,wiC _ (by omega) (by omega)]
  have ih:=Cin J l0 t (D++[none]) m (r++[some (A8u x)]) (by simp;omega) (by omega) h1 (by simp;omega)
  rw [show D++[none]++t.map some=D++none :: t.map some by simp,show ((D++[(none:Option Axx)]).length:Int)=(D.length:Int)+1 by simp] at ih
  refine (show _=_ from ih).trans ?_
  rw [List.append_assoc]
  rfl
theorem Cii {cx:GCx} {d:Nat}:∀ (l:List Tree) (lo:List ByteArray) (p nx:Nat),(∀ x ∈ l,IsS x∨Awb x)→(An0 cx d lo p nx l).length≤5 * szs l
 | [],_,_,_,_=>Nat.zero_le _
 | x :: l,lo,p,nx,hI=>by
  have ih:=fun lo p nx=>Cii (cx:=cx) (d:=d) l lo p nx fun y hy=>hI y (List.mem_cons_of_mem _ hy)
  have hxp:=Ase x
  unfold An0
  simp only [szs]
  split
  ·have:=ih lo (p+3) (nx+1)
   simp only [List.length_cons]
   omega
  ·rename_i h31
   have hx:IsS x:=(hI x (List.mem_cons_self ..)).elim id fun h=>by obtain ⟨_,_,_,_,rfl,_⟩:=Bfi h;exact absurd rfl h31
   have:=Bho (cx:=cx) d lo (p+1) x hx
   have:=ih (Aeb cx d lo (p+1) x).2 (p+1+(Aeb cx d lo (p+1) x).1.length) nx
   simp only [List.length_cons,List.length_append]
   omega
theorem Cno {cx:GCx} {d j kk:Nat} (hk:500070+5 * d≤j) (l:List Tree) (t:ByteArray) (n a:Int) (U:List Agt) (hI:∀ x ∈ l,IsS x∨Awb x) (hg:gws l) (hd:szs l≤d) (hd9:d≤85000) (hU:okU cx.gl cx.src d l U) (hcs:cx.cs.length≤400000) (hgl:cx.gl.length≤400000) (hsrc:cx.src.size≤400000)
  (hn:holes 0 (An0 cx d [] 0 1 l)=[]):∃ nx',Alj.g (GS.at (j+1)) kk cx.cs [] cx.src cx.gl [] [] 1 (none :: U.map some) 20 t n a l=some (Aea 0 (An0 cx d [] 0 1 l)++[i0 22]++[i0 25],[],[],nx',none :: (Azr cx.gl cx.src d l U).map some):=by
 have hs:=Aju l
 have hB:BdX cx [] ([]:Cd).length [] (szs l):=⟨hcs,hgl,hsrc,by show 0+_≤_;omega,by show 0+_≤_;omega,by show 0+0+_≤_;omega⟩
 obtain ⟨i,rfl⟩:∃ i,j=i+4:=⟨j - 4,by omega⟩
 have hlen:=Cii (cx:=cx) (d:=d) l [] 0 1 hI
 obtain ⟨lo',nx',e1,e2⟩:=Bzq (Bny d (i+4) (by omega)).1 (fun lo c D T u x h1 h2 h3 h4 h5 h6 h7 h8=>Crb (by omega) lo c D T u x h1 h2 h3 h4 h5 h6 h7 h8) (fun (l2:Cd) (l7:TyC) (l12:TyL) (x17:Int) (l18:List (Option Agt))=>(Ah4 l7 (0:Int) ((([]:TyC).length:Nat):Int)).bind fun l24=>some (l2,l24,l12,x17,l18)) l [] [] [] [none] U (i+4) (by omega) (by simp only [List.length_nil];omega) hI hg hd (by simp only [List.length_cons,List.length_nil];omega) hU hB hn
 refine ⟨nx',?_⟩
 unfold Alj.g
 have hblk:(GS.at (i+4+1)).Ahb cx.cs [] cx.src cx.gl [] [] 1 (none :: U.map some) 20 t n a l=some (Aea 0 (An0 cx d [] 0 1 l),[],[],nx',none :: (Azr cx.gl cx.src d l U).map some):=by
  show Ahb.g (GS.at (i+4)) (i+4) cx.cs [] cx.src cx.gl [] [] 1 (none :: U.map some) 20 t n a l=_
  unfold Ahb.g
  dsimp only [Adg]
  refine (show _=_ from e2).trans ?_
  rw [Bht e1,Option.bind_some,Bhx e1]
  rfl
 rw [hblk,Option.bind_some,add0 _ _ _ (by rw [An4];unfold mx;omega),Option.bind_some,add0 _ _ _ (by rw [List.length_append,An4];simp only [List.length_cons,List.length_nil];unfold mx;omega),Option.bind_some]
theorem gen_eq (k:Nat) (hk:950000≤k) (s:ByteArray):Am6.fS k s=some (Bjw s):=by
 unfold Am6.fS Am6.f Bjw
 rw [check_eq k (by omega),Cfg k (by omega),Option.bind_some,Option.bind_some]
 rcases C9a s with ⟨c,p,hc,he⟩ | ⟨n,he,hw,hz,hI,hs⟩
 ·rw [he]
  unfold A3i
  simp only
  rw [if_pos hc,if_pos hc]
  simp only
  rw [show (c != 0)=true by rw [bne_iff_ne];exact hc,cond_true]
  rfl
 ·rw [he]
  unfold A8s
  simp only [ne_eq,not_true_eq_false,if_false]
  obtain ⟨hg,_⟩:=Ci6 hw
  have e:Tree.mk n.kind n.text n.n n.at_ n.kids=n:=by cases n;rfl
  rw [e]
  cases hn:A0q 100000 n with
  | bad e =>
   have he:e.1≠0:=by
    unfold A0q at hn
    split at hn
    ·cases hn;show (6:Int)≠0;decide
    ·have:=(Cd0 (by omega) hg hn).1
     omega
   simp only [Byl]
   rw [show (e.1 != 0)=true by rw [bne_iff_ne];exact he,cond_true]
   rfl
  | ok s' =>
   have hn':=hn
   unfold A0q at hn
   split at hn
   ·cases hn
   cases hI with
   | chunk hI =>
    rename_i t0 l _ _
    obtain ⟨_,_,hT⟩:=hw
    have hg':=hg
    obtain ⟨_,hgl⟩:=hg
    have h20:=hn
    unfold Aeo at h20
    rw [if_pos rfl] at h20
    obtain ⟨s1,h1,h20⟩:=Aer h20
    simp only [sz] at hz
    have hpp:=(Apr hg' hn).pot
    obtain ⟨fs2,e1,e2,e3⟩:=Cik (gl:=s'.gl) (src:=s) (d:=dG) _ _ st0 s1 hI hT hgl h1 rfl (by show 1+0+0+0+_+_≤_;omega)
    cases h20
    obtain ⟨fs,gl,sl,cs,lo,lp⟩:=s1
    have e1:fs=(⟨#[]⟩,0,0,0,[]) :: fs2:=e1
    subst e1
    simp only [pot,sz,st0,List.length_cons,List.length_nil] at hpp
    obtain ⟨j,rfl⟩:∃ j,k=j+1:=⟨k - 1,by omega⟩
    obtain ⟨nx',hc⟩:=Cno (cx:=⟨cs,gl,s⟩) (d:=dG) (j:=j) (kk:=j+1) (by unfold dG;omega) l t0 _ _ (fs2.map A8u) hI hgl (by unfold dG;omega) (by decide) e2 (by show cs.length≤_;omega) (by show gl.length≤_;omega) (by show s.size≤_;omega) (e3 cs [] 0 1)
    have hu:=fun (a:Int) J=>Cin J ((((⟨#[]⟩,a,0,sl,cs) :: fs2:List Axx)).map some) ((⟨#[]⟩,a,0,sl,cs) :: fs2) [] (j+1) [] (by simp) (by simp only [List.length_cons];omega) (by simp only [List.length_cons,List.length_map];omega) (by simp only [List.length_cons,List.length_nil];omega)
    simp only [Byl,bne_self_eq_false,cond_false,Option.bind_some,Adg]
    refine (congrArg (fun z=>Option.bind z _) (hu _ _)).trans ?_
    have i0':∀ (x:Option Agt) (T:List (Option Agt)),Acz (x :: T) (0:Int)=some x:=fun _ _=>rfl
    have s0':∀ (x y:Option Agt) (T:List (Option Agt)),Aj3 (x :: T) (0:Int) y=some (y :: T):=fun x y T=>Ats [] x y T
    simp only [List.map_cons,List.nil_append,i0',s0',Option.bind_some]
    rw [show (fs2.map fun x=>some (A8u x))=(fs2.map A8u).map some by simp]
    refine (congrArg (fun z=>Option.bind (Option.bind z _) _) hc).trans ?_
    simp only [i0',s0',Option.bind_some]
    rw [show ∀ (u:Agt) (U:List Agt),some u :: U.map some=(u :: U).map some from fun _ _=>rfl,B25]
    rfl
end
section
open Go Go.RowKit
def A7k.f (k:Nat):Option (Bool):=(Am6.fS k (⟨#[119,104,105,108,101,32,120,32,100,111,32,98,114,101,97,107,32,101,110,100]⟩:ByteArray)).bind fun r1=>(cond (r1.2.2.1 != 0) (some true) (cond (((r1.1.length:Nat):Int) != 1) (some true) ((Acz r1.1 0).bind fun x54=>some (((x54.2.2.2.2.length:Nat):Int) != 9))):Option Bool).bind fun q12=>cond q12 (some (false)) ((Acz r1.1 0).bind fun x14=>((Acz x14.2.2.2.2 2).bind fun x30=>cond ((x30.1 == 19) && ((x30.2.1 == 7) && ((x30.2.2.1 == 0) && ((x30.2.2.2 == 0) && true)))) ((Acz x14.2.2.2.2 5).bind fun x35=>cond ((x35.1 == 18) && ((x35.2.1 == 7) && ((x35.2.2.1 == 0) && ((x35.2.2.2 == 0) && true)))) ((Acz x14.2.2.2.2 6).bind fun x40=>cond ((x40.1 == 18) && ((x40.2.1 == 1) && ((x40.2.2.1 == 0) && ((x40.2.2.2 == 0) && true)))) ((Acz x14.2.2.2.2 8).bind fun x45=>some (x45.1 == 25)) (some false)) (some false)) (some false):Option Bool).bind fun q29=>some (q29))
theorem A7k.ok {k:Nat} {G:Aaa} {r:Bool} (h:A7k.f k=some r) (hG:GlP G): Ct Tryz.prog 9 #[] [] [G] (fun e l1=>e=.returned (bv r)∧l1=[]):=by
 refine Afb (args:=[]) Tryz.func9 rfl (Nat.le_of_ble_eq_true rfl) ?_
 intro A X hh_
 obtain ⟨Adu,_⟩:=hh_
 unfold A7k.f at h
 refine ksr (kx 1 (Aby (bnd h fun r1 hr1 h=>(kcl (Am6.okS hr1 hG) rfl ⟨Adu,trivial⟩ ?_))))
 rintro _ _ ⟨h2,A3,k4,h6,A7,k8,o5,o9,rfl,rfl⟩
 refine Acg (kx 3 (knp #[nS,nS] 25 fun b10=>(knp #[iv 0,iv 0] 28 fun b11=>(K.mv1 (kst 0 2 #[.slice A3 r1.1.length k4,.slice A7 r1.2.1.length k8] (K.mv1 (kst 0 2 #[iv r1.2.2.1,iv r1.2.2.2] (knt (Ac1 (bnd h fun q12 hq12 h=>?_))))))))))
 refine An7 [(1,pt b10),(25,bv q12)] (bk b10 #[.slice A3 r1.1.length k4,.slice A7 r1.2.1.length k8] 25 :: h2 :: h6 :: X) ?_ ?_
 ·clear hq12
  refine kcn h (fun h=>?_) fun h=>?_
  ·refine ksr (kx 1 (knt (Afj (Ahj ?_))))
   obtain rfl:=Option.some.inj h
   exact K.drop (K.drop (K.drop (kdn rfl)))
  ·refine Adv (Abr (ksr (kx 1 (kld 0 0 rfl (K.drop (K.mv1 (K.drop (bnd h fun x14 Cza h=>(Aht (T:=41) (kd:=.i64) (R:=Ag1) rfl Cza (Abp.rd o5) fun p15 u18 q19 e16 y17=>?_)))))))))
   obtain ⟨A20,k21,A23,k24,rfl,o22,o25⟩:=Bhb q19
   refine An8 (off:=4) rfl e16 y17 fun p26 e27 y28=>?_
   have e27:Elem _ p26 [.slice A23 x14.2.2.2.2.length k24]:=e27
   refine Apm rfl (by kernel_rfl) (by kernel_rfl) (by kernel_rfl) (by kernel_rfl) e27 (.head _) (kx 1 (knt (bnd h fun q29 Br9 h=>?_)))
   refine An7 [(0,bv q29)] (X) ?_ ?_
   ·clear Br9
    refine Afj ?_
    obtain rfl:=Option.some.inj h
    exact kdn rfl
   ·have h:=Br9
    clear Br9
    refine Ach (kx 1 (bnd h fun x30 Czx h=>(Ano (T:=48) (kd:=.i64) Ak5 rfl Czx o25 fun p31 e32 y33=>?_)))
    have e32:Elem _ p31 [iv x30.1,iv x30.2.1,iv x30.2.2.1,iv x30.2.2.2]:=e32
    refine keN rfl e32 (.head _) (kx 1 (Bk6 (r:=((x30.1 == 19) && ((x30.2.1 == 7) && ((x30.2.2.1 == 0) && ((x30.2.2.2 == 0) && true))))) (xs:=#[iv x30.1,iv x30.2.1,iv x30.2.2.1,iv x30.2.2.2]) (ys:=#[iv 19,iv 7,iv 0,iv 0]) false (by kernel_rfl) rfl (by kernel_rfl) (by kernel_rfl) (by kernel_rfl) (by kernel_rfl) (by kernel_rfl) (by kernel_rfl) (by kernel_rfl) (kx 1 ?_)))
    refine kcs 36 h (fun h=>?_) fun h=>?_
    ·refine kx 1 (bnd h fun x35 Bt6 h=>(Ano (T:=48) (kd:=.i64) Ak5 rfl Bt6 o25 fun p36 e37 y38=>?_))
     have e37:Elem _ p36 [iv x35.1,iv x35.2.1,iv x35.2.2.1,iv x35.2.2.2]:=e37
     refine keN rfl e37 (.head _) (kx 1 (Bk6 (r:=((x35.1 == 18) && ((x35.2.1 == 7) && ((x35.2.2.1 == 0) && ((x35.2.2.2 == 0) && true))))) (xs:=#[iv x35.1,iv x35.2.1,iv x35.2.2.1,iv x35.2.2.2]) (ys:=#[iv 18,iv 7,iv 0,iv 0]) false (by kernel_rfl) rfl (by kernel_rfl) (by kernel_rfl) (by kernel_rfl) (by kernel_rfl) (by kernel_rfl) (by kernel_rfl) (by kernel_rfl) (kx 2 ?_)))
     refine kcs 43 h (fun h=>?_) fun h=>?_
     ·refine kx 1 (bnd h fun x40 Czy h=>(Ano (T:=48) (kd:=.i64) Ak5 rfl Czy o25 fun p41 e42 y43=>?_))
      have e42:Elem _ p41 [iv x40.1,iv x40.2.1,iv x40.2.2.1,iv x40.2.2.2]:=e42
      refine keN rfl e42 (.head _) (kx 1 (Bk6 (r:=((x40.1 == 18) && ((x40.2.1 == 1) && ((x40.2.2.1 == 0) && ((x40.2.2.2 == 0) && true))))) (xs:=#[iv x40.1,iv x40.2.1,iv x40.2.2.1,iv x40.2.2.2]) (ys:=#[iv 18,iv 1,iv 0,iv 0]) false (by kernel_rfl) rfl (by kernel_rfl) (by kernel_rfl) (by kernel_rfl) (by kernel_rfl) (by kernel_rfl) (by kernel_rfl) (by kernel_rfl) (kx 2 ?_)))
      refine kcs 50 h (fun h=>?_) fun h=>?_
      ·refine kx 1 (bnd h fun x45 Czz h=>(Ano (T:=48) (kd:=.i64) Ak5 rfl Czz o25 fun p46 e47 y48=>?_))
       have e47:Elem _ p46 [iv x45.1,iv x45.2.1,iv x45.2.2.1,iv x45.2.2.2]:=e47
       refine An8 (off:=0) rfl e47 y48 fun p49 e50 y51=>?_
       have e50:Elem _ p49 [iv x45.1,iv x45.2.1,iv x45.2.2.1,iv x45.2.2.2]:=e50
       exact Apm rfl (by kernel_rfl) (by kernel_rfl) (by kernel_rfl) (by kernel_rfl) e50 (.head _) (K.drop (kx 3 (knt (Agb ⟨gb (Option.some.inj h),trivial⟩))))
      ·exact kx 7 (knt (K.drop (Agb ⟨gb (Option.some.inj h),trivial⟩)))
     ·exact kx 14 (knt (K.drop (Agb ⟨gb (Option.some.inj h),trivial⟩)))
    ·exact kx 21 (knt (K.drop (Agb ⟨gb (Option.some.inj h),trivial⟩)))
 ·have h:=hq12
  clear hq12
  refine Ach (kx 1 (kld 0 0 rfl (K.drop (kx 2 ?_))))
  refine kcs 11 h (fun h=>?_) fun h=>?_
  ·exact kx 14 (knt (Agb ⟨gr,gb (Option.some.inj h),trivial⟩))
  ·refine kx 1 (kld 0 0 rfl (kx 4 ?_))
   refine kcs 17 h (fun h=>?_) fun h=>?_
   ·exact kx 8 (knt (Agb ⟨gr,gb (Option.some.inj h),trivial⟩))
   ·refine kx 1 (kld 0 0 rfl (bnd h fun x54 C0b h=>(Aht (T:=41) (kd:=.i64) (R:=Ag1) rfl C0b (Abp.rd o5) fun p55 u58 q59 e56 y57=>?_)))
    obtain ⟨A60,k61,A63,k64,rfl,o62,o65⟩:=Bhb q59
    refine An8 (off:=4) rfl e56 y57 fun p66 e67 y68=>?_
    have e67:Elem _ p66 [.slice A63 x54.2.2.2.2.length k64]:=e67
    exact Apm rfl (by kernel_rfl) (by kernel_rfl) (by kernel_rfl) (by kernel_rfl) e67 (.tail _ (.head _)) (kx 3 (knt (Agb ⟨gr,gb (Option.some.inj h),trivial⟩)))
def Agw.l1:Nat→(a0:Int)→(J4:ByteArray→Option (Bool))→(x96:ByteArray)→(x97:Int)→Option (Bool)
 | 0,_,_,_,_=>none
 | m98+1,a0,J4,x96,x97=>cond (decide (x97 < (IntKind.i64.wrap (Int.tmod (IntKind.u64.wrap a0) 201)))) ((Auy x96 (⟨#[55,44,32]⟩:ByteArray)).bind fun Byt:ByteArray=>Agw.l1 m98 a0 J4 Byt (IntKind.i64.wrap (x97+1))) (J4 x96)
def Agw.l0:Nat→(a0:Int)→(r6:List (ByteArray×Int×Int×TyB×TyA)×TyC×Int×Int)→(J21:Int→Int→Option (Bool))→(x24:Int)→(x25:Int)→(x26:Int)→Option (Bool)
 | 0,_,_,_,_,_,_=>none
 | m27+1,a0,r6,J21,x24,x25,x26=>(Acz r6.1 0).bind fun x28=>cond (decide (x26 < ((x28.2.2.2.2.length:Nat):Int))) (Adg (fun (x44:Int) (x45:Int)=>Agw.l0 m27 a0 r6 J21 x44 x45 (IntKind.i64.wrap (x26+1))) (fun J46=>(Acz r6.1 0).bind fun x47=>(Acz x47.2.2.2.2 x26).bind fun x62=>cond (x62.1 == 26) ((cond (x62.2.1 != (IntKind.i64.wrap (Int.tmod (IntKind.u64.wrap a0) 201))) (some true) (some (x62.2.2.1 != 0)):Option Bool).bind fun q68=>cond q68 (some (false)) (J46 x24 x25)) (cond (x62.1 == 2) (J46 x24 (IntKind.i64.wrap (x25+1))) (cond (x62.1 == 28) ((cond (x62.2.1 != x25) (some true) (cond (x62.2.2.1 != x24) (some true) (cond (decide (x62.2.1 < 1)) (some true) (some (decide (x62.2.1 > 50))))):Option Bool).bind fun q73=>cond q73 (some (false)) (J46 (IntKind.i64.wrap (x24+x62.2.1)) 0)) (J46 x24 x25))))) (J21 x24 x25)
def Agw.f (k:Nat) (a0:Int):Option (Bool):=(A7k.f k).bind fun r1=>cond (!r1) (some (false)) (Adg (fun (x3:ByteArray)=>(Auy x3 (⟨#[125]⟩:ByteArray)).bind fun s5:ByteArray=>(Am6.fS k s5).bind fun r6=>(cond (r6.2.2.1 != 0) (some true) (cond (((r6.1.length:Nat):Int) != 1) (some true) (cond (decide ((IntKind.i64.wrap (Int.tmod (IntKind.u64.wrap a0) 201)) > 0)) ((Acz r6.1 0).bind fun x81=>some (((x81.2.2.2.1.length:Nat):Int) != 1)) (some false))):Option Bool).bind fun q17=>cond q17 (some (false)) (Adg (fun (x19:Int) (x20:Int)=>(cond (x19 == (IntKind.i64.wrap ((IntKind.i64.wrap (Int.tmod (IntKind.u64.wrap a0) 201))+1))) (some (x20 == 0)) (some false):Option Bool).bind fun q22=>some (q22)) (fun J21=>Agw.l0 k a0 r6 J21 1 0 0))) (fun J4=>Agw.l1 k a0 J4 (⟨#[120,32,61,32,123]⟩:ByteArray) 0))
theorem Agw.ok {k:Nat} {a0:Int} {G:Aaa} {r:Bool} (h:Agw.f k a0=some r) (hG:GlP G): Ct Tryz.prog 6 #[iv a0] [] [G] (fun e l1=>e=.returned (bv r)∧l1=[]):=by
 refine Afb (args:=[iv a0]) Tryz.func6 rfl (Nat.le_of_ble_eq_true rfl) ?_
 intro A X hh_
 obtain ⟨Adu,_⟩:=hh_
 unfold Agw.f at h
 refine ksr (kx 1 (knt (Ac1 (ksr (bnd h fun r1 hr1 h=>(kcv (A7k.ok hr1 hG) ⟨Adu,trivial⟩ (kx 1 (knt ?_))))))))
 refine kcn h (fun h=>?_) fun h=>?_
 ·refine ksr (kx 1 (knt (Afj (Ahj ?_))))
  obtain rfl:=Option.some.inj h
  exact kdn rfl
 ·refine Adv (Abr (ksr (kx 5 (Aby (kx 1 (knt ?_))))))
  obtain ⟨J4,hJ4,h⟩:=Agm h
  refine Agn (τ:=ByteArray) (fun t=>[(0,iv (IntKind.i64.wrap (Int.tmod (IntKind.u64.wrap a0) 201))),(3,sv t)]) (fun t=>X) (fun t=>J4 t=some r) ?_ ?_
  ·rintro x3 h
   subst hJ4
   refine ksr (kx 1 (bnd h fun s5 hs5 h=>(Bf2 rfl (by kernel_rfl) (by kernel_rfl) (by kernel_rfl) (by kernel_rfl) hs5 (bnd h fun r6 hr6 h=>(kcl (Am6.okS hr6 hG) rfl ⟨Adu,trivial⟩ ?_)))))
   rintro _ _ ⟨h7,A8,k9,h11,A12,k13,o10,o14,rfl,rfl⟩
   refine Acg (kx 3 (knp #[nS,nS] 25 fun b15=>(knp #[iv 0,iv 0] 28 fun b16=>(K.mv1 (kst 0 2 #[.slice A8 r6.1.length k9,.slice A12 r6.2.1.length k13] (K.mv1 (kst 0 2 #[iv r6.2.2.1,iv r6.2.2.2] (knt (Ac1 (bnd h fun q17 Br5 h=>?_))))))))))
   refine An7 [(0,iv (IntKind.i64.wrap (Int.tmod (IntKind.u64.wrap a0) 201))),(5,pt b15),(51,bv q17)] (bk b15 #[.slice A8 r6.1.length k9,.slice A12 r6.2.1.length k13] 25 :: h7 :: h11 :: X) ?_ ?_
   ·clear Br5
    refine kcn h (fun h=>?_) fun h=>?_
    ·refine ksr (kx 1 (knt (Afj (Ahj ?_))))
     obtain rfl:=Option.some.inj h
     exact K.drop (K.drop (K.drop (kdn rfl)))
    ·refine Adv (Abr (ksr (kx 2 (knt ?_))))
     obtain ⟨J21,Csz,h⟩:=Agm h
     refine Agn (τ:=Int×Int) (fun t=>[(0,iv (IntKind.i64.wrap (Int.tmod (IntKind.u64.wrap a0) 201))),(7,iv t.1),(8,iv t.2)]) (fun t=>X) (fun t=>J21 t.1 t.2=some r) ?_ ?_
     ·rintro ⟨x19,x20⟩ h
      subst Csz
      refine bnd h fun q22 Br6 h=>?_
      refine An7 [(2,bv q22)] (X) ?_ ?_
      ·clear Br6
       refine Afj ?_
       obtain rfl:=Option.some.inj h
       exact kdn rfl
      ·have h:=Br6
       clear Br6
       refine Ach (kx 5 ?_)
       refine kcs 117 h (fun h=>?_) fun h=>?_
       ·exact kx 4 (knt (Agb ⟨gb (Option.some.inj h),trivial⟩))
       ·exact kx 4 (knt (Agb ⟨gb (Option.some.inj h),trivial⟩))
     ·skip
      refine ksr (kx 1 (knt (Aez (Akr (τ:=Int×Int×Int) (fun t=>[(0,iv (IntKind.i64.wrap (Int.tmod (IntKind.u64.wrap a0) 201))),(5,pt b15),(7,iv t.1),(8,iv t.2.1),(9,iv t.2.2)]) (fun t=>bk b15 #[.slice A8 r6.1.length k9,.slice A12 r6.2.1.length k13] 25 :: h7 :: h11 :: X) (fun m t=>Agw.l0 m a0 r6 J21 t.1 t.2.1 t.2.2=some r) k (1,0,0) h sb rfl ?_))))
      clear h
      rintro m27 ⟨x24,x25,x26⟩ h
      cases m27 with
      | zero=>simp [Agw.l0] at h
      | succ m27 =>
       simp only [Agw.l0] at h
       refine Ac1 (ksr (kx 2 (kld 0 0 rfl (bnd h fun x28 hx28 h=>(Aht (T:=41) (kd:=.i64) (R:=Ag1) rfl hx28 (Abp.rd o10) fun p29 u32 q33 e30 y31=>?_)))))
       obtain ⟨A34,k35,A37,k38,rfl,o36,o39⟩:=Bhb q33
       refine An8 (off:=4) rfl e30 y31 fun p40 e41 y42=>?_
       have e41:Elem _ p40 [.slice A37 x28.2.2.2.2.length k38]:=e41
       refine Apm rfl (by kernel_rfl) (by kernel_rfl) (by kernel_rfl) (by kernel_rfl) e41 (.tail _ (.head _)) (kx 2 (knt ?_))
       refine kcn h (fun h=>?_) fun h=>?_
       ·refine Adv (Abr ?_)
        obtain ⟨J46,Cs8,h⟩:=Agm h
        refine Agn (τ:=Int×Int) (fun t=>[(0,iv (IntKind.i64.wrap (Int.tmod (IntKind.u64.wrap a0) 201))),(5,pt b15),(7,iv t.1),(8,iv t.2),(9,iv x26)]) (fun t=>bk b15 #[.slice A8 r6.1.length k9,.slice A12 r6.2.1.length k13] 25 :: h7 :: h11 :: X) (fun t=>J46 t.1 t.2=some r) ?_ ?_
        ·rintro ⟨x44,x45⟩ h
         subst Cs8
         exact Ach (kx 3 (knt (Aiw m27 (x44,x45,IntKind.i64.wrap (x26+1)) (Nat.lt_succ_self _) h sb rfl)))
        ·skip
         refine Aez (ksr (kx 1 (kld 0 0 rfl (bnd h fun x47 Cz4 h=>(Aht (T:=41) (kd:=.i64) (R:=Ag1) rfl Cz4 (Abp.rd o10) fun p48 u51 q52 e49 y50=>?_)))))
         obtain ⟨A53,k54,A56,k57,rfl,o55,o58⟩:=Bhb q52
         refine An8 (off:=4) rfl e49 y50 fun p59 e60 y61=>?_
         have e60:Elem _ p59 [.slice A56 x47.2.2.2.2.length k57]:=e60
         refine Apm rfl (by kernel_rfl) (by kernel_rfl) (by kernel_rfl) (by kernel_rfl) e60 (.tail _ (.head _)) (kx 1 (bnd h fun x62 Bfe h=>(Ano (T:=48) (kd:=.i64) Ak5 rfl Bfe o58 fun p63 e64 y65=>?_)))
         have e64:Elem _ p63 [iv x62.1,iv x62.2.1,iv x62.2.2.1,iv x62.2.2.2]:=e64
         refine keN rfl e64 (.tail _ (.head _)) (knp #[iv 0,iv 0,iv 0,iv 0] 48 fun b66=>(kst 0 4 #[iv x62.1,iv x62.2.1,iv x62.2.2.1,iv x62.2.2.2] (Aby (kx 1 (kld 0 0 rfl (knt (Aez (ksr (kx 2 (knt ?_))))))))))
         refine kcn h (fun h=>?_) fun h=>?_
         ·refine bnd h fun q68 Bse h=>?_
          refine An7 [(0,iv (IntKind.i64.wrap (Int.tmod (IntKind.u64.wrap a0) 201))),(5,pt b15),(7,iv x24),(8,iv x25),(9,iv x26),(82,bv q68)] (bk b15 #[.slice A8 r6.1.length k9,.slice A12 r6.2.1.length k13] 25 :: h7 :: h11 :: X) ?_ ?_
          ·clear Bse
           refine kcn h (fun h=>?_) fun h=>?_
           ·refine ksr (kx 1 (knt (Afj (Ajk (Ajk (Ahj (Ahj (Ajk (Ahj ?_)))))))))
            obtain rfl:=Option.some.inj h
            exact K.drop (K.drop (K.drop (kdn rfl)))
           ·exact Adv (Acx (Acx (Abr (Adb (x24,x25) h sb rfl))))
          ·have h:=Bse
           clear Bse
           refine Ach (kx 1 (kld 0 1 rfl (kx 3 ?_)))
           refine kcs 78 h (fun h=>?_) fun h=>?_
           ·exact kx 4 (knt (K.drop (Agb ⟨gr,gr,gr,gr,gr,gb (Option.some.inj h),trivial⟩)))
           ·exact kx 1 (kld 0 2 rfl (K.drop (kx 2 (knt (Agb ⟨gr,gr,gr,gr,gr,gb (Option.some.inj h),trivial⟩)))))
         ·refine ksr (kx 2 (knt ?_))
          refine kcn h (fun h=>?_) fun h=>?_
          ·exact Ach (kx 3 (knl (Acx (Acx (Abr (K.drop (Adb (x24,IntKind.i64.wrap (x25+1)) h sb rfl)))))))
          ·refine ksr (kx 2 (knt ?_))
           refine kcn h (fun h=>?_) fun h=>?_
           ·refine Ac1 (bnd h fun q73 Bsj h=>?_)
            refine An7 [(0,iv (IntKind.i64.wrap (Int.tmod (IntKind.u64.wrap a0) 201))),(5,pt b15),(7,iv x24),(9,iv x26),(10,pt b66),(108,bv q73)] (bk b66 #[iv x62.1,iv x62.2.1,iv x62.2.2.1,iv x62.2.2.2] 48 :: bk b15 #[.slice A8 r6.1.length k9,.slice A12 r6.2.1.length k13] 25 :: h7 :: h11 :: X) ?_ ?_
            ·clear Bsj
             refine kcn h (fun h=>?_) fun h=>?_
             ·refine ksr (kx 1 (knt (Afj (Ahj (Ajk (Ajk (Ahj (Ahj (Ajk (Ahj ?_))))))))))
              obtain rfl:=Option.some.inj h
              exact K.drop (K.drop (K.drop (K.drop (kdn rfl))))
             ·refine Adv (Abr (Ach (kx 2 (kld 0 1 rfl (K.drop (kx 3 (knl (Acx (Acx (Abr ?_))))))))))
              exact Adb (IntKind.i64.wrap (x24+x62.2.1),0) h sb rfl
            ·have h:=Bsj
             clear Bsj
             refine Ach (kx 1 (kld 0 1 rfl (kx 3 ?_)))
             refine kcs 93 h (fun h=>?_) fun h=>?_
             ·exact kx 15 (knt (Agb ⟨gr,gr,gr,gr,gr,gb (Option.some.inj h),trivial⟩))
             ·refine kx 1 (kld 0 2 rfl (kx 4 ?_))
              refine kcs 99 h (fun h=>?_) fun h=>?_
              ·exact kx 9 (knt (Agb ⟨gr,gr,gr,gr,gr,gb (Option.some.inj h),trivial⟩))
              ·refine kx 1 (kld 0 1 rfl (kx 3 ?_))
               refine kcs 104 h (fun h=>?_) fun h=>?_
               ·exact kx 4 (knt (Agb ⟨gr,gr,gr,gr,gr,gb (Option.some.inj h),trivial⟩))
               ·exact kx 1 (kld 0 1 rfl (kx 2 (knt (Agb ⟨gr,gr,gr,gr,gr,gb (Option.some.inj h),trivial⟩))))
           ·exact Adv (Acx (Acx (Abr (K.drop (Adb (x24,x25) h sb rfl)))))
       ·exact Akp (Af5 (Af5 (Akq (Abr (K.drop (K.drop (K.drop (Adb (x24,x25) h sb rfl))))))))
   ·have h:=Br5
    clear Br5
    refine Ach (kx 1 (kld 0 0 rfl (K.drop (kx 2 ?_))))
    refine kcs 33 h (fun h=>?_) fun h=>?_
    ·exact kx 18 (knt (Agb ⟨gr,gr,gb (Option.some.inj h),trivial⟩))
    ·refine kx 1 (kld 0 0 rfl (kx 4 ?_))
     refine kcs 39 h (fun h=>?_) fun h=>?_
     ·exact kx 12 (knt (Agb ⟨gr,gr,gb (Option.some.inj h),trivial⟩))
     ·refine kx 3 ?_
      refine kcs 42 h (fun h=>?_) fun h=>?_
      ·refine kx 1 (kld 0 0 rfl (bnd h fun x81 C0i h=>(Aht (T:=41) (kd:=.i64) (R:=Ag1) rfl C0i (Abp.rd o10) fun p82 u85 q86 e83 y84=>?_)))
       obtain ⟨A87,k88,A90,k91,rfl,o89,o92⟩:=Bhb q86
       refine An8 (off:=3) rfl e83 y84 fun p93 e94 y95=>?_
       have e94:Elem _ p93 [.slice A87 x81.2.2.2.1.length k88,.slice A90 x81.2.2.2.2.length k91]:=e94
       exact Apm rfl (by kernel_rfl) (by kernel_rfl) (by kernel_rfl) (by kernel_rfl) e94 (.tail _ (.head _)) (kx 4 (knt (Agb ⟨gr,gr,gb (Option.some.inj h),trivial⟩)))
      ·exact kx 9 (knt (Agb ⟨gr,gr,gb (Option.some.inj h),trivial⟩))
  ·skip
   refine ksr (kx 1 (knt (Aez (Akr (τ:=ByteArray×Int) (fun t=>[(0,iv (IntKind.i64.wrap (Int.tmod (IntKind.u64.wrap a0) 201))),(3,sv t.1),(4,iv t.2)]) (fun t=>X) (fun m t=>Agw.l1 m a0 J4 t.1 t.2=some r) k ((⟨#[120,32,61,32,123]⟩:ByteArray),0) h sb rfl ?_))))
   clear h
   rintro m98 ⟨x96,x97⟩ h
   cases m98 with
   | zero=>simp [Agw.l1] at h
   | succ m98 =>
    simp only [Agw.l1] at h
    refine Ac1 (ksr (kx 3 (knt ?_)))
    refine kcn h (fun h=>?_) fun h=>?_
    ·refine Adv (Abr (Ac1 (Aez (Ach (kx 1 (bnd h fun Byt Cyp h=>(Bf2 rfl (by kernel_rfl) (by kernel_rfl) (by kernel_rfl) (by kernel_rfl) Cyp (kx 1 (knl (Acx ?_))))))))))
     exact Abr (Ach (kx 3 (knt (Aiw m98 (Byt,IntKind.i64.wrap (x97+1)) (Nat.lt_succ_self _) h sb rfl))))
    ·exact Akp (Af5 (Af5 (Akq (Abr (Adb x96 h sb rfl)))))
end
section
open Go Go.RowKit Lx
theorem Cq5 (k:Nat) (hk:950000≤k):A7k.f k=some true:=by
 unfold A7k.f
 rw [gen_eq k hk]
 kernel_rfl
def svB:Nat→Bs
 | 0=>[]
 | n+1=>55 :: 44 :: 32 :: svB n
theorem Cho:∀ n,svB n++[55,44,32]=svB (n+1)
 | 0=>rfl
 | n+1=>by show 55 :: 44 :: 32 :: (svB n++[55,44,32])=_;rw [Cho n];rfl
theorem Bn1:∀ n,(svB n).length=3 * n
 | 0=>rfl
 | n+1=>by simp only [svB,List.length_cons,Bn1 n];omega
def baB (n:Nat):Bs:=[120,32,61,32,123]++svB n++[125]
def svT:Nat→Nat→List Tok
 | 0,p=>[⟨5,[125],0,p⟩,⟨6,[],0,p+1⟩]
 | n+1,p=>⟨3,[55],7,p⟩ :: ⟨5,[44],0,p+1⟩ :: svT n (p+3)
def baT (n:Nat):List Tok:=⟨1,[120],0,0⟩ :: ⟨5,[61],0,2⟩ :: ⟨5,[123],0,4⟩ :: svT n 5
theorem By4 (x:Bs) (at_:Nat) (acc:List Tok):As3 (32 :: x) at_ acc=As3 x (at_+1) acc:=Da6 x at_ acc [32] (by decide)
theorem Bbw (w x t:Bs) (at_:Nat) (acc:List Tok) (k n:Int) (hst:Ajt (w++x)=.tok k t n w.length) (h0:Aep Agk (w++x)=0):As3 (w++x) at_ acc=As3 x (at_+w.length) (acc++[⟨k,t,n,at_⟩]):=by
 rw [Bbu,h0,List.drop_zero,Nat.add_zero,hst]
 simp only
 rw [List.drop_left]
theorem Cia:∀ (n p:Nat) (acc:List Tok),As3 (svB n++[125]) p acc=.inr (acc++svT n p)
 | 0,p,acc=>by
  have e:svB 0++[125]=[125]++([]:Bs):=rfl
  rw [e]
  rw [Bbw [125] [] [125] p acc 5 0 (by kernel_rfl) (by kernel_rfl),Bbu]
  show Sum.inr _=_
  rw [svT,List.append_assoc]
  rfl
 | n+1,p,acc=>by
  have e:svB (n+1)++[125]=[55]++44 :: 32 :: (svB n++[125]):=rfl
  rw [e]
  rw [Bbw [55] _ [55] p acc 3 7 (by kernel_rfl) (by kernel_rfl)]
  have e2:44 :: 32 :: (svB n++[125])=[44]++32 :: (svB n++[125]):=rfl
  rw [e2,Bbw [44] _ [44] _ _ 5 0 (by kernel_rfl) (by kernel_rfl),By4,Cia n,svT]
  simp only [List.append_assoc,List.cons_append,List.nil_append,List.length_cons,List.length_nil]
theorem Cl2 (n:Nat):As3 (baB n) 0 []=.inr (baT n):=by
 have e:baB n=[120]++32 :: 61 :: 32 :: 123 :: (svB n++[125]):=by simp [baB]
 have e1:61 :: 32 :: 123 :: (svB n++[125])=[61]++32 :: 123 :: (svB n++[125]):=rfl
 have e2:123 :: (svB n++[125])=[123]++(svB n++[125]):=rfl
 rw [e]
 rw [Bbw [120] _ [120] _ _ 1 0 (by kernel_rfl) (by kernel_rfl),By4]
 rw [e1,Bbw [61] _ [61] _ _ 5 0 (by kernel_rfl) (by kernel_rfl),By4]
 rw [e2,Bbw [123] _ [123] _ _ 5 0 (by cases n <;> kernel_rfl) (by kernel_rfl),Cia]
 rfl
def A9o (k:Nat) (a0:Int) (r6:List (ByteArray×Int×Int×List (Int×Int×ByteArray)×List (Int×Int×Int×Int))×List ByteArray×Int×Int):Option Bool :=
 (cond (r6.2.2.1 != (0:Int)) (some true) (cond (((r6.1.length:Nat):Int) != (1:Int)) (some true) (cond (decide ((IntKind.i64.wrap (Int.tmod (IntKind.u64.wrap a0) (201:Int))) > (0:Int))) ((Acz r6.1 (0:Int)).bind fun x81=>some (((x81.2.2.2.1.length:Nat):Int) != (1:Int))) (some false))):Option Bool).bind fun q17=>cond q17 (some (false)) (Adg (fun (x19:Int) (x20:Int)=>(cond (x19 == (IntKind.i64.wrap ((IntKind.i64.wrap (Int.tmod (IntKind.u64.wrap a0) (201:Int)))+(1:Int)))) (some (x20 == (0:Int))) (some false):Option Bool).bind fun q22=>some (q22)) (fun J21=>Agw.l0 k a0 r6 J21 (1:Int) (0:Int) (0:Int)))
theorem B3o {a b:Int} (h:IntKind.i64.wrap (Int.tmod (IntKind.u64.wrap a) (201:Int))=IntKind.i64.wrap (Int.tmod (IntKind.u64.wrap b) (201:Int))) (r6:List (ByteArray×Int×Int×TyB×TyA)×TyC×Int×Int) (J:Int→Int→Option Bool) :
  ∀ (m:Nat) (x y z:Int),Agw.l0 m a r6 J x y z=Agw.l0 m b r6 J x y z
 | 0,_,_,_=>rfl
 | m+1,x,y,z=>by
  have ih:Agw.l0 m a r6 J=Agw.l0 m b r6 J:=funext fun x=>funext fun y=>funext fun z=>B3o h r6 J m x y z
  simp only [Agw.l0,h,ih]
theorem Cmd {a b:Int} (h:IntKind.i64.wrap (Int.tmod (IntKind.u64.wrap a) (201:Int))=IntKind.i64.wrap (Int.tmod (IntKind.u64.wrap b) (201:Int))) (k:Nat) (r6:List (ByteArray×Int×Int×TyB×TyA)×TyC×Int×Int):A9o k a r6=A9o k b r6:=by
 have h0:∀ J,Agw.l0 k a r6 J=Agw.l0 k b r6 J:=fun J=>funext fun x=>funext fun y=>funext fun z=>B3o h r6 J k x y z
 unfold A9o
 simp only [h,h0]
def svI (p:Nat):Tree:=.mk 13 noB 0 (p:Int) [.mk 4 noB 7 (p:Int) []]
def Air:Nat→Nat→List Tree
 | 0,_=>[]
 | n+1,p=>svI p :: Air n (p+3)
theorem C4q (f:Nat) (t:ByteArray) (v p:Int) (R:List Tk) (hR:Akv R=0):Ahk (f+3) 0 ((3,t,v,p) :: R)=some (.ok (.mk 4 noB v p []) R):=by
 rw [Ahk,Akz,if_pos (show (hd ((3,t,v,p) :: R)).1=3 from rfl)]
 show Aky (f+2) 0 (.mk 4 noB v p []) R=_
 rw [Aky,if_pos (by omega)]
theorem B6e:∀ (n p f:Nat) (acc:List Tree),Aj7 (f+n+6) acc ((svT n p).map Ahw)=some (.ok (acc++Air n p) [(6,str [],0,((p+3 * n+1:Nat):Int))])
 | 0,p,f,acc=>by
  have e:(svT 0 p).map Ahw=(5,str [125],0,(p:Int)) :: [(6,str [],0,((p+1:Nat):Int))]:=rfl
  rw [e,Aj7,if_pos (by kernel_rfl),Air,List.append_nil]
  rfl
 | n+1,p,f,acc=>by
  have e:(svT (n+1) p).map Ahw=(3,str [55],7,(p:Int)) :: (5,str [44],0,((p+1:Nat):Int)) :: (svT n (p+3)).map Ahw:=rfl
  rw [e,show f+(n+1)+6=f+n+6+1 by omega,Aj7,if_neg (ne_true_of_eq_false (by kernel_rfl)),show f+n+6=f+n+2+3+1 by omega,Amb,if_neg (ne_true_of_eq_false (by kernel_rfl)),if_neg (by rintro ⟨h,_⟩;exact absurd (show (3:Int)=1 from h) (by decide)),C4q _ _ _ _ _ (by kernel_rfl)]
  show (if isH Amo ((5,str [44],0,((p+1:Nat):Int)) :: (svT n (p+3)).map Ahw)=true then _ else _)=_
  rw [if_pos (by kernel_rfl)]
  show Aj7 (f+n+6) (acc++[svI p]) ((svT n (p+3)).map Ahw)=_
  rw [B6e n (p+3) f,Air,List.append_assoc,show p+3+3 * n+1=p+3 * (n+1)+1 by omega]
  rfl
def As4 (n:Nat):Tree:=.mk 12 noB 0 4 (Air n 5)
def Atd (n:Nat):Tree:=.mk 22 noB ((1:Nat):Int) 0 ([.mk 6 (str [120]) 0 0 []]++[As4 n])
theorem Dbx (n f:Nat):Alu (f+n+20) ((baT n).map Ahw)=some (.ok (Atd n) [(6,str [],0,((5+3 * n+1:Nat):Int))]):=by
 have e:(baT n).map Ahw=(1,str [120],0,0) :: (5,str [61],0,2) :: (5,str [123],0,4) :: (svT n 5).map Ahw:=rfl
 rw [e,Alu,if_neg (ne_true_of_eq_false (by kernel_rfl)),if_neg (ne_true_of_eq_false (by kernel_rfl)),if_neg (ne_true_of_eq_false (by kernel_rfl)),if_neg (ne_true_of_eq_false (by kernel_rfl)),if_neg (ne_true_of_eq_false (by kernel_rfl)),if_neg (ne_true_of_eq_false (by kernel_rfl))]
 rw [Amc,Ak2,if_neg (ne_true_of_eq_false (by kernel_rfl))]
 have h1:Aj9 (f+n+17) 0 (.mk 6 (str [120]) 0 0 []) ((5,str [61],0,2) :: (5,str [123],0,4) :: (svT n 5).map Ahw)=some (.ok (.mk 6 (str [120]) 0 0 []) ((5,str [61],0,2) :: (5,str [123],0,4) :: (svT n 5).map Ahw)):=by
  rw [Aj9,if_neg (ne_true_of_eq_false (by kernel_rfl)),if_neg (ne_true_of_eq_false (by kernel_rfl)),if_neg (ne_true_of_eq_false (by kernel_rfl))]
 have h2:Alg (f+n+18) [] (.mk 6 (str [120]) 0 0 []) ((5,str [61],0,2) :: (5,str [123],0,4) :: (svT n 5).map Ahw)=some (.ok [.mk 6 (str [120]) 0 0 []] ((5,str [61],0,2) :: (5,str [123],0,4) :: (svT n 5).map Ahw)):=by
  rw [Alg,if_pos (.inl rfl),if_neg (ne_true_of_eq_false (by kernel_rfl))]
  rfl
 have h3:Aj5 (f+n+18) ((5,str [123],0,4) :: (svT n 5).map Ahw)=some (.ok [As4 n] [(6,str [],0,((5+3 * n+1:Nat):Int))]):=by
  have h4:Akz (f+n+16) ((5,str [123],0,4) :: (svT n 5).map Ahw)=some (.ok (As4 n) [(6,str [],0,((5+3 * n+1:Nat):Int))]):=by
   rw [Akz,if_neg (by show ¬ (5:Int)=3;decide),if_neg (by show ¬ (5:Int)=4;decide),if_neg (ne_true_of_eq_false (by kernel_rfl)),if_neg (ne_true_of_eq_false (by kernel_rfl)),if_neg (ne_true_of_eq_false (by kernel_rfl)),if_neg (ne_true_of_eq_false (by kernel_rfl)),if_pos (by kernel_rfl)]
   show PV.bind (Aj7 (f+n+15) [] ((svT n 5).map Ahw)) _=_
   rw [show f+n+15=f+9+n+6 by omega,B6e]
   rfl
  rw [Aj5,Ahk,h4]
  show PV.bind (Aky (f+n+16) 0 (As4 n) [(6,str [],0,((5+3 * n+1:Nat):Int))]) _=_
  rw [Aky,if_pos (by rw [show Akv [(6,str [],0,((5+3 * n+1:Nat):Int))]=0 by kernel_rfl];exact Int.le_refl _)]
  show Ald (f+n+17) [As4 n] [(6,str [],0,((5+3 * n+1:Nat):Int))]=_
  rw [Ald,if_neg (ne_true_of_eq_false (by kernel_rfl))]
 have h0:Asa 6 ((1,str [120],0,0) :: (5,str [61],0,2) :: (5,str [123],0,4) :: (svT n 5).map Ahw)=some (.ok (.mk 6 (str [120]) 0 0 []) ((5,str [61],0,2) :: (5,str [123],0,4) :: (svT n 5).map Ahw)):=rfl
 rw [h0]
 show PV.bind (Aj9 (f+n+17) 0 (.mk 6 (str [120]) 0 0 []) ((5,str [61],0,2) :: (5,str [123],0,4) :: (svT n 5).map Ahw)) _=_
 rw [h1]
 show (if (isH kEq ((5,str [61],0,2) :: (5,str [123],0,4) :: (svT n 5).map Ahw) || isH Amo ((5,str [61],0,2) :: (5,str [123],0,4) :: (svT n 5).map Ahw))=true then _ else _)=_
 rw [if_pos (by kernel_rfl),h2]
 show PV.bind (Amd kEq ((5,str [61],0,2) :: (5,str [123],0,4) :: (svT n 5).map Ahw)) _=_
 unfold Amd
 rw [if_pos (by kernel_rfl)]
 show PV.bind (Aj5 (f+n+18) ((5,str [123],0,4) :: (svT n 5).map Ahw)) _=_
 rw [h3]
 rfl
theorem Chq:∀ n p,(svT n p).length=2 * n+2
 | 0,_=>rfl
 | n+1,p=>by simp only [svT,List.length_cons,Chq n];omega
def baC (n:Nat):Tree:=.mk 20 noB 0 0 [Atd n]
theorem Cl1 (n:Nat) (hn:n≤201):Asy (str (baB n))=A8s (baC n):=by
 have hl:(baB n).length≤20000:=by unfold baB;simp only [List.length_append,List.length_cons,List.length_nil,Bn1];omega
 have hs:Aoq (baB n)=.inr (baT n):=by rw [Da5 _ hl,Cl2]
 refine Bxr (r:=[(6,str [],0,((5+3 * n+1:Nat):Int))]) (by rw [Avd];exact hs) ?_
 unfold A3w Aph
 have hf:Aj4 (fu ((baT n).map Ahw)) true ((baT n).map Ahw)=some (.ok (baC n) [(6,str [],0,((5+3 * n+1:Nat):Int))]):=by
  obtain ⟨m,hm⟩:∃ m,fu ((baT n).map Ahw)=m+n+20+2:=⟨fu ((baT n).map Ahw) - 22 - n,by
   unfold fu baT;simp only [List.length_map,List.length_cons,Chq];omega⟩
  have e:(baT n).map Ahw=(1,str [120],0,0) :: (5,str [61],0,2) :: (5,str [123],0,4) :: (svT n 5).map Ahw:=rfl
  have hst:=Dbx n m
  rw [hm,Aj4]
  rw [e] at hst ⊢
  show Ajo (m+n+20+1) true 0 [] _=_
  rw [Ajo,if_neg (ne_true_of_eq_false (by kernel_rfl)),if_neg (ne_true_of_eq_false (by kernel_rfl)),if_neg (ne_true_of_eq_false (by kernel_rfl)),if_neg (ne_true_of_eq_false (by kernel_rfl)),hst]
  show Ajo (m+n+19+1) true 0 [Atd n] _=_
  rw [Ajo,if_neg (ne_true_of_eq_false (by kernel_rfl)),if_neg (ne_true_of_eq_false (by kernel_rfl)),if_neg (ne_true_of_eq_false (by kernel_rfl)),if_pos (by kernel_rfl)]
  rfl
 rw [hf]
 rfl
end
end Go.Proofs.YtkdjiehclahliaaGreatDoor
