/- Texts of mine for genBatches_card, part 9. -/
import Derived.Test.YtkdjiehclahliaaGreatDoorGbH
set_option linter.unusedSimpArgs false
set_option linter.unusedVariables false
set_option linter.unusedSectionVars false
namespace Go.Proofs.YtkdjiehclahliaaGreatDoor
set_option maxRecDepth 100000
section
open Go Go.RowKit Lx
abbrev v7:V3:=(2,7,⟨#[]⟩)
theorem C00 (d:Nat) (s:CSt) (p:Nat) (h:s.cs=[]∨s.cs=[v7]):Aeo (d+2) [] s (svI p) false=.ok { s with cs:=[v7] }:=by
 have hc:Ax5 (p:Int) s.cs v7=.ok [v7]:=by
  rcases h with h | h
  ·rw [h];rfl
  ·rw [h];kernel_rfl
 unfold svI Aeo
 simp only [Int.reduceEq,if_false]
 unfold Ath
 simp only [Int.reduceEq,if_false,false_and]
 unfold Ai1 Aeo
 simp only [Int.reduceEq,if_false]
 unfold Ath
 simp only [Int.reduceEq,if_false,if_true]
 rw [hc]
 rfl
theorem B87 (d:Nat):∀ (n p:Nat) (s:CSt),s.cs=[]∨s.cs=[v7]→Ai1 (fun s x=>Aeo (d+2) [] s x false) s (Air n p)=.ok { s with cs:=if n=0 then s.cs else [v7] }
 | 0,p,s,h=>rfl
 | n+1,p,s,h=>by
  unfold Air Ai1
  rw [C00 d s p h]
  show Ai1 _ { s with cs:=[v7] } (Air n (p+3))=_
  rw [B87 d n (p+3) _ (.inr rfl)]
  cases n <;> rfl
theorem Chw:∀ n p,(Air n p).length=n
 | 0,_=>rfl
 | n+1,p=>by simp only [Air,List.length_cons,Chw n]
theorem Chu:∀ n p,Aw5 (Air n p)≤2
 | 0,_=>Nat.zero_le _
 | n+1,p=>by
  have:=Chu n (p+3)
  simp only [Air,svI,Aw5,htT]
  omega
theorem Chr:∀ n p,∀ x ∈ Air n p,IsF x
 | 0,_,_,h=>nomatch h
 | n+1,p,x,h=>by
  rcases List.mem_cons.1 h with rfl | h
  ·exact .item (.atom (by decide) (by decide))
  ·exact Chr n (p+3) x h
theorem Ch8:∀ n p,szs (Air n p)=2 * n
 | 0,_=>rfl
 | n+1,p=>by simp only [Air,svI,szs,sz,Ch8 n];omega
def stB (n:Nat):CSt:={ st0 with gl:=[str [120]],cs:=if n=0 then [] else [v7] }
theorem Clw (n:Nat) (hn:n≤200):A0q 100000 (baC n)=.ok (stB n):=by
 have h2:=Chu n 5
 have hh:¬ htT (baC n) > 100:=by simp only [baC,Atd,As4,htT,Aw5,List.cons_append,List.nil_append];omega
 unfold A0q
 rw [if_neg hh]
 unfold baC Atd
 have hx:Aeo 99998 [] st0 (.mk 6 (str [120]) 0 0 []) true=.ok { st0 with gl:=[str [120]] }:=by kernel_rfl
 have hfew:∀ a m,(n:Int)≤m→Aoe a (n:Int) m=.ok ():=fun a m h=>by unfold Aoe;rw [if_neg (by omega)]
 have ht:Aeo 99998 [] { st0 with gl:=[str [120]] } (As4 n) false=.ok (stB n):=by
  unfold As4
  rw [show (99998:Nat)=99995+2+1 from rfl]
  unfold Aeo
  simp only [Int.reduceEq,if_false]
  unfold Ath
  simp only [Int.reduceEq,if_false,if_true]
  rw [Chw,hfew 4 200 (by omega)]
  show Ai1 _ _ _=_
  rw [B87 99995 n 5 _ (.inl rfl)]
  cases n <;> rfl
 rw [show (100000:Nat)=99998+1+1 from rfl]
 have hst:Aeo (99998+1) [] st0 (.mk 22 noB ((1:Nat):Int) 0 ([.mk 6 (str [120]) 0 0 []]++[As4 n])) false=.ok (stB n):=by
  unfold Aeo
  simp only [Int.reduceEq,if_false,if_true]
  show Ar5 (fun s x b=>Aeo 99998 [] s x b) ((1:Nat):Int) 0 st0 [.mk 6 (str [120]) 0 0 [],As4 n]=_
  unfold Ar5
  show PR.th (Aeo 99998 [] st0 (.mk 6 (str [120]) 0 0 []) true) _=_
  rw [hx]
  show Ar5 (fun s x b=>Aeo 99998 [] s x b) ((1:Nat):Int) 1 { st0 with gl:=[str [120]] } [As4 n]=_
  unfold Ar5
  show PR.th (Aeo 99998 [] { st0 with gl:=[str [120]] } (As4 n) false) _=_
  rw [ht]
  rfl
 unfold Aeo
 rw [if_pos rfl]
 unfold Ai1
 rw [hst]
 rfl
def Aos (n:Nat):GCx:=⟨(stB n).cs,(stB n).gl,str (baB n)⟩
def itF (cx:GCx):Int→Nat→Tree→Cd:=Acf cx [] 80008
theorem C0w (n p q:Nat) (h:n≠0):itF (Aos n) 1 p (.mk 4 noB 7 (q:Int) [])=[i1 2 1]:=by
 unfold itF Aos stB
 rw [if_neg h,show (80008:Nat)=80007+1 from rfl,B5l]
 show [i1 2 (csN [v7] v7)]=_
 rw [show csN [v7] v7=1 by kernel_rfl]
theorem Cf5:∀ n p,As1 (Air n p)=false
 | 0,_=>rfl
 | 1,_=>rfl
 | n+2,p=>by
  have ih:=Cf5 (n+1) (p+3)
  unfold As1 at ih ⊢
  simp only [Air] at ih ⊢
  rw [List.getLast?_cons_cons]
  exact ih
theorem B85:∀ n p,itN false (Air n p)=n
 | 0,_=>rfl
 | n+1,p=>by simp only [Air,svI,itN,Ba3,B85 n,Int.reduceEq,if_false,Bool.false_and,Bool.false_eq_true];omega
theorem B6a:∀ n p,fdN (Air n p)=0
 | 0,_=>rfl
 | n+1,p=>by simp only [Air,svI,fdN,Ba3,B6a n,Int.reduceEq,if_false]
theorem Cly (n:Nat):(Bah (str (baB n)) (baC n) (stB n))=[(⟨#[]⟩,0,0,(stB n).cs,i1 1 1 :: i2 26 (n:Nat) 0 :: (Alh (itF (Aos n)) false 2 0 1 (Air n 5)++[i1 14 0,i1 9 1,i1 15 1,i0 22,i0 25]))]:=by
 unfold Bah
 have e1:Aea 0 (An0 (Aos n) dG [] 0 1 [Atd n])=i1 1 1 :: i2 26 (n:Nat) 0 :: (Alh (itF (Aos n)) false 2 0 1 (Air n 5)++[i1 14 0,i1 9 1,i1 15 1]):=by
  have hs:(Aeb (Aos n) (80009+1) [] 1 (Atd n)).1=Agx (A2k (Aos n) [] (Acf (Aos n) [] (80008+1)) 1 [.mk 6 (str [120]) 0 0 []] [As4 n]):=by
   unfold Atd
   exact congrArg Prod.fst (Bhl (l:=[.mk 6 (str [120]) 0 0 []]) (m:=[As4 n]))
  have hk:(Atd n).kind≠31:=by unfold Atd;show (22:Int)≠31;decide
  simp only [An0,if_neg hk]
  rw [show dG=80009+1 from rfl,hs,List.append_nil]
  show i1 1 (Amq (str (baB n)) (Atd n).at_) :: Aea 0 (Agx _)=_
  rw [A2s]
  have hl:Amq (str (baB n)) (Atd n).at_=1:=by
   unfold Amq Atd
   show (if (0:Int) < 0∨(0:Int) > ((str (baB n)).size:Int) then 0 else A7l ((str (baB n)).size+1) (bs (str (baB n))) 0 1)=1
   rw [if_neg (by omega)]
   unfold A7l
   split
   ·rfl
   ·rw [if_pos (by decide)]
  rw [hl]
  congr 1
  unfold A2k Apw As5
  simp only [Ba3,Int.reduceEq,if_false,As5,List.nil_append,List.length_nil,Nat.add_zero,List.length_cons,if_true,Ahl,List.append_nil,As4,Nat.zero_add]
  rw [B5k,Cf5,B85,B6a]
  have hp:A0k (Aos n) [] 1 [.mk 6 (str [120]) 0 0 []]=[i1 14 0,i1 9 1]:=by kernel_rfl
  rw [hp]
  rfl
 show [(_,_,_,_,Aea 0 (An0 (Aos n) dG [] 0 1 [Atd n])++[i0 22]++[i0 25])]=_
 rw [e1]
 simp only [List.append_assoc,List.cons_append,List.nil_append]
 rfl
abbrev LU:=List (ByteArray×Int×Int×List (Int×Int×ByteArray)×List (Int×Int×Int×Int))×List ByteArray×Int×Int
section
variable {u:ByteArray} {a b:Int} {cs:List V3} {gl:List ByteArray} {e0 e1:Int} {A:Int} {J:Int→Int→Option Bool}
def Apo (u:ByteArray) (a b:Int) (cs:List V3) (gl:List ByteArray) (e0 e1:Int) (c:Cd):LU:=([(u,a,b,cs,c)],gl,e0,e1)
theorem A9q (pre post:Cd) (z:Ins) (m:Nat) (x y:Int) (hz:z.1≠26∧z.1≠2∧z.1≠28) (hl:pre.length≤1000000):Agw.l0 (m+1) A (Apo u a b cs gl e0 e1 (pre++z :: post)) J x y (pre.length:Int)=Agw.l0 m A (Apo u a b cs gl e0 e1 ((pre++[z])++post)) J x y ((pre++[z]).length:Int):=by
 rw [show pre++[z]++post=pre++z :: post by simp,show ((pre++[z]).length:Int)=(pre.length:Int)+1 by simp]
 simp only [Agw.l0]
 rw [show Acz (Apo u a b cs gl e0 e1 (pre++z :: post)).1 (0:Int)=some (u,a,b,cs,pre++z :: post) from rfl]
 simp only [Option.bind_some,Adg,Ah5]
 rw [ltT (by simp;omega),cond_true,neC hz.1,neC hz.2.1,neC hz.2.2,cond_false,cond_false,cond_false,wiC _ (by omega) (by omega)]
theorem B3l (pre post:Cd) (v:Int) (m:Nat) (x y:Int) (hy:0≤y∧y≤1000000) (hl:pre.length≤1000000):Agw.l0 (m+1) A (Apo u a b cs gl e0 e1 (pre++i1 2 v :: post)) J x y (pre.length:Int)=Agw.l0 m A (Apo u a b cs gl e0 e1 ((pre++[i1 2 v])++post)) J x (y+1) ((pre++[i1 2 v]).length:Int):=by
 rw [show pre++[i1 2 v]++post=pre++i1 2 v :: post by simp,show ((pre++[i1 2 v]).length:Int)=(pre.length:Int)+1 by simp]
 simp only [Agw.l0]
 rw [show Acz (Apo u a b cs gl e0 e1 (pre++i1 2 v :: post)).1 (0:Int)=some (u,a,b,cs,pre++i1 2 v :: post) from rfl]
 simp only [Option.bind_some,Adg,Ah5]
 rw [ltT (by simp;omega),cond_true,wiC ((pre.length:Int)+1) (by omega) (by omega),wiC (y+1) (by omega) (by omega)]
 rfl
theorem B3k (pre post:Cd) (m:Nat) (x y:Int) (hy:1≤y∧y≤50) (hx:0≤x∧x≤1000000) (hl:pre.length≤1000000):Agw.l0 (m+1) A (Apo u a b cs gl e0 e1 (pre++i2 28 y x :: post)) J x y (pre.length:Int)=Agw.l0 m A (Apo u a b cs gl e0 e1 ((pre++[i2 28 y x])++post)) J (x+y) 0 ((pre++[i2 28 y x]).length:Int):=by
 rw [show pre++[i2 28 y x]++post=pre++i2 28 y x :: post by simp,show ((pre++[i2 28 y x]).length:Int)=(pre.length:Int)+1 by simp]
 simp only [Agw.l0]
 rw [show Acz (Apo u a b cs gl e0 e1 (pre++i2 28 y x :: post)).1 (0:Int)=some (u,a,b,cs,pre++i2 28 y x :: post) from rfl]
 simp only [Option.bind_some,Adg,Ah5,i2]
 rw [ltT (by simp;omega),cond_true,show ((28:Int) == 26)=false from rfl,show ((28:Int) == 2)=false from rfl,show ((28:Int) == 28)=true from rfl,cond_false,cond_false,cond_true,bne_self_eq_false,bne_self_eq_false,cond_false,cond_false,decide_eq_false (by omega),cond_false,decide_eq_false (by omega),Option.bind_some,cond_false,wiC (x+y) (by omega) (by omega),wiC _ (by omega) (by omega)]
theorem Cmh (pre post:Cd) (m:Nat) (x y:Int) (hy:0≤y∧y≤50) (hx:0≤x∧x≤1000000) (hl:pre.length≤1000000):∃ m',m≤m'∧Agw.l0 (m+1) A (Apo u a b cs gl e0 e1 (pre++(Aqi y x++post))) J x y (pre.length:Int)=Agw.l0 m' A (Apo u a b cs gl e0 e1 ((pre++Aqi y x)++post)) J (x+y) 0 ((pre++Aqi y x).length:Int):=by
 unfold Aqi
 by_cases h:y > 0
 ·rw [if_pos h]
  exact ⟨m,Nat.le_refl _,B3k pre post m x y ⟨by omega,hy.2⟩ hx hl⟩
 ·rw [if_neg h]
  have:y=0:=by omega
  subst this
  exact ⟨m+1,Nat.le_succ _,by simp⟩
theorem Bzd (n:Nat) (hn0:n≠0):∀ (i q p:Nat) (w key:Int) (pre post:Cd) (m:Nat),0≤w→w < 50→0≤key→key+i+w≤1000000→pre.length+2 * i≤900000→∃ m',m≤m' ∧
  Agw.l0 (m+2 * i+1) A (Apo u a b cs gl e0 e1 (pre++(Alh (itF (Aos n)) false p w key (Air i q)++post))) J key w (pre.length:Int)=Agw.l0 m' A (Apo u a b cs gl e0 e1 ((pre++Alh (itF (Aos n)) false p w key (Air i q))++post)) J (key+w+i) 0 ((pre++Alh (itF (Aos n)) false p w key (Air i q)).length:Int)
 | 0,q,p,w,key,pre,post,m,hw0,hw,hk0,hk,hl=>by
  obtain ⟨m',h1,h2⟩:=Cmh (u:=u) (a:=a) (b:=b) (cs:=cs) (gl:=gl) (e0:=e0) (e1:=e1) (A:=A) (J:=J) pre post m key w ⟨hw0,by omega⟩ ⟨hk0,by omega⟩ (by omega)
  refine ⟨m',h1,?_⟩
  simp only [Air,Alh]
  rw [show key+w+((0:Nat):Int)=key+w by omega]
  exact h2
 | i+1,q,p,w,key,pre,post,m,hw0,hw,hk0,hk,hl=>by
  have hc:=fun p=>C0w n p q hn0
  simp only [Air,svI,Alh,Ba3,Bu5,Int.reduceEq,if_false,Bool.false_and,Bool.false_eq_true,show ∀ z:Tree,Adx [z] 0=z from fun _=>rfl,hc,List.length_cons,List.length_nil]
  by_cases h50:w+1=50
  ·simp only [if_pos h50]
   obtain ⟨m',h1,h2⟩:=Bzd n hn0 i (q+3) (p+(0+1)+1) 0 (key+50) (pre++[i1 2 1]++[i2 28 50 key]) post m (by omega) (by omega) (by omega) (by omega) (by simp only [List.length_append,List.length_cons,List.length_nil];omega)
   refine ⟨m',h1,?_⟩
   have s1:=B3l (u:=u) (a:=a) (b:=b) (cs:=cs) (gl:=gl) (e0:=e0) (e1:=e1) (A:=A) (J:=J) pre (i2 28 50 key :: (Alh (itF (Aos n)) false (p+(0+1)+1) 0 (key+50) (Air i (q+3))++post)) 1 (m+2 * i+1+1) key w ⟨hw0,by omega⟩ (by omega)
   have s2:=B3k (u:=u) (a:=a) (b:=b) (cs:=cs) (gl:=gl) (e0:=e0) (e1:=e1) (A:=A) (J:=J) (pre++[i1 2 1]) (Alh (itF (Aos n)) false (p+(0+1)+1) 0 (key+50) (Air i (q+3))++post) (m+2 * i+1) key 50 ⟨by omega,by omega⟩ ⟨hk0,by omega⟩ (by simp only [List.length_append,List.length_cons,List.length_nil];omega)
   rw [h50] at s1
   have e:key+50+0+(i:Int)=key+w+((i+1:Nat):Int):=by omega
   rw [e] at h2
   rw [show m+2 * (i+1)+1=m+2 * i+1+1+1 by omega]
   simp only [List.append_assoc,List.cons_append,List.nil_append] at s1 s2 h2 ⊢
   exact s1.trans (s2.trans h2)
  ·simp only [if_neg h50]
   obtain ⟨m',h1,h2⟩:=Bzd n hn0 i (q+3) (p+(0+1)) (w+1) key (pre++[i1 2 1]) post (m+1) (by omega) (by omega) (by omega) (by omega) (by simp only [List.length_append,List.length_cons,List.length_nil];omega)
   refine ⟨m',by omega,?_⟩
   have s1:=B3l (u:=u) (a:=a) (b:=b) (cs:=cs) (gl:=gl) (e0:=e0) (e1:=e1) (A:=A) (J:=J) pre (Alh (itF (Aos n)) false (p+(0+1)) (w+1) key (Air i (q+3))++post) 1 (m+1+2 * i+1) key w ⟨hw0,by omega⟩ (by omega)
   have e:key+(w+1)+(i:Int)=key+w+((i+1:Nat):Int):=by omega
   rw [e] at h2
   rw [show m+2 * (i+1)+1=m+1+2 * i+1+1 by omega]
   simp only [List.append_assoc,List.cons_append,List.nil_append] at s1 h2 ⊢
   exact s1.trans h2
end
theorem Cmi (u:ByteArray) (a b:Int) (cs:List V3) (gl:TyC) (e0 e1:Int) (n:Nat) (hn:n≤200) (J:Int→Int→Option Bool) (pre post:Cd) (m:Nat) (x y:Int) (hl:pre.length≤1000000):Agw.l0 (m+1) (n:Int) (Apo u a b cs gl e0 e1 (pre++i2 26 (n:Int) 0 :: post)) J x y (pre.length:Int)=Agw.l0 m (n:Int) (Apo u a b cs gl e0 e1 ((pre++[i2 26 (n:Int) 0])++post)) J x y ((pre++[i2 26 (n:Int) 0]).length:Int):=by
 rw [show pre++[i2 26 (n:Int) 0]++post=pre++i2 26 (n:Int) 0 :: post by simp,show ((pre++[i2 26 (n:Int) 0]).length:Int)=(pre.length:Int)+1 by simp]
 have hw:IntKind.i64.wrap (Int.tmod (IntKind.u64.wrap (n:Int)) (201:Int))=(n:Int):=by
  have h1:IntKind.u64.wrap (n:Int)=(n:Int):=by unfold IntKind.wrap;simp [IntKind.bits,IntKind.signed];omega
  rw [h1,Int.tmod_eq_emod_of_nonneg (by omega),Int.emod_eq_of_lt (by omega) (by omega),wiC _ (by omega) (by omega)]
 simp only [Agw.l0]
 rw [show Acz (Apo u a b cs gl e0 e1 (pre++i2 26 (n:Int) 0 :: post)).1 (0:Int)=some (u,a,b,cs,pre++i2 26 (n:Int) 0 :: post) from rfl]
 simp only [Option.bind_some,Adg,Ah5,hw,i2]
 rw [ltT (by simp;omega),cond_true,show ((26:Int) == 26)=true from rfl,cond_true,bne_self_eq_false,cond_false,bne_self_eq_false,Option.bind_some,cond_false,wiC _ (by omega) (by omega)]
theorem Cme (k:Nat) (hk:1000000≤k) (n:Nat) (hn:n≤200):A9o k (n:Int) (Bah (str (baB n)) (baC n) (stB n),(stB n).gl,0,0)=some true:=by
 rw [Cly]
 have hw:IntKind.i64.wrap (Int.tmod (IntKind.u64.wrap (n:Int)) (201:Int))=(n:Int):=by
  have h1:IntKind.u64.wrap (n:Int)=(n:Int):=by unfold IntKind.wrap;simp [IntKind.bits,IntKind.signed];omega
  rw [h1,Int.tmod_eq_emod_of_nonneg (by omega),Int.emod_eq_of_lt (by omega) (by omega),wiC _ (by omega) (by omega)]
 obtain ⟨j,rfl⟩:∃ j,k=j+1+1:=⟨k - 2,by omega⟩
 unfold A9o
 have hq:(cond ((0:Int) != (0:Int)) (some true) (cond ((([(⟨#[]⟩,0,0,(stB n).cs,i1 1 1 :: i2 26 (n:Nat) 0 :: (Alh (itF (Aos n)) false 2 0 1 (Air n 5)++[i1 14 0,i1 9 1,i1 15 1,i0 22,i0 25]))]:List Agt).length:Int) != (1:Int)) (some true) (cond (decide ((IntKind.i64.wrap (Int.tmod (IntKind.u64.wrap (n:Int)) (201:Int))) > (0:Int))) ((some ((⟨#[]⟩,0,0,(stB n).cs,i1 1 1 :: i2 26 (n:Nat) 0 :: (Alh (itF (Aos n)) false 2 0 1 (Air n 5)++[i1 14 0,i1 9 1,i1 15 1,i0 22,i0 25])):Agt)).bind fun x81=>some (((x81.2.2.2.1.length:Nat):Int) != (1:Int))) (some false))):Option Bool)=some false:=by
  rw [hw]
  cases n with
  | zero=>rfl
  | succ n=>rw [decide_eq_true (by omega)];rfl
 refine (congrArg (fun z=>Option.bind z _) (show _=some false from hq)).trans ?_
 rw [Option.bind_some,cond_false,hw]
 dsimp only [Adg]
 generalize hJ:(fun (x19 x20:Int)=>((cond (x19 == IntKind.i64.wrap ((n:Int)+1)) (some (x20 == 0)) (some false):Option Bool).bind fun q22=>some q22))=J
 show Agw.l0 (j+1+1) (n:Int) (Apo ⟨#[]⟩ 0 0 (stB n).cs (stB n).gl 0 0 ([]++i1 1 1 :: (i2 26 (n:Nat) 0 :: (Alh (itF (Aos n)) false 2 0 1 (Air n 5)++[i1 14 0,i1 9 1,i1 15 1,i0 22,i0 25])))) J 1 0 ((([]:Cd).length:Nat):Int)=some true
 have tail:∀ (pre:Cd) (m:Nat),10≤m→pre.length≤900000→Agw.l0 m (n:Int) (Apo ⟨#[]⟩ 0 0 (stB n).cs (stB n).gl 0 0 (pre++[i1 14 0,i1 9 1,i1 15 1,i0 22,i0 25])) J ((n:Int)+1) 0 (pre.length:Int)=some true:=fun pre m hm hl=>by
  obtain ⟨m,rfl⟩:∃ m',m=m'+6:=⟨m - 6,by omega⟩
  have hl1:∀ (D:Cd) (z:Ins),(D++[z]).length=D.length+1:=fun D z=>by simp
  have hz:∀ o:Int,o≠26∧o≠2∧o≠28 ↔ o≠26∧o≠2∧o≠28:=fun o=>Iff.rfl
  rw [A9q pre [i1 9 1,i1 15 1,i0 22,i0 25] (i1 14 0) (m+5) _ _ (by unfold i1;decide) (by omega)]
  rw [A9q _ [i1 15 1,i0 22,i0 25] (i1 9 1) (m+4) _ _ (by unfold i1;decide) (by rw [hl1];omega)]
  rw [A9q _ [i0 22,i0 25] (i1 15 1) (m+3) _ _ (by unfold i1;decide) (by rw [hl1,hl1];omega)]
  rw [A9q _ [i0 25] (i0 22) (m+2) _ _ (by unfold i0;decide) (by rw [hl1,hl1,hl1];omega)]
  rw [A9q _ [] (i0 25) (m+1) _ _ (by unfold i0;decide) (by rw [hl1,hl1,hl1,hl1];omega)]
  simp only [Agw.l0]
  rw [show ∀ c:Cd,Acz (Apo ⟨#[]⟩ 0 0 (stB n).cs (stB n).gl 0 0 c).1 (0:Int)=some (⟨#[]⟩,0,0,(stB n).cs,c) from fun _=>rfl,Option.bind_some]
  rw [ltF (by simp),cond_false,← hJ,wiC _ (by omega) (by omega)]
  show (cond ((n:Int)+1 == (n:Int)+1) _ _:Option Bool).bind _=_
  rw [beq_self_eq_true]
  rfl
 rw [A9q [] _ (i1 1 1) (j+1) _ _ (by unfold i1;decide) (by simp)]
 rw [Cmi ⟨#[]⟩ 0 0 (stB n).cs (stB n).gl 0 0 n hn J ([]++[i1 1 1]) _ j _ _ (by simp)]
 by_cases h0:n=0
 ·subst h0
  refine tail _ _ (by omega) (by simp [Air,Alh,Aqi])
 ·obtain ⟨m',h1,h2⟩:=Bzd (u:=⟨#[]⟩) (a:=0) (b:=0) (cs:=(stB n).cs) (gl:=(stB n).gl) (e0:=0) (e1:=0) (A:=(n:Int)) (J:=J) n h0 n 5 2 0 1 ([]++[i1 1 1]++[i2 26 (n:Int) 0]) [i1 14 0,i1 9 1,i1 15 1,i0 22,i0 25] (j - 2 * n - 1) (by omega) (by omega) (by omega) (by omega) (by simp;omega)
  rw [show j - 2 * n - 1+2 * n+1=j by omega] at h2
  refine h2.trans ?_
  rw [show (1:Int)+0+(n:Int)=(n:Int)+1 by omega]
  refine tail _ _ (by omega) ?_
  have hF:∀ x ∈ Air n 5,IsF x:=Chr n 5
  have:=Bzb (f:=itF (Aos n)) (rest:=false) (l:=Air n 5) (p:=2) (w:=0) (key:=1) hF fun r p x y hx hy=>by
   rcases Bfh (hF x hx) with ⟨_,_,_,z,rfl,hz⟩ | ⟨_,_,_,z,v,rfl,hz,hv⟩
   ·obtain rfl:=List.mem_singleton.1 hy;exact Akw _ _ _ _ hz
   ·rcases List.mem_cons.1 hy with rfl | hy
    ·exact Akw _ _ _ _ hz
    ·obtain rfl:=List.mem_singleton.1 hy;exact Akw _ _ _ _ hv
  have hs:=Ch8 n 5
  simp only [List.length_append,List.length_cons,List.length_nil]
  omega
theorem B3r (A:Int) (n:Nat) (hn:n≤200) (hA:IntKind.i64.wrap (Int.tmod (IntKind.u64.wrap A) (201:Int))=(n:Int)) (J:ByteArray→Option Bool):∀ (d i m:Nat),i+d=n→d < m→Agw.l1 m A J (str ([120,32,61,32,123]++svB i)) (i:Int)=J (str ([120,32,61,32,123]++svB n))
 | 0,i,m,h,hm=>by
  obtain ⟨m,rfl⟩:∃ m',m=m'+1:=⟨m - 1,by omega⟩
  obtain rfl:i=n:=by omega
  simp only [Agw.l1]
  rw [hA,ltF (by omega),cond_false]
 | d+1,i,m,h,hm=>by
  obtain ⟨m,rfl⟩:∃ m',m=m'+1:=⟨m - 1,by omega⟩
  simp only [Agw.l1]
  have hc:Auy (str ([120,32,61,32,123]++svB i)) (⟨#[55,44,32]⟩:ByteArray)=some (str ([120,32,61,32,123]++svB (i+1))):=by
   rw [A94 (by rw [A8o];simp only [List.length_append,List.length_cons,List.length_nil,Bn1];show _+3≤_;omega),← Cho]
   rfl
  rw [hA,ltT (by omega),cond_true,hc,Option.bind_some,wiC _ (by omega) (by omega)]
  exact B3r A n hn hA J d (i+1) m (by omega) (by omega)
theorem Cmj (k:Nat) (hk:1000000≤k) (A:Int):Agw.f k A=some true:=by
 obtain ⟨n,hA,hn⟩:∃ n:Nat,IntKind.i64.wrap (Int.tmod (IntKind.u64.wrap A) (201:Int))=n∧n < 201:=by
  have h0:0≤IntKind.u64.wrap A:=by unfold IntKind.wrap;simp [IntKind.bits,IntKind.signed];omega
  have h1:Int.tmod (IntKind.u64.wrap A) (201:Int)=(IntKind.u64.wrap A) % (201:Int):=Int.tmod_eq_emod_of_nonneg h0
  have h2:=Int.emod_nonneg (IntKind.u64.wrap A) (b:=(201:Int)) (by omega)
  have h3:=Int.emod_lt_of_pos (IntKind.u64.wrap A) (b:=(201:Int)) (by omega)
  rw [h1,wiC _ (by omega) (by omega)]
  exact ⟨((IntKind.u64.wrap A) % (201:Int)).toNat,by omega,by omega⟩
 have hw:IntKind.i64.wrap (Int.tmod (IntKind.u64.wrap (n:Int)) (201:Int))=(n:Int):=by
  have h1:IntKind.u64.wrap (n:Int)=(n:Int):=by unfold IntKind.wrap;simp [IntKind.bits,IntKind.signed];omega
  rw [h1,Int.tmod_eq_emod_of_nonneg (by omega),Int.emod_eq_of_lt (by omega) (by omega),wiC _ (by omega) (by omega)]
 unfold Agw.f
 rw [Cq5 k (by omega),Option.bind_some,show (!true)=false from rfl,cond_false]
 dsimp only [Adg]
 refine (B3r A n (by omega) hA _ n 0 k (by omega) (by omega)).trans ?_
 have hc:Auy (str ([120,32,61,32,123]++svB n)) (⟨#[125]⟩:ByteArray)=some (str (baB n)):=by
  rw [A94 (by rw [A8o];simp only [List.length_append,List.length_cons,List.length_nil,Bn1];show _+1≤_;omega)]
  rfl
 rw [hc,Option.bind_some,gen_eq k (by omega),Option.bind_some]
 have hg:Bjw (str (baB n))=(Bah (str (baB n)) (baC n) (stB n),(stB n).gl,0,0):=by
  unfold Bjw
  rw [Cl1 n (by omega)]
  show (match A0q 100000 (baC n) with | .bad e=>([],[],e.1,e.2) | .ok s=>(Bah (str (baB n)) (baC n) s,s.gl,0,0))=_
  rw [Clw n (by omega)]
 rw [hg]
 show A9o k A _=_
 rw [Cmd (hA.trans hw.symm)]
 exact Cme k hk n (by omega)
theorem Cmk (A:Int):Agw.f 1000000 A=some true:=Cmj 1000000 (Nat.le_refl _) A
end
end Go.Proofs.YtkdjiehclahliaaGreatDoor
