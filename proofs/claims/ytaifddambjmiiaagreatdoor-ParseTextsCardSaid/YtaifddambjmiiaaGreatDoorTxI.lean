/- Texts of mine for parseTexts_card, part 9. -/
import Derived.Lib.Strings
import Derived.Test.YtaifddambjmiiaaGreatDoorTxH
set_option linter.unusedSimpArgs false
set_option linter.unusedVariables false
set_option linter.unusedSectionVars false
namespace Go.Proofs.YtaifddambjmiiaaGreatDoor
set_option maxRecDepth 100000
section
open Go Go.RowKit Lx
def T6 (k:Nat) (s:Ah):Int->Int->List (Int×Int×Int)->Option (List (Int×Int×Int)) :=
 λx2 x3 l4=>cond (decide (x2 >= (0:Int))) ((Ls.f k x2 (Ar ((s.size:Int) - x2)) x3 l4).bind λr11=>some (r11.2)) (some (l4))
section
variable (s:Ah) (hs:s.size<=1048576)
include hs
theorem Ac7 (k0:Nat):∀ (d p m:Nat) (acc:List (Int×Int×Int)),s.size - p<=d+1->p < s.size->d+1 < m->acc.length<=p ->
  HZ.l0 m s (T6 k0 s) (p+(Ba ((bs s).drop p)).2) (p:Int) (((Ba ((bs s).drop p)).1:Nat):Int) acc=some (acc++HY (d+1) ((bs s).drop p) p)
 | d,p,m,acc,hd,hp,hm,hacc=>by
  obtain ⟨m,rfl⟩:∃ m',m=m'+1:=⟨m - 1,by omega⟩;have hl:=Gg s p hp;have hne:(bs s).drop p≠[]:=by rw [hl];simp
  have hw:=Gf ((bs s).drop p);have hw3:=hw.2.2 hne;rw [BA,B0] at hw3;obtain ⟨w,hww⟩:∃ w,w=(Ba ((bs s).drop p)).2:=⟨_,rfl⟩;obtain ⟨r,hrr⟩:∃ r,r=(Ba ((bs s).drop p)).1:=⟨_,rfl⟩;have hr:=M0 ((bs s).drop p);have eR:HY (d+1) ((bs s).drop p) p=((p:Int),(w:Int),(r:Int)) :: HY d ((bs s).drop (p+w)) (p+w):=by
   rw [HY,if_neg hne,<- hww,<- hrr,List.drop_drop]
  rw [<- hww] at hw hw3;rw [<- hrr] at hr;rw [eR,<- hww,<- hrr];have hone:∀ k (w':Int),w'=(w:Int)->Ls.f k (p:Int) (Ar w') (r:Int) acc=some (true,acc++[((p:Int),(w:Int),(r:Int))]):=by
   rintro k _ rfl;unfold Ls.f;rw [wi _ (by omega) (by omega),GP _ _ _ (by simp;omega)];rfl
  rw [HZ.l0];by_cases h:p+w < s.size;rw [dT (p:=p+w < ByteArray.size s) h];simp only [cond_true];unfold A2;rw [dT (p:=(p:Int) >= (0:Int)) (by omega)];simp only [cond_true];rw [hone _ _ (by omega)];simp only [Al,Bool.not_true,cond_false];obtain ⟨d,rfl⟩:∃ d',d=d'+1:=⟨d - 1,by omega⟩;have ih:=Ac7 k0 d (p+w) m (acc++[((p:Int),(w:Int),(r:Int))]) (by omega) h (by omega) (by simp;omega);have hr2:=M0 ((bs s).drop (p+w));have e1:MO s (p+w)=p+w+(Ba ((bs s).drop (p+w))).2:=by unfold MO;rw [decode_eq]
  have e2:Ar (Me s (p+w))=(((Ba ((bs s).drop (p+w))).1:Nat):Int):=by unfold Me;rw [decode_eq];exact wi _ (by omega) (by omega)
  rw [e1,e2,ih,Bx];rfl;rw [dF (p:=p+w < ByteArray.size s) h];simp only [cond_false];unfold T6;rw [dT (p:=(p:Int) >= (0:Int)) (by omega)];simp only [cond_true];rw [hone _ _ (by omega)];have e0:(bs s).drop (p+w)=[]:=List.drop_of_length_le (by rw [B0];omega);have e1:HY d [] (p+w)=[]:=by cases d <;> simp [HY]
  rw [e0,e1];rfl
 termination_by d=>d
theorem B0c (k:Nat) (hk:1048600<=k):O0.f k s=some (HY s.size (bs s) 0):=by
 have he:HZ.f k s []=some (HY s.size (bs s) 0):=by
  show HZ.l0 k s (T6 k s) 0 (-1:Int) (0:Int) []=_;obtain ⟨k,rfl⟩:∃ m',k=m'+1:=⟨k - 1,by omega⟩;rw [HZ.l0];by_cases h:0 < s.size;rw [dT (p:=0 < ByteArray.size s) h];simp only [cond_true];unfold A2;rw [dF (p:=(-1:Int) >= (0:Int)) (by omega)];simp only [cond_false];obtain ⟨n,hn⟩:∃ n,s.size=n+1:=⟨s.size - 1,by omega⟩;have ih:=Ac7 s hs (k+1) n 0 k [] (by omega) h (by omega) (Nat.zero_le _);have hr2:=M0 ((bs s).drop 0);have e1:MO s 0=0+(Ba ((bs s).drop 0)).2:=by unfold MO;rw [decode_eq]
  have e2:Ar (Me s 0)=(((Ba ((bs s).drop 0)).1:Nat):Int):=by unfold Me;rw [decode_eq];exact wi _ (by omega) (by omega)
  rw [e1,e2,hn];refine ih.trans ?_;rw [List.nil_append,List.drop_zero];rw [dF (p:=0 < ByteArray.size s) h];simp only [cond_false];unfold T6;rw [dF (p:=(-1:Int) >= (0:Int)) (by omega)];have h0:s.size=0:=by omega
  have hb:bs s=[]:=List.eq_nil_of_length_eq_zero (by rw [B0];exact h0);rw [h0];rfl
 unfold O0.f;rw [he];rfl
end
theorem Abi (l:Bs):ON (bI l)=true:=by
 unfold ON bI;rw [List.all_map,List.all_eq_true];intro x _;have:=x.toNat_lt;simp only [Function.comp_apply,decide_eq_true_eq];omega
theorem Bxw (s:Ah) (hs:s.size<=1048576) (k:Nat) (hk:1048600<=k):G6.f k s=some (str (PB (bs s))):=by
 have hq:=U6 s.size (bs s);rw [B0] at hq;unfold G6.f;have w0:∀ a:Bs,a.length<=100000000->FX.f k (bI a) (34:Int)=some (bI (a++[34])):=λa ha=>ZM k a 34 ha;have h0:=w0 [] (by simp);rw [show (bI []:List Int)=[] from rfl] at h0;rw [h0];simp only [Al];unfold A2;rw [B0c s hs k hk];simp only [Al];have hl:=Amd s hs (λ(MC:List Int)=>(FX.f k MC (34:Int)).bind λEe=>(Lv.f k Ee).bind λFE=>some (FE)) s.size 0 k [] [34] (by omega) (by omega) (by omega) (by simp) (by simp);rw [List.drop_zero,List.nil_append] at hl;refine hl.trans ?_;rw [w0 _ (by simp;omega)];simp only [Al];unfold Lv.f;rw [Abi];simp only [cond_true,Al];rw [O3];unfold PB;rw [B0];rfl
theorem Ao8 (m n:Nat) (hn:n < 16):Mc.f m (n:Int)=some (((EZ n).toNat:Nat):Int):=by
 unfold Mc.f EZ;by_cases h:n < 10;rw [dT (by omega),if_pos h];simp only [cond_true];rw [w8 _ (by omega) (by omega)];have:(UInt8.ofNat (48+n)).toNat=48+n:=by rw [UInt8.toNat_ofNat'];omega
 rw [this];congr 1;rw [dF (by omega),if_neg h];simp only [cond_false];rw [w8 ((97:Int)+(n:Int)) (by omega) (by omega),w8 _ (by omega) (by omega)];have:(UInt8.ofNat (87+n)).toNat=87+n:=by rw [UInt8.toNat_ofNat'];omega
 rw [this];congr 1;omega
section
variable (s:Ah) (hs:s.size<=1048576)
include hs
theorem Apb (J:List Int->Option Ah):∀ (d at_ m:Nat) (acc:Bs),s.size - at_<=d->at_<=s.size->d+5 < m->acc.length<=1+4 * at_ ->
  GC.l0 m s J (bI acc) (at_:Int)=J (bI (acc++FV d ((bs s).drop at_)))
 | d,at_,m,acc,hd,ha,hm,hacc=>by
  obtain ⟨m,rfl⟩:∃ m',m=m'+1:=⟨m - 1,by omega⟩;rcases Nat.lt_or_ge at_ s.size with h | h
  rotate_left
  ·have e0:(bs s).drop at_=[]:=List.drop_of_length_le (by rw [B0];omega)
   have e2:FV d []=[]:=by cases d <;> simp [FV]
   rw [e0,e2,List.append_nil,GC.l0];rw [dF (by omega)];rfl
  obtain ⟨d,rfl⟩:∃ d',d=d'+1:=⟨d - 1,by omega⟩;have hl:=Gg s at_ h;have hne:(bs s).drop at_≠[]:=by rw [hl];simp
  have hw:=Gf ((bs s).drop at_);have hw3:=hw.2.2 hne;rw [BA,B0] at hw3;obtain ⟨c,hc⟩:∃ c,c=s[at_]:=⟨_,rfl⟩;obtain ⟨t,ht⟩:∃ t,t=(bs s).drop (at_+1):=⟨_,rfl⟩;rw [<- hc,<- ht] at hl;obtain ⟨w,hww⟩:∃ w,w=(Ba ((bs s).drop at_)).2:=⟨_,rfl⟩;obtain ⟨r,hrr⟩:∃ r,r=(Ba ((bs s).drop at_)).1:=⟨_,rfl⟩;have eQ:FV (d+1) ((bs s).drop at_)=JE ((bs s).drop at_)++FV d ((bs s).drop (at_+w)):=by
   rw [FV,if_neg hne,<- hww,List.drop_drop]
  have hql:=YQ ((bs s).drop at_);rw [<- hww] at hw hw3 hql;have ih:=Apb J d (at_+w) m (acc++JE ((bs s).drop at_)) (by omega) (by omega) (by omega) (by rw [Bv];omega);rw [eQ,GC.l0,dT (by omega)];simp only [cond_true];rw [Abm s at_ m (by omega) h (by omega),<- hww,<- hrr];simp only [Al];rw [H_ s at_ h,<- hc];simp only [Al];generalize hJ:(λ(LQ:List Int)=>GC.l0 m s J LQ (Ar ((at_:Int)+(w:Int))))=K;have next:K (bI (acc++JE ((bs s).drop at_)))=J (bI (acc++(JE ((bs s).drop at_)++FV d ((bs s).drop (at_+w))))):=by
   rw [<- hJ];simp only;rw [wi _ (by omega) (by omega),show (at_:Int)+(w:Int)=((at_+w:Nat):Int) by omega,ih,Bx]
  unfold A2;rw [<- next];clear next ih hJ;have hlen:acc.length<=100000000:=by omega
  have e92:((c.toNat:Int) == (92:Int))=decide (c=92):=bq c 92;have e34:((c.toNat:Int) == (34:Int))=decide (c=34):=bq c 34;have e10:((c.toNat:Int) == (10:Int))=decide (c=10):=bq c 10;have e13:((c.toNat:Int) == (13:Int))=decide (c=13):=bq c 13;have e127:((c.toNat:Int) == (127:Int))=decide (c=127):=bq c 127;rw [e92,e34,e10,e13,e127];have put:∀ (e:Bs) (x:List Int),x=bI e->e.length<=100->apd 1 (bI acc) x=some (bI (acc++e)):=by
   rintro e _ rfl he;rw [GP _ _ _ (by rw [Eo,Eo];omega),IM]
  have q1:(cond (decide (c=92)) (some true) (some (decide (c=34))):Option Bool)=some (decide (c=92\/c=34)):=by
   by_cases h1:c=92 <;> simp [h1]
  rw [q1];simp only [Al];rw [hl];by_cases c1:c=92\/c=34
  ·rw [dT c1]
   simp only [cond_true];rw [put [92,c] [(92:Int),(c.toNat:Int)] rfl (by simp)];simp only [Al];rw [Je,if_pos c1]
  rw [dF c1];simp only [cond_false];by_cases c2:c=10
  ·rw [dT c2]
   simp only [cond_true];rw [put [92,110] [(92:Int),(110:Int)] rfl (by simp)];simp only [Al];rw [Je,if_neg c1,if_pos c2]
  rw [dF c2];simp only [cond_false];by_cases c3:c=13
  ·rw [dT c3]
   simp only [cond_true];rw [put [92,114] [(92:Int),(114:Int)] rfl (by simp)];simp only [Al];rw [Je,if_neg c1,if_neg c2,if_pos c3]
  rw [dF c3];simp only [cond_false];have q2:(cond (decide ((c.toNat:Int) < 32)) (some true) (some (decide (c=127))):Option Bool)=some (decide (c.toNat < 32\/c=127)):=by
   by_cases h1:c.toNat < 32
   ·rw [dT (p:=(c.toNat:Int) < 32) (by omega),dT (p:=c.toNat < 32\/c=127) (.inl h1)];rfl
   ·rw [dF (p:=(c.toNat:Int) < 32) (by omega)]
    simp [h1]
  rw [q2];simp only [Al];have hc8:=c.toNat_lt;have o8:∀ x:Nat,x < 256->(UInt8.ofNat x).toNat=x:=λx hx=>by rw [UInt8.toNat_ofNat'];omega
  by_cases c4:c.toNat < 32\/c=127
  ·rw [dT c4]
   simp only [cond_true];have v1:IntKind.u8.wrap ((48:Int)+(IntKind.u8.wrap (Int.tdiv (c.toNat:Int) (100:Int))))=(((UInt8.ofNat (48+c.toNat / 100)).toNat:Nat):Int):=by
    rw [show Int.tdiv (c.toNat:Int) (100:Int)=((c.toNat / 100:Nat):Int) from td c.toNat 100,w8 (((c.toNat / 100:Nat):Int)) (by omega) (by omega),w8 _ (by omega) (by omega),o8 _ (by omega)];omega
   have v2:IntKind.u8.wrap ((48:Int)+(Int.tmod (IntKind.u8.wrap (Int.tdiv (c.toNat:Int) (10:Int))) (10:Int)))=(((UInt8.ofNat (48+c.toNat / 10 % 10)).toNat:Nat):Int):=by
    rw [show Int.tdiv (c.toNat:Int) (10:Int)=((c.toNat / 10:Nat):Int) from td c.toNat 10,w8 (((c.toNat / 10:Nat):Int)) (by omega) (by omega),show Int.tmod ((c.toNat / 10:Nat):Int) (10:Int)=((c.toNat / 10 % 10:Nat):Int) from tm (c.toNat / 10) 10,w8 _ (by omega) (by omega),o8 _ (by omega)];omega
   have v3:IntKind.u8.wrap ((48:Int)+(Int.tmod (c.toNat:Int) (10:Int)))=(((UInt8.ofNat (48+c.toNat % 10)).toNat:Nat):Int):=by
    rw [show Int.tmod (c.toNat:Int) (10:Int)=((c.toNat % 10:Nat):Int) from tm c.toNat 10,w8 _ (by omega) (by omega),o8 _ (by omega)];omega
   rw [v1,v2,v3,put [92,UInt8.ofNat (48+c.toNat / 100),UInt8.ofNat (48+c.toNat / 10 % 10),UInt8.ofNat (48+c.toNat % 10)] [(92:Int),(((UInt8.ofNat (48+c.toNat / 100)).toNat:Nat):Int),(((UInt8.ofNat (48+c.toNat / 10 % 10)).toNat:Nat):Int),(((UInt8.ofNat (48+c.toNat % 10)).toNat:Nat):Int)] rfl (by simp)];simp only [Al];rw [Je,if_neg c1,if_neg c2,if_neg c3,if_pos c4]
  rw [dF c4];simp only [cond_false];have q3:(cond ((r:Int) == (65533:Int)) (some ((w:Int) == (1:Int))) (some false):Option Bool)=some (decide (r=65533/\w=1)):=by
   by_cases h1:r=65533
   ·rw [show ((r:Int) == (65533:Int))=true by rw [beq_iff_eq];omega]
    simp only [cond_true,Option.some.injEq,h1,true_and];rw [Bool.eq_iff_iff,beq_iff_eq,decide_eq_true_eq];omega
   ·rw [show ((r:Int) == (65533:Int))=false by rw [beq_eq_false_iff_ne];omega]
    simp [h1]
  rw [q3];simp only [Al];by_cases c5:r=65533/\w=1
  ·rw [dT c5]
   simp only [cond_true];rw [show Int.tdiv (c.toNat:Int) (16:Int)=((c.toNat / 16:Nat):Int) from td c.toNat 16,w8 _ (by omega) (by omega),show Int.tmod (c.toNat:Int) (16:Int)=((c.toNat % 16:Nat):Int) from tm c.toNat 16,Ao8 _ _ (by omega),Ao8 _ _ (by omega)];simp only [Al];rw [put [92,120,EZ (c.toNat / 16),EZ (c.toNat % 16)] [(92:Int),(120:Int),(((EZ (c.toNat / 16)).toNat:Nat):Int),(((EZ (c.toNat % 16)).toNat:Nat):Int)] rfl (by simp)];simp only [Al];rw [hl] at hrr hww;rw [Je,if_neg c1,if_neg c2,if_neg c3,if_neg c4,if_pos (by rw [<- hrr,<- hww];exact c5)]
  ·rw [dF c5]
   simp only [cond_false];rw [wi _ (by omega) (by omega),show (at_:Int)+(w:Int)=((at_+w:Nat):Int) by omega,PO s at_ (at_+w) (by omega) (by omega),show at_+w - at_=w by omega];simp only [Al];rw [OQ,F3,put _ _ rfl (by rw [List.length_take];omega)];simp only [Al];rw [hl] at hrr hww ⊢;rw [Je,if_neg c1,if_neg c2,if_neg c3,if_neg c4,if_neg (by rw [<- hrr,<- hww];exact c5),<- hww]
 termination_by d=>d
end
theorem Bz5 (s:Ah) (hs:s.size<=1048576) (k:Nat) (hk:1048600<=k):GC.f k s=some (str (PB (bs s))):=by
 have hq:=U6 s.size (bs s);rw [B0] at hq;unfold GC.f A2;have hl:=Apb s hs (λ(l2:List Int)=>(apd 1 l2 [(34:Int)]).bind λl9=>some ((strOfNums l9))) s.size 0 k [34] (by omega) (by omega) (by omega) (by simp);rw [List.drop_zero] at hl;refine hl.trans ?_;rw [show ([(34:Int)]:List Int)=bI [34] from rfl,GP _ _ _ (by rw [Eo,Eo];simp;omega),<- IM];simp only [Al];rw [O3];unfold PB;rw [B0];rfl
def Jf (t:Ah):Ah:=str (PB (bs t))
def kdT (l:List Tree) (i:Nat):Tree:=(l[i]?).getD (.mk 0 noB 0 0 [])
def IB (g:Tree->List Ah):List Tree->List Ah
 | []=>[]
 | y :: l=>D0 :: (g y++IB g l)
def rowT (g:Tree->List Ah):List Tree->List Ah
 | []=>[]
 | x :: l=>g x++IB g l
def G2 (g:Tree->List Ah):List Tree->List Ah
 | []=>[]
 | x :: l=>g x++EN :: G2 g l
def brT (g:Tree->List Ah):Ah->List Tree->List Ah
 | w,e :: b :: l=>w :: (g e++Jx :: (g b++brT g FP l))
 | _,[b]=>Ik :: (g b++[BM])
 | _,[]=>[BM]
def Tq (g:Tree->List Ah) (m:Nat) (l:List Tree):List Ah:=rowT g (l.take m)++(if m < l.length then Cb :: rowT g (l.drop m) else [])
def ltK (g:Tree->List Ah) (k n:Int) (t:Ah) (l:List Tree):List Ah :=
 if k=1 then [Kk] else if k=2 then [Kl] else if k=3 then [Ki]
 else if k=4 then [H8 n] else if k=5 then [Jf t] else if k=6 then [t]
 else if k=7 then g (kdT l 0)++FQ :: (g (kdT l 1)++[kRb])
 else if k=8 then g (kdT l 0)++DS :: (rowT g (l.drop 1)++[CV])
 else if k=9 then DS :: (g (kdT l 0)++[CV])
 else if k=10 then t :: g (kdT l 0)
 else if k=11 then g (kdT l 0)++t :: g (kdT l 1)
 else if k=12 then Kj :: (rowT g l++[G_])
 else if k=13 then g (kdT l 0)
 else if k=14 then FQ :: (g (kdT l 0)++kRb :: Cb :: g (kdT l 1))
 else if k=20 then G2 g l
 else if k=21 then I4 :: Tq g n.toNat l
 else if k=22 then Tq g n.toNat l
 else if k=23 then g (kdT l 0)
 else if k=24 then brT g kIf l
 else if k=25 then Km :: (g (kdT l 0)++Dt :: (g (kdT l 1)++[BM]))
 else if k=26 then F6 :: (g (kdT l 0)++Cb :: (rowT g ((l.drop 1).take (l.length - 2))++Dt :: (g (kdT l (l.length - 1))++[BM])))
 else if k=27 then F6 :: (rowT g (l.take n.toNat)++Il :: (rowT g ((l.drop n.toNat).take (l.length - 1 - n.toNat))++Dt :: (g (kdT l (l.length - 1))++[BM])))
 else if k=28 then Dt :: (g (kdT l 0)++[BM])
 else if k=29 then [Kh]
 else if k=30 then Jw :: rowT g l
 else Gm :: t :: DS :: (rowT g (l.take n.toNat)++CV :: (g (kdT l n.toNat)++[BM]))
def ltD:Nat->Tree->List Ah
 | 0,_=>[]
 | d+1,.mk k t n _ l=>ltK (ltD d) k n t l
def zc (x:Ah):Nat:=if x.size=0 then 2000000000000 else 0
def tw:List Ah->Nat
 | []=>0
 | x :: l=>x.size+1+zc x+tw l
theorem AO:∀ (l m:List Ah),tw (l++m)=tw l+tw m
 | [],m=>by simp [tw]
 | x :: l,m=>by simp only [List.cons_append,tw,AO l m];omega
theorem Aq8:∀ (l:List Ah),l.length<=tw l
 | []=>Nat.le_refl _
 | x :: l=>by have:=Aq8 l;simp only [AH,tw];omega
abbrev BT:Nat:=1000000000000
theorem apT {l m:List Ah} (h:tw (l++m)<=BT):apd 16 l m=some (l++m):=by
 have:=Aq8 (l++m);rw [Bv] at this;have hB:BT=1000000000000:=rfl;exact GP _ _ _ (by omega)
theorem ixT {l m:List Tree} {x:Tree}:Bm (l++x :: m) (l.length:Int)=some x:=by
 unfold Bm;rw [if_pos (by omega)];simp
theorem ix0 {x:Tree} {l:List Tree}:Bm (x :: l) (0:Int)=some x:=rfl
theorem CU {x y:Tree} {l:List Tree}:Bm (x :: y :: l) (1:Int)=some y:=rfl
theorem Fj (x:Int) (h1:-9223372036854775808<=x) (h2:x<=9223372036854775807):Ar x=x:=by unfold Ar IntKind.wrap;simp [IntKind.bits,IntKind.signed];omega
theorem deT {p:Prop} [Decidable p] (h:p):decide p=true:=decide_eq_true h
theorem GR {p:Prop} [Decidable p] (h:¬ p):decide p=false:=decide_eq_false h
theorem Gt {l:List Tree} {lo hi:Int} (a b:Nat) (ha:lo=a) (hb:hi=b) (h1:a<=b) (h2:b<=l.length):D1 l lo hi=some ((l.drop a).take (b - a)):=by
 subst ha hb;unfold D1;rw [decide_eq_true (by omega)];rfl
theorem Dr {x:Tree}:∀ {l:List Tree},x ∈ l->sz x<=AN l
 | y :: l,h=>by
  simp only [AN];rcases List.mem_cons.1 h with rfl | h;omega;have:=Dr h;omega
theorem szP (t:Tree):1<=sz t:=by cases t;simp only [sz];omega
section
variable {g:Tree->List Ah}
def OL (L:List Ah->Int->Ah->Int->Int->List Tree->Option (List Ah)) (g:Tree->List Ah) (x:Tree):Prop :=
 ∀ pre,tw (pre++g x)<=BT->L pre x.kind x.text x.n x.at_ x.kids=some (pre++g x)
theorem Apa {R:LA} (J:List Ah->Option (List Ah)):∀ (q p:List Tree) (m:Nat) (acc:List Ah),p.length+q.length<=10000000->q.length+1<=m->(∀ x ∈ q,OL R.Bc g x) ->
  tw (acc++(if p=[] then rowT g q else IB g q))<=BT->Dl.l0 m R (p++q) J acc (p.length:Int)=J (acc++(if p=[] then rowT g q else IB g q))
 | [],p,m,acc,hl,hm,_,_=>by
  obtain ⟨m,rfl⟩:∃ m',m=m'+1:=⟨m - 1,by omega⟩;simp only [Dl.l0];rw [GR (by simp)];simp only [cond_false];split <;> simp [rowT,IB]
 | x :: q,p,m,acc,hl,hm,hR,hB=>by
  obtain ⟨m,rfl⟩:∃ m',m=m'+1:=⟨m - 1,by omega⟩;simp only [AH] at hl hm;have ih:=λacc'=>Apa (R:=R) J q (p++[x]) m acc' (by simp;omega) (by omega) (λy hy=>hR y (DF _ hy));simp only [List.append_eq_nil_iff,List.cons_ne_nil,and_false,if_false,Bx,List.singleton_append,Bv,List.length_singleton] at ih;have hx:=hR x (Db ..);simp only [Dl.l0,A2];rw [deT (by simp;omega),ixT,Fj _ (by omega) (by omega)];simp only [cond_true,Al];by_cases hp:p=[];subst hp;simp only [if_true,rowT] at hB ⊢;rw [GR (by simp)];simp only [cond_false];rw [hx acc (by simp only [AO] at hB ⊢;omega)];simp only [Al];refine (ih (acc++g x) (by simpa only [Bx] using hB)).trans ?_;simp only [Bx];have:0 < p.length:=List.length_pos_iff.2 hp;simp only [if_neg hp,IB] at hB ⊢;rw [deT (by omega)];simp only [cond_true];rw [apT (m:=[D0]) (by simp only [AO,tw] at hB ⊢;omega)];simp only [Al];rw [hx _ (by simp only [AO,tw] at hB ⊢;omega)];simp only [Al];refine (ih (acc++[D0]++g x) (by simpa only [Bx,List.cons_append,List.nil_append] using hB)).trans ?_;simp only [Bx,List.cons_append,List.nil_append]
theorem Bz4 {R:LA} {k:Nat} {l:List Tree} {pre:List Ah} (hl:l.length<=10000000) (hk:l.length+1<=k) (hR:∀ x ∈ l,OL R.Bc g x) (hB:tw (pre++rowT g l)<=BT):Dl.g R k pre l=some (pre++rowT g l):=by
 unfold Dl.g A2;exact (Apa (g:=g) (R:=R) _ l [] k pre (by simpa using hl) hk hR hB)
theorem Abz {R:LA} (J:List Ah->Option (List Ah)):∀ (q p:List Tree) (m:Nat) (acc:List Ah),p.length+q.length<=10000000->q.length+1<=m->(∀ x ∈ q,OL R.Bc g x) ->
  tw (acc++G2 g q)<=BT->Bc.l0 m R (p++q) J acc (p.length:Int)=J (acc++G2 g q)
 | [],p,m,acc,hl,hm,_,_=>by
  obtain ⟨m,rfl⟩:∃ m',m=m'+1:=⟨m - 1,by omega⟩;simp only [Bc.l0];rw [GR (by simp)];simp [G2]
 | x :: q,p,m,acc,hl,hm,hR,hB=>by
  obtain ⟨m,rfl⟩:∃ m',m=m'+1:=⟨m - 1,by omega⟩;simp only [AH] at hl hm;have ih:=λacc'=>Abz (R:=R) J q (p++[x]) m acc' (by simp;omega) (by omega) (λy hy=>hR y (DF _ hy));simp only [Bx,List.singleton_append,Bv,List.length_singleton] at ih;have hx:=hR x (Db ..);simp only [Bc.l0];rw [deT (by simp;omega),ixT,Fj _ (by omega) (by omega)];simp only [cond_true,Al,G2] at hB ⊢;rw [hx acc (by simp only [AO] at hB ⊢;omega)];simp only [Al];rw [apT (m:=[EN]) (by simp only [AO,tw] at hB ⊢;omega)];simp only [Al];refine (ih (acc++g x++[EN]) (by simpa only [Bx,List.singleton_append] using hB)).trans ?_;simp only [Bx,List.singleton_append]
def KC (g:Tree->List Ah):Ah->List Tree->List Ah
 | w,e :: b :: l=>w :: (g e++Jx :: (g b++KC g FP l))
 | _,_=>[]
def lastT (g:Tree->List Ah) (l:List Tree):List Ah:=if l.length % 2=1 then Ik :: (g (kdT l (l.length - 1))++[BM]) else [BM]
theorem Acf:∀ (w:Ah) (l:List Tree),brT g w l=KC g w l++lastT g l
 | _,[]=>rfl
 | _,[b]=>rfl
 | w,e :: b :: l=>by
  have ih:=Acf FP l;have h1:lastT g (e :: b :: l)=lastT g l:=by
   unfold lastT;simp only [AH];rw [show (l.length+1+1) % 2=l.length % 2 by omega];by_cases h:l.length % 2=1;rw [if_pos h,if_pos h];have:kdT (e :: b :: l) (l.length+1+1 - 1)=kdT l (l.length - 1):=by
    unfold kdT;rw [show l.length+1+1 - 1=(l.length - 1)+1+1 by omega];simp
   rw [this];rw [if_neg h,if_neg h]
  simp only [brT,KC,ih,h1,List.cons_append,Bx]
theorem Ara {R:LA} (J:List Ah->Option (List Ah)):∀ (d:Nat) (q p:List Tree) (m:Nat) (acc:List Ah),q.length<=d->p.length+q.length<=10000000->q.length+1<=m->(∀ x ∈ q,OL R.Bc g x) ->
  tw (acc++KC g (if p=[] then kIf else FP) q)<=BT->Bc.l1 m R (p++q) J acc (p.length:Int)=J (acc++KC g (if p=[] then kIf else FP) q)
 | d,[],p,m,acc,_,hl,hm,_,_=>by
  obtain ⟨m,rfl⟩:∃ m',m=m'+1:=⟨m - 1,by omega⟩;simp only [AX] at hl;simp only [Bc.l1];rw [Fj _ (by omega) (by omega),GR (by simp only [Bv,AX];omega)];simp [KC]
 | d,[x],p,m,acc,_,hl,hm,_,_=>by
  obtain ⟨m,rfl⟩:∃ m',m=m'+1:=⟨m - 1,by omega⟩;simp only [AH,AX] at hl;simp only [Bc.l1];rw [Fj _ (by omega) (by omega),GR (by simp only [Bv,AH,AX];omega)];simp [KC]
 | 0,_ :: _ :: _,_,_,_,hd,_,_,_,_=>by simp at hd
 | d+1,x :: y :: q,p,m,acc,hd,hl,hm,hR,hB=>by
  obtain ⟨m,rfl⟩:∃ m',m=m'+1:=⟨m - 1,by omega⟩;simp only [AH] at hl hm hd;have ih:=λacc'=>Ara (R:=R) J d q (p++[x,y]) m acc' (by omega) (by simp;omega) (by omega) (λz hz=>hR z (DF _ (DF _ hz)));simp only [List.append_eq_nil_iff,List.cons_ne_nil,and_false,if_false,Bx,List.cons_append,List.nil_append,Bv,AH,AX] at ih;have hx:=hR x (Db ..);have hy:=hR y (DF _ (Db ..));have ey:Bm (p++x :: y :: q) ((p.length:Int)+1)=some y:=by
   have:=ixT (l:=p++[x]) (m:=q) (x:=y);rw [Bx,Bv] at this;exact this
  simp only [Bc.l1,A2];rw [Fj ((p.length:Int)+1) (by omega) (by omega),Fj ((p.length:Int)+2) (by omega) (by omega),deT (by simp;omega),ixT,ey];simp only [cond_true,Al,KC] at hB ⊢;have step:∀ w:Ah,tw (acc++w :: (g x++Jx :: (g y++KC g FP q)))<=BT ->
    ((apd 16 acc [w]).bind λl=>(R.Bc l x.kind x.text x.n x.at_ x.kids).bind λr=>(apd 16 r [Jx]).bind λl=>(R.Bc l y.kind y.text y.n y.at_ y.kids).bind λr=>Bc.l1 m R (p++x :: y :: q) J r ((p.length:Int)+2))=J (acc++w :: (g x++Jx :: (g y++KC g FP q))):=λw hB=>by
   rw [apT (by simp only [AO,tw] at hB ⊢;omega)];simp only [Al];rw [hx _ (by simp only [AO,tw] at hB ⊢;omega)];simp only [Al];rw [apT (by simp only [AO,tw] at hB ⊢;omega)];simp only [Al];rw [hy _ (by simp only [AO,tw] at hB ⊢;omega)];simp only [Al];refine (ih (acc++[w]++g x++[Jx]++g y) (by simpa only [Bx,List.cons_append,List.nil_append] using hB)).trans ?_;simp only [Bx,List.cons_append,List.nil_append]
  by_cases hp:p=[];subst hp;simp only [if_true] at hB ⊢;exact step kIf hB;have:0 < p.length:=List.length_pos_iff.2 hp;simp only [if_neg hp] at hB ⊢;rw [show (((p.length:Nat):Int) == (0:Int))=false by rw [beq_eq_false_iff_ne];omega];exact step FP hB
end
section
variable (g:Tree->List Ah)
theorem QD {d:Nat} {t:Ah} {a:Int} (l m:List Tree):ltD (d+1) (.mk 22 t (l.length:Nat) a (l++m))=rowT (ltD d) l++(if m=[] then [] else Cb :: rowT (ltD d) m):=by
 show Tq (ltD d) ((l.length:Nat):Int).toNat (l++m)=_;unfold Tq;simp only [Int.toNat_natCast,List.take_left,List.drop_left,Bv];by_cases hm0:m=[];subst hm0;simp;have:=List.length_pos_iff.2 hm0;rw [if_neg hm0,if_pos (by omega)]
theorem Tp {d:Nat} {t:Ah} {a:Int} (l m:List Tree):ltD (d+1) (.mk 21 t (l.length:Nat) a (l++m))=I4 :: (rowT (ltD d) l++(if m=[] then [] else Cb :: rowT (ltD d) m)):=by
 rw [<- QD (t:=t) (a:=a)];rfl
theorem dTi {p:Prop} {i:Decidable p} (h:p):@decide p i=true:=decide_eq_true h
theorem dFi {p:Prop} {i:Decidable p} (h:¬ p):@decide p i=false:=decide_eq_false h
theorem EG (k:Int) (t:Ah) (n a:Int) (l:List Tree):(Tree.mk k t n a l).kind=k:=rfl
theorem EI (k:Int) (t:Ah) (n a:Int) (l:List Tree):(Tree.mk k t n a l).text=t:=rfl
theorem tkN (k:Int) (t:Ah) (n a:Int) (l:List Tree):(Tree.mk k t n a l).n=n:=rfl
theorem EF (k:Int) (t:Ah) (n a:Int) (l:List Tree):(Tree.mk k t n a l).at_=a:=rfl
theorem EH (k:Int) (t:Ah) (n a:Int) (l:List Tree):(Tree.mk k t n a l).kids=l:=rfl
theorem Aik (l:List Tree) (b:Tree):kdT (l++[b]) ((l++[b]).length - 1)=b:=by unfold kdT;simp
theorem TG {d:Nat} {t:Ah} {n a:Int} (x b:Tree) (l:List Tree):ltD (d+1) (.mk 26 t n a (x :: l++[b]))=F6 :: (ltD d x++Cb :: (rowT (ltD d) l++Dt :: (ltD d b++[BM]))):=by
 show F6 :: (ltD d (kdT (x :: l++[b]) 0)++Cb :: (rowT (ltD d) (((x :: l++[b]).drop 1).take ((x :: l++[b]).length - 2))++Dt :: (ltD d (kdT (x :: l++[b]) ((x :: l++[b]).length - 1))++[BM])))=_;rw [Aik,show ((x :: l++[b]).drop 1).take ((x :: l++[b]).length - 2)=l by simp];rfl
theorem TH {d:Nat} {t:Ah} {a:Int} (b:Tree) (l m:List Tree):ltD (d+1) (.mk 27 t (l.length:Nat) a (l++m++[b]))=F6 :: (rowT (ltD d) l++Il :: (rowT (ltD d) m++Dt :: (ltD d b++[BM]))):=by
 show F6 :: (rowT (ltD d) ((l++m++[b]).take ((l.length:Nat):Int).toNat)++Il :: (rowT (ltD d) (((l++m++[b]).drop ((l.length:Nat):Int).toNat).take ((l++m++[b]).length - 1 - ((l.length:Nat):Int).toNat))++Dt :: (ltD d (kdT (l++m++[b]) ((l++m++[b]).length - 1))++[BM])))=_;rw [Aik,Int.toNat_natCast,show (l++m++[b]).take l.length=l by simp,show ((l++m++[b]).drop l.length).take ((l++m++[b]).length - 1 - l.length)=m by simp]
theorem TF {d:Nat} {t:Ah} {a:Int} (b:Tree) (l:List Tree):ltD (d+1) (.mk 31 t (l.length:Nat) a (l++[b]))=Gm :: t :: DS :: (rowT (ltD d) l++CV :: (ltD d b++[BM])):=by
 show Gm :: t :: DS :: (rowT (ltD d) ((l++[b]).take ((l.length:Nat):Int).toNat)++CV :: (ltD d (kdT (l++[b]) ((l.length:Nat):Int).toNat)++[BM]))=_;rw [Int.toNat_natCast,show (l++[b]).take l.length=l by simp,show kdT (l++[b]) l.length=b by unfold kdT;simp]
end
theorem XO:∀ (d k:Nat) (x:Tree) (pre:List Ah),Pr x->sz x<=d->sz x<=100000->2 * d+1200000<=k->tw (pre++ltD d x)<=BT->Bc.g (LA.at k) k pre x.kind x.text x.n x.at_ x.kids=some (pre++ltD d x)
 | 0,_,x,_,_,h,_,_,_=>by have:=szP x;omega
 | d+1,k0,x,pre,hx,hs,h9,hk,hB=>by
  obtain ⟨k,rfl⟩:∃ k,k0=k+2:=⟨k0 - 2,by omega⟩;have L:∀ y,Pr y->sz y<=d->sz y<=100000->OL (LA.at (k+2)).Bc (ltD d) y:=λy h1 h2 h3 pre h4=>XO d (k+1) y pre h1 h2 h3 (by omega) h4;have L1:∀ y,Pr y->sz y<=d->sz y<=100000->OL (LA.at (k+1)).Bc (ltD d) y:=λy h1 h2 h3 pre h4=>XO d k y pre h1 h2 h3 (by omega) h4;have Rw:∀ (l:List Tree) (pre:List Ah),Prs l->AN l<=d->AN l<=100000->tw (pre++rowT (ltD d) l)<=BT->(LA.at (k+2)).Dl pre l=some (pre++rowT (ltD d) l):=λl pre h1 h2 h3 h4=>by
   have hln:=Et l;exact Bz4 (g:=ltD d) (R:=LA.at (k+1)) (k:=k+1) (by omega) (by omega) (λy hy=>L1 y (h1 y hy) (by have:=Dr hy;omega) (by have:=Dr hy;omega)) h4
  clear L1;cases hx with
  | @atom k n a t h =>
   rcases h with rfl | rfl | rfl;have e:ltD (d+1) (.mk 1 t n a [])=[Kk]:=rfl;rw [e] at hB ⊢;unfold Bc.g A2;simp only [EG,EI,tkN,EF,EH,Int.reduceBEq,cond_true,cond_false];rw [apT (m:=[Kk]) (by simp only [AO,tw] at hB ⊢;omega)];simp only [Al];have e:ltD (d+1) (.mk 2 t n a [])=[Kl]:=rfl;rw [e] at hB ⊢;unfold Bc.g A2;simp only [EG,EI,tkN,EF,EH,Int.reduceBEq,cond_true,cond_false];rw [apT (m:=[Kl]) (by simp only [AO,tw] at hB ⊢;omega)];simp only [Al];have e:ltD (d+1) (.mk 3 t n a [])=[Ki]:=rfl;rw [e] at hB ⊢;unfold Bc.g A2;simp only [EG,EI,tkN,EF,EH,Int.reduceBEq,cond_true,cond_false];rw [apT (m:=[Ki]) (by simp only [AO,tw] at hB ⊢;omega)];simp only [Al]
  | @int n a t h1 h2 =>
   have e:ltD (d+1) (.mk 4 t n a [])=[H8 n]:=rfl;simp only [sz,AN,Bu] at hs h9;rw [e] at hB ⊢;clear e;show Bc.g (LA.at (k+2)) (k+2) pre 4 t n a []=_;unfold Bc.g A2;simp only [EG,EI,tkN,EF,EH,Int.reduceBEq,cond_true,cond_false,ix0,CU,Al];rw [digits_eq (k+2) (by omega) n h1 h2];simp only [Al];rw [apT (m:=[H8 n]) (by simp only [AO,tw] at hB ⊢;omega)];simp only [Al]
  | @str n a t h1 =>
   have e:ltD (d+1) (.mk 5 t n a [])=[Jf t]:=rfl;simp only [sz,AN,Bu] at hs h9;rw [e] at hB ⊢;clear e;show Bc.g (LA.at (k+2)) (k+2) pre 5 t n a []=_;unfold Bc.g A2;simp only [EG,EI,tkN,EF,EH,Int.reduceBEq,cond_true,cond_false,ix0,CU,Al];rw [show GC.f (k+2) t=some (Jf t) from Bz5 t (by omega) (k+2) (by omega)];simp only [Al];rw [apT (m:=[Jf t]) (by simp only [AO,tw] at hB ⊢;omega)];simp only [Al]
  | @name n a t h1 h2 =>
   have e:ltD (d+1) (.mk 6 t n a [])=[t]:=rfl;simp only [sz,AN,Bu] at hs h9;rw [e] at hB ⊢;clear e;show Bc.g (LA.at (k+2)) (k+2) pre 6 t n a []=_;unfold Bc.g A2;simp only [EG,EI,tkN,EF,EH,Int.reduceBEq,cond_true,cond_false,ix0,CU,Al];rw [apT (m:=[t]) (by simp only [AO,tw] at hB ⊢;omega)];simp only [Al]
  | @index n a t x y hx hy =>
   have e:ltD (d+1) (.mk 7 t n a [x,y])=ltD d x++FQ :: (ltD d y++[kRb]):=rfl;simp only [sz,AN,Bu] at hs h9;rw [e] at hB ⊢;clear e;show Bc.g (LA.at (k+2)) (k+2) pre 7 t n a [x,y]=_;unfold Bc.g A2;simp only [EG,EI,tkN,EF,EH,Int.reduceBEq,cond_true,cond_false,ix0,CU,Al];rw [L x (by assumption) (by omega) (by omega) _ (by simp only [AO,tw] at hB ⊢;omega)];simp only [Al];rw [apT (m:=[FQ]) (by simp only [AO,tw] at hB ⊢;omega)];simp only [Al];rw [L y (by assumption) (by omega) (by omega) _ (by simp only [AO,tw] at hB ⊢;omega)];simp only [Al];rw [apT (m:=[kRb]) (by simp only [AO,tw] at hB ⊢;omega)];simp only [Al];simp only [Bx,List.cons_append,List.nil_append]
  | @call n a t x l hx hl =>
   have e:ltD (d+1) (.mk 8 t n a (x :: l))=ltD d x++DS :: (rowT (ltD d) l++[CV]):=rfl;simp only [sz,AN,Bu] at hs h9;rw [e] at hB ⊢;clear e;show Bc.g (LA.at (k+2)) (k+2) pre 8 t n a (x :: l)=_;unfold Bc.g A2;simp only [EG,EI,tkN,EF,EH,Int.reduceBEq,cond_true,cond_false,ix0,CU,Al];have hln:=Et l;rw [show D1 (x :: l) (1:Int) (((x :: l).length:Nat):Int)=some l by rw [Gt (lo:=(1:Int)) 1 (l.length+1) rfl (by simp) (by omega) (by simp)];simp];rw [L x (by assumption) (by omega) (by omega) _ (by simp only [AO,tw] at hB ⊢;omega)];simp only [Al];rw [apT (m:=[DS]) (by simp only [AO,tw] at hB ⊢;omega)];simp only [Al];rw [Rw l _ (by assumption) (by omega) (by omega) (by simp only [AO,tw] at hB ⊢;omega)];simp only [Al];rw [apT (m:=[CV]) (by simp only [AO,tw] at hB ⊢;omega)];simp only [Al];simp only [Bx,List.cons_append,List.nil_append]
  | @paren n a t x hx =>
   have e:ltD (d+1) (.mk 9 t n a [x])=DS :: (ltD d x++[CV]):=rfl;simp only [sz,AN,Bu] at hs h9;rw [e] at hB ⊢;clear e;show Bc.g (LA.at (k+2)) (k+2) pre 9 t n a [x]=_;unfold Bc.g A2;simp only [EG,EI,tkN,EF,EH,Int.reduceBEq,cond_true,cond_false,ix0,CU,Al];rw [apT (m:=[DS]) (by simp only [AO,tw] at hB ⊢;omega)];simp only [Al];rw [L x (by assumption) (by omega) (by omega) _ (by simp only [AO,tw] at hB ⊢;omega)];simp only [Al];rw [apT (m:=[CV]) (by simp only [AO,tw] at hB ⊢;omega)];simp only [Al];simp only [Bx,List.cons_append,List.nil_append]
  | @unary n a t x h1 h2 hx =>
   have e:ltD (d+1) (.mk 10 t n a [x])=t :: ltD d x:=rfl;simp only [sz,AN,Bu] at hs h9;rw [e] at hB ⊢;clear e;show Bc.g (LA.at (k+2)) (k+2) pre 10 t n a [x]=_;unfold Bc.g A2;simp only [EG,EI,tkN,EF,EH,Int.reduceBEq,cond_true,cond_false,ix0,CU,Al];rw [apT (m:=[t]) (by simp only [AO,tw] at hB ⊢;omega)];simp only [Al];rw [L x (by assumption) (by omega) (by omega) _ (by simp only [AO,tw] at hB ⊢;omega)];simp only [Al];simp only [Bx,List.cons_append,List.nil_append]
  | @binary n a t x y h1 h2 hx hy =>
   have e:ltD (d+1) (.mk 11 t n a [x,y])=ltD d x++t :: ltD d y:=rfl;simp only [sz,AN,Bu] at hs h9;rw [e] at hB ⊢;clear e;show Bc.g (LA.at (k+2)) (k+2) pre 11 t n a [x,y]=_;unfold Bc.g A2;simp only [EG,EI,tkN,EF,EH,Int.reduceBEq,cond_true,cond_false,ix0,CU,Al];rw [L x (by assumption) (by omega) (by omega) _ (by simp only [AO,tw] at hB ⊢;omega)];simp only [Al];rw [apT (m:=[t]) (by simp only [AO,tw] at hB ⊢;omega)];simp only [Al];rw [L y (by assumption) (by omega) (by omega) _ (by simp only [AO,tw] at hB ⊢;omega)];simp only [Al];simp only [Bx,List.cons_append,List.nil_append]
  | @table n a t l hl =>
   have e:ltD (d+1) (.mk 12 t n a l)=Kj :: (rowT (ltD d) l++[G_]):=rfl;simp only [sz,AN,Bu] at hs h9;rw [e] at hB ⊢;clear e;show Bc.g (LA.at (k+2)) (k+2) pre 12 t n a l=_;unfold Bc.g A2;simp only [EG,EI,tkN,EF,EH,Int.reduceBEq,cond_true,cond_false,ix0,CU,Al];rw [apT (m:=[Kj]) (by simp only [AO,tw] at hB ⊢;omega)];simp only [Al];rw [Rw l _ (by assumption) (by omega) (by omega) (by simp only [AO,tw] at hB ⊢;omega)];simp only [Al];rw [apT (m:=[G_]) (by simp only [AO,tw] at hB ⊢;omega)];simp only [Al];simp only [Bx,List.cons_append,List.nil_append]
  | @item n a t x hx =>
   have e:ltD (d+1) (.mk 13 t n a [x])=ltD d x:=rfl;simp only [sz,AN,Bu] at hs h9;rw [e] at hB ⊢;clear e;show Bc.g (LA.at (k+2)) (k+2) pre 13 t n a [x]=_;unfold Bc.g A2;simp only [EG,EI,tkN,EF,EH,Int.reduceBEq,cond_true,cond_false,ix0,CU,Al];rw [L x (by assumption) (by omega) (by omega) _ (by simp only [AO,tw] at hB ⊢;omega)];simp only [Al]
  | @field n a t x y hx hy =>
   have e:ltD (d+1) (.mk 14 t n a [x,y])=FQ :: (ltD d x++kRb :: Cb :: ltD d y):=rfl;simp only [sz,AN,Bu] at hs h9;rw [e] at hB ⊢;clear e;show Bc.g (LA.at (k+2)) (k+2) pre 14 t n a [x,y]=_;unfold Bc.g A2;simp only [EG,EI,tkN,EF,EH,Int.reduceBEq,cond_true,cond_false,ix0,CU,Al];rw [apT (m:=[FQ]) (by simp only [AO,tw] at hB ⊢;omega)];simp only [Al];rw [L x (by assumption) (by omega) (by omega) _ (by simp only [AO,tw] at hB ⊢;omega)];simp only [Al];rw [apT (m:=[kRb,Cb]) (by simp only [AO,tw] at hB ⊢;omega)];simp only [Al];rw [L y (by assumption) (by omega) (by omega) _ (by simp only [AO,tw] at hB ⊢;omega)];simp only [Al];simp only [Bx,List.cons_append,List.nil_append]
  | @block n a t l hl =>
   have e:ltD (d+1) (.mk 20 t n a l)=G2 (ltD d) l:=rfl;simp only [sz,AN,Bu] at hs h9;rw [e] at hB ⊢;clear e;show Bc.g (LA.at (k+2)) (k+2) pre 20 t n a l=_;unfold Bc.g A2;simp only [EG,EI,tkN,EF,EH,Int.reduceBEq,cond_true,cond_false,ix0,CU,Al];have hln:=Et l;exact Abz (R:=LA.at (k+2)) _ l [] (k+2) pre (by simp;omega) (by omega) (λy hy=>L y (hl y hy) (by have:=Dr hy;omega) (by have:=Dr hy;omega)) hB
  | @loc a t l m hl hm =>
   have e:ltD (d+1) (.mk 21 t (l.length:Nat) a (l++m))=I4 :: (rowT (ltD d) l++(if m=[] then [] else Cb :: rowT (ltD d) m)):=Tp l m;simp only [sz,AN,Bu] at hs h9;rw [e] at hB ⊢;clear e;show Bc.g (LA.at (k+2)) (k+2) pre 21 t (l.length:Nat) a (l++m)=_;unfold Bc.g A2;simp only [EG,EI,tkN,EF,EH,Int.reduceBEq,cond_true,cond_false,ix0,CU,Al];have hln:=Et l;have hlm:=Et m;rw [show D1 (l++m) (0:Int) ((l.length:Nat):Int)=some l by rw [Gt (lo:=(0:Int)) 0 l.length rfl rfl (Nat.zero_le _) (by simp)];simp];simp only [Al];by_cases hm0:m=[];subst hm0;simp only [if_true,List.append_nil] at hB ⊢;rw [apT (m:=[I4]) (by simp only [AO,tw] at hB ⊢;omega)];simp only [Al];rw [Rw l _ (by assumption) (by omega) (by omega) (by simp only [AO,tw] at hB ⊢;omega)];simp only [Al];rw [dFi (by simp)];simp only [cond_false,Al,Bx,List.cons_append,List.nil_append];have:=List.length_pos_iff.2 hm0;simp only [if_neg hm0] at hB ⊢;rw [apT (m:=[I4]) (by simp only [AO,tw] at hB ⊢;omega)];simp only [Al];rw [Rw l _ (by assumption) (by omega) (by omega) (by simp only [AO,tw] at hB ⊢;omega)];simp only [Al];rw [dTi (by simp;omega)];simp only [cond_true];rw [show D1 (l++m) ((l.length:Nat):Int) (((l++m).length:Nat):Int)=some m by rw [Gt l.length (l.length+m.length) rfl (by simp) (by omega) (by simp)];simp];simp only [Al];rw [apT (m:=[Cb]) (by simp only [AO,tw] at hB ⊢;omega)];simp only [Al];rw [Rw m _ (by assumption) (by omega) (by omega) (by simp only [AO,tw] at hB ⊢;omega)];simp only [Al];simp only [Bx,List.cons_append,List.nil_append]
  | @asg a t l m hl hm =>
   have e:ltD (d+1) (.mk 22 t (l.length:Nat) a (l++m))=rowT (ltD d) l++(if m=[] then [] else Cb :: rowT (ltD d) m):=QD l m;simp only [sz,AN,Bu] at hs h9;rw [e] at hB ⊢;clear e;show Bc.g (LA.at (k+2)) (k+2) pre 22 t (l.length:Nat) a (l++m)=_;unfold Bc.g A2;simp only [EG,EI,tkN,EF,EH,Int.reduceBEq,cond_true,cond_false,ix0,CU,Al];have hln:=Et l;have hlm:=Et m;rw [show D1 (l++m) (0:Int) ((l.length:Nat):Int)=some l by rw [Gt (lo:=(0:Int)) 0 l.length rfl rfl (Nat.zero_le _) (by simp)];simp];simp only [Al];by_cases hm0:m=[];subst hm0;simp only [if_true,List.append_nil] at hB ⊢;rw [Rw l _ (by assumption) (by omega) (by omega) (by simp only [AO,tw] at hB ⊢;omega)];simp only [Al];rw [dFi (by simp)];simp only [cond_false,Al,Bx,List.cons_append,List.nil_append];have:=List.length_pos_iff.2 hm0;simp only [if_neg hm0] at hB ⊢;rw [Rw l _ (by assumption) (by omega) (by omega) (by simp only [AO,tw] at hB ⊢;omega)];simp only [Al];rw [dTi (by simp;omega)];simp only [cond_true];rw [show D1 (l++m) ((l.length:Nat):Int) (((l++m).length:Nat):Int)=some m by rw [Gt l.length (l.length+m.length) rfl (by simp) (by omega) (by simp)];simp];simp only [Al];rw [apT (m:=[Cb]) (by simp only [AO,tw] at hB ⊢;omega)];simp only [Al];rw [Rw m _ (by assumption) (by omega) (by omega) (by simp only [AO,tw] at hB ⊢;omega)];simp only [Al];simp only [Bx,List.cons_append,List.nil_append]
  | @run n a t x hx =>
   have e:ltD (d+1) (.mk 23 t n a [x])=ltD d x:=rfl;simp only [sz,AN,Bu] at hs h9;rw [e] at hB ⊢;clear e;show Bc.g (LA.at (k+2)) (k+2) pre 23 t n a [x]=_;unfold Bc.g A2;simp only [EG,EI,tkN,EF,EH,Int.reduceBEq,cond_true,cond_false,ix0,CU,Al];rw [L x (by assumption) (by omega) (by omega) _ (by simp only [AO,tw] at hB ⊢;omega)];simp only [Al]
  | @if_ n a t l hl =>
   have e:ltD (d+1) (.mk 24 t n a l)=KC (ltD d) kIf l++lastT (ltD d) l:=Acf kIf l;simp only [sz,AN,Bu] at hs h9;rw [e] at hB ⊢;clear e;show Bc.g (LA.at (k+2)) (k+2) pre 24 t n a l=_;unfold Bc.g A2;simp only [EG,EI,tkN,EF,EH,Int.reduceBEq,cond_true,cond_false,ix0,CU,Al];have hln:=Et l;refine (Ara (g:=ltD d) (R:=LA.at (k+2)) _ l.length l [] (k+2) pre (Nat.le_refl _) (by simp;omega) (by omega) (λy hy=>L y (hl y hy) (by have:=Dr hy;omega) (by have:=Dr hy;omega)) (by simp only [if_true,AO] at hB ⊢;omega)).trans ?_;simp only [if_true];unfold lastT at hB ⊢;have e2:Int.tmod ((l.length:Nat):Int) 2=((l.length % 2:Nat):Int):=by rw [Int.tmod_eq_emod_of_nonneg (by omega)];omega
   rw [e2];by_cases h2:l.length % 2=1;rw [if_pos h2] at hB ⊢;rw [h2,show ((((1:Nat):Int)) == (1:Int))=true from rfl];simp only [cond_true];obtain ⟨l',b,rfl⟩:∃ l' b,l=l'++[b]:=⟨l.dropLast,l.getLast (by rintro rfl;simp at h2),(List.dropLast_concat_getLast _).symm⟩;rw [Fj _ (by omega) (by omega),show Bm (l'++[b]) ((((l'++[b]).length:Nat):Int) - 1)=some b by rw [show (((l'++[b]).length:Nat):Int) - 1=(l'.length:Int) by simp];exact ixT];have hkd:kdT (l'++[b]) ((l'++[b]).length - 1)=b:=by unfold kdT;simp
   rw [hkd] at hB ⊢;simp only [Bu,AN] at hs h9;have hb:Pr b:=hl b (by simp);simp only [Al];rw [apT (m:=[Ik]) (by simp only [AO,tw] at hB ⊢;omega)];simp only [Al];rw [L b (by assumption) (by omega) (by omega) _ (by simp only [AO,tw] at hB ⊢;omega)];simp only [Al];rw [apT (m:=[BM]) (by simp only [AO,tw] at hB ⊢;omega)];simp only [Al];simp only [Bx,List.cons_append,List.nil_append];rw [if_neg h2] at hB ⊢;rw [show (((l.length % 2:Nat):Int) == (1:Int))=false by rw [beq_eq_false_iff_ne];omega];simp only [cond_false];rw [apT (m:=[BM]) (by simp only [AO,tw] at hB ⊢;omega)];simp only [Al];simp only [Bx,List.cons_append,List.nil_append]
  | @while_ n a t x b hx hb =>
   have e:ltD (d+1) (.mk 25 t n a [x,b])=Km :: (ltD d x++Dt :: (ltD d b++[BM])):=rfl;simp only [sz,AN,Bu] at hs h9;rw [e] at hB ⊢;clear e;show Bc.g (LA.at (k+2)) (k+2) pre 25 t n a [x,b]=_;unfold Bc.g A2;simp only [EG,EI,tkN,EF,EH,Int.reduceBEq,cond_true,cond_false,ix0,CU,Al];rw [apT (m:=[Km]) (by simp only [AO,tw] at hB ⊢;omega)];simp only [Al];rw [L x (by assumption) (by omega) (by omega) _ (by simp only [AO,tw] at hB ⊢;omega)];simp only [Al];rw [apT (m:=[Dt]) (by simp only [AO,tw] at hB ⊢;omega)];simp only [Al];rw [L b (by assumption) (by omega) (by omega) _ (by simp only [AO,tw] at hB ⊢;omega)];simp only [Al];rw [apT (m:=[BM]) (by simp only [AO,tw] at hB ⊢;omega)];simp only [Al];simp only [Bx,List.cons_append,List.nil_append]
  | @for_ n a t x b l hx hl hb =>
   have e:ltD (d+1) (.mk 26 t n a (x :: l++[b]))=F6 :: (ltD d x++Cb :: (rowT (ltD d) l++Dt :: (ltD d b++[BM]))):=TG x b l;simp only [sz,AN,Bu] at hs h9;rw [e] at hB ⊢;clear e;show Bc.g (LA.at (k+2)) (k+2) pre 26 t n a (x :: l++[b])=_;unfold Bc.g A2;simp only [EG,EI,tkN,EF,EH,Int.reduceBEq,cond_true,cond_false,ix0,CU,Al];have hln:=Et l;obtain ⟨K,hK⟩:∃ K,K=x :: l++[b]:=⟨_,rfl⟩;have hlen:K.length=l.length+2:=by rw [hK];simp
   rw [<- hK];have i0:Bm K (0:Int)=some x:=by rw [hK];rfl
   have i1:Bm K (Ar ((((K.length:Nat)):Int) - (1:Int)))=some b:=by rw [hlen,Fj _ (by omega) (by omega),hK,show (((l.length+2:Nat)):Int) - 1=(((x :: l).length:Nat):Int) by simp;omega];exact ixT
   have i2:D1 K (1:Int) (Ar ((((K.length:Nat)):Int) - (1:Int)))=some l:=by rw [hlen,Fj _ (by omega) (by omega),Gt (lo:=(1:Int)) 1 (l.length+1) rfl (by omega) (by omega) (by omega),hK];simp
   rw [i0,i1,i2];simp only [Al];rw [apT (m:=[F6]) (by simp only [AO,tw] at hB ⊢;omega)];simp only [Al];rw [L x (by assumption) (by omega) (by omega) _ (by simp only [AO,tw] at hB ⊢;omega)];simp only [Al];rw [apT (m:=[Cb]) (by simp only [AO,tw] at hB ⊢;omega)];simp only [Al];rw [Rw l _ (by assumption) (by omega) (by omega) (by simp only [AO,tw] at hB ⊢;omega)];simp only [Al];rw [apT (m:=[Dt]) (by simp only [AO,tw] at hB ⊢;omega)];simp only [Al];rw [L b (by assumption) (by omega) (by omega) _ (by simp only [AO,tw] at hB ⊢;omega)];simp only [Al];rw [apT (m:=[BM]) (by simp only [AO,tw] at hB ⊢;omega)];simp only [Al];simp only [Bx,List.cons_append,List.nil_append]
  | @forIn a t b l m hl hm hb =>
   have e:ltD (d+1) (.mk 27 t (l.length:Nat) a (l++m++[b]))=F6 :: (rowT (ltD d) l++Il :: (rowT (ltD d) m++Dt :: (ltD d b++[BM]))):=TH b l m;simp only [sz,AN,Bu] at hs h9;rw [e] at hB ⊢;clear e;show Bc.g (LA.at (k+2)) (k+2) pre 27 t (l.length:Nat) a (l++m++[b])=_;unfold Bc.g A2;simp only [EG,EI,tkN,EF,EH,Int.reduceBEq,cond_true,cond_false,ix0,CU,Al];have hln:=Et l;have hlm:=Et m;obtain ⟨K,hK⟩:∃ K,K=l++m++[b]:=⟨_,rfl⟩;have hlen:K.length=l.length+m.length+1:=by rw [hK];simp only [Bv,AH,AX]
   rw [<- hK];have i0:D1 K (0:Int) ((l.length:Nat):Int)=some l:=by rw [Gt (lo:=(0:Int)) 0 l.length rfl rfl (Nat.zero_le _) (by omega),hK];simp
   have i1:Bm K (Ar ((((K.length:Nat)):Int) - (1:Int)))=some b:=by rw [hlen,Fj _ (by omega) (by omega),hK,show (((l.length+m.length+1:Nat)):Int) - 1=(((l++m).length:Nat):Int) by rw [Bv];omega];exact ixT
   have i2:D1 K ((l.length:Nat):Int) (Ar ((((K.length:Nat)):Int) - (1:Int)))=some m:=by rw [hlen,Fj _ (by omega) (by omega),Gt l.length (l.length+m.length) rfl (by omega) (by omega) (by omega),hK];simp
   rw [i0,i1,i2];simp only [Al];rw [apT (m:=[F6]) (by simp only [AO,tw] at hB ⊢;omega)];simp only [Al];rw [Rw l _ (by assumption) (by omega) (by omega) (by simp only [AO,tw] at hB ⊢;omega)];simp only [Al];rw [apT (m:=[Il]) (by simp only [AO,tw] at hB ⊢;omega)];simp only [Al];rw [Rw m _ (by assumption) (by omega) (by omega) (by simp only [AO,tw] at hB ⊢;omega)];simp only [Al];rw [apT (m:=[Dt]) (by simp only [AO,tw] at hB ⊢;omega)];simp only [Al];rw [L b (by assumption) (by omega) (by omega) _ (by simp only [AO,tw] at hB ⊢;omega)];simp only [Al];rw [apT (m:=[BM]) (by simp only [AO,tw] at hB ⊢;omega)];simp only [Al];simp only [Bx,List.cons_append,List.nil_append]
  | @do_ n a t b hb =>
   have e:ltD (d+1) (.mk 28 t n a [b])=Dt :: (ltD d b++[BM]):=rfl;simp only [sz,AN,Bu] at hs h9;rw [e] at hB ⊢;clear e;show Bc.g (LA.at (k+2)) (k+2) pre 28 t n a [b]=_;unfold Bc.g A2;simp only [EG,EI,tkN,EF,EH,Int.reduceBEq,cond_true,cond_false,ix0,CU,Al];rw [apT (m:=[Dt]) (by simp only [AO,tw] at hB ⊢;omega)];simp only [Al];rw [L b (by assumption) (by omega) (by omega) _ (by simp only [AO,tw] at hB ⊢;omega)];simp only [Al];rw [apT (m:=[BM]) (by simp only [AO,tw] at hB ⊢;omega)];simp only [Al];simp only [Bx,List.cons_append,List.nil_append]
  | @break_ n a t =>
   have e:ltD (d+1) (.mk 29 t n a [])=[Kh]:=rfl;simp only [sz,AN,Bu] at hs h9;rw [e] at hB ⊢;clear e;show Bc.g (LA.at (k+2)) (k+2) pre 29 t n a []=_;unfold Bc.g A2;simp only [EG,EI,tkN,EF,EH,Int.reduceBEq,cond_true,cond_false,ix0,CU,Al];rw [apT (m:=[Kh]) (by simp only [AO,tw] at hB ⊢;omega)];simp only [Al]
  | @ret n a t l hl =>
   have e:ltD (d+1) (.mk 30 t n a l)=Jw :: rowT (ltD d) l:=rfl;simp only [sz,AN,Bu] at hs h9;rw [e] at hB ⊢;clear e;show Bc.g (LA.at (k+2)) (k+2) pre 30 t n a l=_;unfold Bc.g A2;simp only [EG,EI,tkN,EF,EH,Int.reduceBEq,cond_true,cond_false,ix0,CU,Al];rw [apT (m:=[Jw]) (by simp only [AO,tw] at hB ⊢;omega)];simp only [Al];rw [Rw l _ (by assumption) (by omega) (by omega) (by simp only [AO,tw] at hB ⊢;omega)];simp only [Al];simp only [Bx,List.cons_append,List.nil_append]
  | @fn a t l b h1 h2 hl hb =>
   have e:ltD (d+1) (.mk 31 t (l.length:Nat) a (l++[b]))=Gm :: t :: DS :: (rowT (ltD d) l++CV :: (ltD d b++[BM])):=TF b l;simp only [sz,AN,Bu] at hs h9;rw [e] at hB ⊢;clear e;show Bc.g (LA.at (k+2)) (k+2) pre 31 t (l.length:Nat) a (l++[b])=_;unfold Bc.g A2;simp only [EG,EI,tkN,EF,EH,Int.reduceBEq,cond_true,cond_false,ix0,CU,Al];have hln:=Et l;obtain ⟨K,hK⟩:∃ K,K=l++[b]:=⟨_,rfl⟩;have hlen:K.length=l.length+1:=by rw [hK];simp
   rw [<- hK];have i0:D1 K (0:Int) ((l.length:Nat):Int)=some l:=by rw [Gt (lo:=(0:Int)) 0 l.length rfl rfl (Nat.zero_le _) (by omega),hK];simp
   have i1:Bm K (Ar ((((K.length:Nat)):Int) - (1:Int)))=some b:=by rw [hlen,Fj _ (by omega) (by omega),hK,show (((l.length+1:Nat)):Int) - 1=((l.length:Nat):Int) by omega];exact ixT
   rw [i0,i1];simp only [Al];rw [apT (m:=[Gm,t,DS]) (by simp only [AO,tw] at hB ⊢;omega)];simp only [Al];rw [Rw l _ (by assumption) (by omega) (by omega) (by simp only [AO,tw] at hB ⊢;omega)];simp only [Al];rw [apT (m:=[CV]) (by simp only [AO,tw] at hB ⊢;omega)];simp only [Al];rw [L b (by assumption) (by omega) (by omega) _ (by simp only [AO,tw] at hB ⊢;omega)];simp only [Al];rw [apT (m:=[BM]) (by simp only [AO,tw] at hB ⊢;omega)];simp only [Al];simp only [Bx,List.cons_append,List.nil_append]
def Kf:List Ah->Bs
 | []=>[]
 | x :: l=>32 :: (bs x++Kf l)
def JN:List Ah->Bs
 | []=>[]
 | x :: l=>bs x++Kf l
theorem Ag7:∀ (a b:List Ah),Kf (a++b)=Kf a++Kf b
 | [],_=>rfl
 | x :: a,b=>by simp only [List.cons_append,Kf,Ag7 a b,Bx]
theorem Aa7 {pre:List Ah} (h:pre≠[]) (t:Ah):JN (pre++[t])=JN pre++32 :: bs t:=by
 cases pre with
 | nil=>exact absurd rfl h
 | cons x l=>simp [JN,Ag7,Kf]
theorem Ahb:∀ (a:List Ah),(Kf a).length<=tw a
 | []=>Nat.le_refl _
 | x :: a=>by
  have:=Ahb a;simp only [Kf,tw,AH,Bv,B0];omega
theorem Aa5:∀ (a:List Ah),(JN a).length<=tw a
 | []=>Nat.le_refl _
 | x :: a=>by
  have:=Ahb a;simp only [JN,tw,Bv,B0];omega
theorem Ava {pre:List Ah} (h:pre≠[]) (hB:tw pre<=BT):0 < (JN pre).length:=by
 cases pre with
 | nil=>exact absurd rfl h
 | cons x l =>
  have hBT:BT=1000000000000:=rfl;simp only [tw] at hB;have:x.size≠0:=λe=>by
   have:zc x=2000000000000:=by unfold zc;rw [if_pos e]
   omega
  simp only [JN,Bv,B0];omega
theorem B3f (m:Nat) (a:Bs) (c:UInt8) (h:a.length<=2000000000000):FX.f m (bI a) (c.toNat:Int)=some (bI (a++[c])):=by
 unfold FX.f Lw.f;simp only [Al];rw [GP _ _ _ (by rw [Eo];simp;omega),IM];rfl
theorem Atb (m:Nat) (a:Bs) (s:Ah) (h:a.length<=2000000000000) (hs:s.size<=2000000000000):Gw.f m (bI a) s=some ((s.size:Int),bI (a++bs s)):=by
 unfold Gw.f Lw.f;simp only [Al];rw [OQ,GP _ _ _ (by rw [Eo,Eo,B0];omega),IM];rfl
theorem Amb:∀ (q p pre:List Ah) (m:Nat),p.length+q.length<=1000->q.length+1<=m->tw (pre++q)<=BT->B8.l0 m (p++q) (p.length:Int) (bI (JN pre))=some (bI (JN (pre++q)))
 | [],p,pre,m,hl,hm,hB=>by
  obtain ⟨m,rfl⟩:∃ m',m=m'+1:=⟨m - 1,by omega⟩;simp only [B8.l0];rw [GR (by simp)];simp
 | t :: q,p,pre,m,hl,hm,hB=>by
  obtain ⟨m,rfl⟩:∃ m',m=m'+1:=⟨m - 1,by omega⟩;simp only [AH] at hl hm;have hBT:BT=1000000000000:=rfl;have ih:=Amb q (p++[t]) (pre++[t]) m (by simp;omega) (by omega) (by simpa only [Bx,List.singleton_append] using hB);simp only [Bx,List.singleton_append,Bv,List.length_singleton] at ih;simp only [AO,tw] at hB;have hj:=Aa5 pre;have hix:Bm (p++t :: q) (p.length:Int)=some t:=Rt rfl;simp only [B8.l0,A2];rw [deT (by simp;omega),hix,Fj _ (by omega) (by omega)];simp only [cond_true,Al];unfold PY.f;simp only [Al];by_cases hp:pre=[];subst hp;rw [GR (by simp [JN,bI])];simp only [cond_false];rw [Atb _ _ _ (by omega) (by omega)];simp only [Al];rw [show JN ([]++[t])=JN []++bs t by simp [JN,Kf]] at ih;exact ih;have hpos:=Ava hp (by omega);rw [deT (by rw [Eo];omega)];simp only [cond_true];rw [show (32:Int)=((32:UInt8).toNat:Int) from rfl,B3f _ _ _ (by omega)];simp only [Al];rw [Atb _ _ _ (by simp;omega) (by omega)];simp only [Al];rw [Aa7 hp] at ih;simp only [Bx,List.singleton_append];exact ih
theorem Dq {k:Nat} {pre ts:List Ah} (hk:1100<=k) (hl:ts.length<=1000) (hB:tw (pre++ts)<=BT):B8.f k (bI (JN pre)) ts=some (bI (JN (pre++ts))) :=
 Amb ts [] pre k (by simpa using hl) (by omega) hB
section
variable {g:Tree->List Ah}
def L7 (Ag:List Int->Int->Ah->Int->Int->List Tree->Option (List Int)) (g:Tree->List Ah) (x:Tree):Prop :=
 ∀ pre,tw (pre++g x)<=BT->Ag (bI (JN pre)) x.kind x.text x.n x.at_ x.kids=some (bI (JN (pre++g x)))
theorem Al9 {R:PP}:∀ (q p:List Tree) (m:Nat) (acc:List Ah),p.length+q.length<=10000000->q.length+1100<=m->(∀ x ∈ q,L7 R.Bj g x) ->
  tw (acc++(if p=[] then rowT g q else IB g q))<=BT->Dk.l0 m R (p++q) (p.length:Int) (bI (JN acc))=some (bI (JN (acc++(if p=[] then rowT g q else IB g q))))
 | [],p,m,acc,hl,hm,_,_=>by
  obtain ⟨m,rfl⟩:∃ m',m=m'+1:=⟨m - 1,by omega⟩;simp only [Dk.l0];rw [GR (by simp)];simp only [cond_false];split <;> simp [rowT,IB]
 | x :: q,p,m,acc,hl,hm,hR,hB=>by
  obtain ⟨m,rfl⟩:∃ m',m=m'+1:=⟨m - 1,by omega⟩;simp only [AH] at hl hm;by_cases hq:q.length+1100<=m;have ih:=λacc'=>Al9 (R:=R) q (p++[x]) m acc' (by simp;omega) hq (λy hy=>hR y (DF _ hy));simp only [List.append_eq_nil_iff,List.cons_ne_nil,and_false,if_false,Bx,List.singleton_append,Bv,List.length_singleton] at ih;have hx:=hR x (Db ..);simp only [Dk.l0,A2];rw [deT (by simp;omega),ixT,Fj _ (by omega) (by omega)];simp only [cond_true,Al];by_cases hp:p=[];subst hp;simp only [if_true,rowT] at hB ⊢;rw [GR (by simp)];simp only [cond_false];rw [hx acc (by simp only [AO] at hB ⊢;omega)];simp only [Al];refine (ih (acc++g x) (by simpa only [Bx] using hB)).trans ?_;simp only [Bx];have:0 < p.length:=List.length_pos_iff.2 hp;simp only [if_neg hp,IB] at hB ⊢;rw [deT (by omega)];simp only [cond_true];rw [Dq (ts:=[D0]) (by omega) (by decide) (by simp only [AO,tw] at hB ⊢;omega)];simp only [Al];rw [hx _ (by simp only [AO,tw] at hB ⊢;omega)];simp only [Al];refine (ih (acc++[D0]++g x) (by simpa only [Bx,List.cons_append,List.nil_append] using hB)).trans ?_;simp only [Bx,List.cons_append,List.nil_append];omega
theorem Bxx {R:PP} {k:Nat} {l:List Tree} {pre:D9} (hl:l.length<=10000000) (hk:l.length+1100<=k) (hR:∀ x ∈ l,L7 R.Bj g x) (hB:tw (pre++rowT g l)<=BT):Dk.g R k (bI (JN pre)) l=some (bI (JN (pre++rowT g l))):=by
 unfold Dk.g;exact Al9 (g:=g) (R:=R) l [] k pre (by simpa using hl) hk hR hB
theorem Al3 {R:PP}:∀ (q p:List Tree) (m:Nat) (acc:List Ah),p.length+q.length<=10000000->q.length+1100<=m->(∀ x ∈ q,L7 R.Bj g x) ->
  tw (acc++G2 g q)<=BT->Bj.l0 m R (p++q) (p.length:Int) (bI (JN acc))=some (bI (JN (acc++G2 g q)))
 | [],p,m,acc,hl,hm,_,_=>by
  obtain ⟨m,rfl⟩:∃ m',m=m'+1:=⟨m - 1,by omega⟩;simp only [Bj.l0];rw [GR (by simp)];simp [G2]
 | x :: q,p,m,acc,hl,hm,hR,hB=>by
  obtain ⟨m,rfl⟩:∃ m',m=m'+1:=⟨m - 1,by omega⟩;simp only [AH] at hl hm;have ih:=λacc'=>Al3 (R:=R) q (p++[x]) m acc' (by simp;omega) (by omega) (λy hy=>hR y (DF _ hy));simp only [Bx,List.singleton_append,Bv,List.length_singleton] at ih;have hx:=hR x (Db ..);simp only [Bj.l0];rw [deT (by simp;omega),ixT,Fj _ (by omega) (by omega)];simp only [cond_true,Al,G2] at hB ⊢;rw [hx acc (by simp only [AO] at hB ⊢;omega)];simp only [Al];rw [Dq (ts:=[EN]) (by omega) (by decide) (by simp only [AO,tw] at hB ⊢;omega)];simp only [Al];refine (ih (acc++g x++[EN]) (by simpa only [Bx,List.singleton_append] using hB)).trans ?_;simp only [Bx,List.singleton_append]
def brJ (R:PP) (k:Nat) (l1:List Tree) (l8:List Int):Option (List Int) :=
 A2 (λ(Un:List Int)=>(B8.f k Un ([BM])).bind λBY=>some (BY)) (λJ21=>cond (((l1.length:Nat):Int) == (1:Int)) ((B8.f k l8 ([Ik])).bind λr32=>(Bm l1 (0:Int)).bind λx39=>(R.Bj r32 x39.kind x39.text x39.n x39.at_ x39.kids).bind λr48=>J21 r48) (J21 l8))
theorem Aci {R:PP} {k:Nat} (hk:1100<=k):∀ (n:Nat) (q:List Tree) (w:Ah) (m:Nat) (acc:List Ah),q.length<=n->q.length<=10000000->q.length+1100<=m->(∀ x ∈ q,L7 R.Bj g x) ->
  tw (acc++brT g w q)<=BT->E9.l0 m R (brJ R k) q w (bI (JN acc))=some (bI (JN (acc++brT g w q)))
 | _,[],w,m,acc,_,hl,hm,hR,hB=>by
  obtain ⟨m,rfl⟩:∃ m',m=m'+1:=⟨m - 1,by omega⟩;simp only [E9.l0];rw [GR (by simp)];simp only [cond_false,brJ,A2,brT] at hB ⊢;rw [show ((((([]:List Tree).length:Nat):Int)) == (1:Int))=false from rfl];simp only [cond_false];rw [Dq (ts:=[BM]) hk (by decide) hB];rfl
 | _,[b],w,m,acc,_,hl,hm,hR,hB=>by
  obtain ⟨m,rfl⟩:∃ m',m=m'+1:=⟨m - 1,by omega⟩;have hb:=hR b (Db ..);simp only [E9.l0];rw [GR (by simp)];simp only [cond_false,brJ,A2,brT] at hB ⊢;rw [show ((((([b]:List Tree).length:Nat):Int)) == (1:Int))=true from rfl];simp only [cond_true];rw [Dq (ts:=[Ik]) hk (by decide) (by simp only [AO,tw] at hB ⊢;omega)];simp only [Al,ix0];rw [hb _ (by simp only [AO,tw] at hB ⊢;omega)];simp only [Al];rw [Dq (ts:=[BM]) hk (by decide) (by simp only [AO,tw] at hB ⊢;omega)];simp only [Al,Bx,List.cons_append,List.nil_append]
 | 0,_ :: _ :: _,_,_,_,hn,_,_,_,_=>by simp at hn
 | n+1,e :: b :: q,w,m,acc,hn,hl,hm,hR,hB=>by
  obtain ⟨m,rfl⟩:∃ m',m=m'+1:=⟨m - 1,by omega⟩;simp only [AH] at hl hm hn;have he:=hR e (Db ..);have hb:=hR b (DF _ (Db ..));have ih:=λacc'=>Aci (R:=R) hk n q FP m acc' (by omega) (by omega) (by omega) (λz hz=>hR z (DF _ (DF _ hz)));simp only [E9.l0];rw [deT (by simp;omega),show D1 (e :: b :: q) (2:Int) (((e :: b :: q).length:Nat):Int)=some q by rw [Gt (lo:=(2:Int)) 2 (q.length+2) rfl (by simp;omega) (by omega) (by simp)];simp];simp only [cond_true,brT] at hB ⊢;rw [Dq (ts:=[w]) (by omega) (by simp) (by simp only [AO,tw] at hB ⊢;omega)];simp only [Al,ix0,CU];rw [he _ (by simp only [AO,tw] at hB ⊢;omega)];simp only [Al];rw [Dq (ts:=[Jx]) (by omega) (by decide) (by simp only [AO,tw] at hB ⊢;omega)];simp only [Al];rw [hb _ (by simp only [AO,tw] at hB ⊢;omega)];simp only [Al];refine (ih (acc++[w]++g e++[Jx]++g b) (by simpa only [Bx,List.cons_append,List.nil_append] using hB)).trans ?_;simp only [Bx,List.cons_append,List.nil_append]
theorem A0c {R:PP} {k:Nat} {l:List Tree} {pre:D9} (hl:l.length<=10000000) (hk:l.length+1100<=k) (hR:∀ x ∈ l,L7 R.Bj g x) (hB:tw (pre++brT g kIf l)<=BT):E9.g R k (bI (JN pre)) l=some (bI (JN (pre++brT g kIf l))) :=
 Aci (by omega) l.length l kIf k pre (Nat.le_refl _) hl hk hR hB
theorem body_eq {R:PP} {k:Nat} {b:Tree} {pre:D9} (hk:1100<=k) (hb:L7 R.Bj g b) (hB:tw (pre++Dt :: (g b++[BM]))<=BT):Fx.g R k (bI (JN pre)) b.kind b.text b.n b.at_ b.kids=some (bI (JN (pre++Dt :: (g b++[BM])))):=by
 unfold Fx.g;rw [Dq (ts:=[Dt]) hk (by decide) (by simp only [AO,tw] at hB ⊢;omega)];simp only [Al];rw [hb _ (by simp only [AO,tw] at hB ⊢;omega)];simp only [Al];rw [Dq (ts:=[BM]) hk (by decide) (by simp only [AO,tw] at hB ⊢;omega)];simp only [Al,Bx,List.cons_append,List.nil_append]
end
theorem node_eq:∀ (d k:Nat) (x:Tree) (pre:D9),Pr x->sz x<=d->sz x<=100000->4 * d+1200000<=k->tw (pre++ltD d x)<=BT->Bj.g (PP.at k) k (bI (JN pre)) x.kind x.text x.n x.at_ x.kids=some (bI (JN (pre++ltD d x)))
 | 0,_,x,_,_,h,_,_,_=>by have:=szP x;omega
 | d+1,k0,x,pre,hx,hs,h9,hk,hB=>by
  obtain ⟨k,rfl⟩:∃ k,k0=k+4:=⟨k0 - 4,by omega⟩;have N4:∀ y,Pr y->sz y<=d->sz y<=100000->L7 (PP.at (k+4)).Bj (ltD d) y:=λy h1 h2 h3 pre h4=>node_eq d (k+3) y pre h1 h2 h3 (by omega) h4;have Ag:∀ y,Pr y->sz y<=d->sz y<=100000->L7 (PP.at (k+3)).Bj (ltD d) y:=λy h1 h2 h3 pre h4=>node_eq d (k+2) y pre h1 h2 h3 (by omega) h4;have N2:∀ y,Pr y->sz y<=d->sz y<=100000->L7 (PP.at (k+2)).Bj (ltD d) y:=λy h1 h2 h3 pre h4=>node_eq d (k+1) y pre h1 h2 h3 (by omega) h4;have Rw:∀ (l:List Tree) (pre:List Ah),Prs l->AN l<=d->AN l<=100000->tw (pre++rowT (ltD d) l)<=BT->(PP.at (k+3)).Dk (bI (JN pre)) l=some (bI (JN (pre++rowT (ltD d) l))):=λl pre h1 h2 h3 h4=>by
   have hln:=Et l;exact Bxx (g:=ltD d) (R:=PP.at (k+2)) (k:=k+2) (by omega) (by omega) (λy hy=>N2 y (h1 y hy) (by have:=Dr hy;omega) (by have:=Dr hy;omega)) h4
  have Br:∀ (l:List Tree) (pre:D9),Prs l->AN l<=d->AN l<=100000->tw (pre++brT (ltD d) kIf l)<=BT->(PP.at (k+3)).E9 (bI (JN pre)) l=some (bI (JN (pre++brT (ltD d) kIf l))):=λl pre h1 h2 h3 h4=>by
   have hln:=Et l;exact A0c (g:=ltD d) (R:=PP.at (k+2)) (k:=k+2) (by omega) (by omega) (λy hy=>N2 y (h1 y hy) (by have:=Dr hy;omega) (by have:=Dr hy;omega)) h4
  have Bd:∀ (b:Tree) (pre:D9),Pr b->sz b<=d->sz b<=100000->tw (pre++Dt :: (ltD d b++[BM]))<=BT->(PP.at (k+3)).Fx (bI (JN pre)) b.kind b.text b.n b.at_ b.kids=some (bI (JN (pre++Dt :: (ltD d b++[BM])))):=λb pre h1 h2 h3 h4 =>
   body_eq (g:=ltD d) (R:=PP.at (k+2)) (k:=k+2) (by omega) (N2 b h1 h2 h3) h4
  clear N2;cases hx with
  | @atom k0 n a t h =>
   rcases h with rfl | rfl | rfl;have e:ltD (d+1) (.mk 1 t n a [])=[Kk]:=rfl;rw [e] at hB ⊢;show Bj.g (PP.at (k+4)) (k+4) (bI (JN pre)) 1 t n a []=_;unfold Bj.g A2;simp only [Int.reduceBEq,cond_true,cond_false];show (Dj.g (PP.at (k+3)) (k+3) (bI (JN pre)) 1 t n a []).bind (λr=>some r)=_;unfold Dj.g;simp only [Int.reduceBEq,cond_true,cond_false];rw [Dq (ts:=[Kk]) (by omega) (by simp) (by simp only [AO,tw] at hB ⊢;omega)];simp only [Al];have e:ltD (d+1) (.mk 2 t n a [])=[Kl]:=rfl;rw [e] at hB ⊢;show Bj.g (PP.at (k+4)) (k+4) (bI (JN pre)) 2 t n a []=_;unfold Bj.g A2;simp only [Int.reduceBEq,cond_true,cond_false];show (Dj.g (PP.at (k+3)) (k+3) (bI (JN pre)) 2 t n a []).bind (λr=>some r)=_;unfold Dj.g;simp only [Int.reduceBEq,cond_true,cond_false];rw [Dq (ts:=[Kl]) (by omega) (by simp) (by simp only [AO,tw] at hB ⊢;omega)];simp only [Al];have e:ltD (d+1) (.mk 3 t n a [])=[Ki]:=rfl;rw [e] at hB ⊢;show Bj.g (PP.at (k+4)) (k+4) (bI (JN pre)) 3 t n a []=_;unfold Bj.g A2;simp only [Int.reduceBEq,cond_true,cond_false];show (Dj.g (PP.at (k+3)) (k+3) (bI (JN pre)) 3 t n a []).bind (λr=>some r)=_;unfold Dj.g;simp only [Int.reduceBEq,cond_true,cond_false];rw [Dq (ts:=[Ki]) (by omega) (by simp) (by simp only [AO,tw] at hB ⊢;omega)];simp only [Al]
  | @int n a t h1 h2 =>
   have e:ltD (d+1) (.mk 4 t n a [])=[H8 n]:=rfl;simp only [sz,AN,Bu] at hs h9;rw [e] at hB ⊢;clear e;show Bj.g (PP.at (k+4)) (k+4) (bI (JN pre)) 4 t n a []=_;unfold Bj.g A2;simp only [Int.reduceBEq,cond_true,cond_false];show (Dj.g (PP.at (k+3)) (k+3) (bI (JN pre)) 4 t n a []).bind (λr=>some r)=_;unfold Dj.g;simp only [Int.reduceBEq,cond_true,cond_false,ix0,CU,Al];rw [Bql (k+3) (by omega) n h1 h2];simp only [Al];rw [Dq (ts:=[H8 n]) (by omega) (by simp) (by simp only [AO,tw] at hB ⊢;omega)];simp only [Al]
  | @str n a t h1 =>
   have e:ltD (d+1) (.mk 5 t n a [])=[Jf t]:=rfl;simp only [sz,AN,Bu] at hs h9;rw [e] at hB ⊢;clear e;show Bj.g (PP.at (k+4)) (k+4) (bI (JN pre)) 5 t n a []=_;unfold Bj.g A2;simp only [Int.reduceBEq,cond_true,cond_false];show (Dj.g (PP.at (k+3)) (k+3) (bI (JN pre)) 5 t n a []).bind (λr=>some r)=_;unfold Dj.g;simp only [Int.reduceBEq,cond_true,cond_false,ix0,CU,Al];rw [show G6.f (k+3) t=some (Jf t) from Bxw t (by omega) (k+3) (by omega)];simp only [Al];rw [Dq (ts:=[Jf t]) (by omega) (by simp) (by simp only [AO,tw] at hB ⊢;omega)];simp only [Al]
  | @name n a t h1 h2 =>
   have e:ltD (d+1) (.mk 6 t n a [])=[t]:=rfl;simp only [sz,AN,Bu] at hs h9;rw [e] at hB ⊢;clear e;show Bj.g (PP.at (k+4)) (k+4) (bI (JN pre)) 6 t n a []=_;unfold Bj.g A2;simp only [Int.reduceBEq,cond_true,cond_false];show (Dj.g (PP.at (k+3)) (k+3) (bI (JN pre)) 6 t n a []).bind (λr=>some r)=_;unfold Dj.g;simp only [Int.reduceBEq,cond_true,cond_false,ix0,CU,Al];rw [Dq (ts:=[t]) (by omega) (by simp) (by simp only [AO,tw] at hB ⊢;omega)];simp only [Al]
  | @index n a t x y hx hy =>
   have e:ltD (d+1) (.mk 7 t n a [x,y])=ltD d x++FQ :: (ltD d y++[kRb]):=rfl;simp only [sz,AN,Bu] at hs h9;rw [e] at hB ⊢;clear e;show Bj.g (PP.at (k+4)) (k+4) (bI (JN pre)) 7 t n a [x,y]=_;unfold Bj.g A2;simp only [Int.reduceBEq,cond_true,cond_false];show (Dj.g (PP.at (k+3)) (k+3) (bI (JN pre)) 7 t n a [x,y]).bind (λr=>some r)=_;unfold Dj.g;simp only [Int.reduceBEq,cond_true,cond_false,ix0,CU,Al];rw [Ag x (by assumption) (by omega) (by omega) _ (by simp only [AO,tw] at hB ⊢;omega)];simp only [Al];rw [Dq (ts:=[FQ]) (by omega) (by simp) (by simp only [AO,tw] at hB ⊢;omega)];simp only [Al];rw [Ag y (by assumption) (by omega) (by omega) _ (by simp only [AO,tw] at hB ⊢;omega)];simp only [Al];rw [Dq (ts:=[kRb]) (by omega) (by simp) (by simp only [AO,tw] at hB ⊢;omega)];simp only [Al];simp only [Bx,List.cons_append,List.nil_append]
  | @call n a t x l hx hl =>
   have e:ltD (d+1) (.mk 8 t n a (x :: l))=ltD d x++DS :: (rowT (ltD d) l++[CV]):=rfl;simp only [sz,AN,Bu] at hs h9;rw [e] at hB ⊢;clear e;show Bj.g (PP.at (k+4)) (k+4) (bI (JN pre)) 8 t n a (x :: l)=_;unfold Bj.g A2;simp only [Int.reduceBEq,cond_true,cond_false];show (Dj.g (PP.at (k+3)) (k+3) (bI (JN pre)) 8 t n a (x :: l)).bind (λr=>some r)=_;unfold Dj.g;simp only [Int.reduceBEq,cond_true,cond_false,ix0,CU,Al];have hln:=Et l;rw [show D1 (x :: l) (1:Int) (((x :: l).length:Nat):Int)=some l by rw [Gt (lo:=(1:Int)) 1 (l.length+1) rfl (by simp) (by omega) (by simp)];simp];rw [Ag x (by assumption) (by omega) (by omega) _ (by simp only [AO,tw] at hB ⊢;omega)];simp only [Al];rw [Dq (ts:=[DS]) (by omega) (by simp) (by simp only [AO,tw] at hB ⊢;omega)];simp only [Al];rw [Rw l _ (by assumption) (by omega) (by omega) (by simp only [AO,tw] at hB ⊢;omega)];simp only [Al];rw [Dq (ts:=[CV]) (by omega) (by simp) (by simp only [AO,tw] at hB ⊢;omega)];simp only [Al];simp only [Bx,List.cons_append,List.nil_append]
  | @paren n a t x hx =>
   have e:ltD (d+1) (.mk 9 t n a [x])=DS :: (ltD d x++[CV]):=rfl;simp only [sz,AN,Bu] at hs h9;rw [e] at hB ⊢;clear e;show Bj.g (PP.at (k+4)) (k+4) (bI (JN pre)) 9 t n a [x]=_;unfold Bj.g A2;simp only [Int.reduceBEq,cond_true,cond_false];show (Dj.g (PP.at (k+3)) (k+3) (bI (JN pre)) 9 t n a [x]).bind (λr=>some r)=_;unfold Dj.g;simp only [Int.reduceBEq,cond_true,cond_false,ix0,CU,Al];rw [Dq (ts:=[DS]) (by omega) (by simp) (by simp only [AO,tw] at hB ⊢;omega)];simp only [Al];rw [Ag x (by assumption) (by omega) (by omega) _ (by simp only [AO,tw] at hB ⊢;omega)];simp only [Al];rw [Dq (ts:=[CV]) (by omega) (by simp) (by simp only [AO,tw] at hB ⊢;omega)];simp only [Al];simp only [Bx,List.cons_append,List.nil_append]
  | @unary n a t x h1 h2 hx =>
   have e:ltD (d+1) (.mk 10 t n a [x])=t :: ltD d x:=rfl;simp only [sz,AN,Bu] at hs h9;rw [e] at hB ⊢;clear e;show Bj.g (PP.at (k+4)) (k+4) (bI (JN pre)) 10 t n a [x]=_;unfold Bj.g A2;simp only [Int.reduceBEq,cond_true,cond_false];show (Dj.g (PP.at (k+3)) (k+3) (bI (JN pre)) 10 t n a [x]).bind (λr=>some r)=_;unfold Dj.g;simp only [Int.reduceBEq,cond_true,cond_false,ix0,CU,Al];rw [Dq (ts:=[t]) (by omega) (by simp) (by simp only [AO,tw] at hB ⊢;omega)];simp only [Al];rw [Ag x (by assumption) (by omega) (by omega) _ (by simp only [AO,tw] at hB ⊢;omega)];simp only [Al];simp only [Bx,List.cons_append,List.nil_append]
  | @binary n a t x y h1 h2 hx hy =>
   have e:ltD (d+1) (.mk 11 t n a [x,y])=ltD d x++t :: ltD d y:=rfl;simp only [sz,AN,Bu] at hs h9;rw [e] at hB ⊢;clear e;show Bj.g (PP.at (k+4)) (k+4) (bI (JN pre)) 11 t n a [x,y]=_;unfold Bj.g A2;simp only [Int.reduceBEq,cond_true,cond_false];show (Dj.g (PP.at (k+3)) (k+3) (bI (JN pre)) 11 t n a [x,y]).bind (λr=>some r)=_;unfold Dj.g;simp only [Int.reduceBEq,cond_true,cond_false,ix0,CU,Al];rw [Ag x (by assumption) (by omega) (by omega) _ (by simp only [AO,tw] at hB ⊢;omega)];simp only [Al];rw [Dq (ts:=[t]) (by omega) (by simp) (by simp only [AO,tw] at hB ⊢;omega)];simp only [Al];rw [Ag y (by assumption) (by omega) (by omega) _ (by simp only [AO,tw] at hB ⊢;omega)];simp only [Al];simp only [Bx,List.cons_append,List.nil_append]
  | @table n a t l hl =>
   have e:ltD (d+1) (.mk 12 t n a l)=Kj :: (rowT (ltD d) l++[G_]):=rfl;simp only [sz,AN,Bu] at hs h9;rw [e] at hB ⊢;clear e;show Bj.g (PP.at (k+4)) (k+4) (bI (JN pre)) 12 t n a l=_;unfold Bj.g A2;simp only [Int.reduceBEq,cond_true,cond_false];show (Dj.g (PP.at (k+3)) (k+3) (bI (JN pre)) 12 t n a l).bind (λr=>some r)=_;unfold Dj.g;simp only [Int.reduceBEq,cond_true,cond_false,ix0,CU,Al];rw [Dq (ts:=[Kj]) (by omega) (by simp) (by simp only [AO,tw] at hB ⊢;omega)];simp only [Al];rw [Rw l _ (by assumption) (by omega) (by omega) (by simp only [AO,tw] at hB ⊢;omega)];simp only [Al];rw [Dq (ts:=[G_]) (by omega) (by simp) (by simp only [AO,tw] at hB ⊢;omega)];simp only [Al];simp only [Bx,List.cons_append,List.nil_append]
  | @item n a t x hx =>
   have e:ltD (d+1) (.mk 13 t n a [x])=ltD d x:=rfl;simp only [sz,AN,Bu] at hs h9;rw [e] at hB ⊢;clear e;show Bj.g (PP.at (k+4)) (k+4) (bI (JN pre)) 13 t n a [x]=_;unfold Bj.g A2;simp only [Int.reduceBEq,cond_true,cond_false];show (Dj.g (PP.at (k+3)) (k+3) (bI (JN pre)) 13 t n a [x]).bind (λr=>some r)=_;unfold Dj.g;simp only [Int.reduceBEq,cond_true,cond_false,ix0,CU,Al];rw [Ag x (by assumption) (by omega) (by omega) _ (by simp only [AO,tw] at hB ⊢;omega)];simp only [Al]
  | @field n a t x y hx hy =>
   have e:ltD (d+1) (.mk 14 t n a [x,y])=FQ :: (ltD d x++kRb :: Cb :: ltD d y):=rfl;simp only [sz,AN,Bu] at hs h9;rw [e] at hB ⊢;clear e;show Bj.g (PP.at (k+4)) (k+4) (bI (JN pre)) 14 t n a [x,y]=_;unfold Bj.g A2;simp only [Int.reduceBEq,cond_true,cond_false];show (Dj.g (PP.at (k+3)) (k+3) (bI (JN pre)) 14 t n a [x,y]).bind (λr=>some r)=_;unfold Dj.g;simp only [Int.reduceBEq,cond_true,cond_false,ix0,CU,Al];rw [Dq (ts:=[FQ]) (by omega) (by simp) (by simp only [AO,tw] at hB ⊢;omega)];simp only [Al];rw [Ag x (by assumption) (by omega) (by omega) _ (by simp only [AO,tw] at hB ⊢;omega)];simp only [Al];rw [Dq (ts:=[kRb,Cb]) (by omega) (by simp) (by simp only [AO,tw] at hB ⊢;omega)];simp only [Al];rw [Ag y (by assumption) (by omega) (by omega) _ (by simp only [AO,tw] at hB ⊢;omega)];simp only [Al];simp only [Bx,List.cons_append,List.nil_append]
  | @block n a t l hl =>
   have e:ltD (d+1) (.mk 20 t n a l)=G2 (ltD d) l:=rfl;simp only [sz,AN,Bu] at hs h9;rw [e] at hB ⊢;clear e;show Bj.g (PP.at (k+4)) (k+4) (bI (JN pre)) 20 t n a l=_;have hln:=Et l;exact Al3 (R:=PP.at (k+4)) l [] (k+4) pre (by simp;omega) (by omega) (λy hy=>N4 y (hl y hy) (by have:=Dr hy;omega) (by have:=Dr hy;omega)) hB
  | @loc a t l m hl hm =>
   have e:ltD (d+1) (.mk 21 t (l.length:Nat) a (l++m))=I4 :: (rowT (ltD d) l++(if m=[] then [] else Cb :: rowT (ltD d) m)):=Tp l m;simp only [sz,AN,Bu] at hs h9;rw [e] at hB ⊢;clear e;show Bj.g (PP.at (k+4)) (k+4) (bI (JN pre)) 21 t (l.length:Nat) a (l++m)=_;unfold Bj.g A2;simp only [Int.reduceBEq,cond_true,cond_false];show (DD.g (PP.at (k+3)) (k+3) (bI (JN pre)) 21 t (l.length:Nat) a (l++m)).bind (λr=>some r)=_;unfold DD.g A2;simp only [Int.reduceBEq,cond_true,cond_false,ix0,CU,Al];have hln:=Et l;have hlm:=Et m;rw [show D1 (l++m) (0:Int) ((l.length:Nat):Int)=some l by rw [Gt (lo:=(0:Int)) 0 l.length rfl rfl (Nat.zero_le _) (by simp)];simp];simp only [Al];by_cases hm0:m=[];subst hm0;simp only [if_true,List.append_nil] at hB ⊢;rw [Dq (ts:=[I4]) (by omega) (by simp) (by simp only [AO,tw] at hB ⊢;omega)];simp only [Al];rw [Rw l _ (by assumption) (by omega) (by omega) (by simp only [AO,tw] at hB ⊢;omega)];simp only [Al];rw [dFi (by simp)];simp only [cond_false,Al,Bx,List.cons_append,List.nil_append];have:=List.length_pos_iff.2 hm0;simp only [if_neg hm0] at hB ⊢;rw [Dq (ts:=[I4]) (by omega) (by simp) (by simp only [AO,tw] at hB ⊢;omega)];simp only [Al];rw [Rw l _ (by assumption) (by omega) (by omega) (by simp only [AO,tw] at hB ⊢;omega)];simp only [Al];rw [dTi (by simp;omega)];simp only [cond_true];rw [show D1 (l++m) ((l.length:Nat):Int) (((l++m).length:Nat):Int)=some m by rw [Gt l.length (l.length+m.length) rfl (by simp) (by omega) (by simp)];simp];simp only [Al];rw [Dq (ts:=[Cb]) (by omega) (by simp) (by simp only [AO,tw] at hB ⊢;omega)];simp only [Al];rw [Rw m _ (by assumption) (by omega) (by omega) (by simp only [AO,tw] at hB ⊢;omega)];simp only [Al];simp only [Bx,List.cons_append,List.nil_append]
  | @asg a t l m hl hm =>
   have e:ltD (d+1) (.mk 22 t (l.length:Nat) a (l++m))=rowT (ltD d) l++(if m=[] then [] else Cb :: rowT (ltD d) m):=QD l m;simp only [sz,AN,Bu] at hs h9;rw [e] at hB ⊢;clear e;show Bj.g (PP.at (k+4)) (k+4) (bI (JN pre)) 22 t (l.length:Nat) a (l++m)=_;unfold Bj.g A2;simp only [Int.reduceBEq,cond_true,cond_false];show (DD.g (PP.at (k+3)) (k+3) (bI (JN pre)) 22 t (l.length:Nat) a (l++m)).bind (λr=>some r)=_;unfold DD.g A2;simp only [Int.reduceBEq,cond_true,cond_false,ix0,CU,Al];have hln:=Et l;have hlm:=Et m;rw [show D1 (l++m) (0:Int) ((l.length:Nat):Int)=some l by rw [Gt (lo:=(0:Int)) 0 l.length rfl rfl (Nat.zero_le _) (by simp)];simp];simp only [Al];by_cases hm0:m=[];subst hm0;simp only [if_true,List.append_nil] at hB ⊢;rw [Rw l _ (by assumption) (by omega) (by omega) (by simp only [AO,tw] at hB ⊢;omega)];simp only [Al];rw [dFi (by simp)];simp only [cond_false,Al,Bx,List.cons_append,List.nil_append];have:=List.length_pos_iff.2 hm0;simp only [if_neg hm0] at hB ⊢;rw [Rw l _ (by assumption) (by omega) (by omega) (by simp only [AO,tw] at hB ⊢;omega)];simp only [Al];rw [dTi (by simp;omega)];simp only [cond_true];rw [show D1 (l++m) ((l.length:Nat):Int) (((l++m).length:Nat):Int)=some m by rw [Gt l.length (l.length+m.length) rfl (by simp) (by omega) (by simp)];simp];simp only [Al];rw [Dq (ts:=[Cb]) (by omega) (by simp) (by simp only [AO,tw] at hB ⊢;omega)];simp only [Al];rw [Rw m _ (by assumption) (by omega) (by omega) (by simp only [AO,tw] at hB ⊢;omega)];simp only [Al];simp only [Bx,List.cons_append,List.nil_append]
  | @run n a t x hx =>
   have e:ltD (d+1) (.mk 23 t n a [x])=ltD d x:=rfl;simp only [sz,AN,Bu] at hs h9;rw [e] at hB ⊢;clear e;show Bj.g (PP.at (k+4)) (k+4) (bI (JN pre)) 23 t n a [x]=_;unfold Bj.g A2;simp only [Int.reduceBEq,cond_true,cond_false];show (DD.g (PP.at (k+3)) (k+3) (bI (JN pre)) 23 t n a [x]).bind (λr=>some r)=_;unfold DD.g A2;simp only [Int.reduceBEq,cond_true,cond_false,ix0,CU,Al];rw [Ag x (by assumption) (by omega) (by omega) _ (by simp only [AO,tw] at hB ⊢;omega)];simp only [Al]
  | @if_ n a t l hl =>
   have e:ltD (d+1) (.mk 24 t n a l)=brT (ltD d) kIf l:=rfl;simp only [sz,AN,Bu] at hs h9;rw [e] at hB ⊢;clear e;show Bj.g (PP.at (k+4)) (k+4) (bI (JN pre)) 24 t n a l=_;unfold Bj.g A2;simp only [Int.reduceBEq,cond_true,cond_false];show (DD.g (PP.at (k+3)) (k+3) (bI (JN pre)) 24 t n a l).bind (λr=>some r)=_;unfold DD.g A2;simp only [Int.reduceBEq,cond_true,cond_false,ix0,CU,Al];have hln:=Et l;rw [Br l _ (by assumption) (by omega) (by omega) hB];simp only [Al]
  | @while_ n a t x b hx hb =>
   have e:ltD (d+1) (.mk 25 t n a [x,b])=Km :: (ltD d x++Dt :: (ltD d b++[BM])):=rfl;simp only [sz,AN,Bu] at hs h9;rw [e] at hB ⊢;clear e;show Bj.g (PP.at (k+4)) (k+4) (bI (JN pre)) 25 t n a [x,b]=_;unfold Bj.g A2;simp only [Int.reduceBEq,cond_true,cond_false];show (DD.g (PP.at (k+3)) (k+3) (bI (JN pre)) 25 t n a [x,b]).bind (λr=>some r)=_;unfold DD.g A2;simp only [Int.reduceBEq,cond_true,cond_false,ix0,CU,Al];rw [Dq (ts:=[Km]) (by omega) (by simp) (by simp only [AO,tw] at hB ⊢;omega)];simp only [Al];rw [Ag x (by assumption) (by omega) (by omega) _ (by simp only [AO,tw] at hB ⊢;omega)];simp only [Al];rw [Bd b _ (by assumption) (by omega) (by omega) (by simp only [AO,tw] at hB ⊢;omega)];simp only [Al];simp only [Bx,List.cons_append,List.nil_append]
  | @for_ n a t x b l hx hl hb =>
   have e:ltD (d+1) (.mk 26 t n a (x :: l++[b]))=F6 :: (ltD d x++Cb :: (rowT (ltD d) l++Dt :: (ltD d b++[BM]))):=TG x b l;simp only [sz,AN,Bu] at hs h9;rw [e] at hB ⊢;clear e;show Bj.g (PP.at (k+4)) (k+4) (bI (JN pre)) 26 t n a (x :: l++[b])=_;unfold Bj.g A2;simp only [Int.reduceBEq,cond_true,cond_false];show (DD.g (PP.at (k+3)) (k+3) (bI (JN pre)) 26 t n a (x :: l++[b])).bind (λr=>some r)=_;unfold DD.g A2;simp only [Int.reduceBEq,cond_true,cond_false,ix0,CU,Al];have hln:=Et l;obtain ⟨K,hK⟩:∃ K,K=x :: l++[b]:=⟨_,rfl⟩;have hlen:K.length=l.length+2:=by rw [hK];simp
   rw [<- hK];have i0:Bm K (0:Int)=some x:=by rw [hK];rfl
   have i1:Bm K (Ar ((((K.length:Nat)):Int) - (1:Int)))=some b:=by rw [hlen,Fj _ (by omega) (by omega),hK,show (((l.length+2:Nat)):Int) - 1=(((x :: l).length:Nat):Int) by simp;omega];exact ixT
   have i2:D1 K (1:Int) (Ar ((((K.length:Nat)):Int) - (1:Int)))=some l:=by rw [hlen,Fj _ (by omega) (by omega),Gt (lo:=(1:Int)) 1 (l.length+1) rfl (by omega) (by omega) (by omega),hK];simp
   rw [i0,i1,i2];simp only [Al];rw [Dq (ts:=[F6]) (by omega) (by simp) (by simp only [AO,tw] at hB ⊢;omega)];simp only [Al];rw [Ag x (by assumption) (by omega) (by omega) _ (by simp only [AO,tw] at hB ⊢;omega)];simp only [Al];rw [Dq (ts:=[Cb]) (by omega) (by simp) (by simp only [AO,tw] at hB ⊢;omega)];simp only [Al];rw [Rw l _ (by assumption) (by omega) (by omega) (by simp only [AO,tw] at hB ⊢;omega)];simp only [Al];rw [Bd b _ (by assumption) (by omega) (by omega) (by simp only [AO,tw] at hB ⊢;omega)];simp only [Al];simp only [Bx,List.cons_append,List.nil_append]
  | @forIn a t b l m hl hm hb =>
   have e:ltD (d+1) (.mk 27 t (l.length:Nat) a (l++m++[b]))=F6 :: (rowT (ltD d) l++Il :: (rowT (ltD d) m++Dt :: (ltD d b++[BM]))):=TH b l m;simp only [sz,AN,Bu] at hs h9;rw [e] at hB ⊢;clear e;show Bj.g (PP.at (k+4)) (k+4) (bI (JN pre)) 27 t (l.length:Nat) a (l++m++[b])=_;unfold Bj.g A2;simp only [Int.reduceBEq,cond_true,cond_false];show (DD.g (PP.at (k+3)) (k+3) (bI (JN pre)) 27 t (l.length:Nat) a (l++m++[b])).bind (λr=>some r)=_;unfold DD.g A2;simp only [Int.reduceBEq,cond_true,cond_false,ix0,CU,Al];have hln:=Et l;have hlm:=Et m;obtain ⟨K,hK⟩:∃ K,K=l++m++[b]:=⟨_,rfl⟩;have hlen:K.length=l.length+m.length+1:=by rw [hK];simp only [Bv,AH,AX]
   rw [<- hK];have i0:D1 K (0:Int) ((l.length:Nat):Int)=some l:=by rw [Gt (lo:=(0:Int)) 0 l.length rfl rfl (Nat.zero_le _) (by omega),hK];simp
   have i1:Bm K (Ar ((((K.length:Nat)):Int) - (1:Int)))=some b:=by rw [hlen,Fj _ (by omega) (by omega),hK,show (((l.length+m.length+1:Nat)):Int) - 1=(((l++m).length:Nat):Int) by rw [Bv];omega];exact ixT
   have i2:D1 K ((l.length:Nat):Int) (Ar ((((K.length:Nat)):Int) - (1:Int)))=some m:=by rw [hlen,Fj _ (by omega) (by omega),Gt l.length (l.length+m.length) rfl (by omega) (by omega) (by omega),hK];simp
   rw [i0,i1,i2];simp only [Al];rw [Dq (ts:=[F6]) (by omega) (by simp) (by simp only [AO,tw] at hB ⊢;omega)];simp only [Al];rw [Rw l _ (by assumption) (by omega) (by omega) (by simp only [AO,tw] at hB ⊢;omega)];simp only [Al];rw [Dq (ts:=[Il]) (by omega) (by simp) (by simp only [AO,tw] at hB ⊢;omega)];simp only [Al];rw [Rw m _ (by assumption) (by omega) (by omega) (by simp only [AO,tw] at hB ⊢;omega)];simp only [Al];rw [Bd b _ (by assumption) (by omega) (by omega) (by simp only [AO,tw] at hB ⊢;omega)];simp only [Al];simp only [Bx,List.cons_append,List.nil_append]
  | @do_ n a t b hb =>
   have e:ltD (d+1) (.mk 28 t n a [b])=Dt :: (ltD d b++[BM]):=rfl;simp only [sz,AN,Bu] at hs h9;rw [e] at hB ⊢;clear e;show Bj.g (PP.at (k+4)) (k+4) (bI (JN pre)) 28 t n a [b]=_;unfold Bj.g A2;simp only [Int.reduceBEq,cond_true,cond_false];show (DD.g (PP.at (k+3)) (k+3) (bI (JN pre)) 28 t n a [b]).bind (λr=>some r)=_;unfold DD.g A2;simp only [Int.reduceBEq,cond_true,cond_false,ix0,CU,Al];rw [Bd b _ (by assumption) (by omega) (by omega) (by simp only [AO,tw] at hB ⊢;omega)];simp only [Al]
  | @break_ n a t =>
   have e:ltD (d+1) (.mk 29 t n a [])=[Kh]:=rfl;simp only [sz,AN,Bu] at hs h9;rw [e] at hB ⊢;clear e;show Bj.g (PP.at (k+4)) (k+4) (bI (JN pre)) 29 t n a []=_;unfold Bj.g A2;simp only [Int.reduceBEq,cond_true,cond_false];show (DD.g (PP.at (k+3)) (k+3) (bI (JN pre)) 29 t n a []).bind (λr=>some r)=_;unfold DD.g A2;simp only [Int.reduceBEq,cond_true,cond_false,ix0,CU,Al];rw [Dq (ts:=[Kh]) (by omega) (by simp) (by simp only [AO,tw] at hB ⊢;omega)];simp only [Al]
  | @ret n a t l hl =>
   have e:ltD (d+1) (.mk 30 t n a l)=Jw :: rowT (ltD d) l:=rfl;simp only [sz,AN,Bu] at hs h9;rw [e] at hB ⊢;clear e;show Bj.g (PP.at (k+4)) (k+4) (bI (JN pre)) 30 t n a l=_;unfold Bj.g A2;simp only [Int.reduceBEq,cond_true,cond_false];show (DD.g (PP.at (k+3)) (k+3) (bI (JN pre)) 30 t n a l).bind (λr=>some r)=_;unfold DD.g A2;simp only [Int.reduceBEq,cond_true,cond_false,ix0,CU,Al];rw [Dq (ts:=[Jw]) (by omega) (by simp) (by simp only [AO,tw] at hB ⊢;omega)];simp only [Al];rw [Rw l _ (by assumption) (by omega) (by omega) (by simp only [AO,tw] at hB ⊢;omega)];simp only [Al];simp only [Bx,List.cons_append,List.nil_append]
  | @fn a t l b h1 h2 hl hb =>
   have e:ltD (d+1) (.mk 31 t (l.length:Nat) a (l++[b]))=Gm :: t :: DS :: (rowT (ltD d) l++CV :: (ltD d b++[BM])):=TF b l;simp only [sz,AN,Bu] at hs h9;rw [e] at hB ⊢;clear e;show Bj.g (PP.at (k+4)) (k+4) (bI (JN pre)) 31 t (l.length:Nat) a (l++[b])=_;unfold Bj.g A2;simp only [Int.reduceBEq,cond_true,cond_false];show (DD.g (PP.at (k+3)) (k+3) (bI (JN pre)) 31 t (l.length:Nat) a (l++[b])).bind (λr=>some r)=_;unfold DD.g A2;simp only [Int.reduceBEq,cond_true,cond_false,ix0,CU,Al];have hln:=Et l;obtain ⟨K,hK⟩:∃ K,K=l++[b]:=⟨_,rfl⟩;have hlen:K.length=l.length+1:=by rw [hK];simp
   rw [<- hK];have i0:D1 K (0:Int) ((l.length:Nat):Int)=some l:=by rw [Gt (lo:=(0:Int)) 0 l.length rfl rfl (Nat.zero_le _) (by omega),hK];simp
   have i1:Bm K ((l.length:Nat):Int)=some b:=by rw [hK];exact ixT
   rw [i0,i1];simp only [Al];rw [Dq (ts:=[Gm,t,DS]) (by omega) (by simp) (by simp only [AO,tw] at hB ⊢;omega)];simp only [Al];rw [Rw l _ (by assumption) (by omega) (by omega) (by simp only [AO,tw] at hB ⊢;omega)];simp only [Al];rw [Dq (ts:=[CV]) (by omega) (by simp) (by simp only [AO,tw] at hB ⊢;omega)];simp only [Al];rw [Ag b (by assumption) (by omega) (by omega) _ (by simp only [AO,tw] at hB ⊢;omega)];simp only [Al];rw [Dq (ts:=[BM]) (by omega) (by simp) (by simp only [AO,tw] at hB ⊢;omega)];simp only [Al];simp only [Bx,List.cons_append,List.nil_append]
theorem A0u (n:Nat) (h:n<=9223372036854775807):1<=(Lib.decDigits n).length/\(Lib.decDigits n).length<=19:=by
 by_cases h0:n=0;subst h0;rw [Lib.decDigits_one (by decide)];decide;rw [<- rd_dec 19 n (by omega) (by omega),List.length_reverse];refine ⟨?_,Sv 19 n⟩;rw [rdG.eq_2,if_neg h0];simp
theorem Qy {x:Ah} (h:x.size≠0):zc x=0:=if_neg h
theorem Bqj (n:Int) (h1:-9223372036854775808<=n) (h2:n<=9223372036854775807):(H8 n).size<=30/\zc (H8 n)=0:=by
 have:(H8 n).size<=30/\(H8 n).size≠0:=by
  unfold H8;split;have:=A0u n.toNat (by omega);rw [Gv];omega;rw [Gv];simp only [AH,Xi];omega
 exact ⟨this.1,Qy this.2⟩
theorem Bzt (t:Ah) (h:t.size<=30000):(Jf t).size<=120002/\zc (Jf t)=0:=by
 have hl:=U6 (bs t).length (bs t);have:(Jf t).size=(FV (bs t).length (bs t)).length+2:=by
  unfold Jf PB;rw [Gv];simp
 rw [B0] at hl;rw [B0] at this;exact ⟨by omega,Qy (by omega)⟩
section
variable {g:Tree->List Ah}
theorem Ao6:∀ (l:List Tree),(∀ y ∈ l,tw (g y)+20<=200000 * sz y)->tw (IB g l)<=200000 * AN l
 | [],_=>Nat.zero_le _
 | x :: l,h=>by
  have:=Ao6 l λy hy=>h y (DF _ hy);have:=h x (Db ..);have z:D0.size+zc D0=1:=by decide
  simp only [IB,AO,tw,AN];omega
theorem K6 (l:List Tree) (h:∀ y ∈ l,tw (g y)+20<=200000 * sz y):tw (rowT g l)<=200000 * AN l:=by
 cases l with
 | nil=>exact Nat.zero_le _
 | cons x l =>
  have:=Ao6 l λy hy=>h y (DF _ hy);have:=h x (Db ..);simp only [rowT,AO,AN];omega
theorem Aby:∀ (l:List Tree),(∀ y ∈ l,tw (g y)+20<=200000 * sz y)->tw (G2 g l)<=200000 * AN l
 | [],_=>Nat.zero_le _
 | x :: l,h=>by
  have:=Aby l λy hy=>h y (DF _ hy);have:=h x (Db ..);have z:EN.size+zc EN=1:=by decide
  simp only [G2,AO,tw,AN];omega
theorem Ach:∀ (n:Nat) (w:Ah) (l:List Tree),l.length<=n->w.size+zc w<=10->(∀ y ∈ l,tw (g y)+20<=200000 * sz y)->tw (brT g w l)<=200000 * AN l+20
 | _,_,[],_,_,_=>by
  have z:BM.size+zc BM=3:=by decide
  simp only [brT,tw,AN];omega
 | _,_,[b],_,_,h=>by
  have z:BM.size+zc BM=3:=by decide
  have z2:Ik.size+zc Ik=4:=by decide
  have:=h b (Db ..);simp only [brT,AO,tw,AN];omega
 | 0,_,_ :: _ :: _,hn,_,_=>by simp at hn
 | n+1,w,e :: b :: l,hn,hw,h=>by
  have z:Jx.size+zc Jx=4:=by decide
  have z2:FP.size+zc FP=6:=by decide
  have h1:=h e (Db ..);have h2:=h b (DF _ (Db ..));have:=Ach n FP l (by simp at hn;omega) (by omega) λy hy=>h y (DF _ (DF _ hy));simp only [brT,AO,tw,AN];omega
end
theorem ZD:∀ (d:Nat) (x:Tree),Pr x->sz x<=d->tw (ltD d x)+20<=200000 * sz x
 | 0,x,_,h=>by have:=szP x;omega
 | d+1,x,hx,hs=>by
  have ih:∀ y,Pr y->sz y<=d->tw (ltD d y)+20<=200000 * sz y:=λy h1 h2=>ZD d y h1 h2;have z0:Kk.size+zc Kk<=10:=by decide
  have z1:Kl.size+zc Kl<=10:=by decide
  have z2:Ki.size+zc Ki<=10:=by decide
  have z3:FQ.size+zc FQ<=10:=by decide
  have z4:kRb.size+zc kRb<=10:=by decide
  have z5:DS.size+zc DS<=10:=by decide
  have z6:CV.size+zc CV<=10:=by decide
  have z7:Kj.size+zc Kj<=10:=by decide
  have z8:G_.size+zc G_<=10:=by decide
  have z9:Cb.size+zc Cb<=10:=by decide
  have z10:I4.size+zc I4<=10:=by decide
  have z11:F6.size+zc F6<=10:=by decide
  have z12:Il.size+zc Il<=10:=by decide
  have z13:Dt.size+zc Dt<=10:=by decide
  have z14:BM.size+zc BM<=10:=by decide
  have z15:Km.size+zc Km<=10:=by decide
  have z16:Kh.size+zc Kh<=10:=by decide
  have z17:Jw.size+zc Jw<=10:=by decide
  have z18:Gm.size+zc Gm<=10:=by decide
  have z19:kIf.size+zc kIf<=10:=by decide
  cases hx with
  | @atom k0 n a t h =>
   rcases h with rfl | rfl | rfl;have e:ltD (d+1) (.mk 1 t n a [])=[Kk]:=rfl;rw [e];simp only [sz,AN,tw];omega;have e:ltD (d+1) (.mk 2 t n a [])=[Kl]:=rfl;rw [e];simp only [sz,AN,tw];omega;have e:ltD (d+1) (.mk 3 t n a [])=[Ki]:=rfl;rw [e];simp only [sz,AN,tw];omega
  | @int n a t h1 h2 =>
   have e:ltD (d+1) (.mk 4 t n a [])=[H8 n]:=rfl;rw [e];simp only [sz,AN,Bu] at hs ⊢;clear e;have:=Bqj n h1 h2
   try simp only [AO,tw]
   omega
  | @str n a t h1 =>
   have e:ltD (d+1) (.mk 5 t n a [])=[Jf t]:=rfl;rw [e];simp only [sz,AN,Bu] at hs ⊢;clear e;have:=Bzt t h1
   try simp only [AO,tw]
   omega
  | @name n a t h1 h2 =>
   have e:ltD (d+1) (.mk 6 t n a [])=[t]:=rfl;rw [e];simp only [sz,AN,Bu] at hs ⊢;clear e;have:=Qy h2
   try simp only [AO,tw]
   omega
  | @index n a t x y hx hy =>
   have e:ltD (d+1) (.mk 7 t n a [x,y])=ltD d x++FQ :: (ltD d y++[kRb]):=rfl;rw [e];simp only [sz,AN,Bu] at hs ⊢;clear e;have i_x:=ih x (by assumption) (by omega);have i_y:=ih y (by assumption) (by omega)
   try simp only [AO,tw]
   omega
  | @call n a t x l hx hl =>
   have e:ltD (d+1) (.mk 8 t n a (x :: l))=ltD d x++DS :: (rowT (ltD d) l++[CV]):=rfl;rw [e];simp only [sz,AN,Bu] at hs ⊢;clear e;have i_x:=ih x (by assumption) (by omega);have It:=K6 l λy hy=>ih y (hl y hy) (by have:=Dr hy;omega)
   try simp only [AO,tw]
   omega
  | @paren n a t x hx =>
   have e:ltD (d+1) (.mk 9 t n a [x])=DS :: (ltD d x++[CV]):=rfl;rw [e];simp only [sz,AN,Bu] at hs ⊢;clear e;have i_x:=ih x (by assumption) (by omega)
   try simp only [AO,tw]
   omega
  | @unary n a t x h1 h2 hx =>
   have e:ltD (d+1) (.mk 10 t n a [x])=t :: ltD d x:=rfl;rw [e];simp only [sz,AN,Bu] at hs ⊢;clear e;have:=Qy h2;have i_x:=ih x (by assumption) (by omega)
   try simp only [AO,tw]
   omega
  | @binary n a t x y h1 h2 hx hy =>
   have e:ltD (d+1) (.mk 11 t n a [x,y])=ltD d x++t :: ltD d y:=rfl;rw [e];simp only [sz,AN,Bu] at hs ⊢;clear e;have:=Qy h2;have i_x:=ih x (by assumption) (by omega);have i_y:=ih y (by assumption) (by omega)
   try simp only [AO,tw]
   omega
  | @table n a t l hl =>
   have e:ltD (d+1) (.mk 12 t n a l)=Kj :: (rowT (ltD d) l++[G_]):=rfl;rw [e];simp only [sz,AN,Bu] at hs ⊢;clear e;have It:=K6 l λy hy=>ih y (hl y hy) (by have:=Dr hy;omega)
   try simp only [AO,tw]
   omega
  | @item n a t x hx =>
   have e:ltD (d+1) (.mk 13 t n a [x])=ltD d x:=rfl;rw [e];simp only [sz,AN,Bu] at hs ⊢;clear e;have i_x:=ih x (by assumption) (by omega)
   try simp only [AO,tw]
   omega
  | @field n a t x y hx hy =>
   have e:ltD (d+1) (.mk 14 t n a [x,y])=FQ :: (ltD d x++kRb :: Cb :: ltD d y):=rfl;rw [e];simp only [sz,AN,Bu] at hs ⊢;clear e;have i_x:=ih x (by assumption) (by omega);have i_y:=ih y (by assumption) (by omega)
   try simp only [AO,tw]
   omega
  | @block n a t l hl =>
   have e:ltD (d+1) (.mk 20 t n a l)=G2 (ltD d) l:=rfl;rw [e];simp only [sz,AN,Bu] at hs ⊢;clear e;have:=Aby l λy hy=>ih y (hl y hy) (by have:=Dr hy;omega)
   try simp only [AO,tw]
   omega
  | @loc a t l m hl hm =>
   have e:ltD (d+1) (.mk 21 t (l.length:Nat) a (l++m))=I4 :: (rowT (ltD d) l++(if m=[] then [] else Cb :: rowT (ltD d) m)):=Tp l m;rw [e];simp only [sz,AN,Bu] at hs ⊢;clear e;have It:=K6 l λy hy=>ih y (hl y hy) (by have:=Dr hy;omega);have r_m:=K6 m λy hy=>ih y (hm y hy) (by have:=Dr hy;omega);have:tw (if m=[] then [] else Cb :: rowT (ltD d) m)<=200000 * AN m+20:=by
    split;exact Nat.zero_le _;simp only [tw];omega
   try simp only [AO,tw]
   omega
  | @asg a t l m hl hm =>
   have e:ltD (d+1) (.mk 22 t (l.length:Nat) a (l++m))=rowT (ltD d) l++(if m=[] then [] else Cb :: rowT (ltD d) m):=QD l m;rw [e];simp only [sz,AN,Bu] at hs ⊢;clear e;have It:=K6 l λy hy=>ih y (hl y hy) (by have:=Dr hy;omega);have r_m:=K6 m λy hy=>ih y (hm y hy) (by have:=Dr hy;omega);have:tw (if m=[] then [] else Cb :: rowT (ltD d) m)<=200000 * AN m+20:=by
    split;exact Nat.zero_le _;simp only [tw];omega
   try simp only [AO,tw]
   omega
  | @run n a t x hx =>
   have e:ltD (d+1) (.mk 23 t n a [x])=ltD d x:=rfl;rw [e];simp only [sz,AN,Bu] at hs ⊢;clear e;have i_x:=ih x (by assumption) (by omega)
   try simp only [AO,tw]
   omega
  | @if_ n a t l hl =>
   have e:ltD (d+1) (.mk 24 t n a l)=brT (ltD d) kIf l:=rfl;rw [e];simp only [sz,AN,Bu] at hs ⊢;clear e;have:=Ach l.length kIf l (Nat.le_refl _) (by decide) λy hy=>ih y (hl y hy) (by have:=Dr hy;omega)
   try simp only [AO,tw]
   omega
  | @while_ n a t x b hx hb =>
   have e:ltD (d+1) (.mk 25 t n a [x,b])=Km :: (ltD d x++Dt :: (ltD d b++[BM])):=rfl;rw [e];simp only [sz,AN,Bu] at hs ⊢;clear e;have i_x:=ih x (by assumption) (by omega);have LM:=ih b (by assumption) (by omega)
   try simp only [AO,tw]
   omega
  | @for_ n a t x b l hx hl hb =>
   have e:ltD (d+1) (.mk 26 t n a (x :: l++[b]))=F6 :: (ltD d x++Cb :: (rowT (ltD d) l++Dt :: (ltD d b++[BM]))):=TG x b l;rw [e];simp only [sz,AN,Bu] at hs ⊢;clear e;have i_x:=ih x (by assumption) (by omega);have LM:=ih b (by assumption) (by omega);have It:=K6 l λy hy=>ih y (hl y hy) (by have:=Dr hy;omega)
   try simp only [AO,tw]
   omega
  | @forIn a t b l m hl hm hb =>
   have e:ltD (d+1) (.mk 27 t (l.length:Nat) a (l++m++[b]))=F6 :: (rowT (ltD d) l++Il :: (rowT (ltD d) m++Dt :: (ltD d b++[BM]))):=TH b l m;rw [e];simp only [sz,AN,Bu] at hs ⊢;clear e;have LM:=ih b (by assumption) (by omega);have It:=K6 l λy hy=>ih y (hl y hy) (by have:=Dr hy;omega);have r_m:=K6 m λy hy=>ih y (hm y hy) (by have:=Dr hy;omega)
   try simp only [AO,tw]
   omega
  | @do_ n a t b hb =>
   have e:ltD (d+1) (.mk 28 t n a [b])=Dt :: (ltD d b++[BM]):=rfl;rw [e];simp only [sz,AN,Bu] at hs ⊢;clear e;have LM:=ih b (by assumption) (by omega)
   try simp only [AO,tw]
   omega
  | @break_ n a t =>
   have e:ltD (d+1) (.mk 29 t n a [])=[Kh]:=rfl;rw [e];simp only [sz,AN,Bu] at hs ⊢;clear e
   try simp only [AO,tw]
   omega
  | @ret n a t l hl =>
   have e:ltD (d+1) (.mk 30 t n a l)=Jw :: rowT (ltD d) l:=rfl;rw [e];simp only [sz,AN,Bu] at hs ⊢;clear e;have It:=K6 l λy hy=>ih y (hl y hy) (by have:=Dr hy;omega)
   try simp only [AO,tw]
   omega
  | @fn a t l b h1 h2 hl hb =>
   have e:ltD (d+1) (.mk 31 t (l.length:Nat) a (l++[b]))=Gm :: t :: DS :: (rowT (ltD d) l++CV :: (ltD d b++[BM])):=TF b l;rw [e];simp only [sz,AN,Bu] at hs ⊢;clear e;have:=Qy h2;have LM:=ih b (by assumption) (by omega);have It:=K6 l λy hy=>ih y (hl y hy) (by have:=Dr hy;omega)
   try simp only [AO,tw]
   omega
section
variable {g:Tree->List Ah}
theorem Ao5:∀ (l:List Tree),(∀ y ∈ l,(g y).length+2<=10 * sz y)->(IB g l).length<=10 * AN l
 | [],_=>Nat.zero_le _
 | x :: l,h=>by
  have:=Ao5 l λy hy=>h y (DF _ hy);have:=h x (Db ..);simp only [IB,Bv,AH,AN];omega
theorem K5 (l:List Tree) (h:∀ y ∈ l,(g y).length+2<=10 * sz y):(rowT g l).length<=10 * AN l:=by
 cases l with
 | nil=>exact Nat.zero_le _
 | cons x l =>
  have:=Ao5 l λy hy=>h y (DF _ hy);have:=h x (Db ..);simp only [rowT,Bv,AN];omega
theorem Abx:∀ (l:List Tree),(∀ y ∈ l,(g y).length+2<=10 * sz y)->(G2 g l).length<=10 * AN l
 | [],_=>Nat.zero_le _
 | x :: l,h=>by
  have:=Abx l λy hy=>h y (DF _ hy);have:=h x (Db ..);simp only [G2,Bv,AH,AN];omega
theorem Acg:∀ (n:Nat) (w:Ah) (l:List Tree),l.length<=n->(∀ y ∈ l,(g y).length+2<=10 * sz y)->(brT g w l).length<=10 * AN l+2
 | _,_,[],_,_=>by simp [brT]
 | _,_,[b],_,h=>by
  have:=h b (Db ..);simp only [brT,Bv,AH,AX,AN];omega
 | 0,_,_ :: _ :: _,hn,_=>by simp at hn
 | n+1,w,e :: b :: l,hn,h=>by
  have h1:=h e (Db ..);have h2:=h b (DF _ (Db ..));have:=Acg n FP l (by simp at hn;omega) λy hy=>h y (DF _ (DF _ hy));simp only [brT,Bv,AH,AN];omega
end
theorem Akt:∀ (d:Nat) (x:Tree),Pr x->sz x<=d->(ltD d x).length+2<=10 * sz x
 | 0,x,_,h=>by have:=szP x;omega
 | d+1,x,hx,hs=>by
  have ih:∀ y,Pr y->sz y<=d->(ltD d y).length+2<=10 * sz y:=λy h1 h2=>Akt d y h1 h2;cases hx with
  | @atom k0 n a t h =>
   rcases h with rfl | rfl | rfl;have e:ltD (d+1) (.mk 1 t n a [])=[Kk]:=rfl;rw [e];simp only [sz,AN,AH,AX];omega;have e:ltD (d+1) (.mk 2 t n a [])=[Kl]:=rfl;rw [e];simp only [sz,AN,AH,AX];omega;have e:ltD (d+1) (.mk 3 t n a [])=[Ki]:=rfl;rw [e];simp only [sz,AN,AH,AX];omega
  | @int n a t h1 h2 =>
   have e:ltD (d+1) (.mk 4 t n a [])=[H8 n]:=rfl;rw [e];simp only [sz,AN,Bu] at hs ⊢;clear e
   try simp only [Bv,AH,AX]
   omega
  | @str n a t h1 =>
   have e:ltD (d+1) (.mk 5 t n a [])=[Jf t]:=rfl;rw [e];simp only [sz,AN,Bu] at hs ⊢;clear e
   try simp only [Bv,AH,AX]
   omega
  | @name n a t h1 h2 =>
   have e:ltD (d+1) (.mk 6 t n a [])=[t]:=rfl;rw [e];simp only [sz,AN,Bu] at hs ⊢;clear e
   try simp only [Bv,AH,AX]
   omega
  | @index n a t x y hx hy =>
   have e:ltD (d+1) (.mk 7 t n a [x,y])=ltD d x++FQ :: (ltD d y++[kRb]):=rfl;rw [e];simp only [sz,AN,Bu] at hs ⊢;clear e;have i_x:=ih x (by assumption) (by omega);have i_y:=ih y (by assumption) (by omega)
   try simp only [Bv,AH,AX]
   omega
  | @call n a t x l hx hl =>
   have e:ltD (d+1) (.mk 8 t n a (x :: l))=ltD d x++DS :: (rowT (ltD d) l++[CV]):=rfl;rw [e];simp only [sz,AN,Bu] at hs ⊢;clear e;have i_x:=ih x (by assumption) (by omega);have It:=K5 l λy hy=>ih y (hl y hy) (by have:=Dr hy;omega)
   try simp only [Bv,AH,AX]
   omega
  | @paren n a t x hx =>
   have e:ltD (d+1) (.mk 9 t n a [x])=DS :: (ltD d x++[CV]):=rfl;rw [e];simp only [sz,AN,Bu] at hs ⊢;clear e;have i_x:=ih x (by assumption) (by omega)
   try simp only [Bv,AH,AX]
   omega
  | @unary n a t x h1 h2 hx =>
   have e:ltD (d+1) (.mk 10 t n a [x])=t :: ltD d x:=rfl;rw [e];simp only [sz,AN,Bu] at hs ⊢;clear e;have i_x:=ih x (by assumption) (by omega)
   try simp only [Bv,AH,AX]
   omega
  | @binary n a t x y h1 h2 hx hy =>
   have e:ltD (d+1) (.mk 11 t n a [x,y])=ltD d x++t :: ltD d y:=rfl;rw [e];simp only [sz,AN,Bu] at hs ⊢;clear e;have i_x:=ih x (by assumption) (by omega);have i_y:=ih y (by assumption) (by omega)
   try simp only [Bv,AH,AX]
   omega
  | @table n a t l hl =>
   have e:ltD (d+1) (.mk 12 t n a l)=Kj :: (rowT (ltD d) l++[G_]):=rfl;rw [e];simp only [sz,AN,Bu] at hs ⊢;clear e;have It:=K5 l λy hy=>ih y (hl y hy) (by have:=Dr hy;omega)
   try simp only [Bv,AH,AX]
   omega
  | @item n a t x hx =>
   have e:ltD (d+1) (.mk 13 t n a [x])=ltD d x:=rfl;rw [e];simp only [sz,AN,Bu] at hs ⊢;clear e;have i_x:=ih x (by assumption) (by omega)
   try simp only [Bv,AH,AX]
   omega
  | @field n a t x y hx hy =>
   have e:ltD (d+1) (.mk 14 t n a [x,y])=FQ :: (ltD d x++kRb :: Cb :: ltD d y):=rfl;rw [e];simp only [sz,AN,Bu] at hs ⊢;clear e;have i_x:=ih x (by assumption) (by omega);have i_y:=ih y (by assumption) (by omega)
   try simp only [Bv,AH,AX]
   omega
  | @block n a t l hl =>
   have e:ltD (d+1) (.mk 20 t n a l)=G2 (ltD d) l:=rfl;rw [e];simp only [sz,AN,Bu] at hs ⊢;clear e;have:=Abx l λy hy=>ih y (hl y hy) (by have:=Dr hy;omega)
   try simp only [Bv,AH,AX]
   omega
  | @loc a t l m hl hm =>
   have e:ltD (d+1) (.mk 21 t (l.length:Nat) a (l++m))=I4 :: (rowT (ltD d) l++(if m=[] then [] else Cb :: rowT (ltD d) m)):=Tp l m;rw [e];simp only [sz,AN,Bu] at hs ⊢;clear e;have It:=K5 l λy hy=>ih y (hl y hy) (by have:=Dr hy;omega);have r_m:=K5 m λy hy=>ih y (hm y hy) (by have:=Dr hy;omega);have:(if m=[] then [] else Cb :: rowT (ltD d) m).length<=10 * AN m+1:=by
    split;exact Nat.zero_le _;simp only [AH];omega
   try simp only [Bv,AH,AX]
   omega
  | @asg a t l m hl hm =>
   have e:ltD (d+1) (.mk 22 t (l.length:Nat) a (l++m))=rowT (ltD d) l++(if m=[] then [] else Cb :: rowT (ltD d) m):=QD l m;rw [e];simp only [sz,AN,Bu] at hs ⊢;clear e;have It:=K5 l λy hy=>ih y (hl y hy) (by have:=Dr hy;omega);have r_m:=K5 m λy hy=>ih y (hm y hy) (by have:=Dr hy;omega);have:(if m=[] then [] else Cb :: rowT (ltD d) m).length<=10 * AN m+1:=by
    split;exact Nat.zero_le _;simp only [AH];omega
   try simp only [Bv,AH,AX]
   omega
  | @run n a t x hx =>
   have e:ltD (d+1) (.mk 23 t n a [x])=ltD d x:=rfl;rw [e];simp only [sz,AN,Bu] at hs ⊢;clear e;have i_x:=ih x (by assumption) (by omega)
   try simp only [Bv,AH,AX]
   omega
  | @if_ n a t l hl =>
   have e:ltD (d+1) (.mk 24 t n a l)=brT (ltD d) kIf l:=rfl;rw [e];simp only [sz,AN,Bu] at hs ⊢;clear e;have:=Acg l.length kIf l (Nat.le_refl _) λy hy=>ih y (hl y hy) (by have:=Dr hy;omega)
   try simp only [Bv,AH,AX]
   omega
  | @while_ n a t x b hx hb =>
   have e:ltD (d+1) (.mk 25 t n a [x,b])=Km :: (ltD d x++Dt :: (ltD d b++[BM])):=rfl;rw [e];simp only [sz,AN,Bu] at hs ⊢;clear e;have i_x:=ih x (by assumption) (by omega);have LM:=ih b (by assumption) (by omega)
   try simp only [Bv,AH,AX]
   omega
  | @for_ n a t x b l hx hl hb =>
   have e:ltD (d+1) (.mk 26 t n a (x :: l++[b]))=F6 :: (ltD d x++Cb :: (rowT (ltD d) l++Dt :: (ltD d b++[BM]))):=TG x b l;rw [e];simp only [sz,AN,Bu] at hs ⊢;clear e;have i_x:=ih x (by assumption) (by omega);have LM:=ih b (by assumption) (by omega);have It:=K5 l λy hy=>ih y (hl y hy) (by have:=Dr hy;omega)
   try simp only [Bv,AH,AX]
   omega
  | @forIn a t b l m hl hm hb =>
   have e:ltD (d+1) (.mk 27 t (l.length:Nat) a (l++m++[b]))=F6 :: (rowT (ltD d) l++Il :: (rowT (ltD d) m++Dt :: (ltD d b++[BM]))):=TH b l m;rw [e];simp only [sz,AN,Bu] at hs ⊢;clear e;have LM:=ih b (by assumption) (by omega);have It:=K5 l λy hy=>ih y (hl y hy) (by have:=Dr hy;omega);have r_m:=K5 m λy hy=>ih y (hm y hy) (by have:=Dr hy;omega)
   try simp only [Bv,AH,AX]
   omega
  | @do_ n a t b hb =>
   have e:ltD (d+1) (.mk 28 t n a [b])=Dt :: (ltD d b++[BM]):=rfl;rw [e];simp only [sz,AN,Bu] at hs ⊢;clear e;have LM:=ih b (by assumption) (by omega)
   try simp only [Bv,AH,AX]
   omega
  | @break_ n a t =>
   have e:ltD (d+1) (.mk 29 t n a [])=[Kh]:=rfl;rw [e];simp only [sz,AN,Bu] at hs ⊢;clear e
   try simp only [Bv,AH,AX]
   omega
  | @ret n a t l hl =>
   have e:ltD (d+1) (.mk 30 t n a l)=Jw :: rowT (ltD d) l:=rfl;rw [e];simp only [sz,AN,Bu] at hs ⊢;clear e;have It:=K5 l λy hy=>ih y (hl y hy) (by have:=Dr hy;omega)
   try simp only [Bv,AH,AX]
   omega
  | @fn a t l b h1 h2 hl hb =>
   have e:ltD (d+1) (.mk 31 t (l.length:Nat) a (l++[b]))=Gm :: t :: DS :: (rowT (ltD d) l++CV :: (ltD d b++[BM])):=TF b l;rw [e];simp only [sz,AN,Bu] at hs ⊢;clear e;have LM:=ih b (by assumption) (by omega);have It:=K5 l λy hy=>ih y (hl y hy) (by have:=Dr hy;omega)
   try simp only [Bv,AH,AX]
   omega
end
section
open Go Go.RowKit
def eT3 (n:Tree) (i f:Int):Int×Ah×Int×Int×List Tree×Int×Int:=(n.kind,n.text,n.n,n.at_,n.kids,i,f)
def GV (n:List Tree) (i f:Int):List Tree×Int×Int:=(n,i,f)
def EY (_:Unit) (i f:Int):Int×Int:=(i,f)
def EE (l:List Tk):Int:=(l.length:Int) - 1
def Rel {α β:Type} (l:List Tk) (Af:α->Prop) (e:α->Int->Int->β) (x:Option β):PV α->Prop
 | .ok a r=>x=some (e a (ix l r) (-1))
 | .bad b=>0<=b/\∃ a,Af a/\x=some (e a (EE l) b)
def GT (_:Tree):Prop:=True
def GU (_:Unit):Prop:=True
def GL (a:List Tree):Prop:=a.length<=3000000
theorem C1 {α β α' β':Type} {l ts:List Tk} {n:Nat} {Af:α->Prop} {G':α'->Prop} {e:α->Int->Int->β} {e':α'->Int->Int->β'} {x:Option β} {v:PV α} {F:β->Option β'} {g:α->List Tk->PV α'} (hx:Rel l Af e x v) (hw:Fwd n ts v)
  (h1:∀ a r,v=.ok a r->Good r->r <:+ ts->r.length+n<=ts.length->Rel l G' e' (F (e a (ix l r) (-1))) (g a r)) (h2:∀ a b,0<=b->Af a->∃ a',G' a'/\F (e a (EE l) b)=some (e' a' (EE l) b)):Rel l G' e' (x.bind F) (v.then g):=by
 cases v with
 | bad b =>
  obtain ⟨hb,a,ha,rfl⟩:=hx;obtain ⟨a',ha',h⟩:=h2 a b hb ha;exact ⟨hb,a',ha',h⟩
 | ok a r =>
  have hx:x=_:=hx;subst hx;exact h1 a r rfl hw.1 hw.2.2 hw.2.1
theorem Fg {α β:Type} {l:List Tk} {Af:α->Prop} {e:α->Int->Int->β} {c:Prop} [Decidable c] {b:Bool} {x y:Option β} {v w:PV α} (hb:b=decide c) (h1:c->Rel l Af e x v) (h2:¬ c->Rel l Af e y w):Rel l Af e (cond b x y) (if c then v else w):=by
 subst hb;by_cases h:c;rw [if_pos h,decide_eq_true h];exact h1 h;rw [if_neg h,decide_eq_false h];exact h2 h
def Jn (ts:List Tk):Prop:=∀ t ∈ ts,0<=t.2.2.2
theorem Jn.hd {ts:List Tk} (h:Jn ts):0<=(hd ts).2.2.2:=by
 cases ts with
 | nil=>exact Int.le_refl _
 | cons t ts=>exact h t (Db ..)
theorem Jn.suf {ts r:List Tk} (h:Jn ts) (hs:r <:+ ts):Jn r:=λt ht=>h t (hs.subset ht)
theorem Ag4 {w:Ah} {ts:List Tk} (h:Az w ts=true) (w':Ah):Az w' ts=(w.toList == w'.toList):=by
 unfold Az isT at *;simp only [Bool.and_eq_true] at h;rw [h.1,Bool.true_and,eq_of_beq h.2]
theorem Bl6 {w:Ah} {ts:List Tk} (h:Az w ts=true):(hd ts).2.1=w:=by
 unfold Az isT at h;simp only [Bool.and_eq_true] at h;have:=eq_of_beq h.2;rw [Lib.toList_data,Lib.toList_data] at this;have e:∀ a b:Ah,a.data.toList=b.data.toList->a=b:=λa b h=>by
  cases a;cases b;simp only [ByteArray.mk.injEq];exact Array.toList_inj.1 h
 exact e _ _ this
section
variable {l:List Tk} (hl:l.length<=1000000) (h0:l≠[]) (k:Nat)
include hl h0
theorem XP:1<=l.length:=by cases l with | nil=>exact absurd rfl h0 | cons=>simp
theorem Xj:∃ t,Bm l (EE l)=some t:=by
 have:=XP hl h0;unfold Bm EE;rw [if_pos (by omega),show ((l.length:Int) - 1).toNat=l.length - 1 by omega];exact ⟨l[l.length - 1],List.getElem?_eq_getElem (by omega)⟩
theorem QG (i at_:Int):Hl.f k l i (-1) at_=some (EE l,at_):=by
 have:=XP hl h0;unfold Hl.f EE;simp only [A2];rw [wrapM _ (by omega) (by omega)];rfl
variable {b:Int} (hb:0<=b)
include hb
theorem Vs (i at_:Int):Hl.f k l i b at_=some (EE l,b):=by
 have:=XP hl h0;unfold Hl.f EE;simp only [A2];rw [wrapM _ (by omega) (by omega),decide_eq_false (by omega)];rfl
theorem Tr:∃ t,FL.f k l (EE l) b=some t:=by
 obtain ⟨t,ht⟩:=Xj hl h0;unfold FL.f;rw [ht];exact ⟨_,rfl⟩
theorem S3 (w:Ah):D4.f k l (EE l) b w=some false:=by
 obtain ⟨t,ht⟩:=Xj hl h0;unfold D4.f;rw [ht,decide_eq_false (by omega)];rfl
theorem Ia (w:Ah):BV.f k l (EE l) b w=some (false,EE l):=by
 unfold BV.f;rw [S3 hl h0 k hb];rfl
theorem FS (w:Ah):C6.f k l (EE l) b w=some (EE l,b):=by
 unfold C6.f;rw [Ia hl h0 k hb];obtain ⟨t,ht⟩:=Tr hl h0 k hb;simp only [Al,Bool.not_false,cond_true,ht,Vs hl h0 k hb]
theorem Akx (kd:Int):Ff.f k l (EE l) b kd=some (0,⟨#[]⟩,0,0,[],EE l,b):=by
 obtain ⟨t,ht⟩:=Xj hl h0;unfold Ff.f;rw [ht,decide_eq_true (by omega)];simp only [Al,cond_true,Vs hl h0 k hb]
theorem A3q:K4.f k l (EE l) b=some true:=by
 unfold K4.f;rw [decide_eq_true (by omega)];rfl
theorem Akl (L:List Ah) (J:Unit->Option Ah):∀ (m:Nat) (j:Nat),L.length < m+j->j<=L.length->L.length<=100->ET.l0 m l (EE l) b L J (j:Int)=J ()
 | 0,j,h,h',_=>by omega
 | m+1,j,h,h',h2=>by
  rw [ET.l0];by_cases hj:j < L.length;rw [decide_eq_true (by omega),show Bm L (j:Int)=some L[j] by unfold Bm;rw [if_pos (by omega),Int.toNat_natCast];exact List.getElem?_eq_getElem hj];simp only [cond_true,Al,S3 hl h0 m hb,cond_false];rw [wrapM _ (by omega) (by omega),show (j:Int)+1=((j+1:Nat):Int) by omega];exact Akl L J m (j+1) (by omega) (by omega) h2;rw [decide_eq_false (by omega)];rfl
theorem Akm (hk:10<=k) (lev:Int):ET.f k l (EE l) b lev=some ⟨#[]⟩:=by
 have key:∀ L:List Ah,L.length<=6->ET.l0 k l (EE l) b L (λ_=>some ⟨#[]⟩) (0:Int)=some ⟨#[]⟩:=λL hL=>Akl hl h0 hb L _ k 0 (by omega) (by omega) (by omega);unfold ET.f;simp only [A2];cases lev == (2:Int) with
 | true=>exact key _ (by simp)
 | false =>
 cases lev == (3:Int) with
 | true=>exact key _ (by simp)
 | false =>
 cases lev == (4:Int) with
 | true=>exact key _ (by simp)
 | false =>
 cases lev == (5:Int) with
 | true=>exact key _ (by simp)
 | false =>
 cases lev == (6:Int) with
 | true=>exact key _ (by simp)
 | false=>exact key _ (by simp)
def P2:Tree:=.mk 0 ⟨#[]⟩ 0 0 []
theorem XS (J:List Tree->Int->Int->Option (List Tree×Int×Int)) (acc:List Tree) (m:Nat) (hm:0 < m):FD.l0 m l J acc (EE l) b=J acc (EE l) b:=by
 obtain ⟨m,rfl⟩:∃ n,m=n+1:=⟨m - 1,by omega⟩;rw [FD.l0,Ia hl h0 m hb];rfl
theorem Ak3 (hk:0 < k):FD.f k l (EE l) b=some ([P2],EE l,b):=by
 unfold FD.f;rw [Akx hl h0 k hb];simp only [Al,A2];exact XS hl h0 hb _ _ k hk
end
section
variable {l ts:List Tk} (hl:l.length<=1000000) (ha:Jn l) (k:Nat) (hg:Good ts) (hs:ts <:+ l)
include hg hs
theorem Aqi:l≠[]:=λh=>by
 subst h;have:=hs.length_le;cases ts with
 | nil=>exact hg
 | cons=>simp at this
theorem Nl:FL.f k l (ix l ts) (-1)=some (hd ts).2.2.2:=by
 unfold FL.f;rw [Kd hg hs];rfl
theorem Lt (w:Ah):D4.f k l (ix l ts) (-1) w=some (Az w ts):=by
 unfold D4.f;rw [Kd hg hs];simp only [Al,Az,isT,show decide ((-1:Int) < 0)=true from rfl,cond_true];cases (hd ts).1 == (2:Int) <;> cases (hd ts).1 == (5:Int) <;> rfl
theorem Ade:K4.f k l (ix l ts) (-1)=some (IQ ts):=by
 unfold K4.f IQ;rw [Kd hg hs];simp only [Lt k hg hs,Al,BM,Ik,FP,show decide ((-1:Int) >= 0)=false from rfl,cond_false];generalize ((hd ts).1 == (6:Int))=b1;generalize Az (⟨#[101,110,100]⟩:Ah) ts=b2;generalize Az (⟨#[101,108,115,101]⟩:Ah) ts=b3;generalize Az (⟨#[101,108,115,101,105,102]⟩:Ah) ts=b4;cases b1 <;> cases b2 <;> cases b3 <;> cases b4 <;> rfl
include hl
theorem DZ (w:Ah):BV.f k l (ix l ts) (-1) w=some (Az w ts,ix l (if Az w ts then ts.tail else ts)):=by
 unfold BV.f;rw [Lt k hg hs];simp only [Al];cases h:Az w ts with
 | true=>simp only [cond_true,if_true,H3 hl hg hs (AQ h)]
 | false=>rfl
include ha
theorem G7 (w:Ah):Rel l GU EY (C6.f k l (ix l ts) (-1) w) (CK w ts):=by
 unfold C6.f CK;rw [DZ hl k hg hs];simp only [Al];cases h:Az w ts with
 | true=>rfl
 | false =>
  simp only [Bool.not_false,cond_true,Bool.false_eq_true,if_false];rw [Nl k hg hs];simp only [Al,QG hl (Aqi hg hs) k];exact ⟨(ha.suf hs).hd,(),Aj,rfl⟩
theorem MH (kd:Int):Rel l GT eT3 (Ff.f k l (ix l ts) (-1) kd) (FZ kd ts):=by
 unfold Ff.f FZ;rw [Kd hg hs];simp only [Al,show decide ((-1:Int) >= 0)=false from rfl,cond_false];by_cases h:(hd ts).1=1;rw [if_pos h,h,H3 hl hg hs (by omega)];rfl;rw [if_neg h,show ((hd ts).1 != 1)=true by rw [bne_iff_ne];exact h];simp only [cond_true,QG hl (Aqi hg hs) k,Al];exact ⟨(ha.suf hs).hd,.mk _ _ _ _ _,Aj,rfl⟩
omit ha
theorem Bp6 (J:Unit->Option Ah) (suf:D9):∀ (m:Nat) (pre:D9),suf.length < m->pre.length+suf.length<=100->ET.l0 m l (ix l ts) (-1) (pre++suf) J (pre.length:Int)=match suf.find? (λw=>Az w ts) with | some w=>some w | none=>J ():=by
 induction suf with
 | nil =>
  intro m pre hm hp;obtain ⟨m,rfl⟩:∃ n,m=n+1:=⟨m - 1,by omega⟩;rw [ET.l0,decide_eq_false (by simp)];rfl
 | cons w suf ih =>
  intro m pre hm hp;obtain ⟨m,rfl⟩:∃ n,m=n+1:=⟨m - 1,by omega⟩;simp only [AH] at hm hp;have hx:Bm (pre++w :: suf) (pre.length:Int)=some w:=by
   unfold Bm;rw [if_pos (by omega),Int.toNat_natCast];simp
  rw [ET.l0,decide_eq_true (by simp;omega),hx];simp only [cond_true,Al,Lt m hg hs,List.find?_cons];cases Az w ts with
  | true=>rfl
  | false =>
   simp only [cond_false];rw [wrapM _ (by omega) (by omega),show (pre.length:Int)+1=((pre++[w]).length:Nat) by simp];have:=ih m (pre++[w]) (by omega) (by simp;omega);simp only [Bx,List.cons_append,List.nil_append] at this;exact this
end
theorem Azw {w:Ah} {ts:List Tk} (h:Az w ts=true):Cv ts=(if w.toList == kOr.toList then 1 else if w.toList == Pe.toList then 2
 else if w.toList == Ph.toList || w.toList == kGt.toList || w.toList == kLe.toList || w.toList == kGe.toList || w.toList == Pi.toList || w.toList == Pg.toList then 3
 else if w.toList == Pf.toList then 4 else if w.toList == Pk.toList || w.toList == IX.toList then 5 else if w.toList == Pm.toList || w.toList == Pl.toList || w.toList == Pj.toList then 6 else 0):=by
 unfold Cv;simp only [Ag4 h]
theorem Akn {l ts:List Tk} (hl:l.length<=1000000) (k:Nat) (hk:10<=k) (hg:Good ts) (hs:ts <:+ l) (lev:Int) (h1:1<=lev) (h6:lev<=6):ET.f k l (ix l ts) (-1) lev=some (if Cv ts=lev then (hd ts).2.1 else ⟨#[]⟩):=by
 have key:∀ L:D9,L.length<=6->(∀ w ∈ L,Az w ts=true->Cv ts=lev)->((∀ w ∈ L,Az w ts=false)->Cv ts≠lev)->ET.l0 k l (ix l ts) (-1) L (λ_=>some ⟨#[]⟩) (0:Int)=some (if Cv ts=lev then (hd ts).2.1 else ⟨#[]⟩):=λL hL hA hB=>by
  have:=Bp6 hl hg hs (λ_=>some ⟨#[]⟩) L k [] (by omega) (by simp;omega);rw [List.nil_append] at this;refine Eq.trans this ?_;cases hf:L.find? (λw=>Az w ts) with
  | none =>
   have hall:=List.find?_eq_none.1 hf;rw [if_neg (hB λw hw=>by simpa using hall w hw)]
  | some w =>
   have hw:=List.find?_some hf;rw [if_pos (hA w (List.mem_of_find?_eq_some hf) hw),Bl6 hw]
 unfold ET.f;simp only [A2];have hc:lev=1\/lev=2\/lev=3\/lev=4\/lev=5\/lev=6:=by omega
 have lit:∀ {w:Ah},Az w ts=true->∀ n,(if w.data.toList == kOr.data.toList then (1:Int) else if w.data.toList == Pe.data.toList then 2
   else if w.data.toList == Ph.data.toList || w.data.toList == kGt.data.toList || w.data.toList == kLe.data.toList || w.data.toList == kGe.data.toList || w.data.toList == Pi.data.toList || w.data.toList == Pg.data.toList then 3
   else if w.data.toList == Pf.data.toList then 4 else if w.data.toList == Pk.data.toList || w.data.toList == IX.data.toList then 5 else if w.data.toList == Pm.data.toList || w.data.toList == Pl.data.toList || w.data.toList == Pj.data.toList then 6 else 0)=n->Cv ts=n:=λh n hn=>by
  rw [Azw h];simp only [Lib.toList_data];exact hn
 rcases hc with rfl | rfl | rfl | rfl | rfl | rfl
 ·refine key [⟨#[111,114]⟩] (by simp) (λw hw h=>?_) λh=>?_
  ·simp only [GN] at hw;subst hw;exact lit h _ rfl
  ·have h1:=h _ (.head _)
   unfold Cv;rw [show Az kOr ts=false from h1];simp only [Bool.false_eq_true,if_false]
   repeat' split
   all_goals omega
 ·refine key [⟨#[97,110,100]⟩] (by simp) (λw hw h=>?_) λh=>?_
  ·simp only [GN] at hw;subst hw;exact lit h _ rfl
  ·have h1:=h _ (.head _)
   unfold Cv;rw [show Az Pe ts=false from h1];simp only [Bool.false_eq_true,if_false]
   repeat' split
   all_goals omega
 ·refine key [⟨#[60]⟩,⟨#[62]⟩,⟨#[60,61]⟩,⟨#[62,61]⟩,⟨#[126,61]⟩,⟨#[61,61]⟩] (by simp) (λw hw h=>?_) λh=>?_
  ·simp only [List.mem_cons,List.not_mem_nil,or_false] at hw
   rcases hw with rfl | rfl | rfl | rfl | rfl | rfl <;> exact lit h _ rfl
  ·have h1:=h ⟨#[60]⟩ (by simp)
   have h2:=h ⟨#[62]⟩ (by simp);have h3:=h ⟨#[60,61]⟩ (by simp);have h4:=h ⟨#[62,61]⟩ (by simp);have h5:=h ⟨#[126,61]⟩ (by simp);have h6:=h ⟨#[61,61]⟩ (by simp);unfold Cv;rw [show Az Ph ts=false from h1,show Az kGt ts=false from h2,show Az kLe ts=false from h3,show Az kGe ts=false from h4,show Az Pi ts=false from h5,show Az Pg ts=false from h6];simp only [Bool.or_false,Bool.false_eq_true,if_false]
   repeat' split
   all_goals omega
 ·refine key [⟨#[46,46]⟩] (by simp) (λw hw h=>?_) λh=>?_
  ·simp only [GN] at hw;subst hw;exact lit h _ rfl
  ·have h1:=h _ (.head _)
   unfold Cv;rw [show Az Pf ts=false from h1];simp only [Bool.false_eq_true,if_false]
   repeat' split
   all_goals omega
 ·refine key [⟨#[43]⟩,⟨#[45]⟩] (by simp) (λw hw h=>?_) λh=>?_
  ·simp only [List.mem_cons,List.not_mem_nil,or_false] at hw
   rcases hw with rfl | rfl <;> exact lit h _ rfl
  ·have h1:=h ⟨#[43]⟩ (by simp)
   have h2:=h ⟨#[45]⟩ (by simp);unfold Cv;rw [show Az Pk ts=false from h1,show Az IX ts=false from h2];simp only [Bool.or_false,Bool.false_eq_true,if_false]
   repeat' split
   all_goals omega
 ·refine key [⟨#[42]⟩,⟨#[47,47]⟩,⟨#[37]⟩] (by simp) (λw hw h=>?_) λh=>?_
  ·simp only [List.mem_cons,List.not_mem_nil,or_false] at hw
   rcases hw with rfl | rfl | rfl <;> exact lit h _ rfl
  ·have h1:=h ⟨#[42]⟩ (by simp)
   have h2:=h ⟨#[47,47]⟩ (by simp);have h3:=h ⟨#[37]⟩ (by simp);unfold Cv;rw [show Az Pm ts=false from h1,show Az Pl ts=false from h2,show Az Pj ts=false from h3];simp only [Bool.or_false,Bool.false_eq_true,if_false]
   repeat' split
   all_goals omega
theorem B2v {ts:List Tk} (h:Cv ts≠0):((hd ts).2.1.toList == (⟨#[]⟩:Ah).toList)=false:=by
 cases hb:((hd ts).2.1.toList == (⟨#[]⟩:Ah).toList) with
 | false=>rfl
 | true =>
  exfalso;apply h;have hz:=eq_of_beq hb;have hf:∀ w:Ah,w.data.toList≠[]->Az w ts=false:=λw hw=>by
   unfold Az isT;rw [hz,Lib.toList_data,Lib.toList_data];cases hd':w.data.toList with
   | nil=>exact absurd hd' hw
   | cons=>simp
  simp only [Cv,hf kOr (by decide),hf Pe (by decide),hf Ph (by decide),hf kGt (by decide),hf kLe (by decide),hf kGe (by decide),hf Pi (by decide),hf Pg (by decide),hf Pf (by decide),hf Pk (by decide),hf IX (by decide),hf Pm (by decide),hf Pl (by decide),hf Pj (by decide),Bool.or_false,Bool.false_eq_true,if_false]
structure BE (l:List Tk) (k:Nat):Prop where
 exp:∀ lev ts,1<=lev->lev<=7->Good ts->ts <:+ l->32 * (ts.length:Int)+32 - lev<=k->Rel l GT eT3 ((RE.at k).BR l (ix l ts) (-1) lev) (DM (lev - 1) ts)
 Adi:∀ lev b,0<=b->1<=k->(RE.at k).BR l (EE l) b lev=some (0,⟨#[]⟩,0,0,[],EE l,b)
 operand:∀ ts,Good ts->ts <:+ l->32 * ts.length+24<=k->Rel l GT eT3 ((RE.at k).Ei l (ix l ts) (-1)) (Jk ts)
 DY:∀ ts,Good ts->ts <:+ l->32 * ts.length+23<=k->Rel l GT eT3 ((RE.at k).Da l (ix l ts) (-1)) (Iw ts)
 Clt:∀ b,0<=b->2<=k->(RE.at k).Da l (EE l) b=some (0,⟨#[]⟩,0,0,[],EE l,b)
 field:∀ ts,Good ts->ts <:+ l->32 * ts.length+32<=k->Rel l GT eT3 ((RE.at k).Hm l (ix l ts) (-1)) (MY ts)
 list:∀ ts,Good ts->ts <:+ l->32 * ts.length+32<=k->Rel l GL GV ((RE.at k).CM l (ix l ts) (-1)) (Fz ts)
 Cju:∀ b,0<=b->2<=k->(RE.at k).CM l (EE l) b=some ([P2],EE l,b)
section
variable {l:List Tk} (hl:l.length<=1000000) (ha:Jn l) (h0:l≠[]) {k:Nat}
theorem VF (m:Nat) (Rc:RE) (lev:Int) (r9:Int×Ah×Int×Int×List Tree×Int×Int) (J:Int->Int->Int->Ah->Int->List Tree->Option (Int×Ah×Int×Int×List Tree×Int×Int)) (i f a:Int) (t:Ah) (n:Int) (ks:List Tree) :
  BR.l0 (m+1) Rc l lev r9 J ⟨#[]⟩ i f a t n ks=J i f a t n ks:=by
 rw [BR.l0,show (((⟨#[]⟩:Ah).toList == (⟨#[]⟩:Ah).toList))=true by simp];rfl
include hl h0
theorem Adl (Rc:RE) (lev b:Int) (hb:0<=b):BR.g Rc k l (EE l) b lev=some (0,⟨#[]⟩,0,0,[],EE l,b):=by
 unfold BR.g;rw [decide_eq_true (by omega)];rfl
theorem B2i (Rc:RE) (b:Int) (hb:0<=b) (hk:1<=k):Da.g Rc k l (EE l) b=some (0,⟨#[]⟩,0,0,[],EE l,b):=by
 unfold Da.g;obtain ⟨t,ht⟩:=Tr hl h0 k hb;obtain ⟨k,rfl⟩:∃ m,k=m+1:=⟨k - 1,by omega⟩;simp only [ht,Al,A2,Ia hl h0 (k+1) hb,cond_false,Akx hl h0 (k+1) hb];rw [Da.l0];simp only [Al,Ia hl h0 k hb,cond_false]
theorem MR (Rc:RE) (r2 b:Int) (hb:0<=b) (m:Nat) (a:Int) (t:Ah) (n p:Int) (ks:List Tree):Da.l0 (m+1) Rc l r2 a t n p ks (EE l) b=some (a,t,n,p,ks,EE l,b):=by
 rw [Da.l0];simp only [Al,Ia hl h0 m hb,cond_false]
theorem XQ (Rc:RE) (J:List Tree->Int->Int->Option (List Tree×Int×Int)) (acc:List Tree) (b:Int) (hb:0<=b) (m:Nat):CM.l0 (m+1) Rc l J acc (EE l) b=J acc (EE l) b:=by
 rw [CM.l0];simp only [Al,Ia hl h0 m hb,cond_false]
variable (ih:BE l k)
include ih
theorem Akr (b:Int) (hb:0<=b) (hk:1<=k):CM.g (RE.at k) k l (EE l) b=some ([P2],EE l,b):=by
 unfold CM.g;rw [ih.Adi 1 b hb hk];obtain ⟨k,rfl⟩:∃ m,k=m+1:=⟨k - 1,by omega⟩;simp only [Al,A2];exact XQ hl h0 _ _ _ b hb k
theorem Adj (lev:Int) (h1:1<=lev) (h6:lev<=6) (r9:Int×Ah×Int×Int×List Tree×Int×Int):∀ (m:Nat) (n:Tree) (ts:List Tk),n.at_=r9.2.2.2.1->Good ts->ts <:+ l->Cv ts<=lev->ts.length+11 < m->32 * ts.length<=k ->
  Rel l GT eT3 (BR.l0 m (RE.at k) l lev r9 (λx16 x17 x18 x19 x20 l21=>some (x18,x19,x20,r9.2.2.2.1,l21,x16,x17)) (if Cv ts=lev then (hd ts).2.1 else ⟨#[]⟩) (ix l ts) (-1) n.kind n.text n.n n.kids) (ID (lev - 1) n ts)
 | 0,_,_,_,_,_,_,h,_=>by omega
 | m+1,n,ts,hn,hg,hs,hb,hm,hk=>by
  rw [Qa n (by omega) hg];by_cases hbl:Cv ts=lev;rw [if_pos hbl,BR.l0,B2v (by omega),if_neg (by omega),hbl];simp only [Bool.not_false,cond_true,A2];obtain ⟨g1,g2,g3⟩:=hg.tail (KY (by omega));rw [H3 hl hg hs (KY (by omega)),wrapM (lev+1) (by omega) (by omega)];have gs:=g3.trans hs;have key:∀ q:Int,1<=q->q<=7->32 * (ts.tail.length:Int)+32 - q<=k->q - 1=(if lev=4 then 3 else lev)->Rel l GT eT3 (((RE.at k).BR l (ix l ts.tail) (-1) q).bind λr59=>(ET.f m l r59.2.2.2.2.2.1 r59.2.2.2.2.2.2 lev).bind λGs=>BR.l0 m (RE.at k) l lev r9 (λx16 x17 x18 x19 x20 l21=>some (x18,x19,x20,r9.2.2.2.1,l21,x16,x17)) Gs r59.2.2.2.2.2.1 r59.2.2.2.2.2.2 (11:Int) (hd ts).2.1 (0:Int) ([(Tree.mk n.kind n.text n.n r9.2.2.2.1 n.kids),(Tree.mk r59.1 r59.2.1 r59.2.2.1 r59.2.2.2.1 r59.2.2.2.2.1)])) ((DM (if lev=4 then 3 else lev) ts.tail).then λm r=>ID (lev - 1) (.mk 11 (hd ts).2.1 0 n.at_ [n,m]) r):=by
   intro q hq1 hq7 hqk hqe;have hx:=ih.exp q _ hq1 hq7 g1 gs hqk;rw [hqe] at hx;refine C1 hx (CE (by rw [<- hqe];omega) g1) (λx r hv hr hrs hrn=>?_) λa b hb0 _=>?_;have hst:=Ar1 (by rw [<- hqe];omega) g1 hv;have hst2:Cv r<=lev:=by revert hst;split <;> omega
   simp only [eT3,BG];rw [Akn hl m (by omega) hr (hrs.trans gs) lev h1 h6];simp only [Al];rw [<- hn,BG];have:=Adj lev h1 h6 r9 m (.mk 11 (hd ts).2.1 0 n.at_ [n,x]) r hn hr (hrs.trans gs) hst2 (by omega) (by omega);rw [<- hn] at this;exact this;simp only [eT3];rw [Akm hl h0 m hb0 (by omega) lev];obtain ⟨m,rfl⟩:∃ q,m=q+1:=⟨m - 1,by omega⟩;simp only [Al,VF];exact ⟨.mk _ _ _ _ _,Aj,rfl⟩
  by_cases h4:lev=4;have:=key 4 (by omega) (by omega) (by omega) (by rw [if_pos h4];rfl);rw [show (lev == (4:Int))=true by rw [beq_iff_eq];exact h4];exact this;have:=key (lev+1) (by omega) (by omega) (by omega) (by rw [if_neg h4];omega);rw [show (lev == (4:Int))=false by rw [beq_eq_false_iff_ne];exact h4];exact this;rw [if_neg hbl,if_pos (by omega),VF,<- hn];rfl
theorem Adk (lev:Int) (h1:1<=lev) (h7:lev<=7) {ts:List Tk} (hg:Good ts) (hs:ts <:+ l) (hk:32 * (ts.length:Int)+31 - lev<=k):Rel l GT eT3 (BR.g (RE.at k) k l (ix l ts) (-1) lev) (DM (lev - 1) ts):=by
 unfold BR.g;rw [show decide ((-1:Int) >= 0)=false from rfl];simp only [cond_false];by_cases h:lev=7;rw [h,ZG (by omega) hg];have hx:=ih.operand ts hg hs (by omega);simp only [show ((7:Int) == 7)=true from rfl,cond_true];cases hv:Jk ts with
 | ok n r=>rw [hv] at hx;have hx:_=_:=hx;rw [hx];rfl
 | bad b =>
  rw [hv] at hx;obtain ⟨hb,a,_,hx⟩:=hx;rw [hx];exact ⟨hb,a,Aj,rfl⟩
 rw [show (lev == (7:Int))=false by rw [beq_eq_false_iff_ne];exact h,wrapM _ (by omega) (by omega)];simp only [cond_false,A2];have hx:=ih.exp (lev+1) ts (by omega) (by omega) hg hs (by omega);rw [show lev+1 - 1=lev by omega] at hx;rw [B3c (by omega) hg,show lev - 1+1=lev by omega];have hle:=hs.length_le;refine C1 hx (CE (by omega) hg) (λx r hv hr hrs hrn=>?_) λa b hb0 _=>?_;have hst:=Ar1 (by omega) hg hv;simp only [eT3];rw [Akn hl k (by omega) hr (hrs.trans hs) lev h1 (by omega)];simp only [Al];exact Adj hl h0 ih lev h1 (by omega) (eT3 x (ix l r) (-1)) k x r rfl hr (hrs.trans hs) hst (by omega) (by omega);simp only [eT3];rw [Akm hl h0 k hb0 (by omega) lev];obtain ⟨k,rfl⟩:∃ q,k=q+1:=⟨k - 1,by omega⟩;simp only [Al,VF];exact ⟨.mk _ _ _ _ _,Aj,rfl⟩
include ha
theorem Akp:∀ (m:Nat) (acc:List Tree) (ts:List Tk),Good ts->ts <:+ l->ts.length+1 < m->acc.length+ts.length<=1000000->32 * ts.length<=k ->
  Rel l GL GV (CM.l0 m (RE.at k) l (λl7 x12 Cq=>some (l7,x12,Cq)) acc (ix l ts) (-1)) (O6 acc ts)
 | 0,_,_,_,_,h,_,_=>by omega
 | m+1,acc,ts,hg,hs,hm,hc,hk=>by
  rw [CM.l0,DZ hl m hg hs,ZH acc hg];simp only [Al];refine Fg (Dc _) (λhc'=>?_) λhc'=>?_;simp only [hc',if_true];obtain ⟨g1,g2,g3⟩:=hg.tail (AQ hc');have gs:=g3.trans hs;refine C1 (ih.exp 1 _ (by omega) (by omega) g1 gs (by omega)) (CE (by omega) g1) (λx r hv hr hrs hrn=>?_) λa b hb0 _=>?_;simp only [eT3,BG];rw [BQ (by simp only [AH,AX];omega)];simp only [Al];exact Akp m _ r hr (hrs.trans gs) (by omega) (by simp only [Bv,AH,AX];omega) (by omega);simp only [eT3,BG];rw [BQ (by simp only [AH,AX];omega)];obtain ⟨m,rfl⟩:∃ q,m=q+1:=⟨m - 1,by omega⟩;simp only [Al];rw [XQ hl h0 _ _ _ b hb0];exact ⟨acc++[a],by unfold GL;simp only [Bv,AH,AX];omega,rfl⟩;simp only [if_neg hc'];rfl
theorem Akq {ts:List Tk} (hg:Good ts) (hs:ts <:+ l) (hk:32 * ts.length+31<=k):Rel l GL GV (CM.g (RE.at k) k l (ix l ts) (-1)) (Fz ts):=by
 unfold CM.g;rw [ZI hg];have hle:=hs.length_le;refine C1 (ih.exp 1 _ (by omega) (by omega) hg hs (by omega)) (CE (by omega) hg) (λx r hv hr hrs hrn=>?_) λa b hb0 _=>?_;simp only [eT3,BG,A2];exact Akp hl ha h0 ih k _ r hr (hrs.trans hs) (by omega) (by simp only [AH,AX];omega) (by omega);simp only [eT3,BG,A2];obtain ⟨k,rfl⟩:∃ q,k=q+1:=⟨k - 1,by omega⟩;rw [XQ hl h0 _ _ _ b hb0];exact ⟨[a],by unfold GL;simp,rfl⟩
theorem S8 (r2:Int):∀ (m:Nat) (n:Tree) (ts:List Tk),Good ts->ts <:+ l->ts.length+1 < m->32 * ts.length<=k ->
  Rel l GT eT3 (Da.l0 m (RE.at k) l r2 n.kind n.text n.n n.at_ n.kids (ix l ts) (-1)) (Jl r2 n ts)
 | 0,_,_,_,_,h,_=>by omega
 | m+1,n,ts,hg,hs,hm,hk=>by
  obtain ⟨m',rfl⟩:∃ q,m=q+1:=⟨m - 1,by omega⟩;rw [Da.l0,DZ hl _ hg hs,ZJ _ n hg];simp only [Al,BG];refine Fg (Dc _) (λhc=>?_) λh1=>?_;simp only [hc,if_true];obtain ⟨g1,g2,g3⟩:=hg.tail (AQ hc);have gs:=g3.trans hs;refine C1 (ih.exp 1 _ (by omega) (by omega) g1 gs (by omega)) (CE (by omega) g1) (λx r hv hr hrs hrn=>?_) λa b hb0 _=>?_;simp only [eT3,BG];have hrl:=hrs.trans gs;refine C1 (G7 hl ha _ hr hrl _) (C3 _ hr) (λ_ r2' _ hr2 DW hn2=>?_) λ_ b hb0 _=>?_;exact S8 r2 (m'+1) (.mk 7 noB 0 r2 [n,x]) r2' hr2 (DW.trans hrl) (by omega) (by omega);simp only [EY,MR hl h0 _ _ b hb0];exact ⟨.mk _ _ _ _ _,Aj,rfl⟩;simp only [eT3,BG,FS hl h0 _ hb0,Al,MR hl h0 _ _ b hb0];exact ⟨.mk _ _ _ _ _,Aj,rfl⟩;simp only [if_neg h1,DZ hl _ hg hs,Al];refine Fg (Dc _) (λhc=>?_) λh2=>?_;simp only [hc,if_true];obtain ⟨g1,g2,g3⟩:=hg.tail (AQ hc);have gs:=g3.trans hs;refine C1 (MH hl ha _ g1 gs 5) (fName 5 g1) (λx r hv hr hrs hrn=>?_) λa b hb0 _=>?_;simp only [eT3,BG];exact S8 r2 (m'+1) (.mk 7 noB 0 r2 [n,x]) r hr (hrs.trans gs) (by omega) (by omega);simp only [eT3,BG,MR hl h0 _ _ b hb0];exact ⟨.mk _ _ _ _ _,Aj,rfl⟩;simp only [if_neg h2,DZ hl _ hg hs,Al];refine Fg (Dc _) (λhc=>?_) λh3=>?_;simp only [hc,if_true];obtain ⟨g1,g2,g3⟩:=hg.tail (AQ hc);have gs:=g3.trans hs;have hlen:=hs.length_le;simp only [A2,Lt _ g1 gs,Al];unfold UM;have tl:∀ (xs:List Tree) (r:List Tk),Good r->r <:+ l->r.length<=ts.tail.length->Rel l GT eT3 ((C6.f (m'+1) l (ix l r) (-1) (⟨#[41]⟩:Ah)).bind λCF=>Da.l0 (m'+1) (RE.at k) l r2 (8:Int) (⟨#[]⟩:Ah) (0:Int) r2 (n :: xs) CF.1 CF.2) ((CK CV r).then λ_ r=>Jl r2 (.mk 8 noB 0 r2 (n :: xs)) r):=λxs r hr hrl hn=>by
   refine C1 (G7 hl ha _ hr hrl _) (C3 _ hr) (λ_ r2' _ hr2 DW hn2=>?_) λ_ b hb0 _=>?_;exact S8 r2 (m'+1) (.mk 8 noB 0 r2 (n :: xs)) r2' hr2 (DW.trans hrl) (by omega) (by omega);simp only [EY,MR hl h0 _ _ b hb0];exact ⟨.mk _ _ _ _ _,Aj,rfl⟩
  by_cases hR:Az CV ts.tail=true;rw [if_pos hR,show Az (⟨#[41]⟩:Ah) ts.tail=true from hR];exact tl [] _ g1 gs (Nat.le_refl _);rw [if_neg hR,show Az (⟨#[41]⟩:Ah) ts.tail=false from by simpa using hR];simp only [Bool.not_false,cond_true];refine C1 (ih.list _ g1 gs (by omega)) (IR g1) (λxs r hv hr hrs hrn=>?_) λa b hb0 hga=>?_;have hxl:=ME g1 hv;simp only [GV];rw [BQ (by simp only [AH,AX];omega)];exact tl xs r hr (hrs.trans gs) (by omega);simp only [GV];unfold GL at hga;rw [BQ (by simp only [AH,AX];omega)];simp only [Al,FS hl h0 _ hb0,MR hl h0 _ _ b hb0];exact ⟨.mk _ _ _ _ _,Aj,rfl⟩;simp only [if_neg h3];rfl
theorem Aqj {ts:List Tk} (hg:Good ts) (hs:ts <:+ l) (hk:32 * ts.length+22<=k):Rel l GT eT3 (Da.g (RE.at k) k l (ix l ts) (-1)) (Iw ts):=by
 unfold Da.g;obtain ⟨k',hk'⟩:∃ q,k=q+1:=⟨k - 1,by omega⟩;rw [Nl k hg hs,ZK hg];simp only [Al,A2,DZ hl k hg hs];refine Fg (Dc _) (λhc=>?_) λh1=>?_;simp only [hc,if_true];obtain ⟨g1,g2,g3⟩:=hg.tail (AQ hc);have gs:=g3.trans hs;refine C1 (ih.exp 1 _ (by omega) (by omega) g1 gs (by omega)) (CE (by omega) g1) (λx r hv hr hrs hrn=>?_) λa b hb0 _=>?_;simp only [eT3,BG];have hrl:=hrs.trans gs;refine C1 (G7 hl ha _ hr hrl _) (C3 _ hr) (λ_ r2' _ hr2 DW hn2=>?_) λ_ b hb0 _=>?_;exact S8 hl ha h0 ih (hd ts).2.2.2 k (.mk 9 noB 0 (hd ts).2.2.2 [x]) r2' hr2 (DW.trans hrl) (by omega) (by omega);rw [hk'];simp only [EY,MR hl h0 _ _ b hb0];exact ⟨.mk _ _ _ _ _,Aj,rfl⟩;simp only [eT3,BG,FS hl h0 _ hb0,Al];rw [hk'];simp only [MR hl h0 _ _ b hb0];exact ⟨.mk _ _ _ _ _,Aj,rfl⟩;simp only [if_neg h1];refine C1 (MH hl ha _ hg hs 6) (fName 6 hg) (λx r hv hr hrs hrn=>?_) λa b hb0 _=>?_;exact S8 hl ha h0 ih (hd ts).2.2.2 k x r hr (hrs.trans hs) (by omega) (by omega);simp only [eT3];rw [hk'];simp only [MR hl h0 _ _ b hb0];exact ⟨a,Aj,rfl⟩
theorem A4w {ts:List Tk} (hg:Good ts) (hs:ts <:+ l) (hk:32 * ts.length+31<=k):Rel l GT eT3 (Hm.g (RE.at k) k l (ix l ts) (-1)) (MY ts):=by
 unfold Hm.g;rw [Nl k hg hs,Ar2 hg];simp only [Al,A2,DZ hl k hg hs];have XN:∀ (kd:Int) (xs:List Tree) (b:Int),0<=b->xs.length<=100->∃ a':Tree,GT a'/\(((RE.at k).BR l (EE l) b (1:Int)).bind λr13=>(apd 64 xs [(Tree.mk r13.1 r13.2.1 r13.2.2.1 r13.2.2.2.1 r13.2.2.2.2.1)]).bind λl21=>some (kd,(⟨#[]⟩:Ah),(0:Int),(hd ts).2.2.2,l21,r13.2.2.2.2.2.1,r13.2.2.2.2.2.2))=some (eT3 a' (EE l) b):=λkd xs b hb0 hx=>by
  rw [ih.Adi 1 b hb0 (by omega)];simp only [Al];rw [BQ (by simp only [AH,AX];omega)];exact ⟨.mk _ _ _ _ _,Aj,rfl⟩
 have last:∀ (kd:Int) (xs:List Tree) (r:List Tk),Good r->r <:+ l->r.length<=ts.length->xs.length<=100->Rel l GT eT3 (((RE.at k).BR l (ix l r) (-1) (1:Int)).bind λr13=>(apd 64 xs [(Tree.mk r13.1 r13.2.1 r13.2.2.1 r13.2.2.2.1 r13.2.2.2.2.1)]).bind λl21=>some (kd,(⟨#[]⟩:Ah),(0:Int),(hd ts).2.2.2,l21,r13.2.2.2.2.2.1,r13.2.2.2.2.2.2)) ((DM 0 r).then λv r=>.ok (.mk kd noB 0 (hd ts).2.2.2 (xs++[v])) r):=λkd xs r hr hrl hn hx=>by
  refine C1 (ih.exp 1 _ (by omega) (by omega) hr hrl (by omega)) (CE (by omega) hr) (λx r hv hr hrs hrn=>?_) λa b hb0 _=>?_;simp only [eT3,BG];rw [BQ (by simp only [AH,AX];omega)];rfl;simp only [eT3,BG];rw [BQ (by simp only [AH,AX];omega)];exact ⟨.mk _ _ _ _ _,Aj,rfl⟩
 refine Fg (Dc _) (λhc=>?_) λh1=>?_;simp only [hc,if_true];obtain ⟨g1,g2,g3⟩:=hg.tail (AQ hc);have gs:=g3.trans hs;refine C1 (ih.exp 1 _ (by omega) (by omega) g1 gs (by omega)) (CE (by omega) g1) (λx r hv hr hrs hrn=>?_) λa b hb0 _=>?_;simp only [eT3,BG];have hrl:=hrs.trans gs;refine C1 (G7 hl ha _ hr hrl _) (C3 _ hr) (λ_ r2 _ hr2 DW hn2=>?_) λ_ b hb0 _=>?_;simp only [EY];have hrl2:=DW.trans hrl;refine C1 (G7 hl ha _ hr2 hrl2 _) (C3 _ hr2) (λ_ r3 _ hr3 Gk hn3=>?_) λ_ b hb0 _=>?_;simp only [EY];exact last 14 [x] r3 hr3 (Gk.trans hrl2) (by omega) (by simp);exact XN 14 [x] b hb0 (by simp);simp only [EY,FS hl h0 _ hb0,Al];exact XN 14 [x] b hb0 (by simp);simp only [eT3,BG,FS hl h0 _ hb0,Al];exact XN 14 [a] b hb0 (by simp);simp only [if_neg h1];have hq:((Bm l (ix l ts)).bind λx49=>cond (x49.1 == (1:Int)) ((Bm l (Ar (ix l ts+(1:Int)))).bind λx57=>cond (x57.1 == (5:Int)) ((Bm l (Ar (ix l ts+(1:Int)))).bind λx65=>some (x65.2.1.toList == (⟨#[61]⟩:Ah).toList)) (some false)) (some false):Option Bool)=some (decide ((hd ts).1=1/\(hd ts.tail).1=5/\(hd ts.tail).2.1.toList=Cb.toList)):=by
  rw [Kd hg hs];simp only [Al];by_cases h:(hd ts).1=1;obtain ⟨g1,g2,g3⟩:=hg.tail (by omega);rw [H3 hl hg hs (by omega),Kd g1 (g3.trans hs),h];simp only [beq_self_eq_true,cond_true,Al,true_and];by_cases h5:(hd ts.tail).1=5;rw [h5];simp only [beq_self_eq_true,cond_true,true_and];exact congrArg some (Aka _ _);rw [show ((hd ts.tail).1 == (5:Int))=false by rw [beq_eq_false_iff_ne];exact h5];simp [h5];rw [show ((hd ts).1 == (1:Int))=false by rw [beq_eq_false_iff_ne];exact h];simp [h]
 rw [hq];simp only [Al];refine Fg rfl (λhc=>?_) λh2=>?_;obtain ⟨hk1,h5,he⟩:=hc;obtain ⟨g1,g2,g3⟩:=hg.tail (by omega);obtain ⟨g4,g5,g6⟩:=g1.tail (by omega);have gs:=g3.trans hs;have hN:=MH hl ha k hg hs 5;unfold FZ at hN;rw [if_pos hk1] at hN;have hN:_=_:=hN;rw [hN];simp only [Al,eT3,Tree.kind,Tree.text,Tree.n,Tree.at_,Tree.kids];have hE:Az Cb ts.tail=true:=by unfold Az isT;rw [h5,he];simp
 have hW:=G7 hl ha k g1 gs Cb;unfold CK at hW;rw [if_pos hE] at hW;have hW:_=_:=hW;rw [hW];simp only [Al,EY];exact last 14 [.mk 5 (hd ts).2.1 0 (hd ts).2.2.2 []] _ g4 (g6.trans gs) (by omega) (by simp);exact last 13 [] ts hg hs (Nat.le_refl _) (by simp)
theorem Alh (J:List Tree->Int->Int->Option (Int×Ah×Int×Int×List Tree×Int×Int)) (T:List Tree->Tree) (hJ:∀ acc r,Good r->r <:+ l->Rel l GT eT3 (J acc (ix l r) (-1)) ((CK G_ r).then λ_ r=>.ok (T acc) r)) (hJF:∀ acc b,0<=b->∃ a',GT a'/\J acc (EE l) b=some (eT3 a' (EE l) b)) :
  ∀ (m:Nat) (acc:List Tree) (ts:List Tk),Good ts->ts <:+ l->ts.length+2 < m->acc.length+ts.length<=1000000->32 * ts.length+32<=k ->
  Rel l GT eT3 (Ei.l0 m (RE.at k) l J true acc (ix l ts) (-1)) ((JL acc ts).then λl r=>.ok (T l) r)
 | 0,_,_,_,_,h,_,_=>by omega
 | m+1,acc,ts,hg,hs,hm,hc,hk=>by
  rw [Ei.l0,Ar5 acc hg];simp only [cond_true,Lt m hg hs,Al,show decide ((-1:Int) < 0)=true from rfl];have stop:∀ (acc:List Tree) (i f:Int) (m:Nat),Ei.l0 (m+1) (RE.at k) l J false acc i f=J acc i f:=λacc i f m=>by rw [Ei.l0];rfl
  by_cases hR:Az G_ ts=true;rw [if_pos hR,show Az (⟨#[125]⟩:Ah) ts=true from hR];simp only [Bool.not_true,cond_false,Al];have:=hJ acc ts hg hs;unfold CK at this;rw [if_pos hR] at this;exact this;rw [if_neg hR,show Az (⟨#[125]⟩:Ah) ts=false from by simpa using hR,then_assoc];simp only [Bool.not_false,cond_true,Al];refine C1 (ih.field ts hg hs hk) (VG hg) (λx r hv hr hrs hrn=>?_) λa b hb0 _=>?_;simp only [eT3,BG];rw [BQ (by simp only [AH,AX];omega)];have hrl:=hrs.trans hs;simp only [Al,DZ hl m hr hrl];have more:∀ {w:Ah},Az w r=true->Rel l GT eT3 (Ei.l0 m (RE.at k) l J true (acc++[x]) (ix l r.tail) (-1)) ((JL (acc++[x]) r.tail).then λl r=>.ok (T l) r):=λhc'=>by
   obtain ⟨g1,g2,g3⟩:=hr.tail (AQ hc');exact Alh J T hJ hJF m _ _ g1 (g3.trans hrl) (by omega) (by simp only [Bv,AH,AX];omega) (by omega)
  by_cases hC:Az D0 r=true;rw [if_pos hC,show Az (⟨#[44]⟩:Ah) r=true from hC];simp only [cond_true,if_true];exact more hC;rw [if_neg hC,show Az (⟨#[44]⟩:Ah) r=false from by simpa using hC];simp only [cond_false,Bool.false_eq_true,if_false,DZ hl m hr hrl,Al];by_cases hS:Az EN r=true;rw [if_pos hS,show Az (⟨#[59]⟩:Ah) r=true from hS];simp only [if_true];exact more hS;rw [if_neg hS,show Az (⟨#[59]⟩:Ah) r=false from by simpa using hS];obtain ⟨m,rfl⟩:∃ q,m=q+1:=⟨m - 1,by omega⟩;simp only [Bool.false_eq_true,if_false,stop,then_assoc];exact hJ _ r hr hrl;simp only [eT3,BG];rw [BQ (by simp only [AH,AX];omega)];obtain ⟨m,rfl⟩:∃ q,m=q+1:=⟨m - 1,by omega⟩;simp only [Al,Ia hl h0 _ hb0,cond_false,stop];exact hJF _ b hb0
theorem Bw8 {ts:List Tk} (hg:Good ts) (hs:ts <:+ l) (hk:32 * ts.length+23<=k):Rel l GT eT3 (Ei.g (RE.at k) k l (ix l ts) (-1)) (Jk ts):=by
 unfold Ei.g;rw [Kd hg hs,Ase hg];have hle:=hs.length_le;simp only [Al,A2,DZ hl k hg hs];refine Fg (Mz _ _) (λhc=>?_) λh3=>?_;rw [H3 hl hg hs (by omega)];rfl;refine Fg (Mz _ _) (λhc=>?_) λh4=>?_;rw [H3 hl hg hs (by omega)];rfl;refine Fg (Dc _) (λhc=>?_) λh5=>?_;simp only [hc,if_true];rfl;simp only [if_neg h5,DZ hl k hg hs,Al];refine Fg (Dc _) (λhc=>?_) λh6=>?_;simp only [hc,if_true];rfl;simp only [if_neg h6,DZ hl k hg hs,Al];refine Fg (Dc _) (λhc=>?_) λh7=>?_;simp only [hc,if_true];rfl;simp only [if_neg h7,Lt k hg hs,Al];have hq:(cond (Az (⟨#[110,111,116]⟩:Ah) ts) (some true) (cond (Az (⟨#[35]⟩:Ah) ts) (some true) (some (Az (⟨#[45]⟩:Ah) ts))):Option Bool)=some (Az M6 ts || Az M5 ts || Az IX ts):=by
  show (cond (Az M6 ts) (some true) (cond (Az M5 ts) (some true) (some (Az IX ts))):Option Bool)=_;cases Az M6 ts <;> cases Az M5 ts <;> rfl
 rw [hq];simp only [Al];refine Fg (Dc _) (λhc=>?_) λh8=>?_;obtain ⟨g1,g2,g3⟩:=hg.tail (or3 rfl rfl rfl hc);rw [H3 hl hg hs (or3 rfl rfl rfl hc)];have hx:=ih.exp 7 _ (by omega) (by omega) g1 (g3.trans hs) (by omega);have e:DM (7 - 1) ts.tail=DM 7 ts.tail:=by rw [ZG (by omega) g1,ZG (by omega) g1]
 rw [e] at hx;refine C1 hx (CE (by omega) g1) (λx r hv hr hrs hrn=>?_) λa b hb0 _=>?_;simp only [eT3,BG];rfl;exact ⟨.mk _ _ _ _ _,Aj,rfl⟩;simp only [DZ hl k hg hs,Al];refine Fg (Dc _) (λhc=>?_) λh9=>?_;simp only [hc,if_true];obtain ⟨g1,g2,g3⟩:=hg.tail (AQ hc);refine Alh hl ha h0 ih _ (λl=>.mk 12 noB 0 (hd ts).2.2.2 l) (λacc r hr hrl=>?_) (λacc b hb0=>?_) k [] _ g1 (g3.trans hs) (by omega) (by simp only [AX];omega) (by omega);exact C1 (G7 hl ha _ hr hrl _) (C3 _ hr) (λ_ r2 _ hr2 DW hn2=>rfl) λ_ b hb0 _=>⟨.mk _ _ _ _ _,Aj,rfl⟩;simp only [FS hl h0 _ hb0,Al];exact ⟨.mk _ _ _ _ _,Aj,rfl⟩;simp only [if_neg h9];have hx:=ih.DY ts hg hs (by omega);cases hv:Iw ts with
 | ok n r=>rw [hv] at hx;have hx:_=_:=hx;rw [hx];rfl
 | bad b =>
  rw [hv] at hx;obtain ⟨hb,a,_,hx⟩:=hx;rw [hx];exact ⟨hb,a,Aj,rfl⟩
end
theorem bE {l:List Tk} (hl:l.length<=1000000) (ha:Jn l) (h0:l≠[]):∀ k,BE l k
 | 0=>by constructor <;> intros <;> omega
 | k+1=>by
  have ih:=bE hl ha h0 k;exact ⟨λlev ts h1 h7 hg hs h=>Adk hl h0 ih lev h1 h7 hg hs (by omega),λlev b hb h=>Adl hl h0 _ lev b hb,λts hg hs h=>Bw8 hl ha h0 ih hg hs (by omega),λts hg hs h=>Aqj hl ha h0 ih hg hs (by omega),λb hb h=>B2i hl h0 _ b hb (by omega),λts hg hs h=>A4w hl ha h0 ih hg hs (by omega),λts hg hs h=>Akq hl ha h0 ih hg hs (by omega),λb hb h=>Akr hl h0 ih b hb (by omega)⟩
theorem Z6:∀ (n:Nat) (at_:Int) (x y:Tree) (ts r:List Tk),ts.length<=n->Good ts->x.at_=at_->Jl at_ x ts=.ok y r->y.at_=at_
 | 0,_,_,_,[],_,_,hg,_,_=>hg.elim
 | n+1,at_,x,y,ts,r,hn,hg,hx,h=>by
  rw [ZJ at_ x hg] at h;have more:∀ (z:Tree) (s:List Tk),Good s->s.length+1<=ts.length->z.at_=at_->Jl at_ z s=.ok y r->y.at_=at_:=λz s hs hl hz h=>Z6 n at_ z y s r (by omega) hs hz h;split at h;rename_i hc;obtain ⟨g1,g2,_⟩:=hg.tail (AQ hc);obtain ⟨e,s,h1,h⟩:=then_ok h;have f1:=CE (least:=0) (by omega) g1;rw [h1] at f1;obtain ⟨_,s2,h2,h⟩:=then_ok h;have f2:=C3 kRb f1.1;rw [h2] at f2;exact more _ s2 f2.1 (by have:=f1.2.1;have:=f2.2.1;omega) rfl h;split at h;rename_i hc;obtain ⟨g1,g2,_⟩:=hg.tail (AQ hc);obtain ⟨e,s,h1,h⟩:=then_ok h;have f1:=fName 5 g1;rw [h1] at f1;exact more _ s f1.1 (by have:=f1.2.1;omega) rfl h;split at h;rename_i hc;obtain ⟨g1,g2,_⟩:=hg.tail (AQ hc);obtain ⟨e,s,h1,h⟩:=then_ok h;have f1:=fArgs g1;rw [h1] at f1;obtain ⟨_,s2,h2,h⟩:=then_ok h;have f2:=C3 CV f1.1;rw [h2] at f2;exact more _ s2 f2.1 (by have:=f1.2.1;have:=f2.2.1;omega) rfl h;cases h;exact hx
theorem Aqc {ts r:List Tk} {e:Tree} (hg:Good ts) (h:Iw ts=.ok e r):e.at_=(hd ts).2.2.2:=by
 rw [ZK hg] at h;split at h;rename_i hc;obtain ⟨g1,g2,_⟩:=hg.tail (AQ hc);obtain ⟨x,s,h1,h⟩:=then_ok h;have f1:=CE (least:=0) (by omega) g1;rw [h1] at f1;obtain ⟨_,s2,h2,h⟩:=then_ok h;have f2:=C3 CV f1.1;rw [h2] at f2;exact Z6 _ _ _ _ s2 r (Nat.le_refl _) f2.1 rfl h;obtain ⟨x,s,h1,h⟩:=then_ok h;have f1:=fName 6 hg;rw [h1] at f1;refine Z6 _ _ _ _ s r (Nat.le_refl _) f1.1 ?_ h;unfold FZ at h1;split at h1;cases h1;rfl;cases h1
theorem A3t {ts:List Tk} (h:IQ ts=true):Az EN ts=false/\Az Jw ts=false/\Az Gm ts=false:=by
 unfold IQ at h;simp only [Bool.or_eq_true] at h;have lit:∀ {w:Ah},Az w ts=true->∀ w',(w.data.toList == w'.data.toList)=false->Az w' ts=false:=λh w' e=>by
  rw [Ag4 h,Lib.toList_data,Lib.toList_data];exact e
 rcases h with ((h | h) | h) | h;have h6:(hd ts).1=6:=by simpa using h
 have hf:∀ w,Az w ts=false:=λw=>by
  cases hw:Az w ts with
  | false=>rfl
  | true=>exact absurd h6 (AQ hw)
 exact ⟨hf _,hf _,hf _⟩;exact ⟨lit h _ rfl,lit h _ rfl,lit h _ rfl⟩;exact ⟨lit h _ rfl,lit h _ rfl,lit h _ rfl⟩;exact ⟨lit h _ rfl,lit h _ rfl,lit h _ rfl⟩
theorem Nv {ts:List Tk} (hg:Good ts):1<=ts.length:=by cases ts with | nil=>exact hg.elim | cons=>simp
structure BS (l:List Tk) (k:Nat):Prop where
 block:∀ c ts,Good ts->ts <:+ l->64 * ts.length+50<=k->Rel l GT eT3 ((RS.at k).Cm l (ix l ts) (-1) c) (Fi c ts)
 QH:∀ c b,0<=b->2<=k->∃ n,(RS.at k).Cm l (EE l) b c=some (eT3 n (EE l) b)
 stat:∀ ts,Good ts->ts <:+ l->64 * ts.length+47<=k->Rel l GT eT3 ((RS.at k).Ej l (ix l ts) (-1) (hd ts).2.2.2) (Mk ts)
 loop:∀ at_ ts,Good ts->ts <:+ l->64 * ts.length+48<=k->Rel l GT eT3 ((RS.at k).E3 l (ix l ts) (-1) at_) (O7 at_ ts)
 plain:∀ ts,Good ts->ts <:+ l->64 * ts.length+46<=k->Rel l GT eT3 ((RS.at k).E4 l (ix l ts) (-1) (hd ts).2.2.2) (O8 ts)
 body:∀ ts,Good ts->ts <:+ l->64 * ts.length+46<=k->Rel l GT eT3 ((RS.at k).DU l (ix l ts) (-1)) (Iv ts)
 Ab6:∀ b,0<=b->3<=k->∃ n,(RS.at k).DU l (EE l) b=some (eT3 n (EE l) b)
section
variable {l:List Tk} (hl:l.length<=1000000) (ha:Jn l) (h0:l≠[])
include hl h0
theorem Adv (k:Nat) (lev b:Int) (hb:0<=b):BR.f k l (EE l) b lev=some (0,⟨#[]⟩,0,0,[],EE l,b):=Adl hl h0 _ lev b hb
theorem Ab1 (m:Nat) (Rc:RS) (c:Bool) (r2:Int) (J:List Tree->Int->Int->Option (Int×Ah×Int×Int×List Tree×Int×Int)) (acc:List Tree) (b:Int) (hb:0<=b):Cm.l0 (m+1) Rc l c r2 J acc (EE l) b=J acc (EE l) b:=by
 rw [Cm.l0,A3q hl h0 m hb];rfl
theorem Az5 (k:Nat) (hk:1<=k) (Rc:RS) (c:Bool) (b:Int) (hb:0<=b):∃ n,Cm.g Rc k l (EE l) b c=some (eT3 n (EE l) b):=by
 unfold Cm.g;obtain ⟨t,ht⟩:=Tr hl h0 k hb;obtain ⟨k,rfl⟩:∃ q,k=q+1:=⟨k - 1,by omega⟩;simp only [ht,Al,A2,Ab1 hl h0 k Rc c t _ [] b hb];exact ⟨.mk _ _ _ _ _,rfl⟩
include ha
theorem QN (k:Nat) {ts:List Tk} (hg:Good ts) (hs:ts <:+ l) (hk:32 * ts.length+30<=k):Rel l GT eT3 (BR.f k l (ix l ts) (-1) 1) (DM 0 ts):=Adk hl h0 (bE hl ha h0 k) 1 (by omega) (by omega) hg hs (by omega)
theorem TD (k:Nat) {ts:List Tk} (hg:Good ts) (hs:ts <:+ l) (hk:32 * ts.length+31<=k):Rel l GL GV (CM.f k l (ix l ts) (-1)) (Fz ts):=Akq hl ha h0 (bE hl ha h0 k) hg hs hk
theorem TC (k:Nat) (b:Int) (hb:0<=b) (hk:1<=k):CM.f k l (EE l) b=some ([P2],EE l,b):=Akr hl h0 (bE hl ha h0 k) b hb hk
theorem Aeb (k:Nat) {ts:List Tk} (hg:Good ts) (hs:ts <:+ l) (hk:32 * ts.length+22<=k):Rel l GT eT3 (Da.f k l (ix l ts) (-1)) (Iw ts):=Aqj hl ha h0 (bE hl ha h0 k) hg hs hk
theorem Aky:∀ (m:Nat) (acc:List Tree) (ts:List Tk),Good ts->ts <:+ l->ts.length+1 < m->acc.length+ts.length<=1000000 ->
  Rel l GL GV (FD.l0 m l (λl7 x12 Cq=>some (l7,x12,Cq)) acc (ix l ts) (-1)) (Jj acc ts)
 | 0,_,_,_,_,h,_=>by omega
 | m+1,acc,ts,hg,hs,hm,hc=>by
  rw [FD.l0,DZ hl m hg hs,MZ acc hg];simp only [Al];refine Fg (Dc _) (λhc'=>?_) λhc'=>?_;simp only [hc',if_true];obtain ⟨g1,g2,g3⟩:=hg.tail (AQ hc');have gs:=g3.trans hs;refine C1 (MH hl ha _ g1 gs 6) (fName 6 g1) (λx r hv hr hrs hrn=>?_) λa b hb0 _=>?_;simp only [eT3,BG];rw [BQ (by simp only [AH,AX];omega)];simp only [Al];exact Aky m _ r hr (hrs.trans gs) (by omega) (by simp only [Bv,AH,AX];omega);simp only [eT3,BG];rw [BQ (by simp only [AH,AX];omega)];simp only [Al];rw [XS hl h0 hb0 _ _ m (by omega)];exact ⟨acc++[a],by unfold GL;simp only [Bv,AH,AX];omega,rfl⟩;simp only [if_neg hc'];rfl
theorem Ak2 (k:Nat) {ts:List Tk} (hg:Good ts) (hs:ts <:+ l) (hk:ts.length+1 < k):Rel l GL GV (FD.f k l (ix l ts) (-1)) (IE ts):=by
 unfold FD.f IE;have hle:=hs.length_le;refine C1 (MH hl ha _ hg hs 6) (fName 6 hg) (λx r hv hr hrs hrn=>?_) λa b hb0 _=>?_;simp only [eT3,BG,A2];exact Aky hl ha h0 k _ r hr (hrs.trans hs) (by omega) (by simp only [AH,AX];omega);simp only [eT3,BG,A2];rw [XS hl h0 hb0 _ _ k (by omega)];exact ⟨[a],by unfold GL;simp,rfl⟩
variable {k:Nat} (ih:BS l k)
include ih
theorem Az6 (b:Int) (hb:0<=b) (hk:2<=k):∃ n,DU.g (RS.at k) k l (EE l) b=some (eT3 n (EE l) b):=by
 unfold DU.g;obtain ⟨n,hn⟩:=ih.QH false b hb hk;simp only [FS hl h0 _ hb,Al,hn,eT3];exact ⟨n,rfl⟩
theorem Az7 {ts:List Tk} (hg:Good ts) (hs:ts <:+ l) (hk:64 * ts.length+45<=k):Rel l GT eT3 (DU.g (RS.at k) k l (ix l ts) (-1)) (Iv ts):=by
 unfold DU.g;rw [ZF hg];have hp:=Nv hg;refine C1 (G7 hl ha _ hg hs _) (C3 _ hg) (λ_ r _ hr hrs hn=>?_) λ_ b hb0 _=>?_;simp only [EY];have h1:=hrs.trans hs;refine C1 (ih.block false r hr h1 (by omega)) (Ih false hr) (λx r2 _ hr2 DW hn2=>?_) λa b hb0 _=>?_;simp only [eT3];exact C1 (G7 hl ha _ hr2 (DW.trans h1) _) (C3 _ hr2) (λ_ r3 _ _ _ _=>rfl) λ_ b hb0 _=>⟨x,Aj,rfl⟩;simp only [eT3,FS hl h0 _ hb0,Al];exact ⟨a,Aj,rfl⟩;obtain ⟨n,hn⟩:=ih.QH false b hb0 (by omega);simp only [EY,hn,Al,eT3,FS hl h0 _ hb0];exact ⟨n,Aj,rfl⟩
theorem Vy (chunk:Bool) (r2:Int):∀ (m:Nat) (acc:List Tree) (ts:List Tk),Good ts->ts <:+ l->64 * ts.length+10 < m->acc.length+ts.length<=1000000->64 * ts.length+47<=k ->
  Rel l GT eT3 (Cm.l0 m (RS.at k) l chunk r2 (λl4 x9 x10=>some ((20:Int),(⟨#[]⟩:Ah),(0:Int),r2,l4,x9,x10)) acc (ix l ts) (-1)) (Ji chunk r2 acc ts)
 | 0,_,_,_,_,h,_,_=>by omega
 | m+1,acc,ts,hg,hs,hm,hac,hk=>by
  have hp:=Nv hg;rw [Cm.l0,Ade m hg hs,Ary chunk _ acc hg];simp only [Al];obtain ⟨m',hm'⟩:∃ q,m=q+1:=⟨m - 1,by omega⟩;have B2b:∀ (xs:List Tree) (b:Int),0<=b->∃ a',GT a'/\Cm.l0 m (RS.at k) l chunk r2 (λl4 x9 x10=>some ((20:Int),(⟨#[]⟩:Ah),(0:Int),r2,l4,x9,x10)) xs (EE l) b=some (eT3 a' (EE l) b):=λxs b hb0=>by
   rw [hm',Ab1 hl h0 m' _ _ _ _ xs b hb0];exact ⟨.mk _ _ _ _ _,Aj,rfl⟩
  cases hE:IQ ts with
  | true =>
   obtain ⟨e1,e2,e3⟩:=A3t hE;simp only [Bool.not_true,cond_false,e1,e2,e3,Bool.and_false,Bool.false_eq_true,if_false,if_true];rfl
  | false =>
  simp only [Bool.not_false,cond_true,Nl m hg hs,Al,DZ hl m hg hs,Bool.false_eq_true,if_false];refine Fg (Dc _) (λhc=>?_) λh1=>?_;simp only [hc,if_true];obtain ⟨g1,g2,g3⟩:=hg.tail (AQ hc);exact Vy chunk r2 m acc _ g1 (g3.trans hs) (by omega) (by omega) (by omega);simp only [if_neg h1,DZ hl m hg hs,Al];refine Fg (Dc _) (λhc=>?_) λh2=>?_;simp only [hc,if_true];obtain ⟨g1,g2,g3⟩:=hg.tail (AQ hc);have gs:=g3.trans hs;have hend:∀ (xs:List Tree) (r:List Tk),Good r->r <:+ l->Rel l GT eT3 ((BV.f m l (ix l r) (-1) (⟨#[59]⟩:Ah)).bind (λr36=>(apd 64 acc [(Tree.mk (30:Int) (⟨#[]⟩:Ah) (0:Int) (hd ts).2.2.2 xs)]).bind λJz=>some ((20:Int),(⟨#[]⟩:Ah),(0:Int),r2,Jz,r36.2,(-1:Int)))) (.ok (.mk 20 noB 0 r2 (acc++[.mk 30 noB 0 (hd ts).2.2.2 xs])) (if Az EN r then r.tail else r)):=λxs r hr hrl=>by
   rw [DZ hl m hr hrl,BQ (by simp only [AH,AX];omega)];rfl
  simp only [A2,Ade m g1 gs,Lt m g1 gs,Al];unfold UN;cases hE2:IQ ts.tail with
  | true =>
   simp only [Bool.not_true,cond_false,Al,Bool.true_or,if_true];exact hend [] _ g1 gs
  | false =>
   simp only [Bool.not_false,cond_true,Al,Bool.false_or];by_cases hS:Az EN ts.tail=true;rw [if_pos hS,show Az (⟨#[59]⟩:Ah) ts.tail=true from hS];exact hend [] _ g1 gs;rw [if_neg hS,show Az (⟨#[59]⟩:Ah) ts.tail=false from by simpa using hS];simp only [Bool.not_false,cond_true];refine C1 (TD hl ha h0 m g1 gs (by omega)) (IR g1) (λxs r hv hr hrs hrn=>?_) λa b hb0 hga=>?_;exact hend xs r hr (hrs.trans gs);simp only [GV,Ia hl h0 _ hb0,Al];rw [BQ (by simp only [AH,AX];omega)];exact ⟨.mk _ _ _ _ _,Aj,rfl⟩
  simp only [if_neg h2,A2];have more:∀ (x:Tree) (r:List Tk),Good r->r <:+ ts->r.length+1<=ts.length->Rel l GT eT3 ((apd 64 acc [x]).bind λl56=>Cm.l0 m (RS.at k) l chunk r2 (λl4 x9 x10=>some ((20:Int),(⟨#[]⟩:Ah),(0:Int),r2,l4,x9,x10)) l56 (ix l r) (-1)) (Ji chunk r2 (acc++[x]) r):=λx r hr hrs hn=>by
   rw [BQ (by simp only [AH,AX];omega)];exact Vy chunk r2 m _ r hr (hrs.trans hs) (by omega) (by simp only [Bv,AH,AX];omega) (by omega)
  have RU:∀ (x:Tree) (b:Int),0<=b->∃ a',GT a'/\((apd 64 acc [x]).bind λl56=>Cm.l0 m (RS.at k) l chunk r2 (λl4 x9 x10=>some ((20:Int),(⟨#[]⟩:Ah),(0:Int),r2,l4,x9,x10)) l56 (EE l) b)=some (eT3 a' (EE l) b):=λx b hb0=>by
   rw [BQ (by simp only [AH,AX];omega)];exact B2b _ b hb0
  have hst:Rel l GT eT3 (((RS.at k).Ej l (ix l ts) (-1) (hd ts).2.2.2).bind λDT=>(apd 64 acc [(Tree.mk DT.1 DT.2.1 DT.2.2.1 DT.2.2.2.1 DT.2.2.2.2.1)]).bind λPp=>Cm.l0 m (RS.at k) l chunk r2 (λl4 x9 x10=>some ((20:Int),(⟨#[]⟩:Ah),(0:Int),r2,l4,x9,x10)) Pp DT.2.2.2.2.2.1 DT.2.2.2.2.2.2) ((Mk ts).then λx r=>Ji chunk r2 (acc++[x]) r):=by
   refine C1 (ih.stat ts hg hs hk) (VH hg) (λx r hv hr hrs hrn=>?_) λa b hb0 _=>?_;simp only [eT3,BG];exact more x r hr hrs hrn;simp only [eT3,BG];exact RU a b hb0
  by_cases hF:(chunk && Az Gm ts)=true;simp only [Bool.and_eq_true] at hF;obtain ⟨hc,hF⟩:=hF;subst hc;rw [if_pos (by rw [hF];rfl)];simp only [cond_true,DZ hl m hg hs,Al,show Az (⟨#[102,117,110,99,116,105,111,110]⟩:Ah) ts=true from hF,if_true];rw [Ar8 (AQ hF) hg];obtain ⟨g1,g2,g3⟩:=hg.tail (AQ hF);have gs:=g3.trans hs;have hle:=hs.length_le
  -- behind the parameters
  have tl:∀ (nm:Ah) (ps:List Tree) (r:List Tk),Good r->r <:+ ts->r.length+1<=ts.length->ps.length<=1000000->Rel l GT eT3 ((C6.f m l (ix l r) (-1) (⟨#[41]⟩:Ah)).bind λDK=>((RS.at k).Cm l DK.1 DK.2 false).bind λC7=>(apd 64 ps [(Tree.mk C7.1 C7.2.1 C7.2.2.1 C7.2.2.2.1 C7.2.2.2.2.1)]).bind λIZ=>(C6.f m l C7.2.2.2.2.2.1 C7.2.2.2.2.2.2 (⟨#[101,110,100]⟩:Ah)).bind λE5=>(apd 64 acc [(Tree.mk (31:Int) nm ((ps.length:Nat):Int) (hd ts).2.2.2 IZ)]).bind λl92=>Cm.l0 m (RS.at k) l true r2 (λl4 x9 x10=>some ((20:Int),(⟨#[]⟩:Ah),(0:Int),r2,l4,x9,x10)) l92 E5.1 E5.2)
    ((CK CV r).then λ_ r=>(Fi false r).then λb r=>(CK BM r).then λ_ r=>Ji true r2 (acc++[.mk 31 nm ps.length (hd ts).2.2.2 (ps++[b])]) r):=λnm ps r hr hrs hn hps=>by
   have hrl:=hrs.trans hs;refine C1 (G7 hl ha _ hr hrl _) (C3 _ hr) (λ_ s _ hs1 hss hn'=>?_) λ_ b hb0 _=>?_;simp only [EY];have h3:=hss.trans hrl;refine C1 (ih.block false s hs1 h3 (by omega)) (Ih false hs1) (λx s2 _ hs2 IW Ber=>?_) λa b hb0 _=>?_;simp only [eT3,BG];rw [BQ (by simp only [AH,AX];omega)];simp only [Al];have h4:=IW.trans h3;refine C1 (G7 hl ha _ hs2 h4 _) (C3 _ hs2) (λ_ s3 _ hs3 Agm hn3=>?_) λ_ b hb0 _=>?_;simp only [EY];exact more _ s3 hs3 (Agm.trans (IW.trans (hss.trans hrs))) (by omega);simp only [EY];exact RU _ b hb0;simp only [eT3,BG];rw [BQ (by simp only [AH,AX];omega)];simp only [Al,FS hl h0 _ hb0];exact RU _ b hb0;obtain ⟨n,hn⟩:=ih.QH false b hb0 (by omega);simp only [EY,hn,Al,eT3,BG];rw [BQ (by simp only [AH,AX];omega)];simp only [Al,FS hl h0 _ hb0];exact RU _ b hb0
  have tlF:∀ (nm:Ah) (ps:List Tree) (b:Int),0<=b->ps.length<=3000000->∃ a',GT a'/\((C6.f m l (EE l) b (⟨#[41]⟩:Ah)).bind λDK=>((RS.at k).Cm l DK.1 DK.2 false).bind λC7=>(apd 64 ps [(Tree.mk C7.1 C7.2.1 C7.2.2.1 C7.2.2.2.1 C7.2.2.2.2.1)]).bind λIZ=>(C6.f m l C7.2.2.2.2.2.1 C7.2.2.2.2.2.2 (⟨#[101,110,100]⟩:Ah)).bind λE5=>(apd 64 acc [(Tree.mk (31:Int) nm ((ps.length:Nat):Int) (hd ts).2.2.2 IZ)]).bind λl92=>Cm.l0 m (RS.at k) l true r2 (λl4 x9 x10=>some ((20:Int),(⟨#[]⟩:Ah),(0:Int),r2,l4,x9,x10)) l92 E5.1 E5.2)=some (eT3 a' (EE l) b):=λnm ps b hb0 hps=>by
   obtain ⟨n,hn⟩:=ih.QH false b hb0 (by omega);simp only [FS hl h0 _ hb0,Al,hn,eT3,BG];rw [BQ (by simp only [AH,AX];omega)];simp only [Al,FS hl h0 _ hb0];exact RU _ b hb0
  have whole:Rel l GT eT3 ((Ff.f m l (ix l ts.tail) (-1) (6:Int)).bind λr60=>(C6.f m l r60.2.2.2.2.2.1 r60.2.2.2.2.2.2 (⟨#[40]⟩:Ah)).bind λr65=>(D4.f m l r65.1 r65.2 (⟨#[41]⟩:Ah)).bind λUA=>cond (!UA) ((FD.f m l r65.1 r65.2).bind λJg=>(C6.f m l Jg.2.1 Jg.2.2 (⟨#[41]⟩:Ah)).bind λDK=>((RS.at k).Cm l DK.1 DK.2 false).bind λC7=>(apd 64 Jg.1 [(Tree.mk C7.1 C7.2.1 C7.2.2.1 C7.2.2.2.1 C7.2.2.2.2.1)]).bind λIZ=>(C6.f m l C7.2.2.2.2.2.1 C7.2.2.2.2.2.2 (⟨#[101,110,100]⟩:Ah)).bind λE5=>(apd 64 acc [(Tree.mk (31:Int) r60.2.1 ((Jg.1.length:Nat):Int) (hd ts).2.2.2 IZ)]).bind λl92=>Cm.l0 m (RS.at k) l true r2 (λl4 x9 x10=>some ((20:Int),(⟨#[]⟩:Ah),(0:Int),r2,l4,x9,x10)) l92 E5.1 E5.2) ((C6.f m l r65.1 r65.2 (⟨#[41]⟩:Ah)).bind λDK=>((RS.at k).Cm l DK.1 DK.2 false).bind λC7=>(apd 64 [] [(Tree.mk C7.1 C7.2.1 C7.2.2.1 C7.2.2.2.1 C7.2.2.2.2.1)]).bind λIZ=>(C6.f m l C7.2.2.2.2.2.1 C7.2.2.2.2.2.2 (⟨#[101,110,100]⟩:Ah)).bind λE5=>(apd 64 acc [(Tree.mk (31:Int) r60.2.1 ((([]:List Tree).length:Nat):Int) (hd ts).2.2.2 IZ)]).bind λl92=>Cm.l0 m (RS.at k) l true r2 (λl4 x9 x10=>some ((20:Int),(⟨#[]⟩:Ah),(0:Int),r2,l4,x9,x10)) l92 E5.1 E5.2))
    ((FZ 6 ts.tail).then λnm r=>(CK DS r).then λ_ r=>(SE r).then λps r=>(CK CV r).then λ_ r=>(Fi false r).then λb r=>(CK BM r).then λ_ r=>Ji true r2 (acc++[.mk 31 nm.text ps.length (hd ts).2.2.2 (ps++[b])]) r):=by
   refine C1 (MH hl ha _ g1 gs 6) (fName 6 g1) (λnm r _ hr hrs hrn=>?_) λa b hb0 _=>?_;simp only [eT3];have h1':=hrs.trans gs;refine C1 (G7 hl ha _ hr h1' _) (C3 _ hr) (λ_ s _ hs1 hss hn'=>?_) λ_ b hb0 _=>?_;simp only [EY];have hsl:=hss.trans h1';rw [Lt m hs1 hsl];simp only [Al];unfold SE;by_cases hR:Az CV s=true;rw [if_pos hR,show Az (⟨#[41]⟩:Ah) s=true from hR];exact tl nm.text [] s hs1 (hss.trans (hrs.trans g3)) (by omega) (by simp);rw [if_neg hR,show Az (⟨#[41]⟩:Ah) s=false from by simpa using hR];simp only [Bool.not_false,cond_true];refine C1 (Ak2 hl ha h0 m hs1 hsl (by omega)) (Nt hs1) (λps s2 hv hs2 IW hn2=>?_) λa b hb0 hga=>?_;have hln:=RJ hs1 hv;exact tl nm.text ps s2 hs2 (IW.trans (hss.trans (hrs.trans g3))) (by omega) (by omega);exact tlF nm.text a b hb0 hga;simp only [EY,S3 hl h0 _ hb0,Al,Bool.not_false,cond_true,Ak3 hl h0 _ hb0 (show 0 < m by omega)];exact tlF nm.text [P2] b hb0 (by simp);simp only [eT3,FS hl h0 m hb0 (⟨#[40]⟩:Ah),Al,S3 hl h0 _ hb0,Bool.not_false,cond_true,Ak3 hl h0 _ hb0 (show 0 < m by omega)];exact tlF a.text [P2] b hb0 (by simp)
  simp only [then_assoc];exact whole;rw [if_neg hF];cases chunk with
  | false =>
   simp only [cond_false];exact hst
  | true =>
   simp only [cond_true,DZ hl m hg hs,Al];have hF':Az Gm ts=false:=by simpa using hF
   rw [show Az (⟨#[102,117,110,99,116,105,111,110]⟩:Ah) ts=false from hF'];simp only [cond_false,Bool.false_eq_true,if_false];exact hst
theorem Ab4 (c:Bool) {ts:List Tk} (hg:Good ts) (hs:ts <:+ l) (hk:64 * ts.length+49<=k):Rel l GT eT3 (Cm.g (RS.at k) k l (ix l ts) (-1) c) (Fi c ts):=by
 unfold Cm.g;rw [Nl k hg hs,Arz c hg];simp only [Al,A2];have:=hs.length_le;exact Vy hl ha h0 ih c (hd ts).2.2.2 k [] ts hg hs (by omega) (by simp only [AX];omega) (by omega)
omit ih in
theorem Aqx (J:List Tree->Int->Int->Option (Int×Ah×Int×Int×List Tree×Int×Int)) (g:List Tree->List Tk->PV Tree) (Ag:Nat) (hJ:∀ a r,Good r->r <:+ l->r.length<=Ag->a.length<=1000000->Rel l GT eT3 (J a (ix l r) (-1)) (g a r)) (hJF:∀ a b,0<=b->a.length<=1000001->∃ a',GT a'/\J a (EE l) b=some (eT3 a' (EE l) b)) :
  ∀ (m:Nat) (acc:List Tree) (e:Tree) (ts:List Tk),0<=e.at_->Good ts->ts <:+ l->64 * ts.length+2 < m->ts.length<=Ag->acc.length+ts.length+1<=1000000->Rel l GT eT3 (E4.l0 m l J acc e.kind e.text e.n e.at_ e.kids (ix l ts) (-1)) ((O9 acc e ts).then g)
 | 0,_,_,_,_,_,_,h,_,_=>by omega
 | m+1,acc,e,ts,he,hg,hs,hm,hN,hac=>by
  have hp:=Nv hg;rw [E4.l0,Asm acc e hg];simp only [A2,BG,show decide ((-1:Int) < 0)=true from rfl,cond_true];have hq:(cond (e.kind != (6:Int)) (some (e.kind != (7:Int))) (some false):Option Bool)=some (!decide (e.kind=6\/e.kind=7)):=by
   rw [bne,bne,Mz,Mz];by_cases h6:e.kind=6;simp [h6];simp [h6]
  rw [hq];simp only [Al];obtain ⟨m',hm'⟩:∃ q,m=q+1:=⟨m - 1,by omega⟩;by_cases hk:e.kind=6\/e.kind=7;rw [if_pos hk,decide_eq_true hk];simp only [Bool.not_true,cond_false];rw [BQ (by simp only [AH,AX];omega)];simp only [Al,DZ hl m hg hs];by_cases hc:Az D0 ts=true;rw [show Az (⟨#[44]⟩:Ah) ts=true from hc];simp only [Bool.not_true,cond_false,if_true];rw [then_assoc];obtain ⟨g1,g2,g3⟩:=hg.tail (AQ hc);have gs:=g3.trans hs;refine C1 (Aeb hl ha h0 m g1 gs (by omega)) (Nu g1) (λx r hv hr hrs hn=>?_) λa b hb0 _=>?_;refine Aqx J g Ag hJ hJF m _ x r ?_ hr (hrs.trans gs) (by omega) (by omega) (by simp only [Bv,AH,AX];omega);rw [Aqc g1 hv];exact (ha.suf gs).hd;have hstop:∀ kd tx n p ks,E4.l0 (m'+1) l J (acc++[e]) kd tx n p ks (EE l) b=J (acc++[e]) (EE l) b:=λkd tx n p ks=>by rw [E4.l0,decide_eq_false (by omega)];rfl
  rw [hm'];simp only [eT3,hstop];exact hJF (acc++[e]) b hb0 (by simp only [Bv,AH,AX];omega);rw [show Az (⟨#[44]⟩:Ah) ts=false from by simpa using hc];simp only [Bool.not_false,cond_true,Bool.false_eq_true,if_false];exact hJ _ ts hg hs hN (by simp only [Bv,AH,AX];omega);rw [if_neg hk,decide_eq_false hk];simp only [Bool.not_false,cond_true,QG hl h0 m,Al];rw [BQ (by simp only [AH,AX];omega)];simp only [Al,Ia hl h0 m he,Bool.not_false,cond_true];obtain ⟨a',ha',h⟩:=hJF (acc++[e]) e.at_ he (by simp only [Bv,AH,AX];omega);exact ⟨he,a',ha',h⟩
omit ih in
theorem Bxq (k:Nat) {ts:List Tk} (hg:Good ts) (hs:ts <:+ l) (hk:64 * ts.length+45<=k):Rel l GT eT3 (E4.g (RS.at k) k l (ix l ts) (-1) (hd ts).2.2.2) (O8 ts):=by
 unfold E4.g;rw [Asj hg];have hle:=hs.length_le;have hp:=Nv hg;refine C1 (Aeb hl ha h0 k hg hs (by omega)) (Nu hg) (λe r hv hr hrs hn=>?_) λa b hb0 _=>?_;have h1:=hrs.trans hs;have hat:=Aqc hg hv;simp only [eT3,BG,Lt k hr h1,Al,A2];have hq:(cond (!Az (⟨#[61]⟩:Ah) r) (some (!Az (⟨#[44]⟩:Ah) r)) (some false):Option Bool)=some (!(Az Cb r || Az D0 r)):=by
  show (cond (!Az Cb r) (some (!Az D0 r)) (some false):Option Bool)=_;cases Az Cb r <;> cases Az D0 r <;> rfl
 rw [hq];simp only [Al];cases hb:(Az Cb r || Az D0 r) with
 | true =>
  simp only [Bool.not_true,cond_false,if_true];have h:=Aqx hl ha h0 (λCk x25 x26=>(C6.f k l x25 x26 (⟨#[61]⟩:Ah)).bind λr28=>(CM.f k l r28.1 r28.2).bind λr29=>(apd 64 Ck r29.1).bind λl34=>some ((22:Int),(⟨#[]⟩:Ah),((Ck.length:Nat):Int),(hd ts).2.2.2,l34,r29.2.1,r29.2.2)) (λl r=>(CK Cb r).then λ_ r=>(Fz r).then λes r=>.ok (.mk 22 noB l.length (hd ts).2.2.2 (l++es)) r) r.length (λa s hs1 hsl hsn ha'=>by
   refine C1 (G7 hl ha _ hs1 hsl _) (C3 _ hs1) (λ_ s2 _ hs2 IW hn2=>?_) λ_ b hb0 _=>?_;simp only [EY];refine C1 (TD hl ha h0 k hs2 (IW.trans hsl) (by omega)) (IR hs2) (λes s3 hv3 hs3 Agm hn3=>?_) λc b hb0 hga=>?_;have hln:=ME hs2 hv3;have:=hsl.length_le;simp only [GV];rw [BQ (by omega)];rfl;unfold GL at hga;simp only [GV];rw [BQ (by omega)];exact ⟨.mk _ _ _ _ _,Aj,rfl⟩;simp only [EY,TC hl ha h0 k b hb0 (by omega),Al];rw [BQ (by simp only [AH,AX];omega)];exact ⟨.mk _ _ _ _ _,Aj,rfl⟩) (λa b hb0 ha'=>by
   simp only [FS hl h0 _ hb0,Al,TC hl ha h0 k b hb0 (by omega)];rw [BQ (by simp only [AH,AX];omega)];exact ⟨.mk _ _ _ _ _,Aj,rfl⟩) k [] e r (by rw [hat];exact (ha.suf hs).hd) hr h1 (by omega) (Nat.le_refl _) (by simp only [AX];omega)
  rw [hat] at h ⊢;exact h
 | false =>
  simp only [Bool.not_false,cond_true,Bool.false_eq_true,if_false];by_cases h8:e.kind=8;rw [if_pos h8,h8,hat];rfl;rw [if_neg h8,show (e.kind != 8)=true by rw [bne_iff_ne];exact h8];simp only [cond_true,Nl k hr h1,Al,QG hl h0 k];exact ⟨(ha.suf h1).hd,.mk _ _ _ _ _,Aj,rfl⟩
 simp only [eT3,BG,S3 hl h0 _ hb0,Al,Bool.not_false,cond_true,A2];obtain ⟨t,ht⟩:=Tr hl h0 k hb0;cases a.kind != (8:Int) with
 | true =>
  simp only [cond_true,ht,Al,Vs hl h0 k hb0];exact ⟨.mk _ _ _ _ _,Aj,rfl⟩
 | false =>
  simp only [cond_false];exact ⟨.mk _ _ _ _ _,Aj,rfl⟩
omit ih in
theorem Ad5 (m:Nat) (J:List Tree->Int->Int->Option (Int×Ah×Int×Int×List Tree×Int×Int)) (acc:List Tree) (b:Int) (hb:0<=b):E3.l0 (m+1) l J acc (EE l) b=J acc (EE l) b:=by
 rw [E3.l0,Ia hl h0 m hb];rfl
omit ih in
theorem Ad7 (J:List Tree->Int->Int->Option (Int×Ah×Int×Int×List Tree×Int×Int)) (g:List Tree->List Tk->PV Tree) (Ag:Nat) (hJ:∀ a r,Good r->r <:+ l->r.length<=Ag->a.length+r.length<=1000000->Rel l GT eT3 (J a (ix l r) (-1)) (g a r)) (hJF:∀ a b,0<=b->a.length<=1000001->∃ a',GT a'/\J a (EE l) b=some (eT3 a' (EE l) b)) :
  ∀ (m:Nat) (acc:List Tree) (ts:List Tk),Good ts->ts <:+ l->ts.length+1 < m->ts.length<=Ag->acc.length+ts.length<=1000000->Rel l GT eT3 (E3.l0 m l J acc (ix l ts) (-1)) ((Jj acc ts).then g)
 | 0,_,_,_,_,h,_,_=>by omega
 | m+1,acc,ts,hg,hs,hm,hN,hc=>by
  rw [E3.l0,DZ hl m hg hs,MZ acc hg];simp only [Al];by_cases hc':Az D0 ts=true;rw [show Az (⟨#[44]⟩:Ah) ts=true from hc'];simp only [cond_true,if_true];rw [then_assoc];obtain ⟨g1,g2,g3⟩:=hg.tail (AQ hc');have gs:=g3.trans hs;refine C1 (MH hl ha _ g1 gs 6) (fName 6 g1) (λx r hv hr hrs hrn=>?_) λa b hb0 _=>?_;simp only [eT3,BG];rw [BQ (by simp only [AH,AX];omega)];simp only [Al];exact Ad7 J g Ag hJ hJF m _ r hr (hrs.trans gs) (by omega) (by omega) (by simp only [Bv,AH,AX];omega);simp only [eT3,BG];rw [BQ (by simp only [AH,AX];omega)];obtain ⟨m,rfl⟩:∃ q,m=q+1:=⟨m - 1,by omega⟩;simp only [Al,Ad5 hl ha h0 m J _ b hb0];exact hJF _ b hb0 (by simp only [Bv,AH,AX];omega);rw [show Az (⟨#[44]⟩:Ah) ts=false from by simpa using hc'];simp only [cond_false,Bool.false_eq_true,if_false];exact hJ _ ts hg hs hN hc
theorem A5d (at_:Int) {ts:List Tk} (hg:Good ts) (hs:ts <:+ l) (hk:64 * ts.length+47<=k):Rel l GT eT3 (E3.g (RS.at k) k l (ix l ts) (-1) at_) (O7 at_ ts):=by
 unfold E3.g;rw [Ar7 at_ hg];have hle:=hs.length_le;have hp:=Nv hg;obtain ⟨k',hk'⟩:∃ q,k=q+1:=⟨k - 1,by omega⟩
 -- the body, and the end
 have tl:∀ (kd nn:Int) (xs:List Tree) (r:List Tk),Good r->r <:+ l->r.length+1<=ts.length->xs.length<=4000000->Rel l GT eT3 (((RS.at k).DU l (ix l r) (-1)).bind λr47=>(apd 64 xs [(Tree.mk r47.1 r47.2.1 r47.2.2.1 r47.2.2.2.1 r47.2.2.2.2.1)]).bind λl55=>some (kd,(⟨#[]⟩:Ah),nn,at_,l55,r47.2.2.2.2.2.1,r47.2.2.2.2.2.2)) ((Iv r).then λbd r=>.ok (.mk kd noB nn at_ (xs++[bd])) r):=λkd nn xs r hr hrl hn hxs=>by
  refine C1 (ih.body r hr hrl (by omega)) (Ns hr) (λx s _ _ _ _=>?_) λa b hb0 _=>?_;simp only [eT3,BG];rw [BQ (by simp only [AH,AX];omega)];rfl;simp only [eT3,BG];rw [BQ (by simp only [AH,AX];omega)];exact ⟨.mk _ _ _ _ _,Aj,rfl⟩
 have tlF:∀ (kd nn:Int) (xs:List Tree) (b:Int),0<=b->xs.length<=4000000->∃ a',GT a'/\(((RS.at k).DU l (EE l) b).bind λr47=>(apd 64 xs [(Tree.mk r47.1 r47.2.1 r47.2.2.1 r47.2.2.2.1 r47.2.2.2.2.1)]).bind λl55=>some (kd,(⟨#[]⟩:Ah),nn,at_,l55,r47.2.2.2.2.2.1,r47.2.2.2.2.2.2))=some (eT3 a' (EE l) b):=λkd nn xs b hb0 hxs=>by
  obtain ⟨n,hn⟩:=ih.Ab6 b hb0 (by omega);simp only [hn,Al,eT3,BG];rw [BQ (by simp only [AH,AX];omega)];exact ⟨.mk _ _ _ _ _,Aj,rfl⟩
 -- behind the names of a 'for in'
 have inF:∀ (xs:List Tree) (b:Int),0<=b->xs.length<=1000001->∃ a',GT a'/\((C6.f k l (EE l) b (⟨#[105,110]⟩:Ah)).bind λCg=>(CM.f k l Cg.1 Cg.2).bind λIs=>(apd 64 xs Is.1).bind λPv=>((RS.at k).DU l Is.2.1 Is.2.2).bind λr95=>(apd 64 Pv [(Tree.mk r95.1 r95.2.1 r95.2.2.1 r95.2.2.2.1 r95.2.2.2.2.1)]).bind λMB=>some ((27:Int),(⟨#[]⟩:Ah),((xs.length:Nat):Int),at_,MB,r95.2.2.2.2.2.1,r95.2.2.2.2.2.2))=some (eT3 a' (EE l) b):=λxs b hb0 hxs=>by
  simp only [FS hl h0 _ hb0,Al,TC hl ha h0 k b hb0 (by omega)];rw [BQ (by simp only [AH,AX];omega)];exact tlF 27 _ _ b hb0 (by simp only [Bv,AH,AX];omega)
 have Bl2:∀ (xs:List Tree) (r:List Tk),Good r->r <:+ l->r.length+1<=ts.length->xs.length+r.length<=1000000->Rel l GT eT3 ((C6.f k l (ix l r) (-1) (⟨#[105,110]⟩:Ah)).bind λCg=>(CM.f k l Cg.1 Cg.2).bind λIs=>(apd 64 xs Is.1).bind λPv=>((RS.at k).DU l Is.2.1 Is.2.2).bind λr95=>(apd 64 Pv [(Tree.mk r95.1 r95.2.1 r95.2.2.1 r95.2.2.2.1 r95.2.2.2.2.1)]).bind λMB=>some ((27:Int),(⟨#[]⟩:Ah),((xs.length:Nat):Int),at_,MB,r95.2.2.2.2.2.1,r95.2.2.2.2.2.2)) ((CK Il r).then λ_ r=>(Fz r).then λes r=>(Iv r).then λbd r=>.ok (.mk 27 noB xs.length at_ (xs++es++[bd])) r):=λxs r hr hrl hn hxs=>by
  refine C1 (G7 hl ha _ hr hrl _) (C3 _ hr) (λ_ s _ hs1 hss hn'=>?_) λ_ b hb0 _=>?_;simp only [EY];have h3:=hss.trans hrl;refine C1 (TD hl ha h0 k hs1 h3 (by omega)) (IR hs1) (λes s2 hv2 hs2 IW hn2=>?_) λc b hb0 hga=>?_;have hln:=ME hs1 hv2;simp only [GV];rw [BQ (by omega)];exact tl 27 _ _ s2 hs2 (IW.trans h3) (by omega) (by simp only [Bv];omega);unfold GL at hga;simp only [GV];rw [BQ (by omega)];exact tlF 27 _ _ b hb0 (by simp only [Bv];omega);simp only [EY,Al,TC hl ha h0 k b hb0 (by omega)];rw [BQ (by simp only [AH,AX];omega)];exact tlF 27 _ _ b hb0 (by simp only [Bv,AH,AX];omega)
 refine C1 (MH hl ha _ hg hs 6) (fName 6 hg) (λn r hv hr hrs hrn=>?_) λa b hb0 _=>?_;simp only [eT3,BG,A2];have h1:=hrs.trans hs;rw [DZ hl k hr h1];simp only [Al];refine Fg (Dc _) (λhc=>?_) λhne=>?_;simp only [hc,if_true];obtain ⟨g1,g2,g3⟩:=hr.tail (AQ hc);have gs:=g3.trans h1
 -- behind the first bound
 have De:∀ (xs:List Tree) (b:Int),0<=b->xs.length<=100->∃ a',GT a'/\((BV.f k l (EE l) b (⟨#[44]⟩:Ah)).bind λr60=>cond r60.1 ((BR.f k l r60.2 b (1:Int)).bind λr62=>(apd 64 xs [(Tree.mk r62.1 r62.2.1 r62.2.2.1 r62.2.2.2.1 r62.2.2.2.2.1)]).bind λl70=>((RS.at k).DU l r62.2.2.2.2.2.1 r62.2.2.2.2.2.2).bind λr47=>(apd 64 l70 [(Tree.mk r47.1 r47.2.1 r47.2.2.1 r47.2.2.2.1 r47.2.2.2.2.1)]).bind λl55=>some ((26:Int),(⟨#[]⟩:Ah),(0:Int),at_,l55,r47.2.2.2.2.2.1,r47.2.2.2.2.2.2)) (((RS.at k).DU l r60.2 b).bind λr47=>(apd 64 xs [(Tree.mk r47.1 r47.2.1 r47.2.2.1 r47.2.2.2.1 r47.2.2.2.2.1)]).bind λl55=>some ((26:Int),(⟨#[]⟩:Ah),(0:Int),at_,l55,r47.2.2.2.2.2.1,r47.2.2.2.2.2.2)))=some (eT3 a' (EE l) b):=λxs b hb0 hxs=>by
  simp only [Ia hl h0 _ hb0,Al,cond_false];exact tlF 26 0 xs b hb0 (by omega)
 refine C1 (QN hl ha h0 k g1 gs (by omega)) (CE (by omega) g1) (λx r2 _ hr2 DW hn2=>?_) λa b hb0 _=>?_;simp only [eT3,BG];have h2:=DW.trans gs;rw [BQ (by simp)];simp only [Al];refine C1 (G7 hl ha _ hr2 h2 _) (C3 _ hr2) (λ_ r3 _ hr3 Gk hn3=>?_) λ_ b hb0 _=>?_;simp only [EY];have h3:=Gk.trans h2;refine C1 (QN hl ha h0 k hr3 h3 (by omega)) (CE (by omega) hr3) (λy r4 _ hr4 Pb hn4=>?_) λa b hb0 _=>?_;simp only [eT3,BG];have h4:=Pb.trans h3;rw [BQ (by simp)];simp only [Al,DZ hl k hr4 h4];unfold SF;by_cases hC:Az D0 r4=true;rw [if_pos hC,show Az (⟨#[44]⟩:Ah) r4=true from hC];simp only [cond_true,if_true];obtain ⟨g5,g6,g7⟩:=hr4.tail (AQ hC);have gs5:=g7.trans h4;rw [then_assoc];refine C1 (QN hl ha h0 k g5 gs5 (by omega)) (CE (by omega) g5) (λz r5 _ hr5 Xc hn5=>?_) λa b hb0 _=>?_;simp only [eT3,BG];rw [BQ (by simp)];exact tl 26 0 _ r5 hr5 (Xc.trans gs5) (by omega) (by simp);simp only [eT3,BG];rw [BQ (by simp)];exact tlF 26 0 _ b hb0 (by simp);rw [if_neg hC,show Az (⟨#[44]⟩:Ah) r4=false from by simpa using hC];simp only [cond_false,Bool.false_eq_true,if_false];have:=tl 26 0 ([n]++[x]++[y]) r4 hr4 h4 (by omega) (by simp);simp only [PV.then,List.append_nil];exact this;simp only [eT3,BG];rw [BQ (by simp)];exact De _ b hb0 (by simp);simp only [EY,Adv hl h0 k 1 b hb0,Al];rw [BQ (by simp)];exact De _ b hb0 (by simp);simp only [eT3,BG];rw [BQ (by simp)];simp only [Al,FS hl h0 _ hb0,Adv hl h0 k 1 b hb0];rw [BQ (by simp)];exact De _ b hb0 (by simp);simp only [if_neg hne];refine Ad7 hl ha h0 _ _ r.length (λa s hs1 hsl hsn ha'=>?_) inF k [n] r hr h1 (by omega) (Nat.le_refl _) (by simp only [AH,AX];omega);exact Bl2 a s hs1 hsl (by omega) ha';simp only [eT3,BG,A2,Ia hl h0 _ hb0,Al,cond_false];rw [hk',Ad5 hl ha h0 k' _ _ b hb0,<- hk'];exact inF [a] b hb0 (by simp)
theorem Agw (J:List Tree->Int->Int->Option (Int×Ah×Int×Int×List Tree×Int×Int)) (T:List Tree->Tree)
  (hJ:∀ a r,Good r->r <:+ l->64 * r.length+50<=k->a.length<=1000000->Rel l GT eT3 (J a (ix l r) (-1)) ((if Az Ik r then (Fi false r.tail).then λc r=>(CK BM r).then λ_ r=>.ok (a++[c]) r else (CK BM r).then λ_ r=>.ok a r).then λl r=>.ok (T l) r))
  (hJF:∀ a b,0<=b->a.length<=1000002->∃ a',GT a'/\J a (EE l) b=some (eT3 a' (EE l) b)) :
  ∀ (m:Nat) (acc:List Tree) (ts:List Tk),Good ts->ts <:+ l->64 * ts.length+4 < m->acc.length+2 * ts.length<=1000000->64 * ts.length<=k->Rel l GT eT3 (Ej.l0 m (RS.at k) l J true acc (ix l ts) (-1)) ((Mj acc ts).then λl r=>.ok (T l) r)
 | 0,_,_,_,_,h,_,_=>by omega
 | m+1,acc,ts,hg,hs,hm,hac,hk=>by
  have hp:=Nv hg;rw [Ej.l0,Ar0 acc hg];simp only [cond_true,then_assoc];obtain ⟨m',hm'⟩:∃ q,m=q+1:=⟨m - 1,by omega⟩;have stop:∀ (acc:List Tree) (i f:Int),Ej.l0 m (RS.at k) l J false acc i f=J acc i f:=λacc i f=>by rw [hm',Ej.l0];rfl
  have Ada:∀ (e:Tree) (b:Int),0<=b->∃ a',GT a'/\(((RS.at k).Cm l (EE l) b false).bind λr91=>(apd 64 acc [e,(Tree.mk r91.1 r91.2.1 r91.2.2.1 r91.2.2.2.1 r91.2.2.2.2.1)]).bind λPn=>(BV.f m l r91.2.2.2.2.2.1 r91.2.2.2.2.2.2 (⟨#[101,108,115,101,105,102]⟩:Ah)).bind λJF=>Ej.l0 m (RS.at k) l J JF.1 Pn JF.2 r91.2.2.2.2.2.2)=some (eT3 a' (EE l) b):=λe b hb0=>by
   obtain ⟨n,hn⟩:=ih.QH false b hb0 (by omega);simp only [hn,Al,eT3,BG];rw [BQ (by simp only [AH,AX];omega)];simp only [Al,Ia hl h0 _ hb0,stop];exact hJF _ b hb0 (by simp only [Bv,AH,AX];omega)
  refine C1 (QN hl ha h0 m hg hs (by omega)) (CE (by omega) hg) (λe r _ hr hrs hn=>?_) λa b hb0 _=>?_;simp only [eT3,BG];have h1:=hrs.trans hs;refine C1 (G7 hl ha _ hr h1 _) (C3 _ hr) (λ_ r2 _ hr2 DW hn2=>?_) λ_ b hb0 _=>?_;simp only [EY];have h2:=DW.trans h1;refine C1 (ih.block false r2 hr2 h2 (by omega)) (Ih false hr2) (λbb r3 _ hr3 Gk hn3=>?_) λa b hb0 _=>?_;simp only [eT3,BG];have h3:=Gk.trans h2;rw [BQ (by simp only [AH,AX];omega)];simp only [Al,DZ hl m hr3 h3];have e2:acc++[e]++[bb]=acc++[e,bb]:=by simp
  rw [e2];by_cases hc:Az FP r3=true;rw [if_pos hc,show Az (⟨#[101,108,115,101,105,102]⟩:Ah) r3=true from hc];simp only [if_true];obtain ⟨g1,g2,g3⟩:=hr3.tail (AQ hc);exact Agw J T hJ hJF m _ _ g1 (g3.trans h3) (by omega) (by simp only [Bv,AH,AX];omega) (by omega);rw [if_neg hc,show Az (⟨#[101,108,115,101,105,102]⟩:Ah) r3=false from by simpa using hc];simp only [Bool.false_eq_true,if_false,stop];exact hJ _ r3 hr3 h3 (by omega) (by simp only [Bv,AH,AX];omega);simp only [eT3,BG];rw [BQ (by simp only [AH,AX];omega)];simp only [Al,Ia hl h0 _ hb0,stop];exact hJF _ b hb0 (by simp only [Bv,AH,AX];omega);simp only [EY];exact Ada e b hb0;simp only [eT3,BG,FS hl h0 _ hb0,Al];exact Ada a b hb0
theorem B12 (hl2:l.length<=400000) {ts:List Tk} (hg:Good ts) (hs:ts <:+ l) (hk:64 * ts.length+46<=k):Rel l GT eT3 (Ej.g (RS.at k) k l (ix l ts) (-1) (hd ts).2.2.2) (Mk ts):=by
 unfold Ej.g;rw [Asl hg];have hle:=hs.length_le;have hp:=Nv hg;simp only [A2,Lt k hg hs,Al];have same:∀ {x:Option (Int×Ah×Int×Int×List Tree×Int×Int)} {v:PV Tree},Rel l GT eT3 x v->Rel l GT eT3 (x.bind λDX=>some (DX.1,DX.2.1,DX.2.2.1,DX.2.2.2.1,DX.2.2.2.2.1,DX.2.2.2.2.2.1,DX.2.2.2.2.2.2)) v:=λ{x v} hx=>by
  have e:(x.bind λDX=>some (DX.1,DX.2.1,DX.2.2.1,DX.2.2.2.1,DX.2.2.2.2.1,DX.2.2.2.2.2.1,DX.2.2.2.2.2.2))=x:=by cases x <;> rfl
  rw [e];exact hx
 refine Fg (Dc _) (λhc=>?_) λh1=>?_;refine C1 (ih.body ts hg hs hk) (Ns hg) (λx r _ _ _ _=>?_) λa b hb0 _=>?_;simp only [eT3,BG];rfl;exact ⟨.mk _ _ _ _ _,Aj,rfl⟩;simp only [DZ hl k hg hs,Al];refine Fg (Dc _) (λhc=>?_) λh2=>?_;simp only [hc,if_true];obtain ⟨g1,g2,g3⟩:=hg.tail (AQ hc);have gs:=g3.trans hs;refine C1 (QN hl ha h0 k g1 gs (by omega)) (CE (by omega) g1) (λx r _ hr hrs hrn=>?_) λa b hb0 _=>?_;simp only [eT3,BG];refine C1 (ih.body r hr (hrs.trans gs) (by omega)) (Ns hr) (λy s _ _ _ _=>?_) λa b hb0 _=>?_;simp only [eT3,BG];rfl;exact ⟨.mk _ _ _ _ _,Aj,rfl⟩;obtain ⟨n,hn⟩:=ih.Ab6 b hb0 (by omega);simp only [eT3,hn,Al];exact ⟨.mk _ _ _ _ _,Aj,rfl⟩;simp only [if_neg h2,DZ hl k hg hs,Al];refine Fg (Dc _) (λhc=>?_) λh3=>?_;simp only [hc,if_true];obtain ⟨g1,g2,g3⟩:=hg.tail (AQ hc);refine Agw hl ha h0 ih _ (λl=>.mk 24 noB 0 (hd ts).2.2.2 l) (λa r hr hrl hk2 ha2=>?_) (λa b hb0 ha2=>?_) k [] _ g1 (g3.trans hs) (by omega) (by simp only [AX];omega) (by omega);rw [DZ hl k hr hrl];simp only [Al];by_cases hE:Az Ik r=true;rw [if_pos hE,show Az (⟨#[101,108,115,101]⟩:Ah) r=true from hE];simp only [cond_true,if_true,then_assoc];obtain ⟨g4,g5,g6⟩:=hr.tail (AQ hE);have gs4:=g6.trans hrl;refine C1 (ih.block false _ g4 gs4 (by omega)) (Ih false g4) (λc r3 _ hr3 Gk hn3=>?_) λc b hb0 _=>?_;simp only [eT3,BG];rw [BQ (by simp only [AH,AX];omega)];simp only [Al];exact C1 (G7 hl ha _ hr3 (Gk.trans gs4) _) (C3 _ hr3) (λ_ _ _ _ _ _=>rfl) λ_ b hb0 _=>⟨.mk _ _ _ _ _,Aj,rfl⟩;simp only [eT3,BG];rw [BQ (by simp only [AH,AX];omega)];simp only [Al,FS hl h0 _ hb0];exact ⟨.mk _ _ _ _ _,Aj,rfl⟩;rw [if_neg hE,show Az (⟨#[101,108,115,101]⟩:Ah) r=false from by simpa using hE];simp only [cond_false,Bool.false_eq_true,if_false,then_assoc];exact C1 (G7 hl ha _ hr hrl _) (C3 _ hr) (λ_ _ _ _ _ _=>rfl) λ_ b hb0 _=>⟨.mk _ _ _ _ _,Aj,rfl⟩;simp only [Ia hl h0 _ hb0,Al,cond_false,FS hl h0 _ hb0];exact ⟨.mk _ _ _ _ _,Aj,rfl⟩;simp only [if_neg h3,DZ hl k hg hs,Al];refine Fg (Dc _) (λhc=>?_) λh4=>?_;simp only [hc,if_true];obtain ⟨g1,g2,g3⟩:=hg.tail (AQ hc);exact same (ih.loop _ _ g1 (g3.trans hs) (by omega));simp only [if_neg h4,DZ hl k hg hs,Al];refine Fg (Dc _) (λhc=>?_) λh5=>?_;simp only [hc,if_true];obtain ⟨g1,g2,g3⟩:=hg.tail (AQ hc);have gs:=g3.trans hs;refine C1 (Ak2 hl ha h0 k g1 gs (by omega)) (Nt g1) (λxs r hv hr hrs hrn=>?_) λa b hb0 hga=>?_;have hln:=RJ g1 hv;have hrl:=hrs.trans gs;simp only [GV];rw [DZ hl k hr hrl];unfold SD;simp only [Al];by_cases hE:Az Cb r=true;rw [if_pos hE,show Az (⟨#[61]⟩:Ah) r=true from hE];simp only [cond_true,if_true];obtain ⟨g4,g5,g6⟩:=hr.tail (AQ hE);refine C1 (TD hl ha h0 k g4 (g6.trans hrl) (by omega)) (IR g4) (λes s hv2 hs2 IW hn2=>?_) λc b hb0 hga=>?_;have Beq:=ME g4 hv2;simp only [GV];rw [BQ (by omega)];rfl;unfold GL at hga;simp only [GV];rw [BQ (by omega)];exact ⟨.mk _ _ _ _ _,Aj,rfl⟩;rw [if_neg hE,show Az (⟨#[61]⟩:Ah) r=false from by simpa using hE];simp only [cond_false,Bool.false_eq_true,if_false,PV.then,List.append_nil];rfl;simp only [GV,Ia hl h0 _ hb0,Al,cond_false];exact ⟨.mk _ _ _ _ _,Aj,rfl⟩;simp only [if_neg h5,DZ hl k hg hs,Al];refine Fg (Dc _) (λhc=>?_) λh6=>?_;simp only [hc,if_true];rfl;simp only [if_neg h6];exact same (ih.plain _ hg hs (by omega))
end
theorem bS {l:List Tk} (hl:l.length<=400000) (ha:Jn l) (h0:l≠[]):∀ k,BS l k
 | 0=>by constructor <;> intros <;> omega
 | k+1=>by
  have ih:=bS hl ha h0 k;have h1:l.length<=1000000:=by omega
  exact ⟨λc ts hg hs h=>Ab4 h1 ha h0 ih c hg hs (by omega),λc b hb h=>Az5 h1 h0 k (by omega) _ c b hb,λts hg hs h=>B12 h1 ha h0 ih hl hg hs (by omega),λat_ ts hg hs h=>A5d h1 ha h0 ih at_ hg hs (by omega),λts hg hs h=>Bxq h1 ha h0 k hg hs (by omega),λts hg hs h=>Az7 h1 ha h0 ih hg hs (by omega),λb hb h=>Az6 h1 ha h0 ih b hb (by omega)⟩
theorem A4u {l:List Tk} (hl:l.length<=400000) (ha:Jn l) (h0:l≠[]) (k:Nat) (c:Bool) {ts:List Tk} (hg:Good ts) (hs:ts <:+ l) (hk:64 * ts.length+49<=k):Rel l GT eT3 (Cm.f k l (ix l ts) (-1) c) (Fi c ts):=Ab4 (by omega) ha h0 (bS hl ha h0 k) c hg hs hk
end
section
open Go Go.RowKit Lx
theorem VA {p:Prop} [Decidable p] (h:p):decide p=true:=decide_eq_true h
theorem A08 {p:Prop} [Decidable p] (h:¬ p):decide p=false:=decide_eq_false h
theorem Uz (k:Nat) (hk:2000000<=k) (s:Ah):Md.f k s=some (I9 s):=by
 unfold Md.f;rw [B0o k s (by omega)];unfold P0;simp only [Al];cases hs:FF (bs s) with
 | inl x =>
  obtain ⟨c,p⟩:=x;have:=Zs _ _ _ hs;rw [Alu hs];simp only;rw [show (c != 0)=true by rw [bne_iff_ne];exact this];rfl
 | inr t =>
  have hT:=Zx s t hs;simp only [bne_self_eq_false,cond_false];have hl:(t.map FH).length<=400000:=by have:=hT.len;omega
  have h0:t.map FH≠[]:=λe=>by have:=hT.good;rw [e] at this;exact this
  have ha:Jn (t.map FH):=λx hx=>(hT.at_ x hx).1;have hf:=A4u hl ha h0 k true hT.good (List.suffix_refl _) (by have:=hT.len;omega);rw [Ag6] at hf;rcases ZE hT with ⟨b,r,hb,hB,h6⟩ | ⟨i,hb,he⟩;have hw:=Ih true hT.good;rw [hb] at hw hf;obtain ⟨hg,_,Rr⟩:=hw;have hf:Cm.f k (t.map FH) 0 (-1) true=some (eT3 b (ix (t.map FH) r) (-1)):=hf;rw [hf];simp only [Al,A2,eT3];rw [Kd hg Rr,VA (p:=(-1:Int) < 0) (by omega)];simp only [cond_true,Al];rcases h6 with ⟨h6,he⟩ | ⟨h6,he⟩;rw [Alv hs he,show ((hd r).1 != 6)=false by rw [bne_eq_false_iff_eq];exact h6];rfl;rw [U0 hs he,show ((hd r).1 != 6)=true by rw [bne_iff_ne];exact h6];simp only [cond_true];rw [Nl k hg Rr];simp only [Al];rw [QG (by omega) h0 k];simp only [Al];have:=(ha.suf Rr).hd;rw [VA (p:=(hd r).2.2.2 >= 0) (by omega)];rfl;rw [hb] at hf;obtain ⟨h1,a,_,hf⟩:=hf;rw [hf,U0 hs he];simp only [Al,A2,eT3];rw [A08 (p:=i < 0) (by omega)];simp only [cond_false,Al];rw [VA (p:=i >= 0) (by omega)];rfl
end
section
open Go Go.RowKit
section
variable {A:World} {ds:List Deferred} {n0:Nat} {env env':Env} {l l' X:List Am} {q:Act->World->Prop} {P:Program} {Q:Exit->Act->World->Prop} {ops:Array Oper} {os rest:List Oper} {o:Oper}
variable {S:World->Prop} {tail:Act->World->Prop} {pl:List (Oper×Nat)}
theorem Ait {bo:BinOp} {t t2:TypeId} {xs ys:Array Value} {r:Bool} {x y:Operand} (neg:Bool) (hb:(match bo,neg with | .eql,false=>true | .neq,true=>true | _,_=>false)=true) (ho:o.op=.binOp bo t x y t2) (hg:BK ops env o=some true) (hd:inB n0 o.dst=true) (hx:B9 env x=some (.agg xs)) (hy:B9 env y=some (.agg ys))
  (hp:P.stoodInHeld t=false) (hm:P.eqGuardType P.depth t=false) (hf:((T9 P t).bind (eqF P xs ys))=some r) (h:K ds A n0 (Bk env o.dst (.bool (cond neg (!r) r))) l (BH P ops Q S tail pl)):K ds A n0 env l (BH P ops Q S tail ((o,0) :: pl)):=by
 intro a' w ha hw;refine DJ (v:=.bool (cond neg (!r) r)) (F_ ha hg) (λw'=>?_) (h _ _ (ha.Bk _ hd) hw);have h1:=Apr (P:=P) (ty:=0) (x:=x) (y:=y) hf hp hm w';have h2:∀ bo,(eqGuard bo t x y (.agg xs) (.agg ys)).run P w'=.ok () w':=λbo=>run_eqGuard_agg w' bo t x y xs ys hm;unfold execOp;simp only [ho,ha.eval hx,ha.eval hy,Sem.run_bind,h2,Result.andThen_ok];split at hb;simp only [binOp,Sem.run_bind,h1,Result.andThen_ok,Sem.run_pure];rfl;simp only [binOp,Sem.run_bind,h1,Result.andThen_ok,Sem.run_pure];rfl;cases hb
end
def GG.l0:Nat->(r10:List Ah)->(J20:(List Int)->Option (Ah×Int×Int))->(l21:List Int)->(x26:Int)->Option (Ah×Int×Int)
 | 0,_,_,_,_=>none
 | F8+1,r10,J20,l21,x26=>cond (decide (x26 < ((r10.length:Nat):Int))) (A2 (λ(l29:List Int)=>(Bm r10 x26).bind λx35=>(apd 1 l29 (EX x35)).bind λl39=>GG.l0 F8 r10 J20 l39 (Ar (x26+1))) (λTc=>cond (decide (x26 > 0)) ((apd 1 l21 [32]).bind λl46=>Tc l46) (Tc l21))) (J20 l21)
def GG.f (k:Nat) (a0:Ah):Option (Ah×Int×Int):=(Md.f k a0).bind λr2=>cond (r2.2.2.2.2.2.1 != 0) (some ((⟨#[]⟩:Ah),r2.2.2.2.2.2.1,r2.2.2.2.2.2.2)) ((Bc.f k ([]) r2.1 r2.2.1 r2.2.2.1 r2.2.2.2.1 r2.2.2.2.2.1).bind λr10=>A2 (λ(l15:List Int)=>some ((strOfNums l15),0,0)) (λJ20=>GG.l0 k r10 J20 ([]) 0))
theorem GG.ok {k:Nat} {a0:Ah} {r:Ah×Int×Int} (h:GG.f k a0=some r): Ct Tryz.prog 5 #[D a0] [] [] (λe l1=>e=.returned (.tuple #[D r.1,.agg #[V r.2.1,V r.2.2]])/\l1=[]):=by
 refine BC Tryz.func5 I (AY I) ?_;intro A X hh_;unfold GG.f at h;refine ksr (M 1 (knp #[V 0,V 0] 24 λb1=>(AP (M 1 (N h λr2 hr2 h=>(AZ (Md.ok hr2) I trivial ?_))))));rintro _ _ ⟨h3,A4,k5,o6,rfl,rfl⟩;refine BU (M 3 (knp #[V 0,D noS,V 0,V 0,nS] 34 λb7=>(knp #[V 0,V 0] 24 λb8=>(Ak (AB 0 5 #[V r2.1,D r2.2.1,V r2.2.2.1,V r2.2.2.2.1,W A4 r2.2.2.2.2.1 k5] (Ak (AB 0 2 #[V r2.2.2.2.2.2.1,V r2.2.2.2.2.2.2] (G (AU (ksr (M 1 (kld 0 0 I (M 1 (G (At h (λh=>?_) λh=>?_)))))))))))))));refine AU (kpr [(0,3),(1,0)] [0] (H5 0 0 2 I (AJ 1 (BF (Av (AB 0 2 #[V r2.2.2.2.2.2.1,V r2.2.2.2.2.2.2] (Ak (Ao (Ak (Ao (Ak (Ao (G (AT (Bh ?_)))))))))))))));obtain rfl:=Ap h;exact F7 (v:=.tuple #[D noS,.agg #[V r2.2.2.2.2.2.1,V r2.2.2.2.2.2.2]]) [.val (V r2.2.2.2.2.2.1),.val (V r2.2.2.2.2.2.2)] [.ld ⟨b1,0,none⟩ (V r2.2.2.2.2.2.1),.ld ⟨b1,1,none⟩ (V r2.2.2.2.2.2.2)] [] (by kernel_rfl) (by kernel_rfl) ⟨⟨0,_,_,_,I,I,I⟩,⟨0,_,_,_,I,I,I⟩,Aj⟩ (Ao (Bb ⟨I,I⟩));refine AF (As (ksr (C0 1 0 5 I (Ao (Ao (CX (N h λr10 Ii h=>(AZ (Bc.ok Ii (AC.nil encS 9 1 none_) (Bi.rd o6)) I ⟨(.head _),Aj⟩ ?_))))))));rintro _ _ ⟨h11,A12,k13,Jc,rfl,rfl⟩;refine BU (Ak (Ao (M 1 (AP (M 1 (G ?_))))));obtain ⟨J20,QS,h⟩:=By h;refine Bz (τ:=(List Int)×Am×AG×Nat) (c4 λa _ c d=>[(3,pt b1),(7,W c a d)]) (λt=>bk b1 #[V 0,V 0] 24 :: t.2.1 :: X) (c4 λa b c d=>J20 a=some r/\AC (encI .u8) 5 1 b (W c a d) a) ?_ ?_;rintro ⟨l15,h16,D_,k18⟩ ⟨h,o19⟩;subst QS;refine ksr (M 1 (NW (U:=5) (xs:=l15) I (by kernel_rfl) (by kernel_rfl) (by kernel_rfl) (by kernel_rfl) (by kernel_rfl) (by kernel_rfl) (AC.rd o19) (.tail _ (.head _)) (Ak (Ao (M 2 (AB 0 2 #[V 0,V 0] (G (AT ?_))))))));obtain rfl:=Ap h;exact F7 (v:=.tuple #[D (strOfNums l15),.agg #[V 0,V 0]]) [.val (V 0),.val (V 0)] [.ld ⟨b1,0,none⟩ (V 0),.ld ⟨b1,1,none⟩ (V 0)] [] (by kernel_rfl) (by kernel_rfl) ⟨⟨0,_,_,_,I,I,I⟩,⟨0,_,_,_,I,I,I⟩,Aj⟩ (Ao (Bb ⟨I,I⟩));refine ksr (M 1 (G (Bq (CX (Aq (Aq (CW (τ:=(List Int)×Int×Am×AG×Nat) (c5 λa b _ d e=>[(3,pt b1),(6,W A12 r10 k13),(7,W d a e),(8,V b)]) (λt=>h11 :: bk b1 #[V 0,V 0] 24 :: t.2.2.1 :: X) (λm=>c5 λa b c d e=>GG.l0 m r10 J20 a b=some r/\AC (encI .u8) 5 1 c (W d a e) a) k ([],0,none_,none,0) ⟨h,(AC.nil (encI .u8) 5 1 none_)⟩ sb I ?_)))))));clear h;rintro F8 ⟨l21,x26,h22,A23,k24⟩ ⟨h,Ks⟩;rcases F8 with _ | F8;simp [GG.l0] at h;simp only [GG.l0] at h;refine AU (ksr (M 4 (G (At h (λh=>?_) λh=>?_))));refine AF (As (AU (Bq ?_)));obtain ⟨Tc,A7l,h⟩:=By h;refine Bz (τ:=(List Int)×Am×AG×Nat) (c4 λa _ c d=>[(3,pt b1),(6,W A12 r10 k13),(7,W c a d),(8,V x26)]) (λt=>h11 :: bk b1 #[V 0,V 0] 24 :: t.2.1 :: X) (c4 λa b c d=>Tc a=some r/\AC (encI .u8) 5 1 b (W c a d) a) ?_ ?_;rintro ⟨l29,h30,II,k32⟩ ⟨h,Hb⟩;subst A7l;refine AK (M 3 (N h λx35 Bky h=>(Im (T:=9) (kd:=.i64) Bg I Bky (AC.rd Jc) λp36 e37 y38=>?_)));have e37:Elem _ p36 [D x35]:=e37;exact Jy I (by kernel_rfl) (by kernel_rfl) (by kernel_rfl) (by kernel_rfl) e37 (.head _) (Aq (N h λl39 Wk h=>(DG (ys:=(EX x35)) (CN .u8) I GW Wk Hb (λw_ _=>Z4 x35 w_) λh40 Ic k42 I7=>(M 1 (knl (A_ (As (AK (M 3 (G (Aq (Aq (Cw F8 (l39,Ar (x26+1),h40,Ic,k42) (Nat.lt_succ_self _) ⟨h,I7⟩ sb I)))))))))))));refine ksr (M 2 (G (At h (λh=>?_) λh=>?_)));exact AK (M 1 (Bl #[.int .u8 32] 5 1 λb45=>(Av (N h λl46 Bcn h=>(DG (ys:=[32]) (CN .u8) I GW Bcn Ks (Cp (n:=1) (CN .u8) [32] (by kernel_rfl) I (by decide) 1 I) λh47 A48 k49 P5=>(Ak (Ao (M 1 (G (Aq (Aq (AA (l46,h47,A48,k49) ⟨h,P5⟩ sb I))))))))))));exact AF (As (AA (l21,h22,A23,k24) ⟨h,Ks⟩ sb I));exact CH (B6 (B6 (CI (As (Ao (AA (l21,h22,A23,k24) ⟨h,Ks⟩ sb I))))))
def NY.f (k:Nat) (a0:Ah):Option (Bool):=(Kw.f k a0).bind λr1=>(GG.f k a0).bind λr3=>(Jd.f k a0).bind λr5=>(Md.f k a0).bind λr12=>((Pw.f k).bind λr20=>cond r20 (cond (r1.1.toList == r3.1.toList) (cond ((r1.2.1 == r3.2.1) && ((r1.2.2 == r3.2.2) && true)) (cond ((r1.2.1 == r5.2.2.2.2.2.1) && ((r1.2.2 == r5.2.2.2.2.2.2) && true)) ((D2.f k r5.1 r5.2.1 r5.2.2.1 r5.2.2.2.1 r5.2.2.2.2.1).bind λr25=>(DE.f k r12.1 r12.2.1 r12.2.2.1 r12.2.2.2.1 r12.2.2.2.2.1).bind λB4=>some (r25 == B4)) (some false)) (some false)) (some false)) (some false):Option Bool).bind λq19=>some (q19)
theorem NY.ok {k:Nat} {a0:Ah} {Af:Am} {r:Bool} (h:NY.f k a0=some r) (hG:Hw Af): Ct Tryz.prog 3 #[D a0] [] [Af] (λe l1=>e=.returned (bv r)/\l1=[]):=by
 refine BC Tryz.func3 I (AY I) ?_;intro A X hh_;obtain ⟨Cj,_⟩:=hh_;unfold NY.f at h;refine ksr (M 1 (AP (M 1 (N h λr1 hr1 h=>(CQ (Kw.ok hr1 hG) ⟨Cj,Aj⟩ (M 3 (knp #[V 0,V 0] 24 λb2=>(M 1 (AB 0 2 #[V r1.2.1,V r1.2.2] (AP (M 1 (N h λr3 hr3 h=>(CQ (GG.ok hr3) trivial (M 3 (knp #[V 0,V 0] 24 λb4=>(M 1 (AB 0 2 #[V r3.2.1,V r3.2.2] (AP (M 1 (N h λr5 hr5 h=>(AZ (Jd.ok hr5 hG.1) I ⟨(t2 Cj),Aj⟩ ?_)))))))))))))))))))));rintro _ _ ⟨h6,A7,k8,o9,rfl,rfl⟩;refine BU (M 3 (knp #[V 0,D noS,V 0,V 0,nS] 29 λb10=>(knp #[V 0,V 0] 24 λb11=>(Ak (AB 0 5 #[V r5.1,D r5.2.1,V r5.2.2.1,V r5.2.2.2.1,W A7 r5.2.2.2.2.1 k8] (Ak (AB 0 2 #[V r5.2.2.2.2.2.1,V r5.2.2.2.2.2.2] (AP (M 1 (N h λr12 LG h=>(AZ (Md.ok LG) I trivial ?_)))))))))));rintro _ _ ⟨h13,EV,k15,o16,rfl,rfl⟩;refine BU (M 3 (knp #[V 0,D noS,V 0,V 0,nS] 34 λb17=>(knp #[V 0,V 0] 24 λb18=>(Ak (AB 0 5 #[V r12.1,D r12.2.1,V r12.2.2.1,V r12.2.2.2.1,W EV r12.2.2.2.2.1 k15] (Ak (AB 0 2 #[V r12.2.2.2.2.2.1,V r12.2.2.2.2.2.2] (Ao (G (N h λq19 hq19 h=>?_))))))))));refine C5 [(2,bv q19)] (X) ?_ ?_;clear hq19;refine AT ?_;obtain rfl:=Ap h;exact kdn I;have h:=hq19;clear hq19;refine kpr [(0,1),(1,0),(2,0),(3,0),(4,0),(5,0),(6,0),(7,3),(8,3),(9,0),(10,0),(11,0),(12,3),(13,3),(14,0),(15,0),(16,0),(17,3),(19,3),(18,1)] [0,2,3,5,6] (kpt (N h λr20 LH h=>(ocv (Pw.ok LH hG) ⟨(t7 Cj),Aj⟩ (B_ [0,2,3,5,6] I (AJ 1 (Bt 32 h (λh=>?_) λh=>?_))))));refine AJ 5 (Bt 37 h (λh=>?_) λh=>?_);refine H5 4 0 2 I (H5 3 0 2 I (Ait (r:=((r1.2.1 == r3.2.1) && ((r1.2.2 == r3.2.2) && true))) (xs:=#[V r1.2.1,V r1.2.2]) (ys:=#[V r3.2.1,V r3.2.2]) false (by kernel_rfl) I (by kernel_rfl) (by kernel_rfl) (by kernel_rfl) (by kernel_rfl) (by kernel_rfl) (by kernel_rfl) (by kernel_rfl) (AJ 2 (Bt 42 h (λh=>?_) λh=>?_))));refine H5 4 0 2 I (H5 1 0 2 I (Ait (r:=((r1.2.1 == r5.2.2.2.2.2.1) && ((r1.2.2 == r5.2.2.2.2.2.2) && true))) (xs:=#[V r1.2.1,V r1.2.2]) (ys:=#[V r5.2.2.2.2.2.1,V r5.2.2.2.2.2.2]) false (by kernel_rfl) I (by kernel_rfl) (by kernel_rfl) (by kernel_rfl) (by kernel_rfl) (by kernel_rfl) (by kernel_rfl) (by kernel_rfl) (AJ 2 (Bt 47 h (λh=>?_) λh=>?_))));exact H5 2 0 5 I (H5 0 0 5 I (kpt (N h λr25 Gj h=>(ocv (D2.ok Gj (Bi.rd o9)) ⟨(.tail _ (.tail _ (.tail _ (.tail _ (.head _))))),Aj⟩ (B_ [0,2,3,5,6] I (BF (N h λB4 IV h=>(CQ (DE.ok IV (Bi.rd o16)) ⟨(.tail _ (.head _)),Aj⟩ (Ao (Ao (Ao (Ao (Ao (Ao (Ao (M 3 (G (AW ⟨gb (Ap h),Aj⟩))))))))))))))))));exact DB (by kernel_rfl) (by kernel_rfl) (DB (by kernel_rfl) (by kernel_rfl) (Uk (by kernel_rfl) (by kernel_rfl) (B_ [0,2,3,5,6] I (BF (M 4 (G (Ao (Ao (Ao (Ao (Ao (Ao (Ao (AW ⟨gb (Ap h),Aj⟩))))))))))))));exact DB (by kernel_rfl) (by kernel_rfl) (DB (by kernel_rfl) (by kernel_rfl) (AJ 3 (DB (by kernel_rfl) (by kernel_rfl) (DB (by kernel_rfl) (by kernel_rfl) (Uk (by kernel_rfl) (by kernel_rfl) (B_ [0,2,3,5,6] I (BF (M 4 (G (Ao (Ao (Ao (Ao (Ao (Ao (Ao (AW ⟨gb (Ap h),Aj⟩)))))))))))))))));exact DB (by kernel_rfl) (by kernel_rfl) (DB (by kernel_rfl) (by kernel_rfl) (AJ 3 (DB (by kernel_rfl) (by kernel_rfl) (DB (by kernel_rfl) (by kernel_rfl) (AJ 3 (DB (by kernel_rfl) (by kernel_rfl) (DB (by kernel_rfl) (by kernel_rfl) (Uk (by kernel_rfl) (by kernel_rfl) (B_ [0,2,3,5,6] I (BF (M 4 (G (Ao (Ao (Ao (Ao (Ao (Ao (Ao (AW ⟨gb (Ap h),Aj⟩))))))))))))))))))));exact AJ 5 (DB (by kernel_rfl) (by kernel_rfl) (DB (by kernel_rfl) (by kernel_rfl) (AJ 3 (DB (by kernel_rfl) (by kernel_rfl) (DB (by kernel_rfl) (by kernel_rfl) (AJ 3 (DB (by kernel_rfl) (by kernel_rfl) (DB (by kernel_rfl) (by kernel_rfl) (Uk (by kernel_rfl) (by kernel_rfl) (B_ [0,2,3,5,6] I (BF (M 4 (G (Ao (Ao (Ao (Ao (Ao (Ao (Ao (AW ⟨gb (Ap h),Aj⟩)))))))))))))))))))))
end
end Go.Proofs.YtaifddambjmiiaaGreatDoor
