/- Texts of mine for checkReports_card, part 10. -/
import Derived.Test.YteccladehmaglaaGreatDoorCpI
set_option linter.unusedSimpArgs false
set_option linter.unusedVariables false
set_option linter.unusedSectionVars false
namespace Go.Proofs.YteccladehmaglaaGreatDoor
set_option maxRecDepth 100000
section
open Go Go.RowKit Lx
theorem dT {p:Prop} [Decidable p] (h:p):decide p=true:=decide_eq_true h
theorem dF {p:Prop} [Decidable p] (h:¬ p):decide p=false:=decide_eq_false h
theorem bq (c d:UInt8):((c.toNat:Int) == (d.toNat:Int))=decide (c=d):=by
 rw [N8,Bool.eq_iff_iff,beq_iff_eq,decide_eq_true_eq]
theorem bn (c d:UInt8):((c.toNat:Int) != (d.toNat:Int))=decide (c≠d):=by
 rw [bne,N8,Bool.eq_iff_iff,decide_eq_true_eq];simp
theorem I0 (s:Ah) (i:Nat) (h:i < s.size):(bs s).drop i=s[i] :: (bs s).drop (i+1):=drop_at s i h
theorem JA (s:Ah) (i:Nat) (h:i < s.size):Dm s (i:Int)=some s[i]:=by rw [As4,I0 s i h];rfl
theorem Agx (s:Ah) (hs:s.size<=1000000) (i:Nat) (hi:i<=1000000) (J:Int->Int->Option (List Int×Int)):∀ (m j n k:Nat),m+j=3->n < 1000 ^ (j+1)->m < k ->
  Jb.l0 k s (i:Int) J (n:Int) (j:Int)=J ((DI m ((bs s).drop (i+1+j)) n j).1:Int) ((DI m ((bs s).drop (i+1+j)) n j).2:Int)
 | m,j,n,k,hj,hn,hk=>by
  obtain ⟨k,rfl⟩:∃ m,k=m+1:=⟨k - 1,by omega⟩;simp only [Jb.l0];rw [wi ((i:Int)+1) (by omega) (by omega)];cases m with
  | zero =>
   rw [dF (p:=(j:Int) < 3) (by omega)];rfl
  | succ m =>
   rw [dT (p:=(j:Int) < 3) (by omega),wi ((i:Int)+1+j) (by omega) (by omega),show (i:Int)+1+j=((i+1+j:Nat):Int) by omega];rcases Nat.lt_or_ge (i+1+j) s.size with h | h;rw [dT (p:=((i+1+j:Nat):Int) < s.size) (by omega),JA s _ h,I0 s _ h];generalize s[i+1+j]=c;have hcl:=c.toNat_lt;simp only [cond_true,Aq,DI];have hnb:n < 1000000000:=by
    have:1000 ^ (j+1)<=1000 ^ 3:=Nat.pow_le_pow_right (by omega) (by omega);omega
   by_cases h1:48<=c.toNat;rw [dT (p:=(c.toNat:Int) >= 48) (by omega)];simp only [cond_true,Aq];by_cases h2:c.toNat<=57;rw [dT (p:=(c.toNat:Int)<=57) (by omega),if_pos ⟨h1,h2⟩];simp only [cond_true];have hp:1000 ^ (j+1+1)=1000 ^ (j+1) * 1000:=Nat.pow_succ _ _;have hj3:j<=2:=by omega
   have hn3:10 * n+(c.toNat - 48) < 1000 ^ (j+1+1):=by
    have:1<=1000 ^ (j+1):=Nat.one_le_pow _ _ (by omega);omega
   have hw:n * 10<=10000000000:=by
    have:1000 ^ (j+1)<=1000 ^ 3:=Nat.pow_le_pow_right (by omega) (by omega);omega
   have:=Agx s hs i hi J m (j+1) (10 * n+(c.toNat - 48)) k (by omega) hn3 (by omega);rw [wb,wi ((n:Int) * 10) (by omega) (by omega),wi ((n:Int) * 10+c.toNat) (by omega) (by omega),wi ((n:Int) * 10+c.toNat - 48) (by omega) (by omega),wi ((j:Int)+1) (by omega) (by omega)];rw [show i+1+j+1=i+1+(j+1) by omega,<- this];congr 1;omega;rw [dF (p:=(c.toNat:Int)<=57) (by omega),if_neg (by omega)];rfl;rw [dF (p:=(c.toNat:Int) >= 48) (by omega),if_neg (by omega)];rfl;rw [dF (p:=((i+1+j:Nat):Int) < s.size) (by omega),List.drop_of_length_le (by rw [BY];omega)];rfl
def X2 (l:Bs):List Int×Int:=match IR l with | .ok b n=>(bI b,(n:Int)) | _=>([],0)
theorem A2x (s:Ah) (hs:s.size<=1000000) (i k:Nat) (hi:i+1 < s.size) (hk:20 < k):Jb.f k s (i:Int)=some (X2 ((bs s).drop (i+1))):=by
 unfold Jb.f X2;have e1:Au ((i:Int)+1)=((i+1:Nat):Int):=by rw [wi _ (by omega) (by omega)];omega
 have e2:Au ((i:Int)+2)=((i+2:Nat):Int):=by rw [wi _ (by omega) (by omega)];omega
 have e3:Au ((i:Int)+3)=((i+3:Nat):Int):=by rw [wi _ (by omega) (by omega)];omega
 rw [e1,e2,e3,JA s _ hi,I0 s _ hi,show i+1+1=i+2 by omega];have hdec:=Agx s hs i (by omega) (λ(x34:Int) (x35:Int)=>((cond (x35 == (0:Int)) (some true) (some (decide (x34 > (255:Int)))):Option Bool).bind λq37=>cond q37 (some (([]:List Int),(0:Int))) (some ([IntKind.u8.wrap x34],Au (x35+(1:Int)))))) 3 0 0 k rfl (by omega) (by omega);rw [Nat.add_zero,I0 s _ hi,show i+1+1=i+2 by omega] at hdec;generalize s[i+1]=c at *;have hcl:=c.toNat_lt;obtain ⟨E,hE⟩:∃ E,IR (c :: (bs s).drop (i+2))=E:=⟨_,rfl⟩;have hE0:=hE;rw [hE];rw [Q4] at hE;simp only [Aq];by_cases c1:c=110;subst c1;subst hE;rfl;by_cases c2:c=116;subst c2;subst hE;rfl;by_cases c3:c=114;subst c3;subst hE;rfl;have f1:((c.toNat:Int) == 110)=false:=by rw [beq_eq_false_iff_ne];intro h;exact c1 (UInt8.toNat_inj.1 (by show c.toNat=110;omega))
 have f2:((c.toNat:Int) == 116)=false:=by rw [beq_eq_false_iff_ne];intro h;exact c2 (UInt8.toNat_inj.1 (by show c.toNat=116;omega))
 have f3:((c.toNat:Int) == 114)=false:=by rw [beq_eq_false_iff_ne];intro h;exact c3 (UInt8.toNat_inj.1 (by show c.toNat=114;omega))
 rw [f1,f2,f3];simp only [cond_false];generalize hJ9:(λ(x8:Bool)=>cond x8 (some ([(c.toNat:Int)],(2:Int))) _)=J9;unfold AM;simp only [UY];subst hJ9;by_cases c4:c=92\/c=34\/c=39;have hp:FR c=c:=by
  unfold FR;rw [if_neg c1,if_neg c2,if_neg c3,if_pos c4]
 have hb:(((c.toNat:Int) == 92) || (((c.toNat:Int) == 34) || ((c.toNat:Int) == 39)))=true:=by
  rcases c4 with rfl | rfl | rfl <;> rfl
 rw [if_pos (by rw [hp];rcases c4 with rfl | rfl | rfl <;> decide),hp] at hE;rw [hb,<- hE];rfl;have hp:FR c=0:=by
  unfold FR;rw [if_neg c1,if_neg c2,if_neg c3,if_neg c4]
 have hne:∀ d:UInt8,c≠d->((c.toNat:Int) == (d.toNat:Int))=false:=λd h=>by
  rw [beq_eq_false_iff_ne];intro he;exact h (UInt8.toNat_inj.1 (by omega))
 have hb:(((c.toNat:Int) == 92) || (((c.toNat:Int) == 34) || ((c.toNat:Int) == 39)))=false:=by
  simp only [not_or] at c4;have g1:=hne 92 c4.1;have g2:=hne 34 c4.2.1;have g3:=hne 39 c4.2.2;have g1:((c.toNat:Int) == 92)=false:=g1;have g2:((c.toNat:Int) == 34)=false:=g2;have g3:((c.toNat:Int) == 39)=false:=g3;rw [g1,g2,g3];rfl
 rw [hb];rw [hp,if_neg (by simp)] at hE;simp only [cond_false];by_cases c5:c=120;subst c5;rw [if_pos rfl] at hE;have:=Aj7 s hs (i+2) 2 k (by omega) (by omega) (by omega);rw [show (2:Int)=((2:Nat):Int) from rfl,this];have hle:=OV 2 ((bs s).drop (i+2)) 0 0 (by omega);have h16:16 ^ (BZ 2 ((bs s).drop (i+2)) 0 0).2<=16 ^ 2:=Nat.pow_le_pow_right (by omega) (by omega);generalize BZ 2 ((bs s).drop (i+2)) 0 0=g at *;simp only [Aq];rw [show (((120:UInt8).toNat:Int) == 120)=true from rfl];simp only [cond_true];by_cases hg:g.2 < 2;rw [if_pos hg] at hE;rw [<- hE,show ((g.2:Int) == ((2:Nat):Int))=false by rw [beq_eq_false_iff_ne];omega];rfl;rw [if_neg hg] at hE;rw [<- hE,show ((g.2:Int) == ((2:Nat):Int))=true by rw [beq_iff_eq];omega,w8 _ (by omega) (by omega)];simp only [cond_true,bI,List.map_cons,List.map_nil];rw [show (UInt8.ofNat g.1).toNat=g.1 by simp;omega];rfl;rw [if_neg c5] at hE;rw [show ((c.toNat:Int) == 120)=false from hne 120 c5];simp only [cond_false];by_cases c6:c=117;subst c6;rw [show (((117:UInt8).toNat:Int) == 117)=true from rfl];simp only [cond_true];have hnd:∀ t:Bs,DI 3 (117 :: t) 0 0=(0,0):=λt=>rfl;clear hE;by_cases h2:i+2 < s.size;rw [dF (p:=((i+2:Nat):Int) >= s.size) (by omega),JA s _ h2];rw [I0 s _ h2,show i+2+1=i+3 by omega] at hE0;generalize s[i+2]=d at *;simp only [cond_false,Aq];by_cases hd:d=123;subst hd;rw [A2n] at hE0;unfold uF at hE0;rw [show (((123:UInt8).toNat:Int) != 123)=false from rfl];simp only [cond_false];have:=Aj7 s hs (i+3) 8 k (by omega) (by omega) (by omega);rw [show (8:Int)=((8:Nat):Int) from rfl,this];have hle:=OV 8 ((bs s).drop (i+3)) 0 0 (by omega);have h16:16 ^ (BZ 8 ((bs s).drop (i+3)) 0 0).2<=16 ^ 8:=Nat.pow_le_pow_right (by omega) (by omega);have hdr:((bs s).drop (i+3)).drop (BZ 8 ((bs s).drop (i+3)) 0 0).2=(bs s).drop (i+3+(BZ 8 ((bs s).drop (i+3)) 0 0).2):=by rw [List.drop_drop]
 rw [hdr] at hE0;rw [BU,BY] at hle;generalize BZ 8 ((bs s).drop (i+3)) 0 0=g at *;simp only [Aq];rw [encode_eq g.1 k (by omega) (by omega)];simp only [Aq,encR];rw [wi ((i+3:Nat)+(g.2:Int)) (by omega) (by omega),show ((i+3:Nat):Int)+(g.2:Int)=((i+3+g.2:Nat):Int) by omega];by_cases hg:g.2=0;rw [if_pos (.inl hg)] at hE0;rw [<- hE0,show ((g.2:Int) == 0)=true by rw [beq_iff_eq];omega];rfl;rw [show ((g.2:Int) == 0)=false by rw [beq_eq_false_iff_ne];omega];simp only [cond_false];cases hv:Utf8.valid (g.1:Int) with
 | false =>
  rw [if_pos (.inr (.inl hv))] at hE0;rw [<- hE0];rfl
 | true =>
  simp only [if_true];rw [show ((0:Int) != 0)=false from rfl];simp only [cond_false];rcases Nat.lt_or_ge (i+3+g.2) s.size with h3 | h3;rw [dF (p:=((i+3+g.2:Nat):Int) >= s.size) (by omega),JA s _ h3];rw [I0 s _ h3] at hE0;generalize s[i+3+g.2]=z at *;rw [List.head?_cons] at hE0;simp only [cond_false,Aq];by_cases hz:z=125;subst hz;rw [if_neg (by simp [hg,hv])] at hE0;rw [<- hE0,show (((125:UInt8).toNat:Int) != 125)=false from rfl];simp only [cond_false];have hes:=X0 g.1;rw [dT (p:=(Utf8.encode (g.1:Int)).size<=140737488355328) (by omega),wi ((g.2:Int)+4) (by omega) (by omega)];simp only [cond_true,Azr];rw [show (g.2:Int)+4=((4+g.2:Nat):Int) by omega];rw [if_pos (.inr (.inr (by simpa using hz)))] at hE0;rw [<- hE0,show ((z.toNat:Int) != 125)=true by rw [bne_iff_ne];intro h;exact hz (UInt8.toNat_inj.1 (by show z.toNat=125;omega))];rfl;rw [List.drop_of_length_le (by rw [BY];omega),if_pos (.inr (.inr (by simp)))] at hE0;rw [<- hE0,dT (p:=((i+3+g.2:Nat):Int) >= s.size) (by omega)];rfl
 rw [Q4,if_neg (by decide),if_neg (by decide),if_neg (by simpa using hd),hnd] at hE0;rw [<- hE0,show ((d.toNat:Int) != 123)=true by rw [bne_iff_ne];intro h;exact hd (UInt8.toNat_inj.1 (by show d.toNat=123;omega))];rfl;rw [List.drop_of_length_le (by rw [BY];omega),Q4,if_neg (by decide),if_neg (by decide),if_neg (by simp),hnd] at hE0;rw [<- hE0,dT (p:=((i+2:Nat):Int) >= s.size) (by omega)];rfl;rw [if_neg (λh=>c6 h.1)] at hE;rw [show ((c.toNat:Int) == 117)=false from hne 117 c6];simp only [cond_false];rw [show ((0:Nat):Int)=0 from rfl] at hdec;refine hdec.trans ?_;have hle:=Xw 3 (c :: (bs s).drop (i+2)) 0 0;have hk3:(DI 3 (c :: (bs s).drop (i+2)) 0 0).2<=3:=by
  have:∀ (m:Nat) (l:Bs) (n k:Nat),(DI m l n k).2<=k+m:=by
   intro m;induction m with
   | zero=>intro l n k;simp [DI]
   | succ m ih =>
    intro l n k;cases l with
    | nil=>simp [DI]
    | cons b t =>
     rw [UZ];split;have:=ih t (10 * n+(b.toNat - 48)) (k+1);omega;simp
  have:=this 3 (c :: (bs s).drop (i+2)) 0 0;omega
 generalize DI 3 (c :: (bs s).drop (i+2)) 0 0=g at *;by_cases hg:g.2=0;rw [if_pos (.inl hg)] at hE;rw [<- hE,show ((g.2:Int) == 0)=true by rw [beq_iff_eq];omega];rfl;rw [show ((g.2:Int) == 0)=false by rw [beq_eq_false_iff_ne];omega];simp only [cond_false,Aq];by_cases hb2:g.1 > 255;rw [if_pos (.inr hb2)] at hE;rw [<- hE,dT (p:=(g.1:Int) > 255) (by omega)];rfl;rw [if_neg (by omega)] at hE;rw [<- hE,dF (p:=(g.1:Int) > 255) (by omega),w8 _ (by omega) (by omega),wi ((g.2:Int)+1) (by omega) (by omega)];simp only [cond_false,bI,List.map_cons,List.map_nil];rw [show (UInt8.ofNat g.1).toNat=g.1 by simp;omega,show (g.2:Int)+1=((1+g.2:Nat):Int) by omega]
theorem UK {α:Type} (b:Nat) (l ys:List α) (h:(l.length+ys.length) * b<=140737488355328):apd b l ys=some (l++ys):=by
 unfold apd;rw [dT h];rfl
theorem Afk (a b:Bs):bI (a++b)=bI a++bI b:=by simp [bI]
theorem UQ (a:Bs):(bI a).length=a.length:=by simp [bI]
def LO (at_:Nat):Xb->Ah×Int×Int×Int
 | .bad c rel=>(⟨#[]⟩,0,c,((at_+rel:Nat):Int))
 | .ok v n=>(str v,(n:Int),0,0)
def Um (s:Ah) (a1:Int) (l2:List Int) (x7:Int):Option (Ah×Int×Int×Int) :=
 (cond (decide (x7 >= (s.size:Int))) (some true) ((Dm s x7).bind λc13:UInt8=>some ((c13.toNat:Int) == (10:Int))):Option Bool).bind λq9=>cond q9 (some ((⟨#[]⟩:Ah),(0:Int),(4:Int),a1)) (cond (decide (((l2.length:Nat):Int) > (10000:Int))) (some ((⟨#[]⟩:Ah),(0:Int),(14:Int),a1)) (some ((strOfNums l2),Au ((Au (x7+(1:Int))) - a1),(0:Int),(0:Int))))
theorem Ach (s:Ah) (hs:s.size<=1000000) (at_:Nat) (q:UInt8) (ha:at_ < s.size) (hq:s[at_]=q):∀ (d i f k:Nat) (acc:Bs),s.size - i<=d->at_+1<=i->i<=s.size->acc.length<=i->s.size - i < f->d+25<=k ->
  Ij.l0 k s (at_:Int) (Um s at_) (bI acc) (i:Int)=some (LO at_ (Fs q f ((bs s).drop i) acc (i - at_)))
 | d,i,f,k,acc,hd,h1,h2,h3,h4,h5=>by
  obtain ⟨k,rfl⟩:∃ m,k=m+1:=⟨k - 1,by omega⟩;obtain ⟨f,rfl⟩:∃ m,f=m+1:=⟨f - 1,by omega⟩;simp only [Ij.l0];rcases Nat.lt_or_ge i s.size with h | h
  ·obtain ⟨d,rfl⟩:∃ m,d=m+1:=⟨d - 1,by omega⟩
   rw [dT (p:=(i:Int) < s.size) (by omega),JA s i h,JA s at_ ha,hq,I0 s i h,W7];have hJ:Um s at_ (bI acc) i=if s[i]=10 then some ((⟨#[]⟩:Ah),(0:Int),(4:Int),(at_:Int)) else if acc.length > 10000 then some ((⟨#[]⟩:Ah),(0:Int),(14:Int),(at_:Int)) else some (str acc,((i+1 - at_:Nat):Int),0,0):=by
    unfold Um;rw [dF (p:=(i:Int) >= s.size) (by omega),JA s i h];simp only [cond_false,Aq];rw [show ((s[i].toNat:Int) == 10)=decide (s[i]=10) from bq s[i] 10,EJ];split
    ·rfl
    ·rw [UQ,EJ,Bt8,wi ((i:Int)+1) (by omega) (by omega),wi ((i:Int)+1 - at_) (by omega) (by omega)]
     rw [show (i:Int)+1 - at_=((i+1 - at_:Nat):Int) by omega];split
     ·rw [if_pos (by omega)]
     ·rw [if_neg (by omega)]
   have hgo:s[i]≠10->s[i]≠q->s[i]≠92->Ij.l0 k s (at_:Int) (Um s at_) (bI acc++[(s[i].toNat:Int)]) (Au ((i:Int)+1))=some (LO at_ (Fs q f ((bs s).drop (i+1)) (acc++[s[i]]) (i - at_+1))):=λ_ _ _=>by
    rw [wi _ (by omega) (by omega),show bI acc++[(s[i].toNat:Int)]=bI (acc++[s[i]]) by rw [Afk];rfl];have:=Ach s hs at_ q ha hq d (i+1) f k (acc++[s[i]]) (by omega) (by omega) (by omega) (by simp;omega) (by omega) (by omega);rw [show i+1 - at_=i - at_+1 by omega] at this;exact this
   have KG:=A2x s hs i k;generalize hc:s[i]=c at *;simp only [cond_true,Aq];rw [show ((c.toNat:Int) != 10)=decide (c≠10) from bn c 10];by_cases c1:c=10
   ·rw [if_pos c1,dF (by simpa using c1)]
    simp only [cond_false,Aq];rw [hJ,if_pos c1];simp [LO]
   rw [if_neg c1,dT c1];simp only [cond_true,Aq,bn];by_cases c2:c=q
   ·rw [if_pos c2,dF (by simpa using c2)]
    simp only [cond_false];rw [hJ,if_neg c1];split
    ·simp [LO]
    ·simp only [LO]
     rw [show i - at_+1=i+1 - at_ by omega]
   rw [if_neg c2,dT c2];simp only [cond_true];rw [show ((c.toNat:Int) != 92)=decide (c≠92) from bn c 92];by_cases c3:c=92
   ·rw [if_pos c3,dF (by simpa using c3)]
    simp only [cond_false];rw [wi ((i:Int)+1) (by omega) (by omega),show (i:Int)+1=((i+1:Nat):Int) by omega];rcases Nat.lt_or_ge (i+1) s.size with h6 | h6
    ·rw [dF (p:=((i+1:Nat):Int) >= s.size) (by omega),KG h6 (by omega)]
     simp only [cond_false,Aq,X2];cases hE:IR ((bs s).drop (i+1)) with
     | ended =>
      rw [I0 s _ h6,Q4] at hE
      repeat' split at hE
      all_goals cases hE
     | FL =>
      simp only [beq_self_eq_true,cond_true,LO];rw [show at_+(i - at_)=i by omega]
     | ok b n =>
      have hl:=X1 hE;rw [BU,BY] at hl;rw [show ((n:Int) == 0)=false by rw [beq_eq_false_iff_ne];omega];simp only [cond_false];rw [UK _ _ _ (by rw [UQ,UQ];omega)];simp only [Aq];rw [wi ((i:Int)+n) (by omega) (by omega),<- Afk,show (i:Int)+n=((i+n:Nat):Int) by omega];have:=Ach s hs at_ q ha hq d (i+n) f k (acc++b) (by omega) (by omega) (by omega) (by simp;omega) (by omega) (by omega);rw [this,show i+n - at_=i - at_+n by omega,<- List.drop_drop,I0 s i h,hc]
    ·rw [dT (p:=((i+1:Nat):Int) >= s.size) (by omega),List.drop_of_length_le (by rw [BY];omega)]
     simp [IR,LO]
   rw [if_neg c3,dT c3];simp only [cond_true];rw [UK _ _ _ (by rw [UQ];simp;omega)];exact hgo c1 c2 c3
  ·rw [dF (p:=(i:Int) < s.size) (by omega),List.drop_of_length_le (by rw [BY];omega),Auo]
   simp only [cond_false,Aq];unfold Um;rw [dT (p:=(i:Int) >= s.size) (by omega)];simp [LO]
theorem text_eq (s:Ah) (hs:s.size<=1000000) (at_ k:Nat) (ha:at_ < s.size) (hk:s.size+25<=k):Ij.f k s (at_:Int)=some (LO at_ (Fs s[at_] (s.size - at_) ((bs s).drop (at_+1)) [] 1)):=by
 have:=Ach s hs at_ s[at_] ha rfl (s.size - (at_+1)) (at_+1) (s.size - at_) k [] (Nat.le_refl _) (Nat.le_refl _) (by omega) (by simp) (by omega) (by omega);rw [Nat.add_sub_cancel_left] at this;rw [<- this];unfold Ij.f AM;rw [wi _ (by omega) (by omega),show (at_:Int)+1=((at_+1:Nat):Int) by omega];rfl
def wD (hex:Bool) (b:UInt8):Option Nat :=
 if 48<=b.toNat/\b.toNat<=57 then some (b.toNat - 48) else if hex=true/\97<=b.toNat/\b.toNat<=102 then some (b.toNat - 87) else if hex=true/\65<=b.toNat/\b.toNat<=70 then some (b.toNat - 55) else none
theorem Avx {hex:Bool} {b:UInt8} {d:Nat} (h:wD hex b=some d):d < 16/\(hex=false->d < 10):=by
 unfold wD at h;split at h;cases h;omega;split at h;rename_i h2;cases h;exact ⟨by omega,λe=>by rw [e] at h2;simp at h2⟩;split at h;rename_i h3;cases h;exact ⟨by omega,λe=>by rw [e] at h3;simp at h3⟩;cases h
def wZ (hex:Bool) (b:UInt8):Int:=match wD hex b with | some d=>d | none=>-1
theorem Ac5 (k:Nat) (b:UInt8) (hex:Bool):LH.f k (b.toNat:Int) hex=some (wZ hex b):=by
 have hb:=b.toNat_lt;unfold LH.f wZ wD;rw [wb,wi ((b.toNat:Int) - 48) (by omega) (by omega),wi ((b.toNat:Int) - 97) (by omega) (by omega),wi ((b.toNat:Int) - 97+10) (by omega) (by omega),wi ((b.toNat:Int) - 65) (by omega) (by omega),wi ((b.toNat:Int) - 65+10) (by omega) (by omega)];have hq:b.toNat < 48\/(48<=b.toNat/\b.toNat<=57)\/(57 < b.toNat/\b.toNat < 65)\/(65<=b.toNat/\b.toNat<=70)\/(70 < b.toNat/\b.toNat < 97)\/(97<=b.toNat/\b.toNat<=102)\/102 < b.toNat:=by omega
 rcases hq with h | h | h | h | h | h | h;rw [dF (p:=(b.toNat:Int) >= 48) (by omega),dF (p:=(b.toNat:Int) >= 97) (by omega),dF (p:=(b.toNat:Int) >= 65) (by omega),if_neg (by omega),if_neg (by omega),if_neg (by omega)];cases hex <;> rfl;rw [dT (p:=(b.toNat:Int) >= 48) (by omega),dT (p:=(b.toNat:Int)<=57) (by omega),if_pos h];simp only [cond_true,Aq];congr 1;omega;rw [dT (p:=(b.toNat:Int) >= 48) (by omega),dF (p:=(b.toNat:Int)<=57) (by omega),dF (p:=(b.toNat:Int) >= 97) (by omega),dF (p:=(b.toNat:Int) >= 65) (by omega),if_neg (by omega),if_neg (by omega),if_neg (by omega)];cases hex <;> rfl;rw [dT (p:=(b.toNat:Int) >= 48) (by omega),dF (p:=(b.toNat:Int)<=57) (by omega),dF (p:=(b.toNat:Int) >= 97) (by omega),dT (p:=(b.toNat:Int) >= 65) (by omega),dT (p:=(b.toNat:Int)<=70) (by omega),if_neg (by omega),if_neg (by omega)];cases hex;rfl;rw [if_pos ⟨rfl,h⟩];simp only [cond_true,cond_false,Aq];congr 1;omega;rw [dT (p:=(b.toNat:Int) >= 48) (by omega),dF (p:=(b.toNat:Int)<=57) (by omega),dF (p:=(b.toNat:Int) >= 97) (by omega),dT (p:=(b.toNat:Int) >= 65) (by omega),dF (p:=(b.toNat:Int)<=70) (by omega),if_neg (by omega),if_neg (by omega),if_neg (by omega)];cases hex <;> rfl;rw [dT (p:=(b.toNat:Int) >= 48) (by omega),dF (p:=(b.toNat:Int)<=57) (by omega),dT (p:=(b.toNat:Int) >= 97) (by omega),dT (p:=(b.toNat:Int)<=102) (by omega),dT (p:=(b.toNat:Int) >= 65) (by omega),dF (p:=(b.toNat:Int)<=70) (by omega),if_neg (by omega)];cases hex;rw [if_neg (by simp),if_neg (by simp)];rfl;rw [if_pos ⟨rfl,h⟩];simp only [cond_true,cond_false,Aq];congr 1;omega;rw [dT (p:=(b.toNat:Int) >= 48) (by omega),dF (p:=(b.toNat:Int)<=57) (by omega),dT (p:=(b.toNat:Int) >= 97) (by omega),dF (p:=(b.toNat:Int)<=102) (by omega),dT (p:=(b.toNat:Int) >= 65) (by omega),dF (p:=(b.toNat:Int)<=70) (by omega),if_neg (by omega),if_neg (by omega),if_neg (by omega)];cases hex <;> rfl
def Ns (hex:Bool) (n d:Nat):Nat:=if hex then (n * 16+d) % 18446744073709551616 else min (10 * n+d) 18446744073709551615
def szB (hex:Bool):Nat->Bs->Option Nat
 | n,[]=>some n
 | n,b :: t=>match wD hex b with | none=>none | some d=>szB hex (Ns hex n d) t
theorem U_ (b:UInt8) (t:Bs) (h:128<=b.toNat):128<=(B1 (b :: t)).1:=by
 have hb:=b.toNat_lt;unfold B1;simp only [List.getD_cons_zero];rw [if_neg (by omega)]
 (repeat' split) <;> simp_all <;> omega
theorem Atd (hex:Bool):∀ (f n:Nat) (l:Bs),l.length<=f->K_ hex f n l=szB hex n l
 | 0,n,l,h=>by
  have:l=[]:=List.eq_nil_of_length_eq_zero (by omega);subst this;rfl
 | f+1,n,[],h=>rfl
 | f+1,n,b :: t,h=>by
  simp only [AW] at h;simp only [K_,szB];by_cases hb:b.toNat < 128;rw [OK b t hb];simp only [List.drop_succ_cons,List.drop_zero];have ih:=λm=>Atd hex f m t (by omega);simp only [ih];unfold Jr wD Ns;by_cases h1:48<=b.toNat/\b.toNat<=57;rw [if_pos h1,if_pos h1];simp only [];rw [if_neg (by simp;omega)];rw [if_neg h1,if_neg h1];by_cases h2:97<=b.toNat/\b.toNat<=102;rw [if_pos h2];cases hex with
  | true=>rw [if_pos ⟨rfl,h2⟩];simp
  | false=>rw [if_neg (by simp),if_neg (by simp)];simp;omega
  rw [if_neg h2,if_neg (show ¬ (hex=true/\97<=b.toNat/\b.toNat<=102) from λh=>h2 h.2)];by_cases h3:65<=b.toNat/\b.toNat<=70;rw [if_pos h3];cases hex with
  | true=>rw [if_pos ⟨rfl,h3⟩];simp
  | false=>rw [if_neg (by simp)];simp;omega
  rw [if_neg h3,if_neg (show ¬ (hex=true/\65<=b.toNat/\b.toNat<=70) from λh=>h3 h.2)];have hh:=U_ b t (by omega);have e:Jr (B1 (b :: t)).1=none:=by
   unfold Jr;rw [if_neg (by omega),if_neg (by omega),if_neg (by omega)]
  have e2:wD hex b=none:=by
   unfold wD;rw [if_neg (by omega),if_neg (by omega),if_neg (by omega)]
  rw [e,e2]
theorem Auc (hex:Bool):∀ (l:Bs) (n:Nat),(szB hex n l).isSome=l.all λb=>(wD hex b).isSome
 | [],_=>rfl
 | b :: t,n=>by
  simp only [szB,List.all_cons];cases hw:wD hex b with
  | none=>rfl
  | some d=>simp only [Option.isSome_some,Bool.true_and];exact Auc hex t _
theorem Agg (s:Ah) (hs:s.size<=1000000) (hex:Bool) (J:Unit->Option (Int×Int)):∀ (d i k:Nat),s.size - i<=d->i<=s.size->d < k ->
  DE.l2 k hex s J (i:Int)=if (((bs s).drop i).all λb=>(wD hex b).isSome)=true then J () else some (0,4)
 | d,i,k,hd,hi,hk=>by
  obtain ⟨k,rfl⟩:∃ m,k=m+1:=⟨k - 1,by omega⟩;simp only [DE.l2];rcases Nat.lt_or_ge i s.size with h | h;obtain ⟨d,rfl⟩:∃ m,d=m+1:=⟨d - 1,by omega⟩;rw [dT (p:=(i:Int) < s.size) (by omega),JA s i h,I0 s i h,wi ((i:Int)+1) (by omega) (by omega),show (i:Int)+1=((i+1:Nat):Int) by omega];simp only [cond_true,Aq,Ac5,List.all_cons];rw [Agg s hs hex J d (i+1) k (by omega) (by omega) (by omega)];by_cases hw:(wD hex s[i]).isSome=true;obtain ⟨x,hx⟩:=Option.isSome_iff_exists.1 hw;have hz:wZ hex s[i]=x:=by unfold wZ;rw [hx]
  rw [hz,dF (by omega)];simp only [hw,Bool.true_and,cond_false];have hx:wD hex s[i]=none:=by simpa using hw
  have hz:wZ hex s[i]=-1:=by unfold wZ;rw [hx]
  rw [hz,dT (by omega)];simp only [hw,Bool.false_and,cond_true,Bool.false_eq_true,if_false];rw [dF (p:=(i:Int) < s.size) (by omega),List.drop_of_length_le (by rw [BY];omega)];rfl
theorem A9f (u d:Nat) (hu:u < 18446744073709551616) (hd:d < 16):Au (Au (sint u * 16)+(d:Int))=sint ((u * 16+d) % 18446744073709551616):=by unfold Au IntKind.wrap sint;simp [IntKind.bits,IntKind.signed];omega
theorem Aj5 (s:Ah) (hs:s.size<=1000000) (J:Int->Option (Int×Int)):∀ (d i k u u':Nat),s.size - i<=d->i<=s.size->d < k->u < 18446744073709551616->szB true u ((bs s).drop i)=some u' ->
  DE.l0 k s J (sint u) (i:Int)=J (sint u')
 | d,i,k,u,u',hd,hi,hk,hu,hz=>by
  obtain ⟨k,rfl⟩:∃ m,k=m+1:=⟨k - 1,by omega⟩;simp only [DE.l0];rcases Nat.lt_or_ge i s.size with h | h;obtain ⟨d,rfl⟩:∃ m,d=m+1:=⟨d - 1,by omega⟩;rw [dT (p:=(i:Int) < s.size) (by omega),JA s i h,wi ((i:Int)+1) (by omega) (by omega),show (i:Int)+1=((i+1:Nat):Int) by omega];rw [I0 s i h] at hz;simp only [cond_true,Aq,Ac5];simp only [szB] at hz;cases hw:wD true s[i] with
  | none=>rw [hw] at hz;cases hz
  | some x =>
   rw [hw] at hz;have hx:=(Avx hw).1;have hzz:wZ true s[i]=x:=by unfold wZ;rw [hw]
   rw [hzz,A9f u x hu hx];exact Aj5 s hs J d (i+1) k _ u' (by omega) (by omega) (by omega) (Nat.mod_lt _ (by omega)) hz
  rw [dF (p:=(i:Int) < s.size) (by omega)];rw [List.drop_of_length_le (by rw [BY];omega)] at hz;cases hz;rfl
theorem Aug:∀ (l:Bs) (u u':Nat),szB false u l=some u'->u<=18446744073709551615->u<=u'
 | [],u,u',h,_=>by cases h;exact Nat.le_refl _
 | b :: t,u,u',h,hu=>by
  simp only [szB] at h;cases hw:wD false b with
  | none=>rw [hw] at h;cases h
  | some d =>
   rw [hw] at h;have:=Aug t _ u' h (by unfold Ns;simp;omega);unfold Ns at this;simp at this;omega
theorem Bui (x:Int) (h:x<=0):Int.tdiv x 10=-((-x) / 10):=by
 obtain ⟨n,hn⟩:∃ n:Nat,x=-(n:Int):=⟨x.natAbs,by omega⟩;subst hn;rw [Int.neg_tdiv,show (10:Int)=((10:Nat):Int) from rfl,td];omega
theorem Ag1 (s:Ah) (hs:s.size<=1000000) (J:Int->Option (Int×Int)):∀ (d i k u u':Nat),s.size - i<=d->i<=s.size->d < k->u<=9223372036854775808->szB false u ((bs s).drop i)=some u' ->
  DE.l1 k s J (-(u:Int)) (i:Int)=if u' > 9223372036854775808 then some (0,14) else J (-(u':Int))
 | d,i,k,u,u',hd,hi,hk,hu,hz=>by
  obtain ⟨k,rfl⟩:∃ m,k=m+1:=⟨k - 1,by omega⟩;simp only [DE.l1];rcases Nat.lt_or_ge i s.size with h | h;obtain ⟨d,rfl⟩:∃ m,d=m+1:=⟨d - 1,by omega⟩;rw [dT (p:=(i:Int) < s.size) (by omega),JA s i h,wi ((i:Int)+1) (by omega) (by omega),show (i:Int)+1=((i+1:Nat):Int) by omega];rw [I0 s i h] at hz;simp only [cond_true,Aq,Ac5];simp only [szB] at hz;cases hw:wD false s[i] with
  | none=>rw [hw] at hz;cases hz
  | some x =>
   rw [hw] at hz;have hx:=(Avx hw).2 rfl;have hzz:wZ false s[i]=x:=by unfold wZ;rw [hw]
   rw [hzz,wi ((-9223372036854775808:Int)+(x:Int)) (by omega) (by omega),Bui _ (by omega)];have hm:=Aug _ _ u' hz (by unfold Ns;simp;omega);have hst:Ns false u x=min (10 * u+x) 18446744073709551615:=rfl;rw [wi (-(-(-9223372036854775808+(x:Int)) / 10)) (by omega) (by omega)];by_cases hb:10 * u+x > 9223372036854775808;rw [dT (by omega),if_pos (by omega)];rfl;rw [dF (by omega)];simp only [cond_false];rw [wi (-(u:Int) * 10) (by omega) (by omega),wi (-(u:Int) * 10 - (x:Int)) (by omega) (by omega)];have he:Ns false u x=10 * u+x:=by rw [hst];omega
   have hz:szB false (Ns false u x) ((bs s).drop (i+1))=some u':=hz;rw [he] at hz;rw [show -(u:Int) * 10 - (x:Int)=-((10 * u+x:Nat):Int) by omega];exact Ag1 s hs J d (i+1) k _ u' (by omega) (by omega) (by omega) (by omega) hz
  rw [dF (p:=(i:Int) < s.size) (by omega)];rw [List.drop_of_length_le (by rw [BY];omega)] at hz;cases hz;rw [if_neg (by omega)];rfl
theorem Aue:∀ (l:Bs) (hex:Bool) (u u':Nat),szB hex u l=some u'->u < 18446744073709551616->u' < 18446744073709551616
 | [],_,u,u',h,hu=>by cases h;exact hu
 | b :: t,hex,u,u',h,hu=>by
  simp only [szB] at h;cases hw:wD hex b with
  | none=>rw [hw] at h;cases h
  | some d =>
   rw [hw] at h;refine Aue t hex _ u' h ?_;unfold Ns;split;exact Nat.mod_lt _ (by omega);omega
def Aa7 (k:Nat) (hex:Bool) (x2:Ah):Option (Int×Int) :=
 cond ((x2.size:Int) == (0:Int)) (some ((0:Int),(4:Int))) (AM (λ(_:Unit)=>cond hex (AM (λ(x7:Int)=>AM (λ(x9:Int)=>some (x9,(0:Int))) (λIL=>cond false (IL (Au (0 - x7))) (IL x7))) (λJ8=>DE.l0 k x2 J8 (0:Int) (0:Int))) (AM (λ(x18:Int)=>cond false (some (x18,(0:Int))) (cond (x18 == (-9223372036854775808:Int)) (some ((0:Int),(14:Int))) (some (Au (0 - x18),(0:Int))))) (λJ19=>DE.l1 k x2 J19 (0:Int) (0:Int)))) (λJ5=>DE.l2 k hex x2 J5 (0:Int)))
theorem Arl (k:Nat) (hex:Bool) (x:Ah) (hs:x.size<=1000000) (hk:x.size < k):Aa7 k hex x=some (if bs x=[] then ((0,4):Int×Int) else match szB hex 0 (bs x) with | none=>(0,4) | some u=>if !hex && decide (u > 9223372036854775807) then (0,14) else (sint u,0)):=by
 unfold Aa7 AM;by_cases he:bs x=[];have h0:x.size=0:=by rw [<- BY,he];rfl
 rw [if_pos he,show ((x.size:Int) == 0)=true by rw [beq_iff_eq];omega];rfl;have h0:x.size≠0:=λh=>he (List.eq_nil_of_length_eq_zero (by rw [BY];exact h));rw [if_neg he,show ((x.size:Int) == 0)=false by rw [beq_eq_false_iff_ne];omega];simp only [cond_false];have hc:=Agg x hs hex (λ(_:Unit)=>cond hex (DE.l0 k x (λx7=>some (x7,0)) 0 0) (DE.l1 k x (λx18=>cond (x18 == (-9223372036854775808:Int)) (some ((0:Int),(14:Int))) (some (Au (0 - x18),(0:Int)))) 0 0)) x.size 0 k (by omega) (by omega) hk;rw [show ((0:Nat):Int)=0 from rfl,List.drop_zero] at hc;refine hc.trans ?_;rw [<- Auc hex (bs x) 0];cases hz:szB hex 0 (bs x) with
 | none=>simp
 | some u =>
  rw [if_pos (show (some u).isSome=true from rfl)];have hlt:=Aue _ _ _ _ hz (by omega);cases hex with
  | true =>
   have:=Aj5 x hs (λx7=>some (x7,0)) x.size 0 k 0 u (by omega) (by omega) hk (by omega) hz;rw [show sint 0=0 from rfl,show ((0:Nat):Int)=0 from rfl] at this;simp only [cond_true,this,Bool.not_true,Bool.false_and,Bool.false_eq_true,if_false]
  | false =>
   have:=Ag1 x hs (λx18=>cond (x18 == (-9223372036854775808:Int)) (some ((0:Int),(14:Int))) (some (Au (0 - x18),(0:Int)))) x.size 0 k 0 u (by omega) (by omega) hk (by omega) hz;rw [show -((0:Nat):Int)=0 from rfl,show ((0:Nat):Int)=0 from rfl] at this;simp only [cond_false,this,Bool.not_false,Bool.true_and];by_cases h1:u > 9223372036854775808;rw [if_pos h1,if_pos (by simp;omega)];rw [if_neg h1];by_cases h2:u=9223372036854775808;rw [show ((-(u:Int)) == (-9223372036854775808:Int))=true by rw [beq_iff_eq];omega,if_pos (by simp;omega)];rfl;rw [show ((-(u:Int)) == (-9223372036854775808:Int))=false by rw [beq_eq_false_iff_ne];omega,if_neg (by simp;omega),wi _ (by omega) (by omega)];simp only [cond_false];unfold sint;rw [if_pos (by omega)];congr 2;omega
theorem A9a:∀ (l:Bs),l.length<=1->EW l=false
 | [],_=>rfl
 | [a],_=>by
  unfold EW;simp only [List.isPrefixOf,Bool.and_false,Bool.or_self]
 | a :: b :: t,h=>by simp at h
theorem parse_eq (k:Nat) (s:Ah) (hs:s.size<=1000000) (hk:s.size < k):PP.f k s=some (F6 (bs s)):=by
 have hq:((cond (decide ((s.size:Int) >= (2:Int))) ((Dm s (0:Int)).bind λc38:UInt8=>cond ((c38.toNat:Int) == (48:Int)) ((Dm s (1:Int)).bind λc40:UInt8=>cond ((c40.toNat:Int) == (120:Int)) (some true) ((Dm s (1:Int)).bind λUV:UInt8=>some ((UV.toNat:Int) == (88:Int)))) (some false)) (some false)):Option Bool)=some (EW (bs s)):=by
  unfold EW;rcases Nat.lt_or_ge 1 s.size with h | h;rw [dT (p:=(s.size:Int) >= 2) (by omega)];have e0:=JA s 0 (by omega);have e1:=JA s 1 h;have d0:=I0 s 0 (by omega);have d1:=I0 s 1 h;rw [show ((0:Nat):Int)=0 from rfl] at e0;rw [show ((1:Nat):Int)=1 from rfl] at e1;rw [List.drop_zero] at d0;rw [d0,d1,e0,e1];generalize s[0]=a;generalize s[1]=b;simp only [cond_true,Aq];rw [show ((a.toNat:Int) == 48)=decide (a=48) from bq a 48,show ((b.toNat:Int) == 120)=decide (b=120) from bq b 120,show ((b.toNat:Int) == 88)=decide (b=88) from bq b 88];by_cases ha:a=48;subst ha;rw [dT rfl];have hx:∀ y:UInt8,([48,y].isPrefixOf (48 :: b :: (bs s).drop (1+1)))=((y == b) && true):=λy=>rfl;rw [hx,hx];simp only [cond_true];by_cases hb:b=120;subst hb;rfl;rw [dF hb,show ((120:UInt8) == b)=false by rw [beq_eq_false_iff_ne];exact λe=>hb e.symm];simp only [cond_false,Bool.false_or];have e:((88:UInt8) == b)=decide (b=88):=by
   rw [Bool.eq_iff_iff,beq_iff_eq,decide_eq_true_eq];exact eq_comm
  rw [e];cases decide (b=88) <;> rfl;rw [dF ha];simp only [cond_false,List.isPrefixOf];rw [show ((48:UInt8) == a)=false by rw [beq_eq_false_iff_ne];exact λe=>ha e.symm];rfl;rw [dF (p:=(s.size:Int) >= 2) (by omega)];have hl:(bs s).length<=1:=by rw [BY];omega
  have:=A9a (bs s) hl;unfold EW at this;rw [this];rfl
 unfold PP.f DE.f;rw [hq];unfold F6;simp only [Aq];have hT:∀ hex x2,Aa7 k hex x2=cond ((x2.size:Int) == (0:Int)) (some ((0:Int),(4:Int))) (AM (λ(_:Unit)=>cond hex (AM (λ(x7:Int)=>AM (λ(x9:Int)=>some (x9,(0:Int))) (λIL=>cond false (IL (Au (0 - x7))) (IL x7))) (λJ8=>DE.l0 k x2 J8 (0:Int) (0:Int))) (AM (λ(x18:Int)=>cond false (some (x18,(0:Int))) (cond (x18 == (-9223372036854775808:Int)) (some ((0:Int),(14:Int))) (some (Au (0 - x18),(0:Int))))) (λJ19=>DE.l1 k x2 J19 (0:Int) (0:Int)))) (λJ5=>DE.l2 k hex x2 J5 (0:Int))):=λ_ _=>rfl;simp only [<- hT];have hz:=λhex x=>Atd hex (x:Bs).length 0 x (Nat.le_refl _);unfold FK;simp only [hz];unfold AM;generalize EW (bs s)=hex at *;cases hex with
 | false =>
  simp only [cond_false,Bool.false_eq_true,if_false];rw [Arl k false s hs hk];simp only [Aq];rfl
 | true =>
  simp only [cond_true,if_true];rcases Nat.lt_or_ge 1 s.size with h | h;have:=W1 s 2 s.size (by omega) (Nat.le_refl _);rw [show ((2:Nat):Int)=2 from rfl,List.take_of_length_le (by rw [BU,BY];omega)] at this;rw [this];simp only [Aq];rw [Arl k true _ (by rw [Nt,BU,BY];omega) (by rw [Nt,BU,BY];omega),Hv];rfl;exfalso;rw [dF (p:=(s.size:Int) >= 2) (by omega)] at hq;cases hq
def IX (l:Bs):Nat:=(l.takeWhile (λb=>b != 10)).length
theorem Asy (b:UInt8) (t:Bs):(B1 (b :: t)).1=10 ↔ b=10:=by
 by_cases h:b.toNat < 128;rw [OK b t h];constructor;intro e;exact UInt8.toNat_inj.1 (by show b.toNat=10;exact e);intro e;subst e;rfl;have:=U_ b t (by omega);constructor;intro e;omega;intro e;subst e;exact absurd (by decide) h
theorem Bjo (x y:Bs) (h:∀ b ∈ x,b≠10):IX (x++y)=x.length+IX y:=by
 unfold IX;rw [List.takeWhile_append_of_pos (λb hb=>by simpa using h b hb),BQ]
theorem Abf:∀ (n:Nat) (l:Bs),l.length<=n->B5 KJ l=IX l
 | n,[],_=>rfl
 | 0,b :: t,h=>by simp at h
 | n+1,b :: t,h=>by
  rw [Np KJ (b :: t) (by simp)];unfold KJ;by_cases hb:b=10
  ·subst hb
   rw [if_neg (by simp [(Asy 10 t).2 rfl])];rfl
  ·have hr:(B1 (b :: t)).1≠10:=λe=>hb ((Asy b t).1 e)
   rw [if_pos (by simpa using hr)];have hw:=Jq (b :: t);have hw3:=hw.2.2 (by simp);have ih:=Abf n ((b :: t).drop (B1 (b :: t)).2) (by rw [BU];omega);unfold KJ at ih;rw [ih]
   conv=>rhs;rw [<- List.take_append_drop (B1 (b :: t)).2 (b :: t)]
   rw [Bjo _ _ (λx hx=>?_),List.length_take,Nat.min_eq_left hw3];intro e;subst e;have:=A0k (b :: t) 10 hx (by decide);exact hr this.1
theorem Aox (s:Ah) (hs:s.size<=1000000) (J:Int->Option (List (Int×Ah×Int×Int)×Int×Int)):∀ (d i k:Nat),s.size - i<=d->i<=s.size->d < k ->
  Fp.l1 k s J (i:Int)=J ((i+IX ((bs s).drop i):Nat):Int)
 | d,i,k,hd,hi,hk=>by
  obtain ⟨k,rfl⟩:∃ m,k=m+1:=⟨k - 1,by omega⟩;simp only [Fp.l1];rcases Nat.lt_or_ge i s.size with h | h;obtain ⟨d,rfl⟩:∃ m,d=m+1:=⟨d - 1,by omega⟩;rw [dT (p:=(i:Int) < s.size) (by omega),JA s i h,wi ((i:Int)+1) (by omega) (by omega),show (i:Int)+1=((i+1:Nat):Int) by omega];have ih:=Aox s hs J d (i+1) k (by omega) (by omega) (by omega);rw [I0 s i h];simp only [cond_true,Aq];rw [show ((s[i].toNat:Int) != 10)=decide (s[i]≠10) from bn s[i] 10];by_cases hb:s[i]=10;rw [dF (by simpa using hb),show IX (s[i] :: (bs s).drop (i+1))=0 by unfold IX;rw [List.takeWhile_cons_of_neg (by simpa using hb)];rfl];rfl;rw [dT hb,show IX (s[i] :: (bs s).drop (i+1))=IX ((bs s).drop (i+1))+1 by unfold IX;rw [List.takeWhile_cons_of_pos (by simpa using hb)];rfl];simp only [cond_true];rw [ih];congr 2;omega;rw [dF (p:=(i:Int) < s.size) (by omega),List.drop_of_length_le (by rw [BY];omega)];rfl
def Ug:(Int×Int) ⊕ List Tok->List (Int×Ah×Int×Int)×Int×Int
 | .inl (c,p)=>([],c,p)
 | .inr l=>(l.map Gv,0,0)
def Abk (s:Ah) (l3:List (Int×Ah×Int×Int)):Option (List (Int×Ah×Int×Int)×Int×Int) :=
 (apd 40 l3 [((6:Int),(⟨#[]⟩:Ah),(0:Int),(s.size:Int))]).bind λl10=>some (l10,(0:Int),(0:Int))
theorem Bse (b:UInt8) (t:Bs) (h:L_ b=false):B5 CE (b :: t)=0:=by
 rw [Np CE (b :: t) (by simp),if_neg];intro he;by_cases hb:b.toNat < 128;rw [OK b t hb] at he;rw [Azh he] at h;cases h;have:=U_ b t (by omega);unfold CE at he;simp at he;omega
theorem Bsm (b:UInt8) (t:Bs):(B1 (b :: t)).1=34\/(B1 (b :: t)).1=39 ↔ b=34\/b=39:=by
 by_cases hb:b.toNat < 128;rw [OK b t hb];constructor;rintro (h | h);exact .inl (UInt8.toNat_inj.1 h);exact .inr (UInt8.toNat_inj.1 h);rintro (h | h) <;> subst h;exact .inl rfl;exact .inr rfl;have:=U_ b t (by omega);constructor;rintro (h | h) <;> omega;rintro (h | h) <;> (subst h;exact absurd (by decide) hb)
theorem Ab6 (q:UInt8):∀ (f g:Nat) (l acc:Bs) (i:Nat),l.length < f->l.length < g->Fs q f l acc i=Fs q g l acc i
 | 0,_,l,_,_,h,_=>by omega
 | _,0,l,_,_,_,h=>by omega
 | f+1,g+1,[],_,_,_,_=>rfl
 | f+1,g+1,b :: t,acc,i,h,h'=>by
  simp only [AW] at h h';rw [W7,W7];split;rfl;split;rfl;split;cases hE:IR t with
  | ended=>rfl
  | FL=>rfl
  | ok e n =>
   have:=X1 hE;exact Ab6 q f g _ _ _ (by rw [BU];simp;omega) (by rw [BU];simp;omega)
  exact Ab6 q f g _ _ _ (by omega) (by omega)
set_option maxHeartbeats 1000000 in
theorem Btb (s:Ah) (hs:s.size<=20000):∀ (d at_ k:Nat) (acc:List Tok),s.size - at_<=d->at_<=s.size->acc.length<=at_->d+30000<=k ->
  Fp.l0 k s (Abk s) (acc.map Gv) (at_:Int)=some (Ug (Jg ((bs s).drop at_) at_ acc)):=by
  intro d;induction d using Nat.strongRecOn with
  | _ d IH =>
  intro at_ k acc hd ha hacc hk;have hs1:s.size<=1000000:=by omega
  obtain ⟨k,rfl⟩:∃ m,k=m+1:=⟨k - 1,by omega⟩;simp only [Fp.l0];rcases Nat.lt_or_ge at_ s.size with h | h;obtain ⟨d,rfl⟩:∃ m,d=m+1:=⟨d - 1,by omega⟩;have ih:=λ(n:Nat) (acc:List Tok) (h1:1<=n) (h2:at_+n<=s.size) (h3:acc.length<=at_+n)=>IH d (by omega) (at_+n) k acc (by omega) h2 h3 (by omega);have hat:=at_eq s at_ k hs1 h (by omega);have hnm:=names_eq s hs1 at_ k (by omega) (by omega);have htx:=text_eq s hs1 at_ k h (by omega);have hsg:=sign_eq k s at_ hs1 h;have hln:=λJ=>Aox s hs1 J (s.size - at_) at_ k (Nat.le_refl _) ha (by omega);have hrl:=Kv Cl ((bs s).drop at_);have hdr:=I0 s at_ h;have hlen:((bs s).drop (at_+1)).length=s.size - (at_+1):=by rw [BU,BY]
  rw [BU,BY] at hrl;have hnext:at_+1 < s.size->Dm s ((at_+1:Nat):Int)=((bs s).drop (at_+1)).head?:=λ_=>As4 s (at_+1);have hsub:=λ(n:Nat) (h2:at_+n<=s.size)=>W1 s at_ (at_+n) (by omega) h2;rw [dT (p:=(at_:Int) < s.size) (by omega),JA s at_ h,wi ((at_:Int)+1) (by omega) (by omega),show (at_:Int)+1=((at_+1:Nat):Int) by omega];rw [hdr] at hat hnm hsg hln hrl hsub ⊢;have hdd:∀ n,(s[at_] :: (bs s).drop (at_+1)).drop n=(bs s).drop (at_+n):=λn=>by rw [<- hdr,List.drop_drop]
  generalize hc:s[at_]=c at *;generalize ht:(bs s).drop (at_+1)=t at *;have hcl:=c.toNat_lt;simp only [cond_true,Aq];have hbl:((cond ((c.toNat:Int) == (32:Int)) (some true) (cond ((c.toNat:Int) == (9:Int)) (some true) (cond ((c.toNat:Int) == (10:Int)) (some true) (some ((c.toNat:Int) == (13:Int)))))):Option Bool)=some (L_ c):=by
   unfold L_;rw [show ((c.toNat:Int) == 32)=(c == 32) from N8 c 32,show ((c.toNat:Int) == 9)=(c == 9) from N8 c 9,show ((c.toNat:Int) == 10)=(c == 10) from N8 c 10,show ((c.toNat:Int) == 13)=(c == 13) from N8 c 13];cases (c == 32) <;> cases (c == 9) <;> cases (c == 10) <;> rfl
  rw [hbl];simp only [Aq];cases hB:L_ c with
  | true =>
   simp only [cond_true];have:=Bsz t at_ acc [c] (by simpa using hB);rw [show c :: t=[c]++t from rfl,this,<- ht];exact ih 1 acc (by omega) (by omega) (by omega)
  | false =>
   simp only [cond_false];have hr0:=Bse c t hB;have hstep:=RH (c :: t) at_ acc;rw [hr0,List.drop_zero] at hstep;simp only [Nat.add_zero] at hstep;have hst:D6 (c :: t)=if [45,45].isPrefixOf (c :: t) then .skip (B5 KJ (c :: t)) else if HY (B1 (c :: t)).1 then (if B5 Cl (c :: t) > 40 then .bad 14 0 else .tok (if L3 ((c :: t).take (B5 Cl (c :: t))) then 2 else 1) ((c :: t).take (B5 Cl (c :: t))) 0 (B5 Cl (c :: t)))
    else if GF (B1 (c :: t)).1 then (if (F6 ((c :: t).take (B5 Cl (c :: t)))).2≠0 then .bad (F6 ((c :: t).take (B5 Cl (c :: t)))).2 0 else .tok 3 ((c :: t).take (B5 Cl (c :: t))) (F6 ((c :: t).take (B5 Cl (c :: t)))).1 (B5 Cl (c :: t)))
    else if (B1 (c :: t)).1=34\/(B1 (c :: t)).1=39 then (match Fs (UInt8.ofNat (B1 (c :: t)).1) (c :: t).length t [] 1 with | .bad c r=>.bad c r | .ok v k=>.tok 4 v 0 k)
    else (match Nq (c :: t) with | none=>.bad 4 0 | some s=>.tok 5 s 0 s.length):=by
    unfold D6;rw [if_neg (by simp)];rfl
   have A8z:((cond ((c.toNat:Int) == (45:Int)) (cond (decide (((at_+1:Nat):Int) < (s.size:Int))) ((Dm s ((at_+1:Nat):Int)).bind λUW:UInt8=>some ((UW.toNat:Int) == (45:Int))) (some false)) (some false)):Option Bool)=some ([45,45].isPrefixOf (c :: t)):=by
    rw [show ((c.toNat:Int) == 45)=decide (c=45) from bq c 45];by_cases h45:c=45;subst h45;rw [dT rfl];simp only [cond_true];rcases Nat.lt_or_ge (at_+1) s.size with h1 | h1;rw [dT (p:=((at_+1:Nat):Int) < s.size) (by omega),hnext h1];cases t with
    | nil=>simp at hlen;omega
    | cons e t =>
     simp only [cond_true,List.head?_cons,Aq];rw [show ((e.toNat:Int) == 45)=(e == 45) from N8 e 45];show some (e == 45)=some ((45 == (45:UInt8)) && ((45 == e) && true));rw [show ((45:UInt8) == e)=(e == 45) by rw [Bool.eq_iff_iff,beq_iff_eq,beq_iff_eq];exact eq_comm];cases (e == 45) <;> rfl
    rw [dF (p:=((at_+1:Nat):Int) < s.size) (by omega)];have:t=[]:=List.eq_nil_of_length_eq_zero (by omega);subst this;rfl;rw [dF h45];show some false=some ((45 == c) && _);rw [show ((45:UInt8) == c)=false by rw [beq_eq_false_iff_ne];exact λe=>h45 e.symm];rfl
   rw [A8z];simp only [Aq];have htok:∀ (n:Nat) (kind:Int) (text:Bs) (v:Int),1<=n->at_+n<=s.size->D6 (c :: t)=.tok kind text v n ->
     ((apd 40 (acc.map Gv) [(kind,str text,v,(at_:Int))]).bind λl45=>Fp.l0 k s (Abk s) l45 (Au ((at_:Int)+(n:Int))))=some (Ug (Jg (c :: t) at_ acc)):=by
    intro n kind text v h1 h2 h3;rw [h3] at hstep;rw [hstep,UK _ _ _ (by simp;omega)];simp only [Aq];rw [wi _ (by omega) (by omega),show (at_:Int)+(n:Int)=((at_+n:Nat):Int) by omega,hdd];have:=ih n (acc++[⟨kind,text,v,at_⟩]) h1 h2 (by simp;omega);rw [List.map_append] at this;exact this
   have hbad:∀ (cd:Int) (rel:Nat),D6 (c :: t)=.bad cd rel->Ug (Jg (c :: t) at_ acc)=([],cd,((at_+rel:Nat):Int)):=by
    intro cd rel h3;rw [h3] at hstep;rw [hstep];rfl
   cases hp:[45,45].isPrefixOf (c :: t) with
   | true =>
    rw [hp,if_pos rfl] at hst;rw [hst] at hstep;rw [Abf _ _ (Nat.le_refl _)] at hstep;simp only [cond_true,AM];rw [hln];have hn1:1<=IX (c :: t)/\IX (c :: t)<=s.size - at_:=by
     have:=(LN (c :: t)).1 _ hst;rw [Abf _ _ (Nat.le_refl _)] at this;simp only [AW] at this;omega
    rw [hstep];show _=some (Ug (Jg (List.drop (IX (c :: t)) (c :: t)) (at_+IX (c :: t)) acc));rw [hdd];exact ih (IX (c :: t)) acc hn1.1 (by omega) (by omega)
   | false =>
    rw [hp,if_neg (by simp)] at hst;simp only [cond_false];rw [hat];simp only [Aq,AM,Arw,Ari];have hrq:=Bsm c t;have hwd:=(Jq (c :: t)).1;have hrun1:HY (B1 (c :: t)).1=true\/GF (B1 (c :: t)).1=true->1<=B5 Cl (c :: t):=λh=>by
     rw [Np Cl _ (by simp),if_pos (by unfold Cl;rcases h with h | h <;> simp [h])];omega
    cases hL:HY (B1 (c :: t)).1 with
    | true =>
     rw [hL,if_pos rfl] at hst;have h1:=hrun1 (.inl hL);simp only [cond_true];rw [hnm];simp only [Aq];by_cases h40:B5 Cl (c :: t) > 40;rw [dT (p:=((B5 Cl (c :: t):Nat):Int) > 40) (by omega)];rw [if_pos h40] at hst;rw [hbad _ _ hst];rfl;rw [dF (p:=((B5 Cl (c :: t):Nat):Int) > 40) (by omega)];rw [if_neg h40] at hst;simp only [cond_false];rw [wi ((at_:Int)+(B5 Cl (c :: t):Nat)) (by omega) (by omega),show (at_:Int)+((B5 Cl (c :: t):Nat):Int)=((at_+B5 Cl (c :: t):Nat):Int) by omega,hsub _ (by omega),Nat.add_sub_cancel_left];simp only [Aq,Bfz,Hv];cases hW:L3 ((c :: t).take (B5 Cl (c :: t))) with
     | true =>
      rw [hW] at hst;simp only [cond_true];rw [show ((at_+B5 Cl (c :: t):Nat):Int)=(at_:Int)+((B5 Cl (c :: t):Nat):Int) by omega];have:=htok (B5 Cl (c :: t)) 2 _ 0 h1 (by omega) hst;rw [wi _ (by omega) (by omega)] at this;exact this
     | false =>
      rw [hW] at hst;simp only [cond_false];rw [show ((at_+B5 Cl (c :: t):Nat):Int)=(at_:Int)+((B5 Cl (c :: t):Nat):Int) by omega];have:=htok (B5 Cl (c :: t)) 1 _ 0 h1 (by omega) hst;rw [wi _ (by omega) (by omega)] at this;exact this
    | false =>
     rw [hL,if_neg (by simp)] at hst;simp only [cond_false];cases hD:GF (B1 (c :: t)).1 with
     | true =>
      rw [hD,if_pos rfl] at hst;have h1:=hrun1 (.inr hD);simp only [cond_true];rw [hnm];simp only [Aq];rw [wi ((at_:Int)+(B5 Cl (c :: t):Nat)) (by omega) (by omega),show (at_:Int)+((B5 Cl (c :: t):Nat):Int)=((at_+B5 Cl (c :: t):Nat):Int) by omega,hsub _ (by omega),Nat.add_sub_cancel_left];simp only [Aq];have hsz:(str ((c :: t).take (B5 Cl (c :: t)))).size<=20000:=by rw [Nt,List.length_take];simp only [AW];omega
      rw [parse_eq k _ (by omega) (by omega),Hv];simp only [Aq];by_cases hP:(F6 ((c :: t).take (B5 Cl (c :: t)))).2=0;rw [show ((F6 ((c :: t).take (B5 Cl (c :: t)))).2 != 0)=false by rw [hP];rfl];rw [if_neg (by simpa using hP)] at hst;simp only [cond_false];rw [show ((at_+B5 Cl (c :: t):Nat):Int)=(at_:Int)+((B5 Cl (c :: t):Nat):Int) by omega];have:=htok (B5 Cl (c :: t)) 3 _ _ h1 (by omega) hst;rw [wi _ (by omega) (by omega)] at this;exact this;rw [show ((F6 ((c :: t).take (B5 Cl (c :: t)))).2 != 0)=true by rw [bne_iff_ne];exact hP];rw [if_pos hP] at hst;rw [hbad _ _ hst];rfl
     | false =>
      rw [hD,if_neg (by simp)] at hst;simp only [cond_false];have hqb:((cond ((c.toNat:Int) == (34:Int)) (some true) (some ((c.toNat:Int) == (39:Int)))):Option Bool)=some (decide (c=34\/c=39)):=by
       rw [show ((c.toNat:Int) == 34)=decide (c=34) from bq c 34,show ((c.toNat:Int) == 39)=decide (c=39) from bq c 39];by_cases q1:c=34;rw [dT q1,dT (show c=34\/c=39 from .inl q1)];rfl;rw [dF q1];by_cases q2:c=39;rw [dT q2,dT (show c=34\/c=39 from .inr q2)];rfl;rw [dF q2,dF (show ¬ (c=34\/c=39) from λh=>h.elim q1 q2)];rfl
      rw [hqb];simp only [Aq];by_cases hQ:c=34\/c=39;rw [dT hQ];rw [if_pos (hrq.2 hQ)] at hst;simp only [cond_true];have hrc:UInt8.ofNat (B1 (c :: t)).1=c:=by
       rw [OK c t (by rcases hQ with rfl | rfl <;> decide)];simp
      rw [hrc,Ab6 c (c :: t).length (s.size - at_) t [] 1 (by simp) (by omega)] at hst;rw [htx];simp only [Aq];cases hT:Fs c (s.size - at_) t [] 1 with
      | bad cd rel =>
       rw [hT] at hst;have hcd:cd≠0:=Afm _ _ _ hst;simp only [LO];rw [show (cd != 0)=true by rw [bne_iff_ne];exact hcd,hbad _ _ hst];rfl
      | ok v n =>
       rw [hT] at hst;have hn:=(LN (c :: t)).2 _ _ _ _ hst;simp only [AW] at hn;simp only [LO];rw [show ((0:Int) != 0)=false from rfl];simp only [cond_false];exact htok n 4 v 0 hn.1 (by omega) hst
      rw [dF hQ];rw [if_neg (λh=>hQ (hrq.1 h))] at hst;simp only [cond_false];rw [hsg];simp only [Aq,Abp];cases hS:Nq (c :: t) with
      | none =>
       rw [hS] at hst;rw [hbad _ _ hst];rfl
      | some x =>
       rw [hS] at hst;have hn:=(LN (c :: t)).2 _ _ _ _ hst;simp only [AW] at hn;simp only [];rw [Nt,show ((x.length:Int) == 0)=false by rw [beq_eq_false_iff_ne];omega];simp only [cond_false];exact htok x.length 5 x 0 hn.1 (by omega) hst
  have e:at_=s.size:=by omega
  rw [dF (p:=(at_:Int) < s.size) (by omega),List.drop_of_length_le (by rw [BY];omega)];simp only [cond_false];have:Jg [] at_ acc=.inr (acc++[⟨6,[],0,at_⟩]):=by rw [RH];rfl
  rw [this];unfold Abk;rw [UK _ _ _ (by simp;omega)];simp only [Aq,Ug,List.map_append];rw [e];rfl
theorem Bs9 (k:Nat) (s:Ah) (hk:50000<=k):Fp.f k s=some (Ro s):=by
 unfold Fp.f Ro;by_cases h:s.size<=20000;rw [dF (by omega),Bsw _ (by rw [BY];exact h)];simp only [cond_false];have:=Btb s h s.size 0 k [] (by omega) (by omega) (by simp) (by omega);rw [List.drop_zero] at this;refine Eq.trans this ?_;cases Jg (bs s) 0 [] with
 | inl x=>obtain ⟨c,p⟩:=x;rfl
 | inr l=>rfl
 rw [dT (by omega)];unfold Gu;rw [if_pos (by rw [BY];omega)];rfl
theorem Xx {p:Prop} [Decidable p] (h:p):decide p=true:=decide_eq_true h
theorem A0o {p:Prop} [Decidable p] (h:¬ p):decide p=false:=decide_eq_false h
theorem Bp7 (k:Nat) (hk:2000000<=k) (s:Ah):PU.f k s=some (Jz s):=by
 unfold PU.f;rw [Bs9 k s (by omega)];unfold Ro;simp only [Aq];cases hs:Gu (bs s) with
 | inl x =>
  obtain ⟨c,p⟩:=x;have:=W2 _ _ _ hs;rw [Aan hs];simp only;rw [show (c != 0)=true by rw [bne_iff_ne];exact this];rfl
 | inr t =>
  have hT:=W4 s t hs;simp only [bne_self_eq_false,cond_false];have hl:(t.map Gv).length<=400000:=by have:=hT.len;omega
  have h0:t.map Gv≠[]:=λe=>by have:=hT.good;rw [e] at this;exact this
  have ha:K5 (t.map Gv):=λx hx=>(hT.at_ x hx).1;have hf:=A3p hl ha h0 k true hT.good (List.suffix_refl _) (by have:=hT.len;omega);rw [Ak5] at hf;rcases WA hT with ⟨b,r,hb,hB,h6⟩ | ⟨i,hb,he⟩;have hw:=IS true hT.good;rw [hb] at hw hf;obtain ⟨hg,_,SU⟩:=hw;have hf:C8.f k (t.map Gv) 0 (-1) true=some (eT3 b (ix (t.map Gv) r) (-1)):=hf;rw [hf];simp only [Aq,AM,eT3];rw [Lz hg SU,Xx (p:=(-1:Int) < 0) (by omega)];simp only [cond_true,Aq];rcases h6 with ⟨h6,he⟩ | ⟨h6,he⟩;rw [Aao hs he,show ((hd r).1 != 6)=false by rw [bne_eq_false_iff_eq];exact h6];rfl;rw [R6 hs he,show ((hd r).1 != 6)=true by rw [bne_iff_ne];exact h6];simp only [cond_true];rw [OF k hg SU];simp only [Aq];rw [Su (by omega) h0 k];simp only [Aq];have:=(ha.suf SU).hd;rw [Xx (p:=(hd r).2.2.2 >= 0) (by omega)];rfl;rw [hb] at hf;obtain ⟨h1,a,_,hf⟩:=hf;rw [hf,R6 hs he];simp only [Aq,AM,eT3];rw [A0o (p:=i < 0) (by omega)];simp only [cond_false,Aq];rw [Xx (p:=i >= 0) (by omega)];rfl
theorem Abi:∀ (d k:Nat),500010+3 * d<=k->(∀ x,IsS x->gw x->sz x<=d->∀ lp,RxS (RC.at k) d lp (λ_=>True) x)/\(∀ b,FD b->gw b->sz b<=d->RxB (RC.at k) d b)
 | 0,k,_=>⟨λx _ _ h=>by have:=Mu x;omega,λx _ _ h=>by have:=Mu x;omega⟩
 | d+1,k,hk=>by
  obtain ⟨k,rfl⟩:∃ m,k=m+2:=⟨k - 2,by omega⟩;obtain ⟨ihS,L0⟩:=Abi d (k+1) (by omega);constructor;intro x hx hw hd lp w lo _ hb;obtain ⟨g1,g2⟩:=(Q9 (d+1)).1 x hx w lo lp;exact ⟨Bt3 (by omega) (X5 d (k+1) (by omega)) (Ahv (by omega) (X5 d k (by omega))) L0 x hx hw hd w lo lp hb,g1.weak (by omega),g2,Aj⟩;intro b hq hw hd w lo lp hb;cases hq with
  | @block n a t l hl =>
   simp only [sz] at hd hb;obtain ⟨_,hgl⟩:=hw;exact Afw (l:=l) (P:=λ_=>True) (by omega) (λx hx=>ihS x (hl x hx) (JV.1 hgl x hx) (by have:=IJ hx;omega) lp) trivial (hb.weak (by omega))
def Pc0 (w:RW):Prop:=w.F=0/\w.ab=[]
theorem A4k {k d:Nat} (hk:500000<=k) {t:Ah} {a:Int} {l:List Tree} {b:Tree} (hq:FD b) (hB:RxB (RC.at k) d b) (w:RW) (lo:Av) (lp:Bool) (hP:Pc0 w) (hb:Fh w lo (sz (.mk 31 t (l.length:Nat) a (l++[b])))) :
    (RC.at (k+1)).Im w.fs w.gl (w.F:Int) w.ab w.er.1 w.er.2 31 t (l.length:Nat) a (l++[b]) lo=some (o6 (C9 (d+1) w lo (.mk 31 t (l.length:Nat) a (l++[b])) lp).1) /\
      Gr w (C9 (d+1) w lo (.mk 31 t (l.length:Nat) a (l++[b])) lp).1 (2 * sz (.mk 31 t (l.length:Nat) a (l++[b])))/\Pc0 (C9 (d+1) w lo (.mk 31 t (l.length:Nat) a (l++[b])) lp).1:=by
  rw [Wz];simp only [sz] at hb ⊢;rw [DY] at hb ⊢;simp only [A_] at hb ⊢;have hl1:=Fr l;have hp:=hb.pw;have hlo:=hb.lo;obtain ⟨b1,b2,b3⟩:=hb.tc;have hml:(l++[b]).length=l.length+1:=by simp
  show Im.g (RC.at k) k w.fs w.gl (w.F:Int) w.ab w.er.1 w.er.2 31 t (l.length:Nat) a (l++[b]) lo=some (o6 _)/\_;unfold Im.g AM;have body:∀ w2:RW,w2.fs=w.fs->w2.gl=w.gl ->
      ((Ez.f k w2.er.1 w2.er.2 31 t (l.length:Nat) a (l++[b]) (l.length:Nat) (50:Int)).bind λr6=>(Mn.f k w.gl t).bind λr7=>(apd 64 w.fs [(t,a,((l.length:Nat):Int),(0:Int),[])]).bind λl15=>(B7 (l++[b]) (l.length:Nat)).bind λx20=>(Fi (l++[b]) (0:Int) (l.length:Nat)).bind λl29 =>
        (Ei.f k l15 ((w.fs.length:Nat):Int) r6.1 r6.2 31 t (l.length:Nat) a (l++[b]) ([]) l29 (0:Int)).bind λr33=>((RC.at k).De r33.2.1 r7 ((w.fs.length:Nat):Int) lo r33.2.2.1 r33.2.2.2 x20.kind x20.text x20.n x20.at_ x20.kids r33.1 false).bind λr50=>some (r50.1,r50.2.1,(0:Int),([]:Av),r50.2.2.2.2.1,r50.2.2.2.2.2))
     =some (o6 (let w:=(w2.few a (l.length:Nat) 50).EV t
         let w:RW:={ w with ab:=lo,F:=w.fs.length,fs:=w.fs++[(t,a,((l.length:Nat):Int),0,[])] };let r:=w.brings a [] l 0
         { rB d r.1 r.2 b false with F:=0,ab:=[] })) /\
        Gr w (let w:=(w2.few a (l.length:Nat) 50).EV t
         let w:RW:={ w with ab:=lo,F:=w.fs.length,fs:=w.fs++[(t,a,((l.length:Nat):Int),0,[])] };let r:=w.brings a [] l 0
         { rB d r.1 r.2 b false with F:=0,ab:=[] }) (2 * (A_ l+(sz b+0)+1)):=λw2 e1 e2=>by
    obtain ⟨w4,hw4⟩:∃ w4:RW,w4={ (w2.few a (l.length:Nat) 50).EV t with ab:=lo,F:=((w2.few a (l.length:Nat) 50).EV t).fs.length,fs:=((w2.few a (l.length:Nat) 50).EV t).fs++[(t,a,((l.length:Nat):Int),0,[])] }:=⟨_,rfl⟩;have f1:w4.fs=w.fs++[(t,a,((l.length:Nat):Int),0,[])]:=by subst hw4;show (w2.few a (l.length:Nat) 50).fs++_=_;rw [El.1,e1]
    have f2:w4.gl=EU w.gl t:=by subst hw4;show EU (w2.few a (l.length:Nat) 50).gl t=_;rw [El.2.1,e2]
    have f3:w4.F=w.fs.length:=by subst hw4;show (w2.few a (l.length:Nat) 50).fs.length=_;rw [El.1,e1]
    have f4:w4.ab=lo:=by subst hw4;rfl
    have f5:w4.er=(w2.few a (l.length:Nat) 50).er:=by subst hw4;rfl
    have A4v:(let w:=(w2.few a (l.length:Nat) 50).EV t
         let w:RW:={ w with ab:=lo,F:=w.fs.length,fs:=w.fs++[(t,a,((l.length:Nat):Int),0,[])] };let r:=w.brings a [] l 0
         ({ rB d r.1 r.2 b false with F:=0,ab:=[] }:RW))={ rB d (w4.brings a [] l 0).1 (w4.brings a [] l 0).2 b false with F:=0,ab:=[] }:=by subst hw4;rfl
    rw [A4v];have hgl:=Qw w.gl t;have By0:pw w4<=pw w+2:=by
      unfold pw;rw [f1,f2,Ab4,BQ];simp only [tc,AW,Bp];omega
    have hF4:w4.F < w4.fs.length:=by rw [f3,f1];simp
    obtain ⟨g1,g2⟩:=MA (w:=w4) (a:=a) (lo:=[]) (l:=l) (n:=0);simp only [Bp] at g2;have hb4:Fh (w4.brings a [] l 0).1 (w4.brings a [] l 0).2 (sz b):=by
      refine ⟨by rw [g1.F];exact Nat.lt_of_lt_of_le hF4 g1.len,by have:=g1.pw;omega,by omega,by rw [g1.ab,f4];omega⟩
    have gB:=(Q9 d).2 b hq (w4.brings a [] l 0).1 (w4.brings a [] l 0).2 false;constructor;rw [KF,Aq,Air t (by omega) hk,Aq,Lm (by simp;omega),Aq,KI l.length (by omega) (by omega),Tc,Aq,Jh 0 l.length (by omega) (by omega) (Nat.zero_le _) (by omega),Aq,show ((l++[b]).drop 0).take (l.length - 0)=l by simp];have h2:=WF (w:=w4) (a:=a) (k:=k) 31 t (l.length:Nat) (l++[b]) [] l 0 hF4 (by omega) (by simp) (by omega) hk;rw [f1,f3,f5,show ((0:Nat):Int)=0 from rfl] at h2;rw [h2,Aq];have h3:=hB (w4.brings a [] l 0).1 (w4.brings a [] l 0).2 false hb4;rw [KA.1,KA.2.1,KA.2.2,f2,f3,f4] at h3;unfold o4w;dsimp only;rw [h3];rfl;have t1:=g1.pw;have t2:=gB.pw;have t3:=g1.len;have t4:=gB.len;have t5:w.fs.length<=w4.fs.length:=by rw [f1];simp
    exact ⟨by show pw (rB d (w4.brings a [] l 0).1 (w4.brings a [] l 0).2 b false)<=_;omega,by show w.fs.length<=(rB d (w4.brings a [] l 0).1 (w4.brings a [] l 0).2 b false).fs.length;omega,hP.1.symm,hP.2.symm⟩
  rw [KF,Aq];dsimp only;rw [V9,Aq];cases hkt:Ef t with
  | true =>
    rw [cond_true,N7 (w:=w.few a (w.fs.length:Nat) 100),Aq];obtain ⟨q1,q2⟩:=body ((w.few a (w.fs.length:Nat) 100).bad 5 a) (Jm.1.trans El.1) (Jm.2.1.trans El.2.1);exact ⟨q1,q2,rfl,rfl⟩
  | false =>
    rw [cond_false];obtain ⟨q1,q2⟩:=body (w.few a (w.fs.length:Nat) 100) El.1 El.2.1;exact ⟨q1,q2,rfl,rfl⟩
theorem Buu {k d:Nat} (hk:500020+3 * d<=k) {n a:Int} {t:Ah} {l:List Tree} (hl:∀ x ∈ l,IsS x\/O4 x) (hg:MC l) (hd:A_ l<=d+1) {w:RW} (hP:Pc0 w) (hb:Fh w [] (A_ l)) :
  (RC.at (k+3)).De w.fs w.gl (w.F:Int) w.ab w.er.1 w.er.2 20 t n a l [] false=some (o6 (rB (d+2) w [] (.mk 20 t n a l) false)):=by
 refine Afw (P:=Pc0) (by omega) (λx hx=>?_) hP hb;have hgx:=JV.1 hg x hx;have hsx:=IJ hx;rcases hl x hx with h | h;intro w lo hP hb;obtain ⟨q1,q2,q3,_⟩:=(Abi (d+1) (k+2) (by omega)).1 x h hgx (by omega) false w lo trivial hb;exact ⟨q1,q2,q3,q2.F.trans hP.1,q2.ab.trans hP.2⟩;cases h with
 | @fn a t l' b hq =>
  intro w lo hP hb;simp only [sz] at hsx;rw [DY] at hsx;simp only [A_] at hsx;obtain ⟨_,hgl⟩:=hgx;obtain ⟨q1,q2,q3⟩:=A4k (k:=k) (d:=d) (by omega) hq ((Abi d k (by omega)).2 b hq (JV.1 hgl b (by simp)) (by omega)) w lo false hP hb;refine ⟨?_,q2,by rw [Wz];exact Nat.le_add_right ..,q3⟩;show Df.g (RC.at (k+1)) (k+1) w.fs w.gl (w.F:Int) w.ab w.er.1 w.er.2 31 t (l'.length:Nat) a (l'++[b]) lo false=_;unfold Df.g AM;dsimp only;rw [eqC rfl,cond_true,q1,Aq];rw [Wz]
theorem Akl (J:Int->Option Int) (R:H2):∀ (t pre:List Tree) (m a:Nat),pre.length+t.length<=10000000->t.length+1<=m ->
  (∀ x ∈ t,R.DV x.kind x.text x.n x.at_ x.kids=some (htT x:Int))->DV.l0 m R (pre++t) J (a:Int) (pre.length:Int)=J ((max a (KH t):Nat):Int)
 | [],pre,m,a,hl,hm,_=>by
  obtain ⟨m,rfl⟩:∃ m',m=m'+1:=⟨m - 1,by omega⟩;simp only [DV.l0];rw [ltF (by simp)];simp [KH]
 | x :: t,pre,m,a,hl,hm,hR=>by
  obtain ⟨m,rfl⟩:∃ m',m=m'+1:=⟨m - 1,by omega⟩;simp only [AW] at hl hm;have ih:=λa=>Akl J R t (pre++[x]) m a (by simp;omega) (by omega) (λy hy=>hR y (EI _ hy));simp only [C7,BQ] at ih;simp only [DV.l0,AM];rw [Hj (by simp;omega),HZ];simp only [cond_true,Aq];rw [hR x (DN ..)];simp only [Aq];rw [wiC _ (by omega) (by omega)];by_cases h:(htT x:Int) > (a:Int);rw [decide_eq_true h,cond_true];refine (ih (htT x)).trans (congrArg J ?_);simp only [KH];omega;rw [decide_eq_false h,cond_false];refine (ih a).trans (congrArg J ?_);simp only [KH];omega
theorem Akj:∀ (k:Nat) (t:Tree),sz t<=k->sz t<=1000000->DV.g (H2.at k) k t.kind t.text t.n t.at_ t.kids=some (htT t:Int)
 | 0,t,h,_=>by have:=Mu t;omega
 | k+1,.mk kd tx n a l,h,h9=>by
  simp only [sz] at h h9;have hl:=Fr l;have hh:=Vw l;unfold DV.g AM;have:=Akl (λx2=>some (Au (x2+(1:Int)))) (H2.at (k+1)) l [] (k+1) 0 (by simp only [Bp];omega) (by omega) λx hx=>by
   have:=IJ hx;exact Akj k x (by omega) (by omega)
  refine this.trans ?_;rw [wiC _ (by omega) (by omega)];simp [htT]
theorem Aqt (s:Ah):(∃ c a,c≠0/\Jz s=Nc c a)\/∃ n,Jz s=Qd n/\wfC n/\sz n<=80010/\IsC n:=by
 cases hs:Gu (bs s) with
 | inl x =>
  obtain ⟨c,p⟩:=x;exact .inl ⟨c,p,W2 _ _ _ hs,Aan hs⟩
 | inr t =>
  have hT:=W4 s t hs;rcases WA hT with ⟨b,r,hb,hB,⟨_,he⟩ | ⟨_,he⟩⟩ | ⟨j,hb,he⟩;refine .inr ⟨b,Aao hs he,?_,?_,Bu3 hb⟩;obtain ⟨⟨a,l,rfl,hl⟩,_⟩:=(wS (fu _)).block true _ (As5 hs) _ _ (val_ok hb);exact ⟨rfl,Fz,λx hx=>Or.elim (hl x hx) .inl (λh=>.inr h.2)⟩;have:=hB.size;have:=hT.len;omega;exact .inl ⟨4,_,by decide,R6 hs he⟩;exact .inl ⟨4,_,by decide,R6 hs he⟩
theorem A4d (w:RW):(cond (w.er.1 != (0:Int)) (some (([]:List E5),([]:List Ah),w.er.1,w.er.2)) (some (w.fs,w.gl,(0:Int),(0:Int))))=some (if w.er.1≠0 then ([],[],w.er.1,w.er.2) else (w.fs,w.gl,0,0)):=by
 by_cases he:w.er.1=0;rw [if_neg (λh=>h he),show (w.er.1 != 0)=false by rw [he];rfl];rfl;rw [if_pos he,show (w.er.1 != 0)=true from bne_iff_ne.2 he];rfl
theorem Azw (k:Nat) (hk:2000000<=k) (s:Ah):PW.f k s=IP.f k s:=by
 rw [check_eq k (by omega)];unfold PW.f;rw [Bp7 k hk,Aq];rcases Aqt s with ⟨c,p,hc,he⟩ | ⟨n,he,hw,hz,hI⟩;rw [he];unfold Nc;simp only;rw [show (c != 0)=true by rw [bne_iff_ne];exact hc,cond_true,if_pos hc];rw [he];unfold Qd;obtain ⟨hg,_⟩:=Ac1 hw;have e:Tree.mk n.kind n.text n.n n.at_ n.kids=n:=by cases n;rfl
 simp only [bne_self_eq_false,cond_false,ne_eq,not_true_eq_false,if_false];rw [e,show DV.f k n.kind n.text n.n n.at_ n.kids=some (htT n:Int) from Akj k n (by omega) (by omega),<- Auv (d:=99998) hI hg (by omega)];simp only [Aq];unfold Ua;by_cases hh:htT n > 100;rw [decide_eq_true (by omega),if_pos hh];rfl;rw [decide_eq_false (by omega),if_neg hh,cond_false];cases hI with
 | @chunk n a t l hl =>
  simp only [sz] at hz;obtain ⟨_,hgl⟩:=hg;obtain ⟨k,rfl⟩:∃ m,k=m+3:=⟨k - 3,by omega⟩;have hb:=Buu (k:=k+1) (d:=99998) (by omega) (n:=n) (a:=a) (t:=t) hl hgl (by omega) (w:=⟨[(noB,a,0,0,[])],[],0,[],(0,0)⟩) ⟨rfl,rfl⟩ ⟨Nat.zero_lt_succ _,by simp [pw,tc];omega,by simp;omega,by simp⟩;have hb':De.f (k+3) [((⟨#[]⟩:Ah),a,(0:Int),(0:Int),[])] [] (0:Int) [] (0:Int) (0:Int) 20 t n a l [] false=_:=hb;show (De.f (k+3) [((⟨#[]⟩:Ah),a,(0:Int),(0:Int),[])] [] (0:Int) [] (0:Int) (0:Int) 20 t n a l [] false).bind _=_;rw [hb',Aq];unfold o6;simp only [Tree.at_];exact A4d _
end
section
open Go Go.RowKit
def IE.l0:Nat->(a0:List (Int×Int×Ah))->(a1:List (Int×Int×Ah))->(J2:(Unit->Option (Bool)))->(x3:Int)->Option (Bool)
 | 0,_,_,_,_=>none
 | m4+1,a0,a1,J2,x3=>cond (decide (x3 < ((a0.length:Nat):Int))) ((B7 a0 x3).bind λx6=>(B7 a1 x3).bind λx10=>cond (!((x6.1 == x10.1) && ((x6.2.1 == x10.2.1) && ((x6.2.2.toList == x10.2.2.toList) && true)))) (some (false)) (IE.l0 m4 a0 a1 J2 (Au (x3+1)))) (J2 ())
def IE.f (k:Nat) (a0:Cg) (a1:Cg):Option (Bool):=cond (((a0.length:Nat):Int) != ((a1.length:Nat):Int)) (some (false)) (AM (λ(_:Unit)=>some (true)) (λJ2=>IE.l0 k a0 a1 J2 0))
theorem IE.ok {k Fw Hd:Nat} {a0 a1:Cg} {FN Lk:N} {Fu Hc:AG} {r:Bool} (h:IE.f k a0 a1=some r) (JN:AZ e43 3 FN (W Fu a0 Fw) a0) (M3:AZ e43 3 Lk (W Hc a1 Hd) a1): Ct Tryz.prog 19 #[W Fu a0 Fw,W Hc a1 Hd] [] [FN,Lk] (λe l1=>e=.returned (bv r)/\l1=[]):=by
 refine BJ Tryz.func19 V (AV V) ?_;intro A X hh_;obtain ⟨JW,QE,_⟩:=hh_;unfold IE.f at h;refine ksr (M 1 (G (AU (ksr (M 5 (G (Az h (λh=>?_) λh=>?_)))))));refine ksr (M 1 (G (Ba (Bm ?_))));obtain rfl:=Ao h;exact kdn V;refine AK (At ?_);obtain ⟨J2,hJ2,h⟩:=BF h;refine BG (τ:=Unit) (λt=>[]) (λt=>X) (λt=>J2 ()=some r) ?_ ?_;rintro ⟨⟩ h;subst hJ2;refine ksr (M 1 (G (Ba ?_)));obtain rfl:=Ao h;exact kdn V;refine ksr (M 1 (G (B4 (Dd (τ:=Int) (λt=>[(0,W Fu a0 Fw),(1,W Hc a1 Hd),(5,I t)]) (λt=>X) (λm t=>IE.l0 m a0 a1 J2 t=some r) k 0 h sb V ?_))));clear h;rintro m4 x3 h;rcases m4 with _ | m4;simp [IE.l0] at h;simp only [IE.l0] at h;refine AU (ksr (M 4 (G (Az h (λh=>?_) λh=>?_))));refine AK (At (AU (B4 (AU (KO [(0,0),(1,0),(2,0),(3,3),(4,0),(5,0),(6,0),(7,3)] [FN,Lk] (λw h_=>⟨h_.sat.on _ JW,h_.sat.on _ QE,Aj⟩) (AA 2 (bnd h λx6 hx6 h=>(KM (T:=43) (kd:=.i64) NC V hx6 JN λp7 e8 y9=>?_))))))));have e8:Elem _ p7 [I x6.1,I x6.2.1,D x6.2.2]:=e8;refine I3 V e8 (λw h_=>h_.mem _ (.head _)) (AA 2 (bnd h λx10 SV h=>(KM (T:=43) (kd:=.i64) NC V SV M3 λp11 e12 y13=>?_)));have e12:Elem _ p11 [I x10.1,I x10.2.1,D x10.2.2]:=e12;refine I3 V e12 (λw h_=>h_.mem _ (.tail _ (.head _))) (BA (QX (r:=((x6.1 == x10.1) && ((x6.2.1 == x10.2.1) && ((x6.2.2.toList == x10.2.2.toList) && true)))) (xs:=#[I x6.1,I x6.2.1,D x6.2.2]) (ys:=#[I x10.1,I x10.2.1,D x10.2.2]) true (by kernel_rfl) V (by kernel_rfl) (by kernel_rfl) (by kernel_rfl) (by kernel_rfl) (by kernel_rfl) (by kernel_rfl) (by kernel_rfl) (G (Az h (λh=>?_) λh=>?_))));refine ksr (M 1 (G (Ba (B_ (Bm (Bm (B_ (Bm ?_))))))));obtain rfl:=Ao h;exact kdn V;exact AK (Bf (At (AO (M 3 (G (CD m4 (Au (x3+1)) (Nat.lt_succ_self _) h sb V))))));exact CX (BL (BL (CY (At (AF () h trivial V)))))
def I5.l0:Nat->(a0:List Ah)->(a1:List Ah)->(J2:(Unit->Option (Bool)))->(x3:Int)->Option (Bool)
 | 0,_,_,_,_=>none
 | m4+1,a0,a1,J2,x3=>cond (decide (x3 < ((a0.length:Nat):Int))) ((B7 a0 x3).bind λx6=>(B7 a1 x3).bind λx10=>cond (!(x6.toList == x10.toList)) (some (false)) (I5.l0 m4 a0 a1 J2 (Au (x3+1)))) (J2 ())
def I5.f (k:Nat) (a0:Av) (a1:Av):Option (Bool):=cond (((a0.length:Nat):Int) != ((a1.length:Nat):Int)) (some (false)) (AM (λ(_:Unit)=>some (true)) (λJ2=>I5.l0 k a0 a1 J2 0))
theorem I5.ok {k Fw Hd:Nat} {a0 a1:Av} {FN Lk:N} {Fu Hc:AG} {r:Bool} (h:I5.f k a0 a1=some r) (JN:AZ encS 1 FN (W Fu a0 Fw) a0) (M3:AZ encS 1 Lk (W Hc a1 Hd) a1): Ct Tryz.prog 18 #[W Fu a0 Fw,W Hc a1 Hd] [] [FN,Lk] (λe l1=>e=.returned (bv r)/\l1=[]):=by
 refine BJ Tryz.func18 V (AV V) ?_;intro A X hh_;obtain ⟨JW,QE,_⟩:=hh_;unfold I5.f at h;refine ksr (M 1 (G (AU (ksr (M 5 (G (Az h (λh=>?_) λh=>?_)))))));refine ksr (M 1 (G (Ba (Bm ?_))));obtain rfl:=Ao h;exact kdn V;refine AK (At ?_);obtain ⟨J2,hJ2,h⟩:=BF h;refine BG (τ:=Unit) (λt=>[]) (λt=>X) (λt=>J2 ()=some r) ?_ ?_;rintro ⟨⟩ h;subst hJ2;refine ksr (M 1 (G (Ba ?_)));obtain rfl:=Ao h;exact kdn V;refine ksr (M 1 (G (B4 (Dd (τ:=Int) (λt=>[(0,W Fu a0 Fw),(1,W Hc a1 Hd),(5,I t)]) (λt=>X) (λm t=>I5.l0 m a0 a1 J2 t=some r) k 0 h sb V ?_))));clear h;rintro m4 x3 h;rcases m4 with _ | m4;simp [I5.l0] at h;simp only [I5.l0] at h;refine AU (ksr (M 4 (G (Az h (λh=>?_) λh=>?_))));refine AK (At (AU (B4 (AU (KO [(0,0),(1,0),(2,0),(3,3),(4,0),(5,0),(6,0),(7,3)] [FN,Lk] (λw h_=>⟨h_.sat.on _ JW,h_.sat.on _ QE,Aj⟩) (AA 2 (bnd h λx6 hx6 h=>(KM (T:=9) (kd:=.i64) E8 V hx6 JN λp7 e8 y9=>?_))))))));have e8:Elem _ p7 [D x6]:=e8;refine L5 V (by kernel_rfl) (by kernel_rfl) (by kernel_rfl) (by kernel_rfl) e8 (λw h_=>h_.mem _ (.head _)) (AA 2 (bnd h λx10 SV h=>(KM (T:=9) (kd:=.i64) E8 V SV M3 λp11 e12 y13=>?_)));have e12:Elem _ p11 [D x10]:=e12;refine L5 V (by kernel_rfl) (by kernel_rfl) (by kernel_rfl) (by kernel_rfl) e12 (λw h_=>h_.mem _ (.tail _ (.head _))) (BA (M 1 (G (Az h (λh=>?_) λh=>?_))));refine ksr (M 1 (G (Ba (B_ (Bm (Bm (B_ (Bm ?_))))))));obtain rfl:=Ao h;exact kdn V;exact AK (Bf (At (AO (M 3 (G (CD m4 (Au (x3+1)) (Nat.lt_succ_self _) h sb V))))));exact CX (BL (BL (CY (At (AF () h trivial V)))))
def I4.l0:Nat->(Ai:List (Ah×Int×Int×Int×List (Int×Int×Ah)))->(AI:List (Ah×Int×Int×Int×List (Int×Int×Ah)))->(J5:(Unit->Option (Bool)))->(x6:Int)->Option (Bool)
 | 0,_,_,_,_=>none
 | m7+1,Ai,AI,J5,x6=>cond (decide (x6 < ((Ai.length:Nat):Int))) (AM (λ(x10:Ah) (x11:Int) (x12:Int) (CV:Int) (Gk:Cg) (x20:Ah) (x21:Int) (x22:Int) (x23:Int) (l24:Cg)=>(cond (!(x10.toList == x20.toList)) (some true) (cond (x11 != x21) (some true) (cond (x12 != x22) (some true) (cond (CV != x23) (some true) ((IE.f m7 Gk l24).bind λr36=>some (!r36))))):Option Bool).bind λq30=>cond q30 (some (false)) (I4.l0 m7 Ai AI J5 (Au (x6+1)))) (λJ29=>(B7 Ai x6).bind λx37=>(B7 AI x6).bind λx46=>J29 x37.1 x37.2.1 x37.2.2.1 x37.2.2.2.1 x37.2.2.2.2 x46.1 x46.2.1 x46.2.2.1 x46.2.2.2.1 x46.2.2.2.2)) (J5 ())
def I4.f (k:Nat) (Ai:Bg) (Ak:Av) (AI:Bg) (AJ:Av):Option (Bool):=(cond (((Ai.length:Nat):Int) != ((AI.length:Nat):Int)) (some true) ((I5.f k Ak AJ).bind λr60=>some (!r60)):Option Bool).bind λq3=>cond q3 (some (false)) (AM (λ(_:Unit)=>some (true)) (λJ5=>I4.l0 k Ai AI J5 0))
theorem I4.ok {k An Bv NA NB:Nat} {Ai AI:Bg} {Ak AJ:Av} {AH B9 UA Aez:N} {Am Bt N1 N2:AG} {r:Bool} (h:I4.f k Ai Ak AI AJ=some r) (As:RdR Fg AH (W Am Ai An) Ai) (BV:AZ encS 1 B9 (W Bt Ak Bv) Ak) (Ayc:RdR DL UA (W N1 AI NA) AI) (Ayd:AZ encS 1 Aez (W N2 AJ NB) AJ): Ct Tryz.prog 8 #[.agg #[W Am Ai An,W Bt Ak Bv],.agg #[W N1 AI NA,W N2 AJ NB]] [] [AH,B9,UA,Aez] (λe l1=>e=.returned (bv r)/\l1=[]):=by
 refine BJ Tryz.func8 V (AV V) ?_;intro A X hh_;obtain ⟨A2,Yh,Vt,Bbn,_⟩:=hh_;unfold I4.f at h;refine ksr (knp #[W Am Ai An,W Bt Ak Bv] 25 λb1=>(knp #[W N1 AI NA,W N2 AJ NB] 33 λb2=>(M 1 (G (AU (bnd h λq3 hq3 h=>?_))))));refine CH [(2,pt b1),(3,pt b2),(22,bv q3)] (bk b2 #[W N1 AI NA,W N2 AJ NB] 33 :: bk b1 #[W Am Ai An,W Bt Ak Bv] 25 :: X) ?_ ?_;clear hq3;refine Az h (λh=>?_) λh=>?_;refine ksr (M 1 (G (Ba (Bm ?_))));obtain rfl:=Ao h;exact Ar (Ar (kdn V));refine AK (At ?_);obtain ⟨J5,hJ5,h⟩:=BF h;refine BG (τ:=Unit) (λt=>[]) (λt=>X) (λt=>J5 ()=some r) ?_ ?_;rintro ⟨⟩ h;subst hJ5;refine ksr (M 1 (G (Ba ?_)));obtain rfl:=Ao h;exact kdn V;refine ksr (M 1 (G (B4 (Dd (τ:=Int) (λt=>[(2,pt b1),(3,pt b2),(5,I t)]) (λt=>bk b2 #[W N1 AI NA,W N2 AJ NB] 33 :: bk b1 #[W Am Ai An,W Bt Ak Bv] 25 :: X) (λm t=>I4.l0 m Ai AI J5 t=some r) k 0 h sb V ?_))));clear h;rintro m7 x6 h;rcases m7 with _ | m7;simp [I4.l0] at h;simp only [I4.l0] at h;refine AU (ksr (M 2 (kld 1 0 V (M 2 (G (Az h (λh=>?_) λh=>?_))))));refine AK (At (AU (B4 ?_)));obtain ⟨J29,hJ29,h⟩:=BF h;refine BG (τ:=Ah×Int×Int×Int×Cg×Ah×Int×Int×Int×Cg×Nat×AG×Nat×Nat×AG×Nat) (c16 λ_ _ _ _ _ _ _ _ _ _ n _ _ q _ _=>[(2,pt b1),(3,pt b2),(5,I x6),(6,pt n),(7,pt q)]) (c16 λa b c d e f g i j l n o p q s u=>bk n #[D a,I b,I c,I d,W o e p] 41 :: bk q #[D f,I g,I i,I j,W s l u] 68 :: bk b2 #[W N1 AI NA,W N2 AJ NB] 33 :: bk b1 #[W Am Ai An,W Bt Ak Bv] 25 :: X) (c16 λa b c d e f g i j l _ o p _ s u=>J29 a b c d e f g i j l=some r/\AZ e43 3 AH (W o e p) e/\AZ e43 3 UA (W s l u) l) ?_ ?_;rintro ⟨x10,x11,x12,CV,Gk,x20,x21,x22,x23,l24,b9,LU,k17,b19,A26,k27⟩ ⟨h,Gp,IZ⟩;subst hJ29;refine bnd h λq30 Pb h=>?_;refine CH [(2,pt b1),(3,pt b2),(5,I x6),(73,bv q30)] (bk b2 #[W N1 AI NA,W N2 AJ NB] 33 :: bk b1 #[W Am Ai An,W Bt Ak Bv] 25 :: X) ?_ ?_;clear Pb;refine Az h (λh=>?_) λh=>?_;refine ksr (M 1 (G (Ba (B_ (Bm (Bm (B_ (Bm ?_))))))));obtain rfl:=Ao h;exact Ar (Ar (kdn V));exact AK (Bf (At (AO (M 3 (G (CD m7 (Au (x6+1)) (Nat.lt_succ_self _) h sb V))))));have h:=Pb;clear Pb;refine AO (M 1 (kld 0 0 V (M 1 (kld 1 0 V (M 2 (B3 45 h (λh=>?_) λh=>?_))))));exact M 28 (G (Ar (Ar (AX ⟨gr,gr,gr,gb (Ao h),Aj⟩))));refine M 1 (kld 0 1 V (M 1 (kld 1 1 V (M 3 (B3 52 h (λh=>?_) λh=>?_)))));exact M 21 (G (Ar (Ar (AX ⟨gr,gr,gr,gb (Ao h),Aj⟩))));refine M 1 (kld 0 2 V (M 1 (kld 1 2 V (M 3 (B3 59 h (λh=>?_) λh=>?_)))));exact M 14 (G (Ar (Ar (AX ⟨gr,gr,gr,gb (Ao h),Aj⟩))));refine M 1 (kld 0 3 V (M 1 (kld 1 3 V (M 3 (B3 66 h (λh=>?_) λh=>?_)))));exact M 7 (G (Ar (Ar (AX ⟨gr,gr,gr,gb (Ao h),Aj⟩))));exact M 1 (kld 0 4 V (Ar (M 1 (kld 0 4 V (Ar (bnd h λr36 GG h=>(CI (IE.ok GG Gp IZ) ⟨(t2 A2),(t2 Vt),Aj⟩ (M 2 (G (AX ⟨gr,gr,gr,gb (Ao h),Aj⟩))))))))));refine Bhp [(0,0),(1,3),(2,0),(3,0),(4,3),(5,0),(6,3),(7,0),(8,0),(9,3)] 10 11 13 [(12,1)] (λw=>E6 [bk b2 #[W N1 AI NA,W N2 AJ NB] 33,bk b1 #[W Am Ai An,W Bt Ak Bv] 25,AH,UA] w) (by kernel_rfl) (by kernel_rfl) (λ_ _ d _ _ h=>by cases d <;> exact h) (λw h_=>⟨h_.sat.on _ (.head _),h_.sat.on _ (.tail _ (.head _)),h_.sat.on _ (t2 A2),h_.sat.on _ (t2 Vt),Aj⟩) ?_;simp only [DJ,List.filterMap_cons,List.filterMap_nil,List.getElem?_toArray,List.getElem?_cons_zero,List.getElem?_cons_succ,Option.map_some,List.drop_succ_cons,List.drop_zero,AW,Bp];refine AA 1 (Bl 1 0 V (AA 1 (bnd h λx37 YY h=>(KN (T:=41) (kd:=.i64) (R:=Fg) V YY As λp38 u41 q42 e39 y40=>?_))));obtain ⟨JJ,Kb,rfl,IB⟩:=Wy q42;refine I3 V e39 (λw h_=>h_.mem _ (.tail _ (.tail _ (.head _)))) (AA 1 (Bl 0 0 V (AA 1 (bnd h λx46 Bfj h=>(KN (T:=68) (kd:=.i64) (R:=DL) V Bfj Ayc λp47 u50 q51 e48 y49=>?_)))));obtain ⟨Ny,NJ,rfl,o54⟩:=Ud q51;refine I3 V e48 (λw h_=>h_.mem _ (.tail _ (.tail _ (.tail _ (.head _))))) (BA ?_);refine Bhn ?_ ?_;refine V7 (.cells #[D noS,I 0,I 0,I 0,nS] 41 (0,0)) (λb=>pt b) V (λ_ h=>E6.alloc h) (by kernel_rfl) (by kernel_rfl) (λ_=>by kernel_rfl) λUP=>(V7 (.cells #[D noS,I 0,I 0,I 0,nS] 68 (0,0)) (λb=>pt b) V (λ_ h=>E6.alloc h) (by kernel_rfl) (by kernel_rfl) (λ_=>by kernel_rfl) λb56=>?_);simp only [OP,DJ,List.filterMap_cons,List.filterMap_nil,List.getElem?_toArray,List.getElem?_cons_zero,List.getElem?_cons_succ,Option.map_some,List.drop_succ_cons,List.drop_zero];exact kpt (Al (ost 0 5 #[D x37.1,I x37.2.1,I x37.2.2.1,I x37.2.2.2.1,W JJ x37.2.2.2.2 Kb] (L4 (λw h_=>⟨h_.sat.on _ (.tail _ (.tail _ (.head _))),h_.sat.on _ (.tail _ (.tail _ (.tail _ (.head _)))),h_.sat.on _ (t4 A2),h_.sat.on _ (t4 Vt),Aj⟩) (BA (Al (AC 0 5 #[D x46.1,I x46.2.1,I x46.2.2.1,I x46.2.2.2.1,W Ny x46.2.2.2.2 NJ] (G (Ap (Ap (Ay (Ap (AF (x37.1,x37.2.1,x37.2.2.1,x37.2.2.2.1,x37.2.2.2.2,x46.1,x46.2.1,x46.2.2.1,x46.2.2.2.1,x46.2.2.2.2,UP,JJ,Kb,b56,Ny,NJ) ⟨h,IB,o54⟩ sb V))))))))))));refine V7 (.cells #[D noS,I 0,I 0,I 0,nS] 68 (0,0)) (λb=>pt b) V (λ_ h=>E6.alloc h) (by kernel_rfl) (by kernel_rfl) (λ_=>by kernel_rfl) λb57=>(V7 (.cells #[D noS,I 0,I 0,I 0,nS] 41 (0,0)) (λb=>pt b) V (λ_ h=>E6.alloc h) (by kernel_rfl) (by kernel_rfl) (λ_=>by kernel_rfl) λb58=>?_);simp only [OP,DJ,List.filterMap_cons,List.filterMap_nil,List.getElem?_toArray,List.getElem?_cons_zero,List.getElem?_cons_succ,Option.map_some,List.drop_succ_cons,List.drop_zero];exact kpt (ost 0 5 #[D x37.1,I x37.2.1,I x37.2.2.1,I x37.2.2.2.1,W JJ x37.2.2.2.2 Kb] (L4 (λw h_=>⟨h_.sat.on _ (.tail _ (.tail _ (.head _))),h_.sat.on _ (.tail _ (.tail _ (.tail _ (.head _)))),h_.sat.on _ (t4 A2),h_.sat.on _ (t4 Vt),Aj⟩) (BA (Al (AC 0 5 #[D x46.1,I x46.2.1,I x46.2.2.1,I x46.2.2.2.1,W Ny x46.2.2.2.2 NJ] (G (Ap (Ap (Ay (Ap (AF (x37.1,x37.2.1,x37.2.2.1,x37.2.2.2.1,x37.2.2.2.2,x46.1,x46.2.1,x46.2.2.1,x46.2.2.2.1,x46.2.2.2.2,b58,JJ,Kb,b57,Ny,NJ) ⟨h,IB,o54⟩ sb V)))))))))));exact CX (BL (BL (CY (At (Ar (Ar (AF () h trivial V)))))));have h:=hq3;clear hq3;refine AO (M 1 (kld 1 0 V (M 2 (kld 0 0 V (M 3 (B3 15 h (λh=>?_) λh=>?_))))));exact M 7 (G (AX ⟨gr,gr,gb (Ao h),Aj⟩));exact M 1 (kld 1 1 V (M 1 (kld 0 1 V (bnd h λr60 MM h=>(CI (I5.ok MM BV Ayd) ⟨(t2 Yh),(t2 Bbn),Aj⟩ (M 2 (G (AX ⟨gr,gr,gb (Ao h),Aj⟩))))))))
def P2.f (k:Nat) (a0:Ah):Option (Bool):=(IP.f k a0).bind λr1=>(PW.f k a0).bind λr12=>((P3.f k).bind λEa=>cond Ea (cond ((r1.2.2.1 == r12.2.2.1) && ((r1.2.2.2 == r12.2.2.2) && true)) ((I4.f k r1.1 r1.2.1 r12.1 r12.2.1).bind λr27=>some r27) (some false)) (some false):Option Bool).bind λq23=>some (q23)
theorem P2.ok {k:Nat} {a0:Ah} {Af:N} {r:Bool} (h:P2.f k a0=some r) (hG:JK Af): Ct Tryz.prog 3 #[D a0] [] [Af] (λe l1=>e=.returned (bv r)/\l1=[]):=by
 refine BJ Tryz.func3 V (AV V) ?_;intro A X hh_;obtain ⟨DO,_⟩:=hh_;unfold P2.f at h;refine ksr (M 1 (AY (M 1 (bnd h λr1 hr1 h=>(Ch (IP.ok hr1 hG) V ⟨DO,Aj⟩ ?_)))));rintro _ _ ⟨h2,A3,k4,h6,A7,k8,o5,o9,rfl,rfl⟩;refine BH (M 3 (knp #[nS,nS] 25 λb10=>(knp #[I 0,I 0] 28 λb11=>(Al (AC 0 2 #[W A3 r1.1 k4,W A7 r1.2.1 k8] (Al (AC 0 2 #[I r1.2.2.1,I r1.2.2.2] (AY (M 1 (bnd h λr12 JX h=>(Ch (PW.ok JX) V trivial ?_)))))))))));rintro _ _ ⟨h13,E3,k15,h17,Ix,k19,o16,o20,rfl,rfl⟩;refine BH (M 3 (knp #[nS,nS] 33 λb21=>(knp #[I 0,I 0] 28 λb22=>(Al (AC 0 2 #[W E3 r12.1 k15,W Ix r12.2.1 k19] (Al (AC 0 2 #[I r12.2.2.1,I r12.2.2.2] (G (bnd h λq23 Yq h=>?_)))))))));refine CH [(2,bv q23)] (X) ?_ ?_;clear Yq;refine Ba ?_;obtain rfl:=Ao h;exact kdn V;have h:=Yq;clear Yq;refine AO (bnd h λEa MH h=>(CI (P3.ok MH hG) ⟨(t8 DO),Aj⟩ (M 1 (B3 18 h (λh=>?_) λh=>?_))));refine BW 4 0 2 V (Bb (Ar (BW 0 0 2 V (Ar (QX (r:=((r1.2.2.1 == r12.2.2.1) && ((r1.2.2.2 == r12.2.2.2) && true))) (xs:=#[I r1.2.2.1,I r1.2.2.2]) (ys:=#[I r12.2.2.1,I r12.2.2.2]) false (by kernel_rfl) V (by kernel_rfl) (by kernel_rfl) (by kernel_rfl) (by kernel_rfl) (by kernel_rfl) (by kernel_rfl) (by kernel_rfl) (M 2 (B3 23 h (λh=>?_) λh=>?_)))))));exact BW 3 0 2 V (Ap (Ar (BW 0 0 2 V (Ar (bnd h λr27 J_ h=>(CI (I4.ok J_ (AN.rd o5) (AL.rd o9) (AN.rd o16) (AL.rd o20)) ⟨(.tail _ (.tail _ (.head _))),(.tail _ (.tail _ (.tail _ (.head _)))),(.head _),(.tail _ (.head _)),Aj⟩ (Ar (Ar (Ar (Ar (M 2 (G (AX ⟨gb (Ao h),Aj⟩)))))))))))));exact M 5 (G (Ar (Ar (Ar (Ar (Ar (Ar (AX ⟨gb (Ao h),Aj⟩))))))));exact M 10 (G (Ar (Ar (Ar (Ar (Ar (Ar (Ar (Ar (AX ⟨gb (Ao h),Aj⟩))))))))))
end
section
open Go Go.RowKit Lx
theorem A4w {d:Nat} {t:Ah} {a:Int} {l:List Tree} {b:Tree} (hq:FD b) {w:RW} {lo:List Ah} {lp:Bool} (hP:Pc0 w) :
    Gr w (C9 (d+1) w lo (.mk 31 t (l.length:Nat) a (l++[b])) lp).1 (2 * sz (.mk 31 t (l.length:Nat) a (l++[b])))/\Pc0 (C9 (d+1) w lo (.mk 31 t (l.length:Nat) a (l++[b])) lp).1:=by
  rw [Wz];simp only [sz];rw [DY];simp only [A_];refine ⟨?_,rfl,rfl⟩;obtain ⟨w2,h2⟩:∃ w2:RW,w2=(if Ef t then (w.few a (w.fs.length:Nat) 100).bad 5 a else w.few a (w.fs.length:Nat) 100):=⟨_,rfl⟩;have e1:w2.fs=w.fs/\w2.gl=w.gl:=by
    subst h2;split;exact ⟨Jm.1.trans El.1,Jm.2.1.trans El.2.1⟩;exact ⟨El.1,El.2.1⟩
  obtain ⟨w4,hw4⟩:∃ w4:RW,w4={ (w2.few a (l.length:Nat) 50).EV t with ab:=lo,F:=((w2.few a (l.length:Nat) 50).EV t).fs.length,fs:=((w2.few a (l.length:Nat) 50).EV t).fs++[(t,a,((l.length:Nat):Int),0,[])] }:=⟨_,rfl⟩;have f1:w4.fs=w.fs++[(t,a,((l.length:Nat):Int),0,[])]:=by subst hw4;show (w2.few a (l.length:Nat) 50).fs++_=_;rw [El.1,e1.1]
  have f2:w4.gl=EU w.gl t:=by subst hw4;show EU (w2.few a (l.length:Nat) 50).gl t=_;rw [El.2.1,e1.2]
  have hgl:=Qw w.gl t;have t1:pw w4<=pw w+2:=by
    unfold pw;rw [f1,f2,Ab4,BQ];simp only [tc,AW,Bp];omega
  have t2:w.fs.length<=w4.fs.length:=by rw [f1];simp
  obtain ⟨g1,_⟩:=MA (w:=w4) (a:=a) (lo:=[]) (l:=l) (n:=0);have g2:=(Q9 d).2 b hq (w4.brings a [] l 0).1 (w4.brings a [] l 0).2 false;have t3:=g1.pw;have t4:=g1.len;have t5:=g2.pw;have t6:=g2.len;have eg:(let w:=w.few a (w.fs.length:Nat) 100
     let w:=if Ef t then w.bad 5 a else w
     let w:=(w.few a (l.length:Nat) 50).EV t;let w:RW:={ w with ab:=lo,F:=w.fs.length,fs:=w.fs++[(t,a,((l.length:Nat):Int),0,[])] };let r:=w.brings a [] l 0
     ({ rB d r.1 r.2 b false with F:=0,ab:=[] }:RW))={ rB d (w4.brings a [] l 0).1 (w4.brings a [] l 0).2 b false with F:=0,ab:=[] }:=by subst hw4;subst h2;rfl
  show Gr w (let w:=w.few a (w.fs.length:Nat) 100
     let w:=if Ef t then w.bad 5 a else w
     let w:=(w.few a (l.length:Nat) 50).EV t;let w:RW:={ w with ab:=lo,F:=w.fs.length,fs:=w.fs++[(t,a,((l.length:Nat):Int),0,[])] };let r:=w.brings a [] l 0
     ({ rB d r.1 r.2 b false with F:=0,ab:=[] }:RW)) _
  rw [eg];exact ⟨by show pw (rB d (w4.brings a [] l 0).1 (w4.brings a [] l 0).2 b false)<=_;omega,by show w.fs.length<=(rB d (w4.brings a [] l 0).1 (w4.brings a [] l 0).2 b false).fs.length;omega,hP.1.symm,hP.2.symm⟩
theorem Ai1 {d:Nat}:∀ {l:List Tree} {w:RW} {lo:List Ah},(∀ x ∈ l,IsS x\/O4 x)->Pc0 w->pw (Hq (λw lo x=>C9 (d+1) w lo x false) w lo l)<=pw w+2 * A_ l
 | [],w,lo,_,_=>Nat.le_refl _
 | x :: l,w,lo,h,hP=>by
  unfold Hq;simp only [A_];split;omega;have hx:Gr w (C9 (d+1) w lo x false).1 (2 * sz x)/\Pc0 (C9 (d+1) w lo x false).1:=by
   rcases h x (DN ..) with hs | hf;have:=((Q9 (d+1)).1 x hs w lo false).1;exact ⟨this.weak (by omega),this.F.trans hP.1,this.ab.trans hP.2⟩;cases hf with
   | @fn a t l' b hq=>exact A4w hq hP
  have:=hx.1.pw;have:=Ai1 (d:=d) (l:=l) (lo:=(C9 (d+1) w lo x false).2) (λy hy=>h y (EI _ hy)) hx.2;omega
theorem Btt (w:RW) (h:pw w<=400000):(if w.er.1≠0 then (([]:List E5),([]:Av),w.er.1,w.er.2) else (w.fs,w.gl,0,0)).1.length<=400000/\(if w.er.1≠0 then (([]:List E5),([]:Av),w.er.1,w.er.2) else (w.fs,w.gl,0,0)).2.1.length<=400000 /\
  ∀ x ∈ (if w.er.1≠0 then (([]:List E5),([]:List Ah),w.er.1,w.er.2) else (w.fs,w.gl,0,0)).1,x.2.2.2.2.length<=400000:=by
 by_cases he:w.er.1=0;rw [if_neg (λh=>h he)];unfold pw at h;exact ⟨by dsimp only;omega,by dsimp only;omega,λx hx=>by have:=Ab5 (l:=w.fs) hx;omega⟩;rw [if_pos he];exact ⟨by simp,by simp,λx hx=>by cases hx⟩
theorem Bsb (s:Ah):∃ r:Rep,(∀ k,900000<=k->IP.f k s=some r)/\r.1.length<=400000/\r.2.1.length<=400000/\∀ x ∈ r.1,x.2.2.2.2.length<=400000:=by
 rcases Aqt s with ⟨c,p,hc,he⟩ | ⟨n,he,hw,hz,hI⟩;refine ⟨([],[],c,p),λk hk=>?_,by simp,by simp,λx hx=>by cases hx⟩;rw [check_eq k hk,he];unfold Nc;simp only;rw [if_pos hc];obtain ⟨hg,_⟩:=Ac1 hw;refine ⟨Ua (99998+2) n,λk hk=>?_,?_⟩;rw [check_eq k hk,he];unfold Qd;have e:Tree.mk n.kind n.text n.n n.at_ n.kids=n:=by cases n;rfl
 simp only [ne_eq,not_true_eq_false,if_false];rw [e,Auv (d:=99998) hI hg (by omega)];unfold Ua;split;exact ⟨by simp,by simp,λx hx=>by cases hx⟩;cases hI with
 | @chunk n a t l hl =>
  simp only [sz] at hz;have hp:=Ai1 (d:=99998) (l:=l) (w:=⟨[(noB,a,0,0,[])],[],0,[],(0,0)⟩) (lo:=[]) hl ⟨rfl,rfl⟩;have e0:pw (⟨[(noB,a,0,0,[])],[],0,[],(0,0)⟩:RW)=1:=rfl;rw [e0] at hp;simp only [Tree.at_];have er:rB (99998+2) (⟨[(noB,a,0,0,[])],[],0,[],(0,0)⟩:RW) [] (.mk 20 t n a l) false=Hq (λw lo x=>C9 (99998+1) w lo x false) ⟨[(noB,a,0,0,[])],[],0,[],(0,0)⟩ [] l:=rfl;rw [<- er] at hp;exact Btt _ (by omega)
theorem At9:∀ (t pre:List V3) (m:Nat),pre.length+t.length<=1000000->t.length+1<=m->IE.l0 m (pre++t) (pre++t) (λ_=>some true) (pre.length:Int)=some true
 | [],pre,m,hl,hm=>by
  obtain ⟨m,rfl⟩:∃ m',m=m'+1:=⟨m - 1,by omega⟩;simp only [IE.l0];rw [ltF (by simp)];rfl
 | x :: t,pre,m,hl,hm=>by
  obtain ⟨m,rfl⟩:∃ m',m=m'+1:=⟨m - 1,by omega⟩;simp only [AW] at hl hm;simp only [IE.l0];rw [Hj (by simp;omega),HZ];simp only [cond_true,Aq,beq_self_eq_true,Bool.and_true,Bool.not_true,cond_false];rw [wiC _ (by omega) (by omega)];have ih:=At9 t (pre++[x]) m (by simp;omega) (by omega);rw [C7,BQ] at ih;exact ih
theorem Buc (k:Nat) (l:List V3) (hl:l.length<=400000) (hk:450000<=k):IE.f k l l=some true:=by
 unfold IE.f AM;simp only [bne_self_eq_false,cond_false];exact At9 l [] k (by simp;omega) (by omega)
theorem Atp:∀ (t pre:List Ah) (m:Nat),pre.length+t.length<=1000000->t.length+1<=m->I5.l0 m (pre++t) (pre++t) (λ_=>some true) (pre.length:Int)=some true
 | [],pre,m,hl,hm=>by
  obtain ⟨m,rfl⟩:∃ m',m=m'+1:=⟨m - 1,by omega⟩;simp only [I5.l0];rw [ltF (by simp)];rfl
 | x :: t,pre,m,hl,hm=>by
  obtain ⟨m,rfl⟩:∃ m',m=m'+1:=⟨m - 1,by omega⟩;simp only [AW] at hl hm;simp only [I5.l0];rw [Hj (by simp;omega),HZ];simp only [cond_true,Aq,beq_self_eq_true,Bool.not_true,cond_false];rw [wiC _ (by omega) (by omega)];have ih:=Atp t (pre++[x]) m (by simp;omega) (by omega);rw [C7,BQ] at ih;exact ih
theorem st_eq (k:Nat) (l:List Ah) (hl:l.length<=400000) (hk:450000<=k):I5.f k l l=some true:=by
 unfold I5.f AM;simp only [bne_self_eq_false,cond_false];exact Atp l [] k (by simp;omega) (by omega)
theorem Atm:∀ (t pre:List E5) (m:Nat),(∀ x ∈ t,x.2.2.2.2.length<=400000)->pre.length+t.length<=1000000->t.length+450001<=m->I4.l0 m (pre++t) (pre++t) (λ_=>some true) (pre.length:Int)=some true
 | [],pre,m,_,hl,hm=>by
  obtain ⟨m,rfl⟩:∃ m',m=m'+1:=⟨m - 1,by omega⟩;simp only [I4.l0];rw [ltF (by simp)];rfl
 | x :: t,pre,m,hc,hl,hm=>by
  obtain ⟨m,rfl⟩:∃ m',m=m'+1:=⟨m - 1,by omega⟩;simp only [AW] at hl hm;have hx:=hc x (DN ..);simp only [I4.l0,AM];rw [Hj (by simp;omega),HZ];simp only [cond_true,Aq,beq_self_eq_true,bne_self_eq_false,Bool.not_true,cond_false];rw [Buc m _ hx (by omega)];simp only [Aq,Bool.not_true,cond_false];rw [wiC _ (by omega) (by omega)];have ih:=Atm t (pre++[x]) m (λy hy=>hc y (EI _ hy)) (by simp;omega) (by omega);rw [C7,BQ] at ih;exact ih
theorem same_eq (k:Nat) (r:List E5) (g:List Ah) (h1:r.length<=400000) (h2:g.length<=400000) (h3:∀ x ∈ r,x.2.2.2.2.length<=400000) (hk:900000<=k):I4.f k r g r g=some true:=by
 unfold I4.f AM;rw [st_eq k g h2 (by omega)];simp only [bne_self_eq_false,cond_false,Aq,Bool.not_true];exact Atm r [] k h3 (by simp;omega) (by omega)
theorem Bsc (s:Ah) (k:Nat) (hk:2000000<=k) (hfx:P3.f k=some true):P2.f k s=some true:=by
 obtain ⟨r,h1,h2,h3,h4⟩:=Bsb s;unfold P2.f;rw [Azw k hk s,h1 k (by omega),hfx];simp only [Aq,cond_true,beq_self_eq_true,Bool.and_true];rw [same_eq k _ _ h2 h3 h4 (by omega)];rfl
theorem A4e:P3.f 2000000=some true:=by kernel_rfl
theorem Az1 (s:Ah):P2.f 2000000 s=some true:=Bsc s 2000000 (Nat.le_refl _) A4e
end
end Go.Proofs.YteccladehmaglaaGreatDoor
