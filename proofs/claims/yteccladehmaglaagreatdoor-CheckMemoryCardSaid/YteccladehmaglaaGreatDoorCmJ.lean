/- Texts of mine for checkMemory_card, part 10. -/
import Derived.Test.YteccladehmaglaaGreatDoorCmI
set_option linter.unusedSimpArgs false
set_option linter.unusedVariables false
set_option linter.unusedSectionVars false
namespace Go.Proofs.YteccladehmaglaaGreatDoor
set_option maxRecDepth 100000
section
open Go Go.RowKit Lx
theorem dT {p:Prop} [Decidable p] (h:p):decide p=true:=decide_eq_true h
theorem dF {p:Prop} [Decidable p] (h:¬ p):decide p=false:=decide_eq_false h
theorem bq (c d:UInt8):((c.toNat:Int) == (d.toNat:Int))=decide (c=d):=by
 rw [NM,Bool.eq_iff_iff,beq_iff_eq,decide_eq_true_eq]
theorem bn (c d:UInt8):((c.toNat:Int) != (d.toNat:Int))=decide (c≠d):=by
 rw [bne,NM,Bool.eq_iff_iff,decide_eq_true_eq];simp
theorem I8 (s:Ah) (i:Nat) (h:i < s.size):(bs s).drop i=s[i] :: (bs s).drop (i+1):=drop_at s i h
theorem JF (s:Ah) (i:Nat) (h:i < s.size):Dm s (i:Int)=some s[i]:=by rw [Auo,I8 s i h];rfl
theorem Ah0 (s:Ah) (hs:s.size<=1000000) (i:Nat) (hi:i<=1000000) (J:Int->Int->Option (List Int×Int)):∀ (m j n k:Nat),m+j=3->n < 1000 ^ (j+1)->m < k ->
  Jh.l0 k s (i:Int) J (n:Int) (j:Int)=J ((DN m ((bs s).drop (i+1+j)) n j).1:Int) ((DN m ((bs s).drop (i+1+j)) n j).2:Int)
 | m,j,n,k,hj,hn,hk=>by
  obtain ⟨k,rfl⟩:∃ m,k=m+1:=⟨k - 1,by omega⟩;simp only [Jh.l0];rw [wi ((i:Int)+1) (by omega) (by omega)];cases m with
  | zero =>
   rw [dF (p:=(j:Int) < 3) (by omega)];rfl
  | succ m =>
   rw [dT (p:=(j:Int) < 3) (by omega),wi ((i:Int)+1+j) (by omega) (by omega),show (i:Int)+1+j=((i+1+j:Nat):Int) by omega];rcases Nat.lt_or_ge (i+1+j) s.size with h | h;rw [dT (p:=((i+1+j:Nat):Int) < s.size) (by omega),JF s _ h,I8 s _ h];generalize s[i+1+j]=c;have hcl:=c.toNat_lt;simp only [cond_true,Aq,DN];have hnb:n < 1000000000:=by
    have:1000 ^ (j+1)<=1000 ^ 3:=Nat.pow_le_pow_right (by omega) (by omega);omega
   by_cases h1:48<=c.toNat;rw [dT (p:=(c.toNat:Int) >= 48) (by omega)];simp only [cond_true,Aq];by_cases h2:c.toNat<=57;rw [dT (p:=(c.toNat:Int)<=57) (by omega),if_pos ⟨h1,h2⟩];simp only [cond_true];have hp:1000 ^ (j+1+1)=1000 ^ (j+1) * 1000:=Nat.pow_succ _ _;have hj3:j<=2:=by omega
   have hn3:10 * n+(c.toNat - 48) < 1000 ^ (j+1+1):=by
    have:1<=1000 ^ (j+1):=Nat.one_le_pow _ _ (by omega);omega
   have hw:n * 10<=10000000000:=by
    have:1000 ^ (j+1)<=1000 ^ 3:=Nat.pow_le_pow_right (by omega) (by omega);omega
   have:=Ah0 s hs i hi J m (j+1) (10 * n+(c.toNat - 48)) k (by omega) hn3 (by omega);rw [wb,wi ((n:Int) * 10) (by omega) (by omega),wi ((n:Int) * 10+c.toNat) (by omega) (by omega),wi ((n:Int) * 10+c.toNat - 48) (by omega) (by omega),wi ((j:Int)+1) (by omega) (by omega)];rw [show i+1+j+1=i+1+(j+1) by omega,<- this];congr 1;omega;rw [dF (p:=(c.toNat:Int)<=57) (by omega),if_neg (by omega)];rfl;rw [dF (p:=(c.toNat:Int) >= 48) (by omega),if_neg (by omega)];rfl;rw [dF (p:=((i+1+j:Nat):Int) < s.size) (by omega),List.drop_of_length_le (by rw [BZ];omega)];rfl
def XR (l:Bs):List Int×Int:=match IZ l with | .ok b n=>(bI b,(n:Int)) | _=>([],0)
theorem A4v (s:Ah) (hs:s.size<=1000000) (i k:Nat) (hi:i+1 < s.size) (hk:20 < k):Jh.f k s (i:Int)=some (XR ((bs s).drop (i+1))):=by
 unfold Jh.f XR;have e1:Au ((i:Int)+1)=((i+1:Nat):Int):=by rw [wi _ (by omega) (by omega)];omega
 have e2:Au ((i:Int)+2)=((i+2:Nat):Int):=by rw [wi _ (by omega) (by omega)];omega
 have e3:Au ((i:Int)+3)=((i+3:Nat):Int):=by rw [wi _ (by omega) (by omega)];omega
 rw [e1,e2,e3,JF s _ hi,I8 s _ hi,show i+1+1=i+2 by omega];have hdec:=Ah0 s hs i (by omega) (λ(x34:Int) (x35:Int)=>((cond (x35 == (0:Int)) (some true) (some (decide (x34 > (255:Int)))):Option Bool).bind λq37=>cond q37 (some (([]:List Int),(0:Int))) (some ([IntKind.u8.wrap x34],Au (x35+(1:Int)))))) 3 0 0 k rfl (by omega) (by omega);rw [Nat.add_zero,I8 s _ hi,show i+1+1=i+2 by omega] at hdec;generalize s[i+1]=c at *;have hcl:=c.toNat_lt;obtain ⟨E,hE⟩:∃ E,IZ (c :: (bs s).drop (i+2))=E:=⟨_,rfl⟩;have hE0:=hE;rw [hE];rw [QL] at hE;simp only [Aq];by_cases c1:c=110;subst c1;subst hE;rfl;by_cases c2:c=116;subst c2;subst hE;rfl;by_cases c3:c=114;subst c3;subst hE;rfl;have f1:((c.toNat:Int) == 110)=false:=by rw [beq_eq_false_iff_ne];intro h;exact c1 (UInt8.toNat_inj.1 (by show c.toNat=110;omega))
 have f2:((c.toNat:Int) == 116)=false:=by rw [beq_eq_false_iff_ne];intro h;exact c2 (UInt8.toNat_inj.1 (by show c.toNat=116;omega))
 have f3:((c.toNat:Int) == 114)=false:=by rw [beq_eq_false_iff_ne];intro h;exact c3 (UInt8.toNat_inj.1 (by show c.toNat=114;omega))
 rw [f1,f2,f3];simp only [cond_false];generalize hJ9:(λ(x8:Bool)=>cond x8 (some ([(c.toNat:Int)],(2:Int))) _)=J9;unfold AN;simp only [Vr];subst hJ9;by_cases c4:c=92\/c=34\/c=39;have hp:FY c=c:=by
  unfold FY;rw [if_neg c1,if_neg c2,if_neg c3,if_pos c4]
 have hb:(((c.toNat:Int) == 92) || (((c.toNat:Int) == 34) || ((c.toNat:Int) == 39)))=true:=by
  rcases c4 with rfl | rfl | rfl <;> rfl
 rw [if_pos (by rw [hp];rcases c4 with rfl | rfl | rfl <;> decide),hp] at hE;rw [hb,<- hE];rfl;have hp:FY c=0:=by
  unfold FY;rw [if_neg c1,if_neg c2,if_neg c3,if_neg c4]
 have hne:∀ d:UInt8,c≠d->((c.toNat:Int) == (d.toNat:Int))=false:=λd h=>by
  rw [beq_eq_false_iff_ne];intro he;exact h (UInt8.toNat_inj.1 (by omega))
 have hb:(((c.toNat:Int) == 92) || (((c.toNat:Int) == 34) || ((c.toNat:Int) == 39)))=false:=by
  simp only [not_or] at c4;have g1:=hne 92 c4.1;have g2:=hne 34 c4.2.1;have g3:=hne 39 c4.2.2;have g1:((c.toNat:Int) == 92)=false:=g1;have g2:((c.toNat:Int) == 34)=false:=g2;have g3:((c.toNat:Int) == 39)=false:=g3;rw [g1,g2,g3];rfl
 rw [hb];rw [hp,if_neg (by simp)] at hE;simp only [cond_false];by_cases c5:c=120;subst c5;rw [if_pos rfl] at hE;have:=Ald s hs (i+2) 2 k (by omega) (by omega) (by omega);rw [show (2:Int)=((2:Nat):Int) from rfl,this];have hle:=Pi 2 ((bs s).drop (i+2)) 0 0 (by omega);have h16:16 ^ (B_ 2 ((bs s).drop (i+2)) 0 0).2<=16 ^ 2:=Nat.pow_le_pow_right (by omega) (by omega);generalize B_ 2 ((bs s).drop (i+2)) 0 0=g at *;simp only [Aq];rw [show (((120:UInt8).toNat:Int) == 120)=true from rfl];simp only [cond_true];by_cases hg:g.2 < 2;rw [if_pos hg] at hE;rw [<- hE,show ((g.2:Int) == ((2:Nat):Int))=false by rw [beq_eq_false_iff_ne];omega];rfl;rw [if_neg hg] at hE;rw [<- hE,show ((g.2:Int) == ((2:Nat):Int))=true by rw [beq_iff_eq];omega,w8 _ (by omega) (by omega)];simp only [cond_true,bI,List.map_cons,List.map_nil];rw [show (UInt8.ofNat g.1).toNat=g.1 by simp;omega];rfl;rw [if_neg c5] at hE;rw [show ((c.toNat:Int) == 120)=false from hne 120 c5];simp only [cond_false];by_cases c6:c=117;subst c6;rw [show (((117:UInt8).toNat:Int) == 117)=true from rfl];simp only [cond_true];have hnd:∀ t:Bs,DN 3 (117 :: t) 0 0=(0,0):=λt=>rfl;clear hE;by_cases h2:i+2 < s.size;rw [dF (p:=((i+2:Nat):Int) >= s.size) (by omega),JF s _ h2];rw [I8 s _ h2,show i+2+1=i+3 by omega] at hE0;generalize s[i+2]=d at *;simp only [cond_false,Aq];by_cases hd:d=123;subst hd;rw [A4k] at hE0;unfold uF at hE0;rw [show (((123:UInt8).toNat:Int) != 123)=false from rfl];simp only [cond_false];have:=Ald s hs (i+3) 8 k (by omega) (by omega) (by omega);rw [show (8:Int)=((8:Nat):Int) from rfl,this];have hle:=Pi 8 ((bs s).drop (i+3)) 0 0 (by omega);have h16:16 ^ (B_ 8 ((bs s).drop (i+3)) 0 0).2<=16 ^ 8:=Nat.pow_le_pow_right (by omega) (by omega);have hdr:((bs s).drop (i+3)).drop (B_ 8 ((bs s).drop (i+3)) 0 0).2=(bs s).drop (i+3+(B_ 8 ((bs s).drop (i+3)) 0 0).2):=by rw [List.drop_drop]
 rw [hdr] at hE0;rw [BV,BZ] at hle;generalize B_ 8 ((bs s).drop (i+3)) 0 0=g at *;simp only [Aq];rw [encode_eq g.1 k (by omega) (by omega)];simp only [Aq,encR];rw [wi ((i+3:Nat)+(g.2:Int)) (by omega) (by omega),show ((i+3:Nat):Int)+(g.2:Int)=((i+3+g.2:Nat):Int) by omega];by_cases hg:g.2=0;rw [if_pos (.inl hg)] at hE0;rw [<- hE0,show ((g.2:Int) == 0)=true by rw [beq_iff_eq];omega];rfl;rw [show ((g.2:Int) == 0)=false by rw [beq_eq_false_iff_ne];omega];simp only [cond_false];cases hv:Utf8.valid (g.1:Int) with
 | false =>
  rw [if_pos (.inr (.inl hv))] at hE0;rw [<- hE0];rfl
 | true =>
  simp only [if_true];rw [show ((0:Int) != 0)=false from rfl];simp only [cond_false];rcases Nat.lt_or_ge (i+3+g.2) s.size with h3 | h3;rw [dF (p:=((i+3+g.2:Nat):Int) >= s.size) (by omega),JF s _ h3];rw [I8 s _ h3] at hE0;generalize s[i+3+g.2]=z at *;rw [List.head?_cons] at hE0;simp only [cond_false,Aq];by_cases hz:z=125;subst hz;rw [if_neg (by simp [hg,hv])] at hE0;rw [<- hE0,show (((125:UInt8).toNat:Int) != 125)=false from rfl];simp only [cond_false];have hes:=XP g.1;rw [dT (p:=(Utf8.encode (g.1:Int)).size<=140737488355328) (by omega),wi ((g.2:Int)+4) (by omega) (by omega)];simp only [cond_true,A1a];rw [show (g.2:Int)+4=((4+g.2:Nat):Int) by omega];rw [if_pos (.inr (.inr (by simpa using hz)))] at hE0;rw [<- hE0,show ((z.toNat:Int) != 125)=true by rw [bne_iff_ne];intro h;exact hz (UInt8.toNat_inj.1 (by show z.toNat=125;omega))];rfl;rw [List.drop_of_length_le (by rw [BZ];omega),if_pos (.inr (.inr (by simp)))] at hE0;rw [<- hE0,dT (p:=((i+3+g.2:Nat):Int) >= s.size) (by omega)];rfl
 rw [QL,if_neg (by decide),if_neg (by decide),if_neg (by simpa using hd),hnd] at hE0;rw [<- hE0,show ((d.toNat:Int) != 123)=true by rw [bne_iff_ne];intro h;exact hd (UInt8.toNat_inj.1 (by show d.toNat=123;omega))];rfl;rw [List.drop_of_length_le (by rw [BZ];omega),QL,if_neg (by decide),if_neg (by decide),if_neg (by simp),hnd] at hE0;rw [<- hE0,dT (p:=((i+2:Nat):Int) >= s.size) (by omega)];rfl;rw [if_neg (λh=>c6 h.1)] at hE;rw [show ((c.toNat:Int) == 117)=false from hne 117 c6];simp only [cond_false];rw [show ((0:Nat):Int)=0 from rfl] at hdec;refine hdec.trans ?_;have hle:=XL 3 (c :: (bs s).drop (i+2)) 0 0;have hk3:(DN 3 (c :: (bs s).drop (i+2)) 0 0).2<=3:=by
  have:∀ (m:Nat) (l:Bs) (n k:Nat),(DN m l n k).2<=k+m:=by
   intro m;induction m with
   | zero=>intro l n k;simp [DN]
   | succ m ih =>
    intro l n k;cases l with
    | nil=>simp [DN]
    | cons b t =>
     rw [Vs];split;have:=ih t (10 * n+(b.toNat - 48)) (k+1);omega;simp
  have:=this 3 (c :: (bs s).drop (i+2)) 0 0;omega
 generalize DN 3 (c :: (bs s).drop (i+2)) 0 0=g at *;by_cases hg:g.2=0;rw [if_pos (.inl hg)] at hE;rw [<- hE,show ((g.2:Int) == 0)=true by rw [beq_iff_eq];omega];rfl;rw [show ((g.2:Int) == 0)=false by rw [beq_eq_false_iff_ne];omega];simp only [cond_false,Aq];by_cases hb2:g.1 > 255;rw [if_pos (.inr hb2)] at hE;rw [<- hE,dT (p:=(g.1:Int) > 255) (by omega)];rfl;rw [if_neg (by omega)] at hE;rw [<- hE,dF (p:=(g.1:Int) > 255) (by omega),w8 _ (by omega) (by omega),wi ((g.2:Int)+1) (by omega) (by omega)];simp only [cond_false,bI,List.map_cons,List.map_nil];rw [show (UInt8.ofNat g.1).toNat=g.1 by simp;omega,show (g.2:Int)+1=((1+g.2:Nat):Int) by omega]
theorem Vc {α:Type} (b:Nat) (l ys:List α) (h:(l.length+ys.length) * b<=140737488355328):apd b l ys=some (l++ys):=by
 unfold apd;rw [dT h];rfl
theorem Agk (a b:Bs):bI (a++b)=bI a++bI b:=by simp [bI]
theorem Vj (a:Bs):(bI a).length=a.length:=by simp [bI]
def L_ (at_:Nat):X0->Ah×Int×Int×Int
 | .bad c rel=>(⟨#[]⟩,0,c,((at_+rel:Nat):Int))
 | .ok v n=>(str v,(n:Int),0,0)
def U5 (s:Ah) (a1:Int) (l2:List Int) (x7:Int):Option (Ah×Int×Int×Int) :=
 (cond (decide (x7 >= (s.size:Int))) (some true) ((Dm s x7).bind λc13:UInt8=>some ((c13.toNat:Int) == (10:Int))):Option Bool).bind λq9=>cond q9 (some ((⟨#[]⟩:Ah),(0:Int),(4:Int),a1)) (cond (decide (((l2.length:Nat):Int) > (10000:Int))) (some ((⟨#[]⟩:Ah),(0:Int),(14:Int),a1)) (some ((strOfNums l2),Au ((Au (x7+(1:Int))) - a1),(0:Int),(0:Int))))
theorem Adl (s:Ah) (hs:s.size<=1000000) (at_:Nat) (q:UInt8) (ha:at_ < s.size) (hq:s[at_]=q):∀ (d i f k:Nat) (acc:Bs),s.size - i<=d->at_+1<=i->i<=s.size->acc.length<=i->s.size - i < f->d+25<=k ->
  It.l0 k s (at_:Int) (U5 s at_) (bI acc) (i:Int)=some (L_ at_ (Fv q f ((bs s).drop i) acc (i - at_)))
 | d,i,f,k,acc,hd,h1,h2,h3,h4,h5=>by
  obtain ⟨k,rfl⟩:∃ m,k=m+1:=⟨k - 1,by omega⟩;obtain ⟨f,rfl⟩:∃ m,f=m+1:=⟨f - 1,by omega⟩;simp only [It.l0];rcases Nat.lt_or_ge i s.size with h | h
  ·obtain ⟨d,rfl⟩:∃ m,d=m+1:=⟨d - 1,by omega⟩
   rw [dT (p:=(i:Int) < s.size) (by omega),JF s i h,JF s at_ ha,hq,I8 s i h,WZ];have hJ:U5 s at_ (bI acc) i=if s[i]=10 then some ((⟨#[]⟩:Ah),(0:Int),(4:Int),(at_:Int)) else if acc.length > 10000 then some ((⟨#[]⟩:Ah),(0:Int),(14:Int),(at_:Int)) else some (str acc,((i+1 - at_:Nat):Int),0,0):=by
    unfold U5;rw [dF (p:=(i:Int) >= s.size) (by omega),JF s i h];simp only [cond_false,Aq];rw [show ((s[i].toNat:Int) == 10)=decide (s[i]=10) from bq s[i] 10,EN];split
    ·rfl
    ·rw [Vj,EN,Bv2,wi ((i:Int)+1) (by omega) (by omega),wi ((i:Int)+1 - at_) (by omega) (by omega)]
     rw [show (i:Int)+1 - at_=((i+1 - at_:Nat):Int) by omega];split
     ·rw [if_pos (by omega)]
     ·rw [if_neg (by omega)]
   have hgo:s[i]≠10->s[i]≠q->s[i]≠92->It.l0 k s (at_:Int) (U5 s at_) (bI acc++[(s[i].toNat:Int)]) (Au ((i:Int)+1))=some (L_ at_ (Fv q f ((bs s).drop (i+1)) (acc++[s[i]]) (i - at_+1))):=λ_ _ _=>by
    rw [wi _ (by omega) (by omega),show bI acc++[(s[i].toNat:Int)]=bI (acc++[s[i]]) by rw [Agk];rfl];have:=Adl s hs at_ q ha hq d (i+1) f k (acc++[s[i]]) (by omega) (by omega) (by omega) (by simp;omega) (by omega) (by omega);rw [show i+1 - at_=i - at_+1 by omega] at this;exact this
   have KN:=A4v s hs i k;generalize hc:s[i]=c at *;simp only [cond_true,Aq];rw [show ((c.toNat:Int) != 10)=decide (c≠10) from bn c 10];by_cases c1:c=10
   ·rw [if_pos c1,dF (by simpa using c1)]
    simp only [cond_false,Aq];rw [hJ,if_pos c1];simp [L_]
   rw [if_neg c1,dT c1];simp only [cond_true,Aq,bn];by_cases c2:c=q
   ·rw [if_pos c2,dF (by simpa using c2)]
    simp only [cond_false];rw [hJ,if_neg c1];split
    ·simp [L_]
    ·simp only [L_]
     rw [show i - at_+1=i+1 - at_ by omega]
   rw [if_neg c2,dT c2];simp only [cond_true];rw [show ((c.toNat:Int) != 92)=decide (c≠92) from bn c 92];by_cases c3:c=92
   ·rw [if_pos c3,dF (by simpa using c3)]
    simp only [cond_false];rw [wi ((i:Int)+1) (by omega) (by omega),show (i:Int)+1=((i+1:Nat):Int) by omega];rcases Nat.lt_or_ge (i+1) s.size with h6 | h6
    ·rw [dF (p:=((i+1:Nat):Int) >= s.size) (by omega),KN h6 (by omega)]
     simp only [cond_false,Aq,XR];cases hE:IZ ((bs s).drop (i+1)) with
     | ended =>
      rw [I8 s _ h6,QL] at hE
      repeat' split at hE
      all_goals cases hE
     | FQ =>
      simp only [beq_self_eq_true,cond_true,L_];rw [show at_+(i - at_)=i by omega]
     | ok b n =>
      have hl:=XQ hE;rw [BV,BZ] at hl;rw [show ((n:Int) == 0)=false by rw [beq_eq_false_iff_ne];omega];simp only [cond_false];rw [Vc _ _ _ (by rw [Vj,Vj];omega)];simp only [Aq];rw [wi ((i:Int)+n) (by omega) (by omega),<- Agk,show (i:Int)+n=((i+n:Nat):Int) by omega];have:=Adl s hs at_ q ha hq d (i+n) f k (acc++b) (by omega) (by omega) (by omega) (by simp;omega) (by omega) (by omega);rw [this,show i+n - at_=i - at_+n by omega,<- List.drop_drop,I8 s i h,hc]
    ·rw [dT (p:=((i+1:Nat):Int) >= s.size) (by omega),List.drop_of_length_le (by rw [BZ];omega)]
     simp [IZ,L_]
   rw [if_neg c3,dT c3];simp only [cond_true];rw [Vc _ _ _ (by rw [Vj];simp;omega)];exact hgo c1 c2 c3
  ·rw [dF (p:=(i:Int) < s.size) (by omega),List.drop_of_length_le (by rw [BZ];omega),Av4]
   simp only [cond_false,Aq];unfold U5;rw [dT (p:=(i:Int) >= s.size) (by omega)];simp [L_]
theorem text_eq (s:Ah) (hs:s.size<=1000000) (at_ k:Nat) (ha:at_ < s.size) (hk:s.size+25<=k):It.f k s (at_:Int)=some (L_ at_ (Fv s[at_] (s.size - at_) ((bs s).drop (at_+1)) [] 1)):=by
 have:=Adl s hs at_ s[at_] ha rfl (s.size - (at_+1)) (at_+1) (s.size - at_) k [] (Nat.le_refl _) (Nat.le_refl _) (by omega) (by simp) (by omega) (by omega);rw [Nat.add_sub_cancel_left] at this;rw [<- this];unfold It.f AN;rw [wi _ (by omega) (by omega),show (at_:Int)+1=((at_+1:Nat):Int) by omega];rfl
def wD (hex:Bool) (b:UInt8):Option Nat :=
 if 48<=b.toNat/\b.toNat<=57 then some (b.toNat - 48) else if hex=true/\97<=b.toNat/\b.toNat<=102 then some (b.toNat - 87) else if hex=true/\65<=b.toNat/\b.toNat<=70 then some (b.toNat - 55) else none
theorem Aw5 {hex:Bool} {b:UInt8} {d:Nat} (h:wD hex b=some d):d < 16/\(hex=false->d < 10):=by
 unfold wD at h;split at h;cases h;omega;split at h;rename_i h2;cases h;exact ⟨by omega,λe=>by rw [e] at h2;simp at h2⟩;split at h;rename_i h3;cases h;exact ⟨by omega,λe=>by rw [e] at h3;simp at h3⟩;cases h
def wZ (hex:Bool) (b:UInt8):Int:=match wD hex b with | some d=>d | none=>-1
theorem Ad7 (k:Nat) (b:UInt8) (hex:Bool):LS.f k (b.toNat:Int) hex=some (wZ hex b):=by
 have hb:=b.toNat_lt;unfold LS.f wZ wD;rw [wb,wi ((b.toNat:Int) - 48) (by omega) (by omega),wi ((b.toNat:Int) - 97) (by omega) (by omega),wi ((b.toNat:Int) - 97+10) (by omega) (by omega),wi ((b.toNat:Int) - 65) (by omega) (by omega),wi ((b.toNat:Int) - 65+10) (by omega) (by omega)];have hq:b.toNat < 48\/(48<=b.toNat/\b.toNat<=57)\/(57 < b.toNat/\b.toNat < 65)\/(65<=b.toNat/\b.toNat<=70)\/(70 < b.toNat/\b.toNat < 97)\/(97<=b.toNat/\b.toNat<=102)\/102 < b.toNat:=by omega
 rcases hq with h | h | h | h | h | h | h;rw [dF (p:=(b.toNat:Int) >= 48) (by omega),dF (p:=(b.toNat:Int) >= 97) (by omega),dF (p:=(b.toNat:Int) >= 65) (by omega),if_neg (by omega),if_neg (by omega),if_neg (by omega)];cases hex <;> rfl;rw [dT (p:=(b.toNat:Int) >= 48) (by omega),dT (p:=(b.toNat:Int)<=57) (by omega),if_pos h];simp only [cond_true,Aq];congr 1;omega;rw [dT (p:=(b.toNat:Int) >= 48) (by omega),dF (p:=(b.toNat:Int)<=57) (by omega),dF (p:=(b.toNat:Int) >= 97) (by omega),dF (p:=(b.toNat:Int) >= 65) (by omega),if_neg (by omega),if_neg (by omega),if_neg (by omega)];cases hex <;> rfl;rw [dT (p:=(b.toNat:Int) >= 48) (by omega),dF (p:=(b.toNat:Int)<=57) (by omega),dF (p:=(b.toNat:Int) >= 97) (by omega),dT (p:=(b.toNat:Int) >= 65) (by omega),dT (p:=(b.toNat:Int)<=70) (by omega),if_neg (by omega),if_neg (by omega)];cases hex;rfl;rw [if_pos ⟨rfl,h⟩];simp only [cond_true,cond_false,Aq];congr 1;omega;rw [dT (p:=(b.toNat:Int) >= 48) (by omega),dF (p:=(b.toNat:Int)<=57) (by omega),dF (p:=(b.toNat:Int) >= 97) (by omega),dT (p:=(b.toNat:Int) >= 65) (by omega),dF (p:=(b.toNat:Int)<=70) (by omega),if_neg (by omega),if_neg (by omega),if_neg (by omega)];cases hex <;> rfl;rw [dT (p:=(b.toNat:Int) >= 48) (by omega),dF (p:=(b.toNat:Int)<=57) (by omega),dT (p:=(b.toNat:Int) >= 97) (by omega),dT (p:=(b.toNat:Int)<=102) (by omega),dT (p:=(b.toNat:Int) >= 65) (by omega),dF (p:=(b.toNat:Int)<=70) (by omega),if_neg (by omega)];cases hex;rw [if_neg (by simp),if_neg (by simp)];rfl;rw [if_pos ⟨rfl,h⟩];simp only [cond_true,cond_false,Aq];congr 1;omega;rw [dT (p:=(b.toNat:Int) >= 48) (by omega),dF (p:=(b.toNat:Int)<=57) (by omega),dT (p:=(b.toNat:Int) >= 97) (by omega),dF (p:=(b.toNat:Int)<=102) (by omega),dT (p:=(b.toNat:Int) >= 65) (by omega),dF (p:=(b.toNat:Int)<=70) (by omega),if_neg (by omega),if_neg (by omega),if_neg (by omega)];cases hex <;> rfl
def N4 (hex:Bool) (n d:Nat):Nat:=if hex then (n * 16+d) % 18446744073709551616 else min (10 * n+d) 18446744073709551615
def szB (hex:Bool):Nat->Bs->Option Nat
 | n,[]=>some n
 | n,b :: t=>match wD hex b with | none=>none | some d=>szB hex (N4 hex n d) t
theorem Vt (b:UInt8) (t:Bs) (h:128<=b.toNat):128<=(B2 (b :: t)).1:=by
 have hb:=b.toNat_lt;unfold B2;simp only [List.getD_cons_zero];rw [if_neg (by omega)]
 (repeat' split) <;> simp_all <;> omega
theorem Auu (hex:Bool):∀ (f n:Nat) (l:Bs),l.length<=f->Li hex f n l=szB hex n l
 | 0,n,l,h=>by
  have:l=[]:=List.eq_nil_of_length_eq_zero (by omega);subst this;rfl
 | f+1,n,[],h=>rfl
 | f+1,n,b :: t,h=>by
  simp only [AX] at h;simp only [Li,szB];by_cases hb:b.toNat < 128;rw [OZ b t hb];simp only [List.drop_succ_cons,List.drop_zero];have ih:=λm=>Auu hex f m t (by omega);simp only [ih];unfold Jx wD N4;by_cases h1:48<=b.toNat/\b.toNat<=57;rw [if_pos h1,if_pos h1];simp only [];rw [if_neg (by simp;omega)];rw [if_neg h1,if_neg h1];by_cases h2:97<=b.toNat/\b.toNat<=102;rw [if_pos h2];cases hex with
  | true=>rw [if_pos ⟨rfl,h2⟩];simp
  | false=>rw [if_neg (by simp),if_neg (by simp)];simp;omega
  rw [if_neg h2,if_neg (show ¬ (hex=true/\97<=b.toNat/\b.toNat<=102) from λh=>h2 h.2)];by_cases h3:65<=b.toNat/\b.toNat<=70;rw [if_pos h3];cases hex with
  | true=>rw [if_pos ⟨rfl,h3⟩];simp
  | false=>rw [if_neg (by simp)];simp;omega
  rw [if_neg h3,if_neg (show ¬ (hex=true/\65<=b.toNat/\b.toNat<=70) from λh=>h3 h.2)];have hh:=Vt b t (by omega);have e:Jx (B2 (b :: t)).1=none:=by
   unfold Jx;rw [if_neg (by omega),if_neg (by omega),if_neg (by omega)]
  have e2:wD hex b=none:=by
   unfold wD;rw [if_neg (by omega),if_neg (by omega),if_neg (by omega)]
  rw [e,e2]
theorem Avv (hex:Bool):∀ (l:Bs) (n:Nat),(szB hex n l).isSome=l.all λb=>(wD hex b).isSome
 | [],_=>rfl
 | b :: t,n=>by
  simp only [szB,List.all_cons];cases hw:wD hex b with
  | none=>rfl
  | some d=>simp only [Option.isSome_some,Bool.true_and];exact Avv hex t _
theorem Ahj (s:Ah) (hs:s.size<=1000000) (hex:Bool) (J:Unit->Option (Int×Int)):∀ (d i k:Nat),s.size - i<=d->i<=s.size->d < k ->
  DJ.l2 k hex s J (i:Int)=if (((bs s).drop i).all λb=>(wD hex b).isSome)=true then J () else some (0,4)
 | d,i,k,hd,hi,hk=>by
  obtain ⟨k,rfl⟩:∃ m,k=m+1:=⟨k - 1,by omega⟩;simp only [DJ.l2];rcases Nat.lt_or_ge i s.size with h | h;obtain ⟨d,rfl⟩:∃ m,d=m+1:=⟨d - 1,by omega⟩;rw [dT (p:=(i:Int) < s.size) (by omega),JF s i h,I8 s i h,wi ((i:Int)+1) (by omega) (by omega),show (i:Int)+1=((i+1:Nat):Int) by omega];simp only [cond_true,Aq,Ad7,List.all_cons];rw [Ahj s hs hex J d (i+1) k (by omega) (by omega) (by omega)];by_cases hw:(wD hex s[i]).isSome=true;obtain ⟨x,hx⟩:=Option.isSome_iff_exists.1 hw;have hz:wZ hex s[i]=x:=by unfold wZ;rw [hx]
  rw [hz,dF (by omega)];simp only [hw,Bool.true_and,cond_false];have hx:wD hex s[i]=none:=by simpa using hw
  have hz:wZ hex s[i]=-1:=by unfold wZ;rw [hx]
  rw [hz,dT (by omega)];simp only [hw,Bool.false_and,cond_true,Bool.false_eq_true,if_false];rw [dF (p:=(i:Int) < s.size) (by omega),List.drop_of_length_le (by rw [BZ];omega)];rfl
theorem Ba7 (u d:Nat) (hu:u < 18446744073709551616) (hd:d < 16):Au (Au (sint u * 16)+(d:Int))=sint ((u * 16+d) % 18446744073709551616):=by unfold Au IntKind.wrap sint;simp [IntKind.bits,IntKind.signed];omega
theorem Alc (s:Ah) (hs:s.size<=1000000) (J:Int->Option (Int×Int)):∀ (d i k u u':Nat),s.size - i<=d->i<=s.size->d < k->u < 18446744073709551616->szB true u ((bs s).drop i)=some u' ->
  DJ.l0 k s J (sint u) (i:Int)=J (sint u')
 | d,i,k,u,u',hd,hi,hk,hu,hz=>by
  obtain ⟨k,rfl⟩:∃ m,k=m+1:=⟨k - 1,by omega⟩;simp only [DJ.l0];rcases Nat.lt_or_ge i s.size with h | h;obtain ⟨d,rfl⟩:∃ m,d=m+1:=⟨d - 1,by omega⟩;rw [dT (p:=(i:Int) < s.size) (by omega),JF s i h,wi ((i:Int)+1) (by omega) (by omega),show (i:Int)+1=((i+1:Nat):Int) by omega];rw [I8 s i h] at hz;simp only [cond_true,Aq,Ad7];simp only [szB] at hz;cases hw:wD true s[i] with
  | none=>rw [hw] at hz;cases hz
  | some x =>
   rw [hw] at hz;have hx:=(Aw5 hw).1;have hzz:wZ true s[i]=x:=by unfold wZ;rw [hw]
   rw [hzz,Ba7 u x hu hx];exact Alc s hs J d (i+1) k _ u' (by omega) (by omega) (by omega) (Nat.mod_lt _ (by omega)) hz
  rw [dF (p:=(i:Int) < s.size) (by omega)];rw [List.drop_of_length_le (by rw [BZ];omega)] at hz;cases hz;rfl
theorem Avy:∀ (l:Bs) (u u':Nat),szB false u l=some u'->u<=18446744073709551615->u<=u'
 | [],u,u',h,_=>by cases h;exact Nat.le_refl _
 | b :: t,u,u',h,hu=>by
  simp only [szB] at h;cases hw:wD false b with
  | none=>rw [hw] at h;cases h
  | some d =>
   rw [hw] at h;have:=Avy t _ u' h (by unfold N4;simp;omega);unfold N4 at this;simp at this;omega
theorem Bv8 (x:Int) (h:x<=0):Int.tdiv x 10=-((-x) / 10):=by
 obtain ⟨n,hn⟩:∃ n:Nat,x=-(n:Int):=⟨x.natAbs,by omega⟩;subst hn;rw [Int.neg_tdiv,show (10:Int)=((10:Nat):Int) from rfl,td];omega
theorem Ah1 (s:Ah) (hs:s.size<=1000000) (J:Int->Option (Int×Int)):∀ (d i k u u':Nat),s.size - i<=d->i<=s.size->d < k->u<=9223372036854775808->szB false u ((bs s).drop i)=some u' ->
  DJ.l1 k s J (-(u:Int)) (i:Int)=if u' > 9223372036854775808 then some (0,14) else J (-(u':Int))
 | d,i,k,u,u',hd,hi,hk,hu,hz=>by
  obtain ⟨k,rfl⟩:∃ m,k=m+1:=⟨k - 1,by omega⟩;simp only [DJ.l1];rcases Nat.lt_or_ge i s.size with h | h;obtain ⟨d,rfl⟩:∃ m,d=m+1:=⟨d - 1,by omega⟩;rw [dT (p:=(i:Int) < s.size) (by omega),JF s i h,wi ((i:Int)+1) (by omega) (by omega),show (i:Int)+1=((i+1:Nat):Int) by omega];rw [I8 s i h] at hz;simp only [cond_true,Aq,Ad7];simp only [szB] at hz;cases hw:wD false s[i] with
  | none=>rw [hw] at hz;cases hz
  | some x =>
   rw [hw] at hz;have hx:=(Aw5 hw).2 rfl;have hzz:wZ false s[i]=x:=by unfold wZ;rw [hw]
   rw [hzz,wi ((-9223372036854775808:Int)+(x:Int)) (by omega) (by omega),Bv8 _ (by omega)];have hm:=Avy _ _ u' hz (by unfold N4;simp;omega);have hst:N4 false u x=min (10 * u+x) 18446744073709551615:=rfl;rw [wi (-(-(-9223372036854775808+(x:Int)) / 10)) (by omega) (by omega)];by_cases hb:10 * u+x > 9223372036854775808;rw [dT (by omega),if_pos (by omega)];rfl;rw [dF (by omega)];simp only [cond_false];rw [wi (-(u:Int) * 10) (by omega) (by omega),wi (-(u:Int) * 10 - (x:Int)) (by omega) (by omega)];have he:N4 false u x=10 * u+x:=by rw [hst];omega
   have hz:szB false (N4 false u x) ((bs s).drop (i+1))=some u':=hz;rw [he] at hz;rw [show -(u:Int) * 10 - (x:Int)=-((10 * u+x:Nat):Int) by omega];exact Ah1 s hs J d (i+1) k _ u' (by omega) (by omega) (by omega) (by omega) hz
  rw [dF (p:=(i:Int) < s.size) (by omega)];rw [List.drop_of_length_le (by rw [BZ];omega)] at hz;cases hz;rw [if_neg (by omega)];rfl
theorem Avx:∀ (l:Bs) (hex:Bool) (u u':Nat),szB hex u l=some u'->u < 18446744073709551616->u' < 18446744073709551616
 | [],_,u,u',h,hu=>by cases h;exact hu
 | b :: t,hex,u,u',h,hu=>by
  simp only [szB] at h;cases hw:wD hex b with
  | none=>rw [hw] at h;cases h
  | some d =>
   rw [hw] at h;refine Avx t hex _ u' h ?_;unfold N4;split;exact Nat.mod_lt _ (by omega);omega
def Ach (k:Nat) (hex:Bool) (x2:Ah):Option (Int×Int) :=
 cond ((x2.size:Int) == (0:Int)) (some ((0:Int),(4:Int))) (AN (λ(_:Unit)=>cond hex (AN (λ(x7:Int)=>AN (λ(x9:Int)=>some (x9,(0:Int))) (λIV=>cond false (IV (Au (0 - x7))) (IV x7))) (λJ8=>DJ.l0 k x2 J8 (0:Int) (0:Int))) (AN (λ(x18:Int)=>cond false (some (x18,(0:Int))) (cond (x18 == (-9223372036854775808:Int)) (some ((0:Int),(14:Int))) (some (Au (0 - x18),(0:Int))))) (λJ19=>DJ.l1 k x2 J19 (0:Int) (0:Int)))) (λJ5=>DJ.l2 k hex x2 J5 (0:Int)))
theorem As5 (k:Nat) (hex:Bool) (x:Ah) (hs:x.size<=1000000) (hk:x.size < k):Ach k hex x=some (if bs x=[] then ((0,4):Int×Int) else match szB hex 0 (bs x) with | none=>(0,4) | some u=>if !hex && decide (u > 9223372036854775807) then (0,14) else (sint u,0)):=by
 unfold Ach AN;by_cases he:bs x=[];have h0:x.size=0:=by rw [<- BZ,he];rfl
 rw [if_pos he,show ((x.size:Int) == 0)=true by rw [beq_iff_eq];omega];rfl;have h0:x.size≠0:=λh=>he (List.eq_nil_of_length_eq_zero (by rw [BZ];exact h));rw [if_neg he,show ((x.size:Int) == 0)=false by rw [beq_eq_false_iff_ne];omega];simp only [cond_false];have hc:=Ahj x hs hex (λ(_:Unit)=>cond hex (DJ.l0 k x (λx7=>some (x7,0)) 0 0) (DJ.l1 k x (λx18=>cond (x18 == (-9223372036854775808:Int)) (some ((0:Int),(14:Int))) (some (Au (0 - x18),(0:Int)))) 0 0)) x.size 0 k (by omega) (by omega) hk;rw [show ((0:Nat):Int)=0 from rfl,List.drop_zero] at hc;refine hc.trans ?_;rw [<- Avv hex (bs x) 0];cases hz:szB hex 0 (bs x) with
 | none=>simp
 | some u =>
  rw [if_pos (show (some u).isSome=true from rfl)];have hlt:=Avx _ _ _ _ hz (by omega);cases hex with
  | true =>
   have:=Alc x hs (λx7=>some (x7,0)) x.size 0 k 0 u (by omega) (by omega) hk (by omega) hz;rw [show sint 0=0 from rfl,show ((0:Nat):Int)=0 from rfl] at this;simp only [cond_true,this,Bool.not_true,Bool.false_and,Bool.false_eq_true,if_false]
  | false =>
   have:=Ah1 x hs (λx18=>cond (x18 == (-9223372036854775808:Int)) (some ((0:Int),(14:Int))) (some (Au (0 - x18),(0:Int)))) x.size 0 k 0 u (by omega) (by omega) hk (by omega) hz;rw [show -((0:Nat):Int)=0 from rfl,show ((0:Nat):Int)=0 from rfl] at this;simp only [cond_false,this,Bool.not_false,Bool.true_and];by_cases h1:u > 9223372036854775808;rw [if_pos h1,if_pos (by simp;omega)];rw [if_neg h1];by_cases h2:u=9223372036854775808;rw [show ((-(u:Int)) == (-9223372036854775808:Int))=true by rw [beq_iff_eq];omega,if_pos (by simp;omega)];rfl;rw [show ((-(u:Int)) == (-9223372036854775808:Int))=false by rw [beq_eq_false_iff_ne];omega,if_neg (by simp;omega),wi _ (by omega) (by omega)];simp only [cond_false];unfold sint;rw [if_pos (by omega)];congr 2;omega
theorem Ba4:∀ (l:Bs),l.length<=1->E_ l=false
 | [],_=>rfl
 | [a],_=>by
  unfold E_;simp only [List.isPrefixOf,Bool.and_false,Bool.or_self]
 | a :: b :: t,h=>by simp at h
theorem parse_eq (k:Nat) (s:Ah) (hs:s.size<=1000000) (hk:s.size < k):Qh.f k s=some (F9 (bs s)):=by
 have hq:((cond (decide ((s.size:Int) >= (2:Int))) ((Dm s (0:Int)).bind λc38:UInt8=>cond ((c38.toNat:Int) == (48:Int)) ((Dm s (1:Int)).bind λc40:UInt8=>cond ((c40.toNat:Int) == (120:Int)) (some true) ((Dm s (1:Int)).bind λVo:UInt8=>some ((Vo.toNat:Int) == (88:Int)))) (some false)) (some false)):Option Bool)=some (E_ (bs s)):=by
  unfold E_;rcases Nat.lt_or_ge 1 s.size with h | h;rw [dT (p:=(s.size:Int) >= 2) (by omega)];have e0:=JF s 0 (by omega);have e1:=JF s 1 h;have d0:=I8 s 0 (by omega);have d1:=I8 s 1 h;rw [show ((0:Nat):Int)=0 from rfl] at e0;rw [show ((1:Nat):Int)=1 from rfl] at e1;rw [List.drop_zero] at d0;rw [d0,d1,e0,e1];generalize s[0]=a;generalize s[1]=b;simp only [cond_true,Aq];rw [show ((a.toNat:Int) == 48)=decide (a=48) from bq a 48,show ((b.toNat:Int) == 120)=decide (b=120) from bq b 120,show ((b.toNat:Int) == 88)=decide (b=88) from bq b 88];by_cases ha:a=48;subst ha;rw [dT rfl];have hx:∀ y:UInt8,([48,y].isPrefixOf (48 :: b :: (bs s).drop (1+1)))=((y == b) && true):=λy=>rfl;rw [hx,hx];simp only [cond_true];by_cases hb:b=120;subst hb;rfl;rw [dF hb,show ((120:UInt8) == b)=false by rw [beq_eq_false_iff_ne];exact λe=>hb e.symm];simp only [cond_false,Bool.false_or];have e:((88:UInt8) == b)=decide (b=88):=by
   rw [Bool.eq_iff_iff,beq_iff_eq,decide_eq_true_eq];exact eq_comm
  rw [e];cases decide (b=88) <;> rfl;rw [dF ha];simp only [cond_false,List.isPrefixOf];rw [show ((48:UInt8) == a)=false by rw [beq_eq_false_iff_ne];exact λe=>ha e.symm];rfl;rw [dF (p:=(s.size:Int) >= 2) (by omega)];have hl:(bs s).length<=1:=by rw [BZ];omega
  have:=Ba4 (bs s) hl;unfold E_ at this;rw [this];rfl
 unfold Qh.f DJ.f;rw [hq];unfold F9;simp only [Aq];have hT:∀ hex x2,Ach k hex x2=cond ((x2.size:Int) == (0:Int)) (some ((0:Int),(4:Int))) (AN (λ(_:Unit)=>cond hex (AN (λ(x7:Int)=>AN (λ(x9:Int)=>some (x9,(0:Int))) (λIV=>cond false (IV (Au (0 - x7))) (IV x7))) (λJ8=>DJ.l0 k x2 J8 (0:Int) (0:Int))) (AN (λ(x18:Int)=>cond false (some (x18,(0:Int))) (cond (x18 == (-9223372036854775808:Int)) (some ((0:Int),(14:Int))) (some (Au (0 - x18),(0:Int))))) (λJ19=>DJ.l1 k x2 J19 (0:Int) (0:Int)))) (λJ5=>DJ.l2 k hex x2 J5 (0:Int))):=λ_ _=>rfl;simp only [<- hT];have hz:=λhex x=>Auu hex (x:Bs).length 0 x (Nat.le_refl _);unfold FP;simp only [hz];unfold AN;generalize E_ (bs s)=hex at *;cases hex with
 | false =>
  simp only [cond_false,Bool.false_eq_true,if_false];rw [As5 k false s hs hk];simp only [Aq];rfl
 | true =>
  simp only [cond_true,if_true];rcases Nat.lt_or_ge 1 s.size with h | h;have:=WR s 2 s.size (by omega) (Nat.le_refl _);rw [show ((2:Nat):Int)=2 from rfl,List.take_of_length_le (by rw [BV,BZ];omega)] at this;rw [this];simp only [Aq];rw [As5 k true _ (by rw [N5,BV,BZ];omega) (by rw [N5,BV,BZ];omega),H8];rfl;exfalso;rw [dF (p:=(s.size:Int) >= 2) (by omega)] at hq;cases hq
def Jd (l:Bs):Nat:=(l.takeWhile (λb=>b != 10)).length
theorem Auk (b:UInt8) (t:Bs):(B2 (b :: t)).1=10 ↔ b=10:=by
 by_cases h:b.toNat < 128;rw [OZ b t h];constructor;intro e;exact UInt8.toNat_inj.1 (by show b.toNat=10;exact e);intro e;subst e;rfl;have:=Vt b t (by omega);constructor;intro e;omega;intro e;subst e;exact absurd (by decide) h
theorem Bll (x y:Bs) (h:∀ b ∈ x,b≠10):Jd (x++y)=x.length+Jd y:=by
 unfold Jd;rw [List.takeWhile_append_of_pos (λb hb=>by simpa using h b hb),BT]
theorem Acp:∀ (n:Nat) (l:Bs),l.length<=n->B6 KQ l=Jd l
 | n,[],_=>rfl
 | 0,b :: t,h=>by simp at h
 | n+1,b :: t,h=>by
  rw [N1 KQ (b :: t) (by simp)];unfold KQ;by_cases hb:b=10
  ·subst hb
   rw [if_neg (by simp [(Auk 10 t).2 rfl])];rfl
  ·have hr:(B2 (b :: t)).1≠10:=λe=>hb ((Auk b t).1 e)
   rw [if_pos (by simpa using hr)];have hw:=Jw (b :: t);have hw3:=hw.2.2 (by simp);have ih:=Acp n ((b :: t).drop (B2 (b :: t)).2) (by rw [BV];omega);unfold KQ at ih;rw [ih]
   conv=>rhs;rw [<- List.take_append_drop (B2 (b :: t)).2 (b :: t)]
   rw [Bll _ _ (λx hx=>?_),List.length_take,Nat.min_eq_left hw3];intro e;subst e;have:=A2n (b :: t) 10 hx (by decide);exact hr this.1
theorem Ap0 (s:Ah) (hs:s.size<=1000000) (J:Int->Option (List (Int×Ah×Int×Int)×Int×Int)):∀ (d i k:Nat),s.size - i<=d->i<=s.size->d < k ->
  Fs.l1 k s J (i:Int)=J ((i+Jd ((bs s).drop i):Nat):Int)
 | d,i,k,hd,hi,hk=>by
  obtain ⟨k,rfl⟩:∃ m,k=m+1:=⟨k - 1,by omega⟩;simp only [Fs.l1];rcases Nat.lt_or_ge i s.size with h | h;obtain ⟨d,rfl⟩:∃ m,d=m+1:=⟨d - 1,by omega⟩;rw [dT (p:=(i:Int) < s.size) (by omega),JF s i h,wi ((i:Int)+1) (by omega) (by omega),show (i:Int)+1=((i+1:Nat):Int) by omega];have ih:=Ap0 s hs J d (i+1) k (by omega) (by omega) (by omega);rw [I8 s i h];simp only [cond_true,Aq];rw [show ((s[i].toNat:Int) != 10)=decide (s[i]≠10) from bn s[i] 10];by_cases hb:s[i]=10;rw [dF (by simpa using hb),show Jd (s[i] :: (bs s).drop (i+1))=0 by unfold Jd;rw [List.takeWhile_cons_of_neg (by simpa using hb)];rfl];rfl;rw [dT hb,show Jd (s[i] :: (bs s).drop (i+1))=Jd ((bs s).drop (i+1))+1 by unfold Jd;rw [List.takeWhile_cons_of_pos (by simpa using hb)];rfl];simp only [cond_true];rw [ih];congr 2;omega;rw [dF (p:=(i:Int) < s.size) (by omega),List.drop_of_length_le (by rw [BZ];omega)];rfl
def Uz:(Int×Int) ⊕ List Tok->List (Int×Ah×Int×Int)×Int×Int
 | .inl (c,p)=>([],c,p)
 | .inr l=>(l.map G2,0,0)
def Acv (s:Ah) (l3:List (Int×Ah×Int×Int)):Option (List (Int×Ah×Int×Int)×Int×Int) :=
 (apd 40 l3 [((6:Int),(⟨#[]⟩:Ah),(0:Int),(s.size:Int))]).bind λl10=>some (l10,(0:Int),(0:Int))
theorem Buh (b:UInt8) (t:Bs) (h:Mj b=false):B6 CE (b :: t)=0:=by
 rw [N1 CE (b :: t) (by simp),if_neg];intro he;by_cases hb:b.toNat < 128;rw [OZ b t hb] at he;rw [A0t he] at h;cases h;have:=Vt b t (by omega);unfold CE at he;simp at he;omega
theorem Bum (b:UInt8) (t:Bs):(B2 (b :: t)).1=34\/(B2 (b :: t)).1=39 ↔ b=34\/b=39:=by
 by_cases hb:b.toNat < 128;rw [OZ b t hb];constructor;rintro (h | h);exact .inl (UInt8.toNat_inj.1 h);exact .inr (UInt8.toNat_inj.1 h);rintro (h | h) <;> subst h;exact .inl rfl;exact .inr rfl;have:=Vt b t (by omega);constructor;rintro (h | h) <;> omega;rintro (h | h) <;> (subst h;exact absurd (by decide) hb)
theorem Adi (q:UInt8):∀ (f g:Nat) (l acc:Bs) (i:Nat),l.length < f->l.length < g->Fv q f l acc i=Fv q g l acc i
 | 0,_,l,_,_,h,_=>by omega
 | _,0,l,_,_,_,h=>by omega
 | f+1,g+1,[],_,_,_,_=>rfl
 | f+1,g+1,b :: t,acc,i,h,h'=>by
  simp only [AX] at h h';rw [WZ,WZ];split;rfl;split;rfl;split;cases hE:IZ t with
  | ended=>rfl
  | FQ=>rfl
  | ok e n =>
   have:=XQ hE;exact Adi q f g _ _ _ (by rw [BV];simp;omega) (by rw [BV];simp;omega)
  exact Adi q f g _ _ _ (by omega) (by omega)
set_option maxHeartbeats 1000000 in
theorem Bu2 (s:Ah) (hs:s.size<=20000):∀ (d at_ k:Nat) (acc:List Tok),s.size - at_<=d->at_<=s.size->acc.length<=at_->d+30000<=k ->
  Fs.l0 k s (Acv s) (acc.map G2) (at_:Int)=some (Uz (Jm ((bs s).drop at_) at_ acc)):=by
  intro d;induction d using Nat.strongRecOn with
  | _ d IH =>
  intro at_ k acc hd ha hacc hk;have hs1:s.size<=1000000:=by omega
  obtain ⟨k,rfl⟩:∃ m,k=m+1:=⟨k - 1,by omega⟩;simp only [Fs.l0];rcases Nat.lt_or_ge at_ s.size with h | h;obtain ⟨d,rfl⟩:∃ m,d=m+1:=⟨d - 1,by omega⟩;have ih:=λ(n:Nat) (acc:List Tok) (h1:1<=n) (h2:at_+n<=s.size) (h3:acc.length<=at_+n)=>IH d (by omega) (at_+n) k acc (by omega) h2 h3 (by omega);have hat:=at_eq s at_ k hs1 h (by omega);have hnm:=names_eq s hs1 at_ k (by omega) (by omega);have htx:=text_eq s hs1 at_ k h (by omega);have hsg:=sign_eq k s at_ hs1 h;have hln:=λJ=>Ap0 s hs1 J (s.size - at_) at_ k (Nat.le_refl _) ha (by omega);have hrl:=K4 Cm ((bs s).drop at_);have hdr:=I8 s at_ h;have hlen:((bs s).drop (at_+1)).length=s.size - (at_+1):=by rw [BV,BZ]
  rw [BV,BZ] at hrl;have hnext:at_+1 < s.size->Dm s ((at_+1:Nat):Int)=((bs s).drop (at_+1)).head?:=λ_=>Auo s (at_+1);have hsub:=λ(n:Nat) (h2:at_+n<=s.size)=>WR s at_ (at_+n) (by omega) h2;rw [dT (p:=(at_:Int) < s.size) (by omega),JF s at_ h,wi ((at_:Int)+1) (by omega) (by omega),show (at_:Int)+1=((at_+1:Nat):Int) by omega];rw [hdr] at hat hnm hsg hln hrl hsub ⊢;have hdd:∀ n,(s[at_] :: (bs s).drop (at_+1)).drop n=(bs s).drop (at_+n):=λn=>by rw [<- hdr,List.drop_drop]
  generalize hc:s[at_]=c at *;generalize ht:(bs s).drop (at_+1)=t at *;have hcl:=c.toNat_lt;simp only [cond_true,Aq];have hbl:((cond ((c.toNat:Int) == (32:Int)) (some true) (cond ((c.toNat:Int) == (9:Int)) (some true) (cond ((c.toNat:Int) == (10:Int)) (some true) (some ((c.toNat:Int) == (13:Int)))))):Option Bool)=some (Mj c):=by
   unfold Mj;rw [show ((c.toNat:Int) == 32)=(c == 32) from NM c 32,show ((c.toNat:Int) == 9)=(c == 9) from NM c 9,show ((c.toNat:Int) == 10)=(c == 10) from NM c 10,show ((c.toNat:Int) == 13)=(c == 13) from NM c 13];cases (c == 32) <;> cases (c == 9) <;> cases (c == 10) <;> rfl
  rw [hbl];simp only [Aq];cases hB:Mj c with
  | true =>
   simp only [cond_true];have:=Buu t at_ acc [c] (by simpa using hB);rw [show c :: t=[c]++t from rfl,this,<- ht];exact ih 1 acc (by omega) (by omega) (by omega)
  | false =>
   simp only [cond_false];have hr0:=Buh c t hB;have hstep:=RX (c :: t) at_ acc;rw [hr0,List.drop_zero] at hstep;simp only [Nat.add_zero] at hstep;have hst:D9 (c :: t)=if [45,45].isPrefixOf (c :: t) then .skip (B6 KQ (c :: t)) else if Ig (B2 (c :: t)).1 then (if B6 Cm (c :: t) > 40 then .bad 14 0 else .tok (if LD ((c :: t).take (B6 Cm (c :: t))) then 2 else 1) ((c :: t).take (B6 Cm (c :: t))) 0 (B6 Cm (c :: t)))
    else if GN (B2 (c :: t)).1 then (if (F9 ((c :: t).take (B6 Cm (c :: t)))).2≠0 then .bad (F9 ((c :: t).take (B6 Cm (c :: t)))).2 0 else .tok 3 ((c :: t).take (B6 Cm (c :: t))) (F9 ((c :: t).take (B6 Cm (c :: t)))).1 (B6 Cm (c :: t)))
    else if (B2 (c :: t)).1=34\/(B2 (c :: t)).1=39 then (match Fv (UInt8.ofNat (B2 (c :: t)).1) (c :: t).length t [] 1 with | .bad c r=>.bad c r | .ok v k=>.tok 4 v 0 k)
    else (match N2 (c :: t) with | none=>.bad 4 0 | some s=>.tok 5 s 0 s.length):=by
    unfold D9;rw [if_neg (by simp)];rfl
   have Ba1:((cond ((c.toNat:Int) == (45:Int)) (cond (decide (((at_+1:Nat):Int) < (s.size:Int))) ((Dm s ((at_+1:Nat):Int)).bind λVp:UInt8=>some ((Vp.toNat:Int) == (45:Int))) (some false)) (some false)):Option Bool)=some ([45,45].isPrefixOf (c :: t)):=by
    rw [show ((c.toNat:Int) == 45)=decide (c=45) from bq c 45];by_cases h45:c=45;subst h45;rw [dT rfl];simp only [cond_true];rcases Nat.lt_or_ge (at_+1) s.size with h1 | h1;rw [dT (p:=((at_+1:Nat):Int) < s.size) (by omega),hnext h1];cases t with
    | nil=>simp at hlen;omega
    | cons e t =>
     simp only [cond_true,List.head?_cons,Aq];rw [show ((e.toNat:Int) == 45)=(e == 45) from NM e 45];show some (e == 45)=some ((45 == (45:UInt8)) && ((45 == e) && true));rw [show ((45:UInt8) == e)=(e == 45) by rw [Bool.eq_iff_iff,beq_iff_eq,beq_iff_eq];exact eq_comm];cases (e == 45) <;> rfl
    rw [dF (p:=((at_+1:Nat):Int) < s.size) (by omega)];have:t=[]:=List.eq_nil_of_length_eq_zero (by omega);subst this;rfl;rw [dF h45];show some false=some ((45 == c) && _);rw [show ((45:UInt8) == c)=false by rw [beq_eq_false_iff_ne];exact λe=>h45 e.symm];rfl
   rw [Ba1];simp only [Aq];have htok:∀ (n:Nat) (kind:Int) (text:Bs) (v:Int),1<=n->at_+n<=s.size->D9 (c :: t)=.tok kind text v n ->
     ((apd 40 (acc.map G2) [(kind,str text,v,(at_:Int))]).bind λl45=>Fs.l0 k s (Acv s) l45 (Au ((at_:Int)+(n:Int))))=some (Uz (Jm (c :: t) at_ acc)):=by
    intro n kind text v h1 h2 h3;rw [h3] at hstep;rw [hstep,Vc _ _ _ (by simp;omega)];simp only [Aq];rw [wi _ (by omega) (by omega),show (at_:Int)+(n:Int)=((at_+n:Nat):Int) by omega,hdd];have:=ih n (acc++[⟨kind,text,v,at_⟩]) h1 h2 (by simp;omega);rw [List.map_append] at this;exact this
   have hbad:∀ (cd:Int) (rel:Nat),D9 (c :: t)=.bad cd rel->Uz (Jm (c :: t) at_ acc)=([],cd,((at_+rel:Nat):Int)):=by
    intro cd rel h3;rw [h3] at hstep;rw [hstep];rfl
   cases hp:[45,45].isPrefixOf (c :: t) with
   | true =>
    rw [hp,if_pos rfl] at hst;rw [hst] at hstep;rw [Acp _ _ (Nat.le_refl _)] at hstep;simp only [cond_true,AN];rw [hln];have hn1:1<=Jd (c :: t)/\Jd (c :: t)<=s.size - at_:=by
     have:=(LZ (c :: t)).1 _ hst;rw [Acp _ _ (Nat.le_refl _)] at this;simp only [AX] at this;omega
    rw [hstep];show _=some (Uz (Jm (List.drop (Jd (c :: t)) (c :: t)) (at_+Jd (c :: t)) acc));rw [hdd];exact ih (Jd (c :: t)) acc hn1.1 (by omega) (by omega)
   | false =>
    rw [hp,if_neg (by simp)] at hst;simp only [cond_false];rw [hat];simp only [Aq,AN,Ati,As3];have hrq:=Bum c t;have hwd:=(Jw (c :: t)).1;have hrun1:Ig (B2 (c :: t)).1=true\/GN (B2 (c :: t)).1=true->1<=B6 Cm (c :: t):=λh=>by
     rw [N1 Cm _ (by simp),if_pos (by unfold Cm;rcases h with h | h <;> simp [h])];omega
    cases hL:Ig (B2 (c :: t)).1 with
    | true =>
     rw [hL,if_pos rfl] at hst;have h1:=hrun1 (.inl hL);simp only [cond_true];rw [hnm];simp only [Aq];by_cases h40:B6 Cm (c :: t) > 40;rw [dT (p:=((B6 Cm (c :: t):Nat):Int) > 40) (by omega)];rw [if_pos h40] at hst;rw [hbad _ _ hst];rfl;rw [dF (p:=((B6 Cm (c :: t):Nat):Int) > 40) (by omega)];rw [if_neg h40] at hst;simp only [cond_false];rw [wi ((at_:Int)+(B6 Cm (c :: t):Nat)) (by omega) (by omega),show (at_:Int)+((B6 Cm (c :: t):Nat):Int)=((at_+B6 Cm (c :: t):Nat):Int) by omega,hsub _ (by omega),Nat.add_sub_cancel_left];simp only [Aq,Bhm,H8];cases hW:LD ((c :: t).take (B6 Cm (c :: t))) with
     | true =>
      rw [hW] at hst;simp only [cond_true];rw [show ((at_+B6 Cm (c :: t):Nat):Int)=(at_:Int)+((B6 Cm (c :: t):Nat):Int) by omega];have:=htok (B6 Cm (c :: t)) 2 _ 0 h1 (by omega) hst;rw [wi _ (by omega) (by omega)] at this;exact this
     | false =>
      rw [hW] at hst;simp only [cond_false];rw [show ((at_+B6 Cm (c :: t):Nat):Int)=(at_:Int)+((B6 Cm (c :: t):Nat):Int) by omega];have:=htok (B6 Cm (c :: t)) 1 _ 0 h1 (by omega) hst;rw [wi _ (by omega) (by omega)] at this;exact this
    | false =>
     rw [hL,if_neg (by simp)] at hst;simp only [cond_false];cases hD:GN (B2 (c :: t)).1 with
     | true =>
      rw [hD,if_pos rfl] at hst;have h1:=hrun1 (.inr hD);simp only [cond_true];rw [hnm];simp only [Aq];rw [wi ((at_:Int)+(B6 Cm (c :: t):Nat)) (by omega) (by omega),show (at_:Int)+((B6 Cm (c :: t):Nat):Int)=((at_+B6 Cm (c :: t):Nat):Int) by omega,hsub _ (by omega),Nat.add_sub_cancel_left];simp only [Aq];have hsz:(str ((c :: t).take (B6 Cm (c :: t)))).size<=20000:=by rw [N5,List.length_take];simp only [AX];omega
      rw [parse_eq k _ (by omega) (by omega),H8];simp only [Aq];by_cases hP:(F9 ((c :: t).take (B6 Cm (c :: t)))).2=0;rw [show ((F9 ((c :: t).take (B6 Cm (c :: t)))).2 != 0)=false by rw [hP];rfl];rw [if_neg (by simpa using hP)] at hst;simp only [cond_false];rw [show ((at_+B6 Cm (c :: t):Nat):Int)=(at_:Int)+((B6 Cm (c :: t):Nat):Int) by omega];have:=htok (B6 Cm (c :: t)) 3 _ _ h1 (by omega) hst;rw [wi _ (by omega) (by omega)] at this;exact this;rw [show ((F9 ((c :: t).take (B6 Cm (c :: t)))).2 != 0)=true by rw [bne_iff_ne];exact hP];rw [if_pos hP] at hst;rw [hbad _ _ hst];rfl
     | false =>
      rw [hD,if_neg (by simp)] at hst;simp only [cond_false];have hqb:((cond ((c.toNat:Int) == (34:Int)) (some true) (some ((c.toNat:Int) == (39:Int)))):Option Bool)=some (decide (c=34\/c=39)):=by
       rw [show ((c.toNat:Int) == 34)=decide (c=34) from bq c 34,show ((c.toNat:Int) == 39)=decide (c=39) from bq c 39];by_cases q1:c=34;rw [dT q1,dT (show c=34\/c=39 from .inl q1)];rfl;rw [dF q1];by_cases q2:c=39;rw [dT q2,dT (show c=34\/c=39 from .inr q2)];rfl;rw [dF q2,dF (show ¬ (c=34\/c=39) from λh=>h.elim q1 q2)];rfl
      rw [hqb];simp only [Aq];by_cases hQ:c=34\/c=39;rw [dT hQ];rw [if_pos (hrq.2 hQ)] at hst;simp only [cond_true];have hrc:UInt8.ofNat (B2 (c :: t)).1=c:=by
       rw [OZ c t (by rcases hQ with rfl | rfl <;> decide)];simp
      rw [hrc,Adi c (c :: t).length (s.size - at_) t [] 1 (by simp) (by omega)] at hst;rw [htx];simp only [Aq];cases hT:Fv c (s.size - at_) t [] 1 with
      | bad cd rel =>
       rw [hT] at hst;have hcd:cd≠0:=Agn _ _ _ hst;simp only [L_];rw [show (cd != 0)=true by rw [bne_iff_ne];exact hcd,hbad _ _ hst];rfl
      | ok v n =>
       rw [hT] at hst;have hn:=(LZ (c :: t)).2 _ _ _ _ hst;simp only [AX] at hn;simp only [L_];rw [show ((0:Int) != 0)=false from rfl];simp only [cond_false];exact htok n 4 v 0 hn.1 (by omega) hst
      rw [dF hQ];rw [if_neg (λh=>hQ (hrq.1 h))] at hst;simp only [cond_false];rw [hsg];simp only [Aq,Ac0];cases hS:N2 (c :: t) with
      | none =>
       rw [hS] at hst;rw [hbad _ _ hst];rfl
      | some x =>
       rw [hS] at hst;have hn:=(LZ (c :: t)).2 _ _ _ _ hst;simp only [AX] at hn;simp only [];rw [N5,show ((x.length:Int) == 0)=false by rw [beq_eq_false_iff_ne];omega];simp only [cond_false];exact htok x.length 5 x 0 hn.1 (by omega) hst
  have e:at_=s.size:=by omega
  rw [dF (p:=(at_:Int) < s.size) (by omega),List.drop_of_length_le (by rw [BZ];omega)];simp only [cond_false];have:Jm [] at_ acc=.inr (acc++[⟨6,[],0,at_⟩]):=by rw [RX];rfl
  rw [this];unfold Acv;rw [Vc _ _ _ (by simp;omega)];simp only [Aq,Uz,List.map_append];rw [e];rfl
theorem Buy (k:Nat) (s:Ah) (hk:50000<=k):Fs.f k s=some (R6 s):=by
 unfold Fs.f R6;by_cases h:s.size<=20000;rw [dF (by omega),Bur _ (by rw [BZ];exact h)];simp only [cond_false];have:=Bu2 s h s.size 0 k [] (by omega) (by omega) (by simp) (by omega);rw [List.drop_zero] at this;refine Eq.trans this ?_;cases Jm (bs s) 0 [] with
 | inl x=>obtain ⟨c,p⟩:=x;rfl
 | inr l=>rfl
 rw [dT (by omega)];unfold G1;rw [if_pos (by rw [BZ];omega)];rfl
theorem XM {p:Prop} [Decidable p] (h:p):decide p=true:=decide_eq_true h
theorem A2r {p:Prop} [Decidable p] (h:¬ p):decide p=false:=decide_eq_false h
theorem Bsc (k:Nat) (hk:2000000<=k) (s:Ah):Qk.f k s=some (JD s):=by
 unfold Qk.f;rw [Buy k s (by omega)];unfold R6;simp only [Aq];cases hs:G1 (bs s) with
 | inl x =>
  obtain ⟨c,p⟩:=x;have:=WU _ _ _ hs;rw [Abr hs];simp only;rw [show (c != 0)=true by rw [bne_iff_ne];exact this];rfl
 | inr t =>
  have hT:=WW s t hs;simp only [bne_self_eq_false,cond_false];have hl:(t.map G2).length<=400000:=by have:=hT.len;omega
  have h0:t.map G2≠[]:=λe=>by have:=hT.good;rw [e] at this;exact this
  have ha:KC (t.map G2):=λx hx=>(hT.at_ x hx).1;have hf:=A5l hl ha h0 k true hT.good (List.suffix_refl _) (by have:=hT.len;omega);rw [Amv] at hf;rcases Xb hT with ⟨b,r,hb,hB,h6⟩ | ⟨i,hb,he⟩;have hw:=I_ true hT.good;rw [hb] at hw hf;obtain ⟨hg,_,Ti⟩:=hw;have hf:C9.f k (t.map G2) 0 (-1) true=some (eT3 b (ix (t.map G2) r) (-1)):=hf;rw [hf];simp only [Aq,AN,eT3];rw [LB hg Ti,XM (p:=(-1:Int) < 0) (by omega)];simp only [cond_true,Aq];rcases h6 with ⟨h6,he⟩ | ⟨h6,he⟩;rw [Abt hs he,show ((hd r).1 != 6)=false by rw [bne_eq_false_iff_eq];exact h6];rfl;rw [RN hs he,show ((hd r).1 != 6)=true by rw [bne_iff_ne];exact h6];simp only [cond_true];rw [OU k hg Ti];simp only [Aq];rw [SA (by omega) h0 k];simp only [Aq];have:=(ha.suf Ti).hd;rw [XM (p:=(hd r).2.2.2 >= 0) (by omega)];rfl;rw [hb] at hf;obtain ⟨h1,a,_,hf⟩:=hf;rw [hf,RN hs he];simp only [Aq,AN,eT3];rw [A2r (p:=i < 0) (by omega)];simp only [cond_false,Aq];rw [XM (p:=i >= 0) (by omega)];rfl
theorem Acs:∀ (d k:Nat),500010+3 * d<=k->(∀ x,IsS x->gw x->sz x<=d->∀ lp,RxS (RC.at k) d lp (λ_=>True) x)/\(∀ b,FH b->gw b->sz b<=d->RxB (RC.at k) d b)
 | 0,k,_=>⟨λx _ _ h=>by have:=M4 x;omega,λx _ _ h=>by have:=M4 x;omega⟩
 | d+1,k,hk=>by
  obtain ⟨k,rfl⟩:∃ m,k=m+2:=⟨k - 2,by omega⟩;obtain ⟨ihS,LC⟩:=Acs d (k+1) (by omega);constructor;intro x hx hw hd lp w lo _ hb;obtain ⟨g1,g2⟩:=(QQ (d+1)).1 x hx w lo lp;exact ⟨Bvu (by omega) (XV d (k+1) (by omega)) (Air (by omega) (XV d k (by omega))) LC x hx hw hd w lo lp hb,g1.weak (by omega),g2,Aj⟩;intro b hq hw hd w lo lp hb;cases hq with
  | @block n a t l hl =>
   simp only [sz] at hd hb;obtain ⟨_,hgl⟩:=hw;exact Agw (l:=l) (P:=λ_=>True) (by omega) (λx hx=>ihS x (hl x hx) (Ka.1 hgl x hx) (by have:=IS hx;omega) lp) trivial (hb.weak (by omega))
def Pc0 (w:RW):Prop:=w.F=0/\w.ab=[]
theorem A6k {k d:Nat} (hk:500000<=k) {t:Ah} {a:Int} {l:List Tree} {b:Tree} (hq:FH b) (hB:RxB (RC.at k) d b) (w:RW) (lo:Av) (lp:Bool) (hP:Pc0 w) (hb:Fk w lo (sz (.mk 31 t (l.length:Nat) a (l++[b])))) :
    (RC.at (k+1)).Iw w.fs w.gl (w.F:Int) w.ab w.er.1 w.er.2 31 t (l.length:Nat) a (l++[b]) lo=some (o6 (CA (d+1) w lo (.mk 31 t (l.length:Nat) a (l++[b])) lp).1) /\
      Gr w (CA (d+1) w lo (.mk 31 t (l.length:Nat) a (l++[b])) lp).1 (2 * sz (.mk 31 t (l.length:Nat) a (l++[b])))/\Pc0 (CA (d+1) w lo (.mk 31 t (l.length:Nat) a (l++[b])) lp).1:=by
  rw [WP];simp only [sz] at hb ⊢;rw [Eb] at hb ⊢;simp only [A_] at hb ⊢;have hl1:=Fu l;have hp:=hb.pw;have hlo:=hb.lo;obtain ⟨b1,b2,b3⟩:=hb.tc;have hml:(l++[b]).length=l.length+1:=by simp
  show Iw.g (RC.at k) k w.fs w.gl (w.F:Int) w.ab w.er.1 w.er.2 31 t (l.length:Nat) a (l++[b]) lo=some (o6 _)/\_;unfold Iw.g AN;have body:∀ w2:RW,w2.fs=w.fs->w2.gl=w.gl ->
      ((E5.f k w2.er.1 w2.er.2 31 t (l.length:Nat) a (l++[b]) (l.length:Nat) (50:Int)).bind λr6=>(Mx.f k w.gl t).bind λr7=>(apd 64 w.fs [(t,a,((l.length:Nat):Int),(0:Int),[])]).bind λl15=>(B5 (l++[b]) (l.length:Nat)).bind λx20=>(Fl (l++[b]) (0:Int) (l.length:Nat)).bind λl29 =>
        (Em.f k l15 ((w.fs.length:Nat):Int) r6.1 r6.2 31 t (l.length:Nat) a (l++[b]) ([]) l29 (0:Int)).bind λr33=>((RC.at k).De r33.2.1 r7 ((w.fs.length:Nat):Int) lo r33.2.2.1 r33.2.2.2 x20.kind x20.text x20.n x20.at_ x20.kids r33.1 false).bind λr50=>some (r50.1,r50.2.1,(0:Int),([]:Av),r50.2.2.2.2.1,r50.2.2.2.2.2))
     =some (o6 (let w:=(w2.few a (l.length:Nat) 50).EZ t
         let w:RW:={ w with ab:=lo,F:=w.fs.length,fs:=w.fs++[(t,a,((l.length:Nat):Int),0,[])] };let r:=w.brings a [] l 0
         { rB d r.1 r.2 b false with F:=0,ab:=[] })) /\
        Gr w (let w:=(w2.few a (l.length:Nat) 50).EZ t
         let w:RW:={ w with ab:=lo,F:=w.fs.length,fs:=w.fs++[(t,a,((l.length:Nat):Int),0,[])] };let r:=w.brings a [] l 0
         { rB d r.1 r.2 b false with F:=0,ab:=[] }) (2 * (A_ l+(sz b+0)+1)):=λw2 e1 e2=>by
    obtain ⟨w4,hw4⟩:∃ w4:RW,w4={ (w2.few a (l.length:Nat) 50).EZ t with ab:=lo,F:=((w2.few a (l.length:Nat) 50).EZ t).fs.length,fs:=((w2.few a (l.length:Nat) 50).EZ t).fs++[(t,a,((l.length:Nat):Int),0,[])] }:=⟨_,rfl⟩;have f1:w4.fs=w.fs++[(t,a,((l.length:Nat):Int),0,[])]:=by subst hw4;show (w2.few a (l.length:Nat) 50).fs++_=_;rw [Er.1,e1]
    have f2:w4.gl=EY w.gl t:=by subst hw4;show EY (w2.few a (l.length:Nat) 50).gl t=_;rw [Er.2.1,e2]
    have f3:w4.F=w.fs.length:=by subst hw4;show (w2.few a (l.length:Nat) 50).fs.length=_;rw [Er.1,e1]
    have f4:w4.ab=lo:=by subst hw4;rfl
    have f5:w4.er=(w2.few a (l.length:Nat) 50).er:=by subst hw4;rfl
    have A6y:(let w:=(w2.few a (l.length:Nat) 50).EZ t
         let w:RW:={ w with ab:=lo,F:=w.fs.length,fs:=w.fs++[(t,a,((l.length:Nat):Int),0,[])] };let r:=w.brings a [] l 0
         ({ rB d r.1 r.2 b false with F:=0,ab:=[] }:RW))={ rB d (w4.brings a [] l 0).1 (w4.brings a [] l 0).2 b false with F:=0,ab:=[] }:=by subst hw4;rfl
    rw [A6y];have hgl:=QF w.gl t;have B00:pw w4<=pw w+2:=by
      unfold pw;rw [f1,f2,Adf,BT];simp only [tc,AX,Bp];omega
    have hF4:w4.F < w4.fs.length:=by rw [f3,f1];simp
    obtain ⟨g1,g2⟩:=ML (w:=w4) (a:=a) (lo:=[]) (l:=l) (n:=0);simp only [Bp] at g2;have hb4:Fk (w4.brings a [] l 0).1 (w4.brings a [] l 0).2 (sz b):=by
      refine ⟨by rw [g1.F];exact Nat.lt_of_lt_of_le hF4 g1.len,by have:=g1.pw;omega,by omega,by rw [g1.ab,f4];omega⟩
    have gB:=(QQ d).2 b hq (w4.brings a [] l 0).1 (w4.brings a [] l 0).2 false;constructor;rw [KM,Aq,Aju t (by omega) hk,Aq,Lu (by simp;omega),Aq,KP l.length (by omega) (by omega),Ts,Aq,Jn 0 l.length (by omega) (by omega) (Nat.zero_le _) (by omega),Aq,show ((l++[b]).drop 0).take (l.length - 0)=l by simp];have h2:=Xf (w:=w4) (a:=a) (k:=k) 31 t (l.length:Nat) (l++[b]) [] l 0 hF4 (by omega) (by simp) (by omega) hk;rw [f1,f3,f5,show ((0:Nat):Int)=0 from rfl] at h2;rw [h2,Aq];have h3:=hB (w4.brings a [] l 0).1 (w4.brings a [] l 0).2 false hb4;rw [KH.1,KH.2.1,KH.2.2,f2,f3,f4] at h3;unfold o4w;dsimp only;rw [h3];rfl;have t1:=g1.pw;have t2:=gB.pw;have t3:=g1.len;have t4:=gB.len;have t5:w.fs.length<=w4.fs.length:=by rw [f1];simp
    exact ⟨by show pw (rB d (w4.brings a [] l 0).1 (w4.brings a [] l 0).2 b false)<=_;omega,by show w.fs.length<=(rB d (w4.brings a [] l 0).1 (w4.brings a [] l 0).2 b false).fs.length;omega,hP.1.symm,hP.2.symm⟩
  rw [KM,Aq];dsimp only;rw [VV,Aq];cases hkt:Ej t with
  | true =>
    rw [cond_true,NL (w:=w.few a (w.fs.length:Nat) 100),Aq];obtain ⟨q1,q2⟩:=body ((w.few a (w.fs.length:Nat) 100).bad 5 a) (Js.1.trans Er.1) (Js.2.1.trans Er.2.1);exact ⟨q1,q2,rfl,rfl⟩
  | false =>
    rw [cond_false];obtain ⟨q1,q2⟩:=body (w.few a (w.fs.length:Nat) 100) Er.1 Er.2.1;exact ⟨q1,q2,rfl,rfl⟩
theorem Bwi {k d:Nat} (hk:500020+3 * d<=k) {n a:Int} {t:Ah} {l:List Tree} (hl:∀ x ∈ l,IsS x\/OJ x) (hg:MN l) (hd:A_ l<=d+1) {w:RW} (hP:Pc0 w) (hb:Fk w [] (A_ l)) :
  (RC.at (k+3)).De w.fs w.gl (w.F:Int) w.ab w.er.1 w.er.2 20 t n a l [] false=some (o6 (rB (d+2) w [] (.mk 20 t n a l) false)):=by
 refine Agw (P:=Pc0) (by omega) (λx hx=>?_) hP hb;have hgx:=Ka.1 hg x hx;have hsx:=IS hx;rcases hl x hx with h | h;intro w lo hP hb;obtain ⟨q1,q2,q3,_⟩:=(Acs (d+1) (k+2) (by omega)).1 x h hgx (by omega) false w lo trivial hb;exact ⟨q1,q2,q3,q2.F.trans hP.1,q2.ab.trans hP.2⟩;cases h with
 | @fn a t l' b hq =>
  intro w lo hP hb;simp only [sz] at hsx;rw [Eb] at hsx;simp only [A_] at hsx;obtain ⟨_,hgl⟩:=hgx;obtain ⟨q1,q2,q3⟩:=A6k (k:=k) (d:=d) (by omega) hq ((Acs d k (by omega)).2 b hq (Ka.1 hgl b (by simp)) (by omega)) w lo false hP hb;refine ⟨?_,q2,by rw [WP];exact Nat.le_add_right ..,q3⟩;show Df.g (RC.at (k+1)) (k+1) w.fs w.gl (w.F:Int) w.ab w.er.1 w.er.2 31 t (l'.length:Nat) a (l'++[b]) lo false=_;unfold Df.g AN;dsimp only;rw [eqC rfl,cond_true,q1,Aq];rw [WP]
theorem Alu (J:Int->Option Int) (R:H2):∀ (t pre:List Tree) (m a:Nat),pre.length+t.length<=10000000->t.length+1<=m ->
  (∀ x ∈ t,R.DZ x.kind x.text x.n x.at_ x.kids=some (htT x:Int))->DZ.l0 m R (pre++t) J (a:Int) (pre.length:Int)=J ((max a (KO t):Nat):Int)
 | [],pre,m,a,hl,hm,_=>by
  obtain ⟨m,rfl⟩:∃ m',m=m'+1:=⟨m - 1,by omega⟩;simp only [DZ.l0];rw [ltF (by simp)];simp [KO]
 | x :: t,pre,m,a,hl,hm,hR=>by
  obtain ⟨m,rfl⟩:∃ m',m=m'+1:=⟨m - 1,by omega⟩;simp only [AX] at hl hm;have ih:=λa=>Alu J R t (pre++[x]) m a (by simp;omega) (by omega) (λy hy=>hR y (EM _ hy));simp only [C8,BT] at ih;simp only [DZ.l0,AN];rw [Gv (by simp;omega),Ih];simp only [cond_true,Aq];rw [hR x (DT ..)];simp only [Aq];rw [wiC _ (by omega) (by omega)];by_cases h:(htT x:Int) > (a:Int);rw [decide_eq_true h,cond_true];refine (ih (htT x)).trans (congrArg J ?_);simp only [KO];omega;rw [decide_eq_false h,cond_false];refine (ih a).trans (congrArg J ?_);simp only [KO];omega
theorem Als:∀ (k:Nat) (t:Tree),sz t<=k->sz t<=1000000->DZ.g (H2.at k) k t.kind t.text t.n t.at_ t.kids=some (htT t:Int)
 | 0,t,h,_=>by have:=M4 t;omega
 | k+1,.mk kd tx n a l,h,h9=>by
  simp only [sz] at h h9;have hl:=Fu l;have hh:=VI l;unfold DZ.g AN;have:=Alu (λx2=>some (Au (x2+(1:Int)))) (H2.at (k+1)) l [] (k+1) 0 (by simp only [Bp];omega) (by omega) λx hx=>by
   have:=IS hx;exact Als k x (by omega) (by omega)
  refine this.trans ?_;rw [wiC _ (by omega) (by omega)];simp [htT]
theorem Asa (s:Ah):(∃ c a,c≠0/\JD s=Np c a)\/∃ n,JD s=Qt n/\wfC n/\sz n<=80010/\IsC n:=by
 cases hs:G1 (bs s) with
 | inl x =>
  obtain ⟨c,p⟩:=x;exact .inl ⟨c,p,WU _ _ _ hs,Abr hs⟩
 | inr t =>
  have hT:=WW s t hs;rcases Xb hT with ⟨b,r,hb,hB,⟨_,he⟩ | ⟨_,he⟩⟩ | ⟨j,hb,he⟩;refine .inr ⟨b,Abt hs he,?_,?_,Bwr hb⟩;obtain ⟨⟨a,l,rfl,hl⟩,_⟩:=(wS (fu _)).block true _ (Aup hs) _ _ (val_ok hb);exact ⟨rfl,F2,λx hx=>Or.elim (hl x hx) .inl (λh=>.inr h.2)⟩;have:=hB.size;have:=hT.len;omega;exact .inl ⟨4,_,by decide,RN hs he⟩;exact .inl ⟨4,_,by decide,RN hs he⟩
theorem A6b (w:RW):(cond (w.er.1 != (0:Int)) (some (([]:List DB),([]:List Ah),w.er.1,w.er.2)) (some (w.fs,w.gl,(0:Int),(0:Int))))=some (if w.er.1≠0 then ([],[],w.er.1,w.er.2) else (w.fs,w.gl,0,0)):=by
 by_cases he:w.er.1=0;rw [if_neg (λh=>h he),show (w.er.1 != 0)=false by rw [he];rfl];rfl;rw [if_pos he,show (w.er.1 != 0)=true from bne_iff_ne.2 he];rfl
theorem A1v (k:Nat) (hk:2000000<=k) (s:Ah):Ql.f k s=HI.f k s:=by
 rw [check_eq k (by omega)];unfold Ql.f;rw [Bsc k hk,Aq];rcases Asa s with ⟨c,p,hc,he⟩ | ⟨n,he,hw,hz,hI⟩;rw [he];unfold Np;simp only;rw [show (c != 0)=true by rw [bne_iff_ne];exact hc,cond_true,if_pos hc];rw [he];unfold Qt;obtain ⟨hg,_⟩:=Ad2 hw;have e:Tree.mk n.kind n.text n.n n.at_ n.kids=n:=by cases n;rfl
 simp only [bne_self_eq_false,cond_false,ne_eq,not_true_eq_false,if_false];rw [e,show DZ.f k n.kind n.text n.n n.at_ n.kids=some (htT n:Int) from Als k n (by omega) (by omega),<- Awb (d:=99998) hI hg (by omega)];simp only [Aq];unfold Ur;by_cases hh:htT n > 100;rw [decide_eq_true (by omega),if_pos hh];rfl;rw [decide_eq_false (by omega),if_neg hh,cond_false];cases hI with
 | @chunk n a t l hl =>
  simp only [sz] at hz;obtain ⟨_,hgl⟩:=hg;obtain ⟨k,rfl⟩:∃ m,k=m+3:=⟨k - 3,by omega⟩;have hb:=Bwi (k:=k+1) (d:=99998) (by omega) (n:=n) (a:=a) (t:=t) hl hgl (by omega) (w:=⟨[(noB,a,0,0,[])],[],0,[],(0,0)⟩) ⟨rfl,rfl⟩ ⟨Nat.zero_lt_succ _,by simp [pw,tc];omega,by simp;omega,by simp⟩;have hb':De.f (k+3) [((⟨#[]⟩:Ah),a,(0:Int),(0:Int),[])] [] (0:Int) [] (0:Int) (0:Int) 20 t n a l [] false=_:=hb;show (De.f (k+3) [((⟨#[]⟩:Ah),a,(0:Int),(0:Int),[])] [] (0:Int) [] (0:Int) (0:Int) 20 t n a l [] false).bind _=_;rw [hb',Aq];unfold o6;simp only [Tree.at_];exact A6b _
end
section
open Go Go.RowKit
def IN.l0:Nat->(a0:List (Int×Int×Ah))->(a1:List (Int×Int×Ah))->(J2:(Unit->Option (Bool)))->(x3:Int)->Option (Bool)
 | 0,_,_,_,_=>none
 | m4+1,a0,a1,J2,x3=>cond (decide (x3 < ((a0.length:Nat):Int))) ((B5 a0 x3).bind λx6=>(B5 a1 x3).bind λx10=>cond (!((x6.1 == x10.1) && ((x6.2.1 == x10.2.1) && ((x6.2.2.toList == x10.2.2.toList) && true)))) (some (false)) (IN.l0 m4 a0 a1 J2 (Au (x3+1)))) (J2 ())
def IN.f (k:Nat) (a0:Cj) (a1:Cj):Option (Bool):=cond (((a0.length:Nat):Int) != ((a1.length:Nat):Int)) (some (false)) (AN (λ(_:Unit)=>some (true)) (λJ2=>IN.l0 k a0 a1 J2 0))
theorem IN.ok {k Fz Hp:Nat} {a0 a1:Cj} {FS Ls:N} {Fx Hm:AD} {r:Bool} (h:IN.f k a0 a1=some r) (JT:AZ e43 3 FS (W Fx a0 Fz) a0) (ME:AZ e43 3 Ls (W Hm a1 Hp) a1): Ct Tryz.prog 19 #[W Fx a0 Fz,W Hm a1 Hp] [] [FS,Ls] (λe l1=>e=.returned (bv r)/\l1=[]):=by
 refine BM Tryz.func19 V (AV V) ?_;intro A X hh_;obtain ⟨Kb,QV,_⟩:=hh_;unfold IN.f at h;refine ksr (M 1 (G (AR (ksr (M 5 (G (Az h (λh=>?_) λh=>?_)))))));refine ksr (M 1 (G (Ba (Bm ?_))));obtain rfl:=Ao h;exact kdn V;refine AK (At ?_);obtain ⟨J2,hJ2,h⟩:=BF h;refine BG (τ:=Unit) (λt=>[]) (λt=>X) (λt=>J2 ()=some r) ?_ ?_;rintro ⟨⟩ h;subst hJ2;refine ksr (M 1 (G (Ba ?_)));obtain rfl:=Ao h;exact kdn V;refine ksr (M 1 (G (Bw (Db (τ:=Int) (λt=>[(0,W Fx a0 Fz),(1,W Hm a1 Hp),(5,I t)]) (λt=>X) (λm t=>IN.l0 m a0 a1 J2 t=some r) k 0 h sb V ?_))));clear h;rintro m4 x3 h;rcases m4 with _ | m4;simp [IN.l0] at h;simp only [IN.l0] at h;refine AR (ksr (M 4 (G (Az h (λh=>?_) λh=>?_))));refine AK (At (AR (Bw (AR (KV [(0,0),(1,0),(2,0),(3,3),(4,0),(5,0),(6,0),(7,3)] [FS,Ls] (λw h_=>⟨h_.sat.on _ Kb,h_.sat.on _ QV,Aj⟩) (AA 2 (bnd h λx6 hx6 h=>(KT (T:=43) (kd:=.i64) Mm V hx6 JT λp7 e8 y9=>?_))))))));have e8:Elem _ p7 [I x6.1,I x6.2.1,D x6.2.2]:=e8;refine IC V e8 (λw h_=>h_.mem _ (.head _)) (AA 2 (bnd h λx10 Tj h=>(KT (T:=43) (kd:=.i64) Mm V Tj ME λp11 e12 y13=>?_)));have e12:Elem _ p11 [I x10.1,I x10.2.1,D x10.2.2]:=e12;refine IC V e12 (λw h_=>h_.mem _ (.tail _ (.head _))) (BA (PI (r:=((x6.1 == x10.1) && ((x6.2.1 == x10.2.1) && ((x6.2.2.toList == x10.2.2.toList) && true)))) (xs:=#[I x6.1,I x6.2.1,D x6.2.2]) (ys:=#[I x10.1,I x10.2.1,D x10.2.2]) true (by kernel_rfl) V (by kernel_rfl) (by kernel_rfl) (by kernel_rfl) (by kernel_rfl) (by kernel_rfl) (by kernel_rfl) (by kernel_rfl) (G (Az h (λh=>?_) λh=>?_))));refine ksr (M 1 (G (Ba (Ca (Bm (Bm (Ca (Bm ?_))))))));obtain rfl:=Ao h;exact kdn V;exact AK (Bf (At (AO (M 3 (G (C5 m4 (Au (x3+1)) (Nat.lt_succ_self _) h sb V))))));exact CP (BJ (BJ (CQ (At (AG () h trivial V)))))
def ID.l0:Nat->(a0:List Ah)->(a1:List Ah)->(J2:(Unit->Option (Bool)))->(x3:Int)->Option (Bool)
 | 0,_,_,_,_=>none
 | m4+1,a0,a1,J2,x3=>cond (decide (x3 < ((a0.length:Nat):Int))) ((B5 a0 x3).bind λx6=>(B5 a1 x3).bind λx10=>cond (!(x6.toList == x10.toList)) (some (false)) (ID.l0 m4 a0 a1 J2 (Au (x3+1)))) (J2 ())
def ID.f (k:Nat) (a0:Av) (a1:Av):Option (Bool):=cond (((a0.length:Nat):Int) != ((a1.length:Nat):Int)) (some (false)) (AN (λ(_:Unit)=>some (true)) (λJ2=>ID.l0 k a0 a1 J2 0))
theorem ID.ok {k Fz Hp:Nat} {a0 a1:Av} {FS Ls:N} {Fx Hm:AD} {r:Bool} (h:ID.f k a0 a1=some r) (JT:AZ encS 1 FS (W Fx a0 Fz) a0) (ME:AZ encS 1 Ls (W Hm a1 Hp) a1): Ct Tryz.prog 18 #[W Fx a0 Fz,W Hm a1 Hp] [] [FS,Ls] (λe l1=>e=.returned (bv r)/\l1=[]):=by
 refine BM Tryz.func18 V (AV V) ?_;intro A X hh_;obtain ⟨Kb,QV,_⟩:=hh_;unfold ID.f at h;refine ksr (M 1 (G (AR (ksr (M 5 (G (Az h (λh=>?_) λh=>?_)))))));refine ksr (M 1 (G (Ba (Bm ?_))));obtain rfl:=Ao h;exact kdn V;refine AK (At ?_);obtain ⟨J2,hJ2,h⟩:=BF h;refine BG (τ:=Unit) (λt=>[]) (λt=>X) (λt=>J2 ()=some r) ?_ ?_;rintro ⟨⟩ h;subst hJ2;refine ksr (M 1 (G (Ba ?_)));obtain rfl:=Ao h;exact kdn V;refine ksr (M 1 (G (Bw (Db (τ:=Int) (λt=>[(0,W Fx a0 Fz),(1,W Hm a1 Hp),(5,I t)]) (λt=>X) (λm t=>ID.l0 m a0 a1 J2 t=some r) k 0 h sb V ?_))));clear h;rintro m4 x3 h;rcases m4 with _ | m4;simp [ID.l0] at h;simp only [ID.l0] at h;refine AR (ksr (M 4 (G (Az h (λh=>?_) λh=>?_))));refine AK (At (AR (Bw (AR (KV [(0,0),(1,0),(2,0),(3,3),(4,0),(5,0),(6,0),(7,3)] [FS,Ls] (λw h_=>⟨h_.sat.on _ Kb,h_.sat.on _ QV,Aj⟩) (AA 2 (bnd h λx6 hx6 h=>(KT (T:=9) (kd:=.i64) Ep V hx6 JT λp7 e8 y9=>?_))))))));have e8:Elem _ p7 [D x6]:=e8;refine LG V (by kernel_rfl) (by kernel_rfl) (by kernel_rfl) (by kernel_rfl) e8 (λw h_=>h_.mem _ (.head _)) (AA 2 (bnd h λx10 Tj h=>(KT (T:=9) (kd:=.i64) Ep V Tj ME λp11 e12 y13=>?_)));have e12:Elem _ p11 [D x10]:=e12;refine LG V (by kernel_rfl) (by kernel_rfl) (by kernel_rfl) (by kernel_rfl) e12 (λw h_=>h_.mem _ (.tail _ (.head _))) (BA (M 1 (G (Az h (λh=>?_) λh=>?_))));refine ksr (M 1 (G (Ba (Ca (Bm (Bm (Ca (Bm ?_))))))));obtain rfl:=Ao h;exact kdn V;exact AK (Bf (At (AO (M 3 (G (C5 m4 (Au (x3+1)) (Nat.lt_succ_self _) h sb V))))));exact CP (BJ (BJ (CQ (At (AG () h trivial V)))))
def If.l0:Nat->(Ai:List (Ah×Int×Int×Int×List (Int×Int×Ah)))->(AI:List (Ah×Int×Int×Int×List (Int×Int×Ah)))->(J5:(Unit->Option (Bool)))->(x6:Int)->Option (Bool)
 | 0,_,_,_,_=>none
 | m7+1,Ai,AI,J5,x6=>cond (decide (x6 < ((Ai.length:Nat):Int))) (AN (λ(x10:Ah) (x11:Int) (x12:Int) (CX:Int) (Gt:Cj) (x20:Ah) (x21:Int) (x22:Int) (x23:Int) (l24:Cj)=>(cond (!(x10.toList == x20.toList)) (some true) (cond (x11 != x21) (some true) (cond (x12 != x22) (some true) (cond (CX != x23) (some true) ((IN.f m7 Gt l24).bind λr36=>some (!r36))))):Option Bool).bind λq30=>cond q30 (some (false)) (If.l0 m7 Ai AI J5 (Au (x6+1)))) (λJ29=>(B5 Ai x6).bind λx37=>(B5 AI x6).bind λx46=>J29 x37.1 x37.2.1 x37.2.2.1 x37.2.2.2.1 x37.2.2.2.2 x46.1 x46.2.1 x46.2.2.1 x46.2.2.2.1 x46.2.2.2.2)) (J5 ())
def If.f (k:Nat) (Ai:Bg) (Ak:Av) (AI:Bg) (AJ:Av):Option (Bool):=(cond (((Ai.length:Nat):Int) != ((AI.length:Nat):Int)) (some true) ((ID.f k Ak AJ).bind λr60=>some (!r60)):Option Bool).bind λq3=>cond q3 (some (false)) (AN (λ(_:Unit)=>some (true)) (λJ5=>If.l0 k Ai AI J5 0))
theorem If.ok {k An Bv NO NP:Nat} {Ai AI:Bg} {Ak AJ:Av} {AH B9 UU Af0:N} {Am Bt ND NE:AD} {r:Bool} (h:If.f k Ai Ak AI AJ=some r) (As:RdR DF AH (W Am Ai An) Ai) (BX:AZ encS 1 B9 (W Bt Ak Bv) Ak) (Azv:RdR DR UU (W ND AI NO) AI) (Azw:AZ encS 1 Af0 (W NE AJ NP) AJ): Ct Tryz.prog 8 #[.agg #[W Am Ai An,W Bt Ak Bv],.agg #[W ND AI NO,W NE AJ NP]] [] [AH,B9,UU,Af0] (λe l1=>e=.returned (bv r)/\l1=[]):=by
 refine BM Tryz.func8 V (AV V) ?_;intro A X hh_;obtain ⟨A2,Y8,VF,Bct,_⟩:=hh_;unfold If.f at h;refine ksr (knp #[W Am Ai An,W Bt Ak Bv] 25 λb1=>(knp #[W ND AI NO,W NE AJ NP] 33 λb2=>(M 1 (G (AR (bnd h λq3 hq3 h=>?_))))));refine CH [(2,pt b1),(3,pt b2),(22,bv q3)] (bk b2 #[W ND AI NO,W NE AJ NP] 33 :: bk b1 #[W Am Ai An,W Bt Ak Bv] 25 :: X) ?_ ?_;clear hq3;refine Az h (λh=>?_) λh=>?_;refine ksr (M 1 (G (Ba (Bm ?_))));obtain rfl:=Ao h;exact Ar (Ar (kdn V));refine AK (At ?_);obtain ⟨J5,hJ5,h⟩:=BF h;refine BG (τ:=Unit) (λt=>[]) (λt=>X) (λt=>J5 ()=some r) ?_ ?_;rintro ⟨⟩ h;subst hJ5;refine ksr (M 1 (G (Ba ?_)));obtain rfl:=Ao h;exact kdn V;refine ksr (M 1 (G (Bw (Db (τ:=Int) (λt=>[(2,pt b1),(3,pt b2),(5,I t)]) (λt=>bk b2 #[W ND AI NO,W NE AJ NP] 33 :: bk b1 #[W Am Ai An,W Bt Ak Bv] 25 :: X) (λm t=>If.l0 m Ai AI J5 t=some r) k 0 h sb V ?_))));clear h;rintro m7 x6 h;rcases m7 with _ | m7;simp [If.l0] at h;simp only [If.l0] at h;refine AR (ksr (M 2 (kld 1 0 V (M 2 (G (Az h (λh=>?_) λh=>?_))))));refine AK (At (AR (Bw ?_)));obtain ⟨J29,hJ29,h⟩:=BF h;refine BG (τ:=Ah×Int×Int×Int×Cj×Ah×Int×Int×Int×Cj×Nat×AD×Nat×Nat×AD×Nat) (c16 λ_ _ _ _ _ _ _ _ _ _ n _ _ q _ _=>[(2,pt b1),(3,pt b2),(5,I x6),(6,pt n),(7,pt q)]) (c16 λa b c d e f g i j l n o p q s u=>bk n #[D a,I b,I c,I d,W o e p] 41 :: bk q #[D f,I g,I i,I j,W s l u] 68 :: bk b2 #[W ND AI NO,W NE AJ NP] 33 :: bk b1 #[W Am Ai An,W Bt Ak Bv] 25 :: X) (c16 λa b c d e f g i j l _ o p _ s u=>J29 a b c d e f g i j l=some r/\AZ e43 3 AH (W o e p) e/\AZ e43 3 UU (W s l u) l) ?_ ?_;rintro ⟨x10,x11,x12,CX,Gt,x20,x21,x22,x23,l24,b9,Me,k17,b19,A26,k27⟩ ⟨h,Gx,Jf⟩;subst hJ29;refine bnd h λq30 Pp h=>?_;refine CH [(2,pt b1),(3,pt b2),(5,I x6),(73,bv q30)] (bk b2 #[W ND AI NO,W NE AJ NP] 33 :: bk b1 #[W Am Ai An,W Bt Ak Bv] 25 :: X) ?_ ?_;clear Pp;refine Az h (λh=>?_) λh=>?_;refine ksr (M 1 (G (Ba (Ca (Bm (Bm (Ca (Bm ?_))))))));obtain rfl:=Ao h;exact Ar (Ar (kdn V));exact AK (Bf (At (AO (M 3 (G (C5 m7 (Au (x6+1)) (Nat.lt_succ_self _) h sb V))))));have h:=Pp;clear Pp;refine AO (M 1 (kld 0 0 V (M 1 (kld 1 0 V (M 2 (B4 45 h (λh=>?_) λh=>?_))))));exact M 28 (G (Ar (Ar (AY ⟨gr,gr,gr,gb (Ao h),Aj⟩))));refine M 1 (kld 0 1 V (M 1 (kld 1 1 V (M 3 (B4 52 h (λh=>?_) λh=>?_)))));exact M 21 (G (Ar (Ar (AY ⟨gr,gr,gr,gb (Ao h),Aj⟩))));refine M 1 (kld 0 2 V (M 1 (kld 1 2 V (M 3 (B4 59 h (λh=>?_) λh=>?_)))));exact M 14 (G (Ar (Ar (AY ⟨gr,gr,gr,gb (Ao h),Aj⟩))));refine M 1 (kld 0 3 V (M 1 (kld 1 3 V (M 3 (B4 66 h (λh=>?_) λh=>?_)))));exact M 7 (G (Ar (Ar (AY ⟨gr,gr,gr,gb (Ao h),Aj⟩))));exact M 1 (kld 0 4 V (Ar (M 1 (kld 0 4 V (Ar (bnd h λr36 GO h=>(CI (IN.ok GO Gx Jf) ⟨(t2 A2),(t2 VF),Aj⟩ (M 2 (G (AY ⟨gr,gr,gr,gb (Ao h),Aj⟩))))))))));refine Bjg [(0,0),(1,3),(2,0),(3,0),(4,3),(5,0),(6,3),(7,0),(8,0),(9,3)] 10 11 13 [(12,1)] (λw=>EB [bk b2 #[W ND AI NO,W NE AJ NP] 33,bk b1 #[W Am Ai An,W Bt Ak Bv] 25,AH,UU] w) (by kernel_rfl) (by kernel_rfl) (λ_ _ d _ _ h=>by cases d <;> exact h) (λw h_=>⟨h_.sat.on _ (.head _),h_.sat.on _ (.tail _ (.head _)),h_.sat.on _ (t2 A2),h_.sat.on _ (t2 VF),Aj⟩) ?_;simp only [DP,List.filterMap_cons,List.filterMap_nil,List.getElem?_toArray,List.getElem?_cons_zero,List.getElem?_cons_succ,Option.map_some,List.drop_succ_cons,List.drop_zero,AX,Bp];refine AA 1 (Bn 1 0 V (AA 1 (bnd h λx37 Zv h=>(KU (T:=41) (kd:=.i64) (R:=DF) V Zv As λp38 u41 q42 e39 y40=>?_))));obtain ⟨JO,Kg,rfl,IK⟩:=Uv q42;refine IC V e39 (λw h_=>h_.mem _ (.tail _ (.tail _ (.head _)))) (AA 1 (Bn 0 0 V (AA 1 (bnd h λx46 Bgv h=>(KU (T:=68) (kd:=.i64) (R:=DR) V Bgv Azv λp47 u50 q51 e48 y49=>?_)))));obtain ⟨NA,NW,rfl,o54⟩:=Uw q51;refine IC V e48 (λw h_=>h_.mem _ (.tail _ (.tail _ (.tail _ (.head _))))) (BA ?_);refine Bi9 ?_ ?_;refine VT (.cells #[D noS,I 0,I 0,I 0,nS] 41 (0,0)) (λb=>pt b) V (λ_ h=>EB.alloc h) (by kernel_rfl) (by kernel_rfl) (λ_=>by kernel_rfl) λVi=>(VT (.cells #[D noS,I 0,I 0,I 0,nS] 68 (0,0)) (λb=>pt b) V (λ_ h=>EB.alloc h) (by kernel_rfl) (by kernel_rfl) (λ_=>by kernel_rfl) λb56=>?_);simp only [Pd,DP,List.filterMap_cons,List.filterMap_nil,List.getElem?_toArray,List.getElem?_cons_zero,List.getElem?_cons_succ,Option.map_some,List.drop_succ_cons,List.drop_zero];exact kpt (Al (ost 0 5 #[D x37.1,I x37.2.1,I x37.2.2.1,I x37.2.2.2.1,W JO x37.2.2.2.2 Kg] (LF (λw h_=>⟨h_.sat.on _ (.tail _ (.tail _ (.head _))),h_.sat.on _ (.tail _ (.tail _ (.tail _ (.head _)))),h_.sat.on _ (t4 A2),h_.sat.on _ (t4 VF),Aj⟩) (BA (Al (AC 0 5 #[D x46.1,I x46.2.1,I x46.2.2.1,I x46.2.2.2.1,W NA x46.2.2.2.2 NW] (G (Ap (Ap (Ay (Ap (AG (x37.1,x37.2.1,x37.2.2.1,x37.2.2.2.1,x37.2.2.2.2,x46.1,x46.2.1,x46.2.2.1,x46.2.2.2.1,x46.2.2.2.2,Vi,JO,Kg,b56,NA,NW) ⟨h,IK,o54⟩ sb V))))))))))));refine VT (.cells #[D noS,I 0,I 0,I 0,nS] 68 (0,0)) (λb=>pt b) V (λ_ h=>EB.alloc h) (by kernel_rfl) (by kernel_rfl) (λ_=>by kernel_rfl) λb57=>(VT (.cells #[D noS,I 0,I 0,I 0,nS] 41 (0,0)) (λb=>pt b) V (λ_ h=>EB.alloc h) (by kernel_rfl) (by kernel_rfl) (λ_=>by kernel_rfl) λb58=>?_);simp only [Pd,DP,List.filterMap_cons,List.filterMap_nil,List.getElem?_toArray,List.getElem?_cons_zero,List.getElem?_cons_succ,Option.map_some,List.drop_succ_cons,List.drop_zero];exact kpt (ost 0 5 #[D x37.1,I x37.2.1,I x37.2.2.1,I x37.2.2.2.1,W JO x37.2.2.2.2 Kg] (LF (λw h_=>⟨h_.sat.on _ (.tail _ (.tail _ (.head _))),h_.sat.on _ (.tail _ (.tail _ (.tail _ (.head _)))),h_.sat.on _ (t4 A2),h_.sat.on _ (t4 VF),Aj⟩) (BA (Al (AC 0 5 #[D x46.1,I x46.2.1,I x46.2.2.1,I x46.2.2.2.1,W NA x46.2.2.2.2 NW] (G (Ap (Ap (Ay (Ap (AG (x37.1,x37.2.1,x37.2.2.1,x37.2.2.2.1,x37.2.2.2.2,x46.1,x46.2.1,x46.2.2.1,x46.2.2.2.1,x46.2.2.2.2,b58,JO,Kg,b57,NA,NW) ⟨h,IK,o54⟩ sb V)))))))))));exact CP (BJ (BJ (CQ (At (Ar (Ar (AG () h trivial V)))))));have h:=hq3;clear hq3;refine AO (M 1 (kld 1 0 V (M 2 (kld 0 0 V (M 3 (B4 15 h (λh=>?_) λh=>?_))))));exact M 7 (G (AY ⟨gr,gr,gb (Ao h),Aj⟩));exact M 1 (kld 1 1 V (M 1 (kld 0 1 V (bnd h λr60 MW h=>(CI (ID.ok MW BX Azw) ⟨(t2 Y8),(t2 Bct),Aj⟩ (M 2 (G (AY ⟨gr,gr,gb (Ao h),Aj⟩))))))))
end
section
open Go Go.RowKit Lx
theorem A7b {d:Nat} {t:Ah} {a:Int} {l:List Tree} {b:Tree} (hq:FH b) {w:RW} {lo:List Ah} {lp:Bool} (hP:Pc0 w) :
    Gr w (CA (d+1) w lo (.mk 31 t (l.length:Nat) a (l++[b])) lp).1 (2 * sz (.mk 31 t (l.length:Nat) a (l++[b])))/\Pc0 (CA (d+1) w lo (.mk 31 t (l.length:Nat) a (l++[b])) lp).1:=by
  rw [WP];simp only [sz];rw [Eb];simp only [A_];refine ⟨?_,rfl,rfl⟩;obtain ⟨w2,h2⟩:∃ w2:RW,w2=(if Ej t then (w.few a (w.fs.length:Nat) 100).bad 5 a else w.few a (w.fs.length:Nat) 100):=⟨_,rfl⟩;have e1:w2.fs=w.fs/\w2.gl=w.gl:=by
    subst h2;split;exact ⟨Js.1.trans Er.1,Js.2.1.trans Er.2.1⟩;exact ⟨Er.1,Er.2.1⟩
  obtain ⟨w4,hw4⟩:∃ w4:RW,w4={ (w2.few a (l.length:Nat) 50).EZ t with ab:=lo,F:=((w2.few a (l.length:Nat) 50).EZ t).fs.length,fs:=((w2.few a (l.length:Nat) 50).EZ t).fs++[(t,a,((l.length:Nat):Int),0,[])] }:=⟨_,rfl⟩;have f1:w4.fs=w.fs++[(t,a,((l.length:Nat):Int),0,[])]:=by subst hw4;show (w2.few a (l.length:Nat) 50).fs++_=_;rw [Er.1,e1.1]
  have f2:w4.gl=EY w.gl t:=by subst hw4;show EY (w2.few a (l.length:Nat) 50).gl t=_;rw [Er.2.1,e1.2]
  have hgl:=QF w.gl t;have t1:pw w4<=pw w+2:=by
    unfold pw;rw [f1,f2,Adf,BT];simp only [tc,AX,Bp];omega
  have t2:w.fs.length<=w4.fs.length:=by rw [f1];simp
  obtain ⟨g1,_⟩:=ML (w:=w4) (a:=a) (lo:=[]) (l:=l) (n:=0);have g2:=(QQ d).2 b hq (w4.brings a [] l 0).1 (w4.brings a [] l 0).2 false;have t3:=g1.pw;have t4:=g1.len;have t5:=g2.pw;have t6:=g2.len;have eg:(let w:=w.few a (w.fs.length:Nat) 100
     let w:=if Ej t then w.bad 5 a else w
     let w:=(w.few a (l.length:Nat) 50).EZ t;let w:RW:={ w with ab:=lo,F:=w.fs.length,fs:=w.fs++[(t,a,((l.length:Nat):Int),0,[])] };let r:=w.brings a [] l 0
     ({ rB d r.1 r.2 b false with F:=0,ab:=[] }:RW))={ rB d (w4.brings a [] l 0).1 (w4.brings a [] l 0).2 b false with F:=0,ab:=[] }:=by subst hw4;subst h2;rfl
  show Gr w (let w:=w.few a (w.fs.length:Nat) 100
     let w:=if Ej t then w.bad 5 a else w
     let w:=(w.few a (l.length:Nat) 50).EZ t;let w:RW:={ w with ab:=lo,F:=w.fs.length,fs:=w.fs++[(t,a,((l.length:Nat):Int),0,[])] };let r:=w.brings a [] l 0
     ({ rB d r.1 r.2 b false with F:=0,ab:=[] }:RW)) _
  rw [eg];exact ⟨by show pw (rB d (w4.brings a [] l 0).1 (w4.brings a [] l 0).2 b false)<=_;omega,by show w.fs.length<=(rB d (w4.brings a [] l 0).1 (w4.brings a [] l 0).2 b false).fs.length;omega,hP.1.symm,hP.2.symm⟩
theorem Aj3 {d:Nat}:∀ {l:List Tree} {w:RW} {lo:List Ah},(∀ x ∈ l,IsS x\/OJ x)->Pc0 w->pw (Hz (λw lo x=>CA (d+1) w lo x false) w lo l)<=pw w+2 * A_ l
 | [],w,lo,_,_=>Nat.le_refl _
 | x :: l,w,lo,h,hP=>by
  unfold Hz;simp only [A_];split;omega;have hx:Gr w (CA (d+1) w lo x false).1 (2 * sz x)/\Pc0 (CA (d+1) w lo x false).1:=by
   rcases h x (DT ..) with hs | hf;have:=((QQ (d+1)).1 x hs w lo false).1;exact ⟨this.weak (by omega),this.F.trans hP.1,this.ab.trans hP.2⟩;cases hf with
   | @fn a t l' b hq=>exact A7b hq hP
  have:=hx.1.pw;have:=Aj3 (d:=d) (l:=l) (lo:=(CA (d+1) w lo x false).2) (λy hy=>h y (EM _ hy)) hx.2;omega
theorem Bvi (w:RW) (h:pw w<=400000):(if w.er.1≠0 then (([]:List DB),([]:Av),w.er.1,w.er.2) else (w.fs,w.gl,0,0)).1.length<=400000/\(if w.er.1≠0 then (([]:List DB),([]:Av),w.er.1,w.er.2) else (w.fs,w.gl,0,0)).2.1.length<=400000 /\
  ∀ x ∈ (if w.er.1≠0 then (([]:List DB),([]:List Ah),w.er.1,w.er.2) else (w.fs,w.gl,0,0)).1,x.2.2.2.2.length<=400000:=by
 by_cases he:w.er.1=0;rw [if_neg (λh=>h he)];unfold pw at h;exact ⟨by dsimp only;omega,by dsimp only;omega,λx hx=>by have:=Adg (l:=w.fs) hx;omega⟩;rw [if_pos he];exact ⟨by simp,by simp,λx hx=>by cases hx⟩
theorem Bue (s:Ah):∃ r:Rep,(∀ k,900000<=k->HI.f k s=some r)/\r.1.length<=400000/\r.2.1.length<=400000/\∀ x ∈ r.1,x.2.2.2.2.length<=400000:=by
 rcases Asa s with ⟨c,p,hc,he⟩ | ⟨n,he,hw,hz,hI⟩;refine ⟨([],[],c,p),λk hk=>?_,by simp,by simp,λx hx=>by cases hx⟩;rw [check_eq k hk,he];unfold Np;simp only;rw [if_pos hc];obtain ⟨hg,_⟩:=Ad2 hw;refine ⟨Ur (99998+2) n,λk hk=>?_,?_⟩;rw [check_eq k hk,he];unfold Qt;have e:Tree.mk n.kind n.text n.n n.at_ n.kids=n:=by cases n;rfl
 simp only [ne_eq,not_true_eq_false,if_false];rw [e,Awb (d:=99998) hI hg (by omega)];unfold Ur;split;exact ⟨by simp,by simp,λx hx=>by cases hx⟩;cases hI with
 | @chunk n a t l hl =>
  simp only [sz] at hz;have hp:=Aj3 (d:=99998) (l:=l) (w:=⟨[(noB,a,0,0,[])],[],0,[],(0,0)⟩) (lo:=[]) hl ⟨rfl,rfl⟩;have e0:pw (⟨[(noB,a,0,0,[])],[],0,[],(0,0)⟩:RW)=1:=rfl;rw [e0] at hp;simp only [Tree.at_];have er:rB (99998+2) (⟨[(noB,a,0,0,[])],[],0,[],(0,0)⟩:RW) [] (.mk 20 t n a l) false=Hz (λw lo x=>CA (99998+1) w lo x false) ⟨[(noB,a,0,0,[])],[],0,[],(0,0)⟩ [] l:=rfl;rw [<- er] at hp;exact Bvi _ (by omega)
theorem Avu:∀ (t pre:List V3) (m:Nat),pre.length+t.length<=1000000->t.length+1<=m->IN.l0 m (pre++t) (pre++t) (λ_=>some true) (pre.length:Int)=some true
 | [],pre,m,hl,hm=>by
  obtain ⟨m,rfl⟩:∃ m',m=m'+1:=⟨m - 1,by omega⟩;simp only [IN.l0];rw [ltF (by simp)];rfl
 | x :: t,pre,m,hl,hm=>by
  obtain ⟨m,rfl⟩:∃ m',m=m'+1:=⟨m - 1,by omega⟩;simp only [AX] at hl hm;simp only [IN.l0];rw [Gv (by simp;omega),Ih];simp only [cond_true,Aq,beq_self_eq_true,Bool.and_true,Bool.not_true,cond_false];rw [wiC _ (by omega) (by omega)];have ih:=Avu t (pre++[x]) m (by simp;omega) (by omega);rw [C8,BT] at ih;exact ih
theorem Bv4 (k:Nat) (l:List V3) (hl:l.length<=400000) (hk:450000<=k):IN.f k l l=some true:=by
 unfold IN.f AN;simp only [bne_self_eq_false,cond_false];exact Avu l [] k (by simp;omega) (by omega)
theorem Au9:∀ (t pre:List Ah) (m:Nat),pre.length+t.length<=1000000->t.length+1<=m->ID.l0 m (pre++t) (pre++t) (λ_=>some true) (pre.length:Int)=some true
 | [],pre,m,hl,hm=>by
  obtain ⟨m,rfl⟩:∃ m',m=m'+1:=⟨m - 1,by omega⟩;simp only [ID.l0];rw [ltF (by simp)];rfl
 | x :: t,pre,m,hl,hm=>by
  obtain ⟨m,rfl⟩:∃ m',m=m'+1:=⟨m - 1,by omega⟩;simp only [AX] at hl hm;simp only [ID.l0];rw [Gv (by simp;omega),Ih];simp only [cond_true,Aq,beq_self_eq_true,Bool.not_true,cond_false];rw [wiC _ (by omega) (by omega)];have ih:=Au9 t (pre++[x]) m (by simp;omega) (by omega);rw [C8,BT] at ih;exact ih
theorem st_eq (k:Nat) (l:List Ah) (hl:l.length<=400000) (hk:450000<=k):ID.f k l l=some true:=by
 unfold ID.f AN;simp only [bne_self_eq_false,cond_false];exact Au9 l [] k (by simp;omega) (by omega)
theorem Au1:∀ (t pre:List DB) (m:Nat),(∀ x ∈ t,x.2.2.2.2.length<=400000)->pre.length+t.length<=1000000->t.length+450001<=m->If.l0 m (pre++t) (pre++t) (λ_=>some true) (pre.length:Int)=some true
 | [],pre,m,_,hl,hm=>by
  obtain ⟨m,rfl⟩:∃ m',m=m'+1:=⟨m - 1,by omega⟩;simp only [If.l0];rw [ltF (by simp)];rfl
 | x :: t,pre,m,hc,hl,hm=>by
  obtain ⟨m,rfl⟩:∃ m',m=m'+1:=⟨m - 1,by omega⟩;simp only [AX] at hl hm;have hx:=hc x (DT ..);simp only [If.l0,AN];rw [Gv (by simp;omega),Ih];simp only [cond_true,Aq,beq_self_eq_true,bne_self_eq_false,Bool.not_true,cond_false];rw [Bv4 m _ hx (by omega)];simp only [Aq,Bool.not_true,cond_false];rw [wiC _ (by omega) (by omega)];have ih:=Au1 t (pre++[x]) m (λy hy=>hc y (EM _ hy)) (by simp;omega) (by omega);rw [C8,BT] at ih;exact ih
theorem same_eq (k:Nat) (r:List DB) (g:List Ah) (h1:r.length<=400000) (h2:g.length<=400000) (h3:∀ x ∈ r,x.2.2.2.2.length<=400000) (hk:900000<=k):If.f k r g r g=some true:=by
 unfold If.f AN;rw [st_eq k g h2 (by omega)];simp only [bne_self_eq_false,cond_false,Aq,Bool.not_true];exact Au1 r [] k h3 (by simp;omega) (by omega)
theorem A6c:PM.f 2000000=some true:=by kernel_rfl
end
section
open Go Go.RowKit
def Ee.l2:Nat->(x60:Int)->(JR:(List (Ah×Int×Int×Int×List (Int×Int×Ah)))->Option (Bool))->(x91:Int)->(l92:List (Ah×Int×Int×Int×List (Int×Int×Ah)))->Option (Bool)
 | 0,_,_,_,_=>none
 | m97+1,x60,JR,x91,l92=>(B5 l92 x60).bind λx98=>cond (decide (x91 < ((x98.2.2.2.2.length:Nat):Int))) ((B5 l92 x60).bind λFF=>(B5 FF.2.2.2.2 x91).bind λXh=>(FK FF.2.2.2.2 x91 (9,0,(⟨#[]⟩:Ah))).bind λTz=>(FK l92 x60 (FF.1,FF.2.1,FF.2.2.1,FF.2.2.2.1,Tz)).bind λWe=>Ee.l2 m97 x60 JR (Au (x91+1)) We) (JR l92)
def Ee.l1:Nat->(NJ:(List (Ah×Int×Int×Int×List (Int×Int×Ah)))->Option (Bool))->(x60:Int)->(l61:List (Ah×Int×Int×Int×List (Int×Int×Ah)))->Option (Bool)
 | 0,_,_,_=>none
 | PO+1,NJ,x60,l61=>cond (decide (x60 < ((l61.length:Nat):Int))) (AN (λ(Ki:Bg)=>(B5 Ki x60).bind λx74=>(FK Ki x60 ((⟨#[33]⟩:Ah),0,0,(-1:Int),[])).bind λWi=>Ee.l1 PO NJ (Au (x60+1)) Wi) (λJR=>Ee.l2 PO x60 JR 0 l61)) (NJ l61)
def Ee.l0:Nat->(NK:(Unit->Option (Bool)))->(x44:Int)->(l45:List Ah)->Option (Bool)
 | 0,_,_,_=>none
 | TC+1,NK,x44,l45=>cond (decide (x44 < ((l45.length:Nat):Int))) ((B5 l45 x44).bind λx52=>(FK l45 x44 (⟨#[33]⟩:Ah)).bind λl56=>Ee.l0 TC NK (Au (x44+1)) l56) (NK ())
def Ee.f (k:Nat) (a0:Ah):Option (Bool):=(HI.f k a0).bind λr1=>(HI.f k a0).bind λr12=>(Ql.f k a0).bind λBK=>((PM.f k).bind λAsw=>cond (!Asw) (some true) (cond (!((r1.2.2.1 == r12.2.2.1) && ((r1.2.2.2 == r12.2.2.2) && true))) (some true) (some (!((r1.2.2.1 == BK.2.2.1) && ((r1.2.2.2 == BK.2.2.2) && true))))):Option Bool).bind λLQ=>cond LQ (some (false)) (AN (λ(l36:Bg)=>AN (λ(_:Unit)=>(If.f k r12.1 r12.2.1 BK.1 BK.2.1).bind λD5=>some (D5)) (λNK=>Ee.l0 k NK 0 r1.2.1)) (λNJ=>Ee.l1 k NJ 0 r1.1))
theorem Ee.ok {k:Nat} {a0:Ah} {Af:N} {r:Bool} (h:Ee.f k a0=some r) (hG:JP Af): Ct Tryz.prog 4 #[D a0] [] [Af] (λe l1=>e=.returned (bv r)/\l1=[]):=by
 refine BM Tryz.func4 V (AV V) ?_;intro A X hh_;obtain ⟨DO,_⟩:=hh_;unfold Ee.f at h;refine ksr (M 1 (AW (M 1 (bnd h λr1 hr1 h=>(Ch (HI.ok hr1 hG) V ⟨DO,Aj⟩ ?_)))));rintro _ _ ⟨h2,A3,k4,h6,A7,k8,o5,o9,rfl,rfl⟩;refine BI (M 3 (knp #[nS,nS] 25 λb10=>(knp #[I 0,I 0] 28 λb11=>(Al (AC 0 2 #[W A3 r1.1 k4,W A7 r1.2.1 k8] (Al (AC 0 2 #[I r1.2.2.1,I r1.2.2.2] (AW (M 1 (bnd h λr12 Kc h=>(Ch (HI.ok Kc hG) V ⟨(t4 DO),Aj⟩ ?_)))))))))));rintro _ _ ⟨h13,D2,k15,h17,Fb,k19,o16,o20,rfl,rfl⟩;refine BI (M 3 (knp #[nS,nS] 25 λFT=>(knp #[I 0,I 0] 28 λb22=>(Al (AC 0 2 #[W D2 r12.1 k15,W Fb r12.2.1 k19] (Al (AC 0 2 #[I r12.2.2.1,I r12.2.2.2] (AW (M 1 (bnd h λBK H_ h=>(Ch (Ql.ok H_) V trivial ?_)))))))))));rintro _ _ ⟨h24,A25,k26,h28,A29,k30,Kn,Ik,rfl,rfl⟩;refine BI (M 3 (knp #[nS,nS] 33 λb32=>(knp #[I 0,I 0] 28 λVf=>(Al (AC 0 2 #[W A25 BK.1 k26,W A29 BK.2.1 k30] (Al (AC 0 2 #[I BK.2.2.1,I BK.2.2.2] (G (AR (bnd h λLQ L4 h=>?_))))))))));refine CH [(3,pt b10),(5,pt FT),(7,pt b32),(38,bv LQ)] (bk b32 #[W A25 BK.1 k26,W A29 BK.2.1 k30] 33 :: h24 :: h28 :: bk FT #[W D2 r12.1 k15,W Fb r12.2.1 k19] 25 :: h13 :: h17 :: bk b10 #[W A3 r1.1 k4,W A7 r1.2.1 k8] 25 :: h2 :: h6 :: X) ?_ ?_;clear L4;refine Az h (λh=>?_) λh=>?_;refine ksr (M 1 (G (Ba (Bm ?_))));obtain rfl:=Ao h;exact Ar (Ar (Ar (Ar (Ar (Ar (Ar (Ar (Ar (kdn V)))))))));refine AK (At ?_);obtain ⟨NJ,A9o,h⟩:=BF h;refine BG (τ:=Bg×N×AD×Nat) (λt=>[(3,pt b10),(5,pt FT),(7,pt b32)]) (c4 λa b c d=>bk b32 #[W A25 BK.1 k26,W A29 BK.2.1 k30] 33 :: h24 :: h28 :: bk FT #[W D2 r12.1 k15,W Fb r12.2.1 k19] 25 :: h13 :: h17 :: bk b10 #[W c a d,W A7 r1.2.1 k8] 25 :: h6 :: b :: X) (c4 λa b c d=>NJ a=some r/\AM DF 41 b (W c a d) a) ?_ ?_;rintro ⟨l36,h37,N9,k39⟩ ⟨h,LM⟩;subst A9o;obtain ⟨NK,A9q,h⟩:=BF h;refine BG (τ:=Unit) (λt=>[(5,pt FT),(7,pt b32)]) (λt=>bk b32 #[W A25 BK.1 k26,W A29 BK.2.1 k30] 33 :: h24 :: h28 :: bk FT #[W D2 r12.1 k15,W Fb r12.2.1 k19] 25 :: h13 :: h17 :: X) (λt=>NK ()=some r) ?_ ?_;rintro ⟨⟩ h;subst A9q;refine ksr (BW 3 0 2 V (Ap (Ar (BW 0 0 2 V (Ar (bnd h λD5 Pz h=>(CI (If.ok Pz (AM.rd o16) (AL.rd o20) (AM.rd Kn) (AL.rd Ik)) ⟨(.tail _ (.tail _ (.head _))),(.tail _ (.tail _ (.tail _ (.head _)))),(.head _),(.tail _ (.head _)),Aj⟩ (Ar (Ar (Ar (Ar (M 1 (G (Ba ?_))))))))))))));obtain rfl:=Ao h;exact kdn V;refine ksr (M 1 (G (Bw (S6 (Du (Du (Du (Du (Du (Du (Du (Du (Db (τ:=Int×Av×N×AD×Nat) (λt=>[(3,pt b10),(5,pt FT),(7,pt b32),(11,I t.1)]) (c5 λ_ b c d e=>bk b32 #[W A25 BK.1 k26,W A29 BK.2.1 k30] 33 :: h24 :: h28 :: bk FT #[W D2 r12.1 k15,W Fb r12.2.1 k19] 25 :: h13 :: h17 :: bk b10 #[W N9 l36 k39,W d b e] 25 :: h37 :: c :: X) (λm=>c5 λa b c d e=>Ee.l0 m NK a b=some r/\AL encS 9 1 c (W d b e) b) k (0,r1.2.1,h6,A7,k8) ⟨h,o9⟩ sb V ?_)))))))))))));clear h;rintro TC ⟨x44,l45,h46,A47,k48⟩ ⟨h,o49⟩;rcases TC with _ | TC;simp [Ee.l0] at h;simp only [Ee.l0] at h;refine AR (ksr (M 2 (kld 6 1 V (M 2 (G (Az h (λh=>?_) λh=>?_))))));refine AK (At (AR (Bw (AO (M 1 (kld 6 1 V (M 1 (bnd h λx52 Al9 h=>(IA (T:=9) (kd:=.i64) Ep V Al9 (AL.rd o49) λp53 e54 y55=>?_)))))))));have e54:Elem _ p53 [D x52]:=e54;refine Du (bnd h λl56 VD h=>(VZ (v:=D (⟨#[33]⟩:Ah)) (off:=0) (x':=(⟨#[33]⟩:Ah)) Ep V (by kernel_rfl) (by kernel_rfl) (by kernel_rfl) (by kernel_rfl) (by kernel_rfl) y55 o49 Al9 (by kernel_rfl) (by kernel_rfl) VD λh57 o58=>?_));have g59:=Og VD;refine K.weak (env':=[(3,pt b10),(5,pt FT),(7,pt b32),(11,I x44)]) ?_ ⟨gr,gr,gr,gr,Aj⟩;exact K.eq (l':=h57 :: bk b32 #[W A25 BK.1 k26,W A29 BK.2.1 k30] 33 :: h24 :: h28 :: bk FT #[W D2 r12.1 k15,W Fb r12.2.1 k19] 25 :: h13 :: h17 :: bk b10 #[W N9 l36 k39,W A47 l56 k48] 25 :: h37 :: X) rfl (by first | rfl | (unfold W;rw [g59];first | done | rfl)) (knl (Bf (At (AO (M 3 (G (Du (Du (Du (Du (Du (Du (Du (Du (C5 TC (Au (x44+1),l56,h57,A47,k48) (Nat.lt_succ_self _) ⟨h,o58⟩ sb rfl)))))))))))))))
 exact CP (BJ (BJ (CQ (At (BH (Ar (BH (Ar (BH (Ar (AG () h sb V)))))))))));refine ksr (M 1 (G (Bw (S6 (Du (Du (Du (Du (Du (Du (Du (Du (Db (τ:=Int×Bg×N×AD×Nat) (λt=>[(3,pt b10),(5,pt FT),(7,pt b32),(9,I t.1)]) (c5 λ_ b c d e=>bk b32 #[W A25 BK.1 k26,W A29 BK.2.1 k30] 33 :: h24 :: h28 :: bk FT #[W D2 r12.1 k15,W Fb r12.2.1 k19] 25 :: h13 :: h17 :: bk b10 #[W d b e,W A7 r1.2.1 k8] 25 :: h6 :: c :: X) (λm=>c5 λa b c d e=>Ee.l1 m NJ a b=some r/\AM DF 41 c (W d b e) b) k (0,r1.1,h2,A3,k4) ⟨h,o5⟩ sb V ?_)))))))))))));clear h;rintro PO ⟨x60,l61,h62,UO,k64⟩ ⟨h,Nl⟩;rcases PO with _ | PO;simp [Ee.l1] at h;simp only [Ee.l1] at h;refine AR (ksr (M 2 (kld 6 0 V (M 2 (G (Az h (λh=>?_) λh=>?_))))));refine AK (At (AR (Bw ?_)));obtain ⟨JR,Yu,h⟩:=BF h;refine BG (τ:=Bg×N×AD×Nat) (λt=>[(3,pt b10),(5,pt FT),(7,pt b32),(9,I x60)]) (c4 λa b c d=>bk b32 #[W A25 BK.1 k26,W A29 BK.2.1 k30] 33 :: h24 :: h28 :: bk FT #[W D2 r12.1 k15,W Fb r12.2.1 k19] 25 :: h13 :: h17 :: bk b10 #[W c a d,W A7 r1.2.1 k8] 25 :: h6 :: b :: X) (c4 λa b c d=>JR a=some r/\AM DF 41 b (W c a d) a) ?_ ?_;rintro ⟨Ki,h69,A70,k71⟩ ⟨h,o72⟩;subst Yu;refine bnd h λx74 i75 h=>(Du (VR (R:=DF) o72 (Mt i75).2.2 λh76 h77 c78 _ _ o79 e80=>?_));obtain ⟨S1,k82,rfl,o83⟩:=o79;refine AO (M 1 (kld 8 0 V (M 2 (E0 (T:=41) (kd:=.i64) (R:=DF) V i75 (AM.rd o72) λp84 _ _ _ y85=>?_))));have e86:Elem h77 p84 [D x74.1,I x74.2.1,I x74.2.2.1,I x74.2.2.2.1,W S1 x74.2.2.2.2 k82]:=IU.elem e80 y85;refine C6 (Ay (bnd h λWi Alp h=>(Bj5 (R:=DF) (v:=.agg #[D (⟨#[33]⟩:Ah),I 0,I 0,I (-1),nS]) (x':=((⟨#[33]⟩:Ah),0,0,(-1:Int),[])) V (by kernel_rfl) (by kernel_rfl) (by kernel_rfl) (by kernel_rfl) (by kernel_rfl) y85 Alp e80 (Uu (x:=((⟨#[33]⟩:Ah),0,0,(-1:Int),[])) (AL.nil e43 43 3 none_)) λh88 Ld=>?_)));have g90:=Og Alp;refine K.weak (env':=[(3,pt b10),(5,pt FT),(7,pt b32),(9,I x60),(69,.agg #[D (⟨#[33]⟩:Ah),I 0,I 0,I (-1),nS])]) ?_ ⟨gr,gr,gr,gr,(by first | rfl | (unfold W;rw [g90];rfl) | kernel_rfl),Aj⟩
 exact K.eq (l':=h88 :: h76 :: bk b32 #[W A25 BK.1 k26,W A29 BK.2.1 k30] 33 :: h24 :: h28 :: bk FT #[W D2 r12.1 k15,W Fb r12.2.1 k19] 25 :: h13 :: h17 :: bk b10 #[W A70 Wi k71,W A7 r1.2.1 k8] 25 :: h6 :: X) rfl (by first | rfl | (unfold W;rw [g90];first | done | rfl)) (Al (Ar (knl (Bf (At (AO (M 3 (G (Du (Du (Du (Du (Du (Du (Du (Du (C5 PO (Au (x60+1),Wi,h88,A70,k71) (Nat.lt_succ_self _) ⟨h,Ld⟩ sb rfl)))))))))))))))))
 refine ksr (M 1 (G (Bw (Db (τ:=Int×Bg×N×AD×Nat) (λt=>[(3,pt b10),(5,pt FT),(7,pt b32),(9,I x60),(10,I t.1)]) (c5 λ_ b c d e=>bk b32 #[W A25 BK.1 k26,W A29 BK.2.1 k30] 33 :: h24 :: h28 :: bk FT #[W D2 r12.1 k15,W Fb r12.2.1 k19] 25 :: h13 :: h17 :: bk b10 #[W d b e,W A7 r1.2.1 k8] 25 :: h6 :: c :: X) (λm=>c5 λa b c d e=>Ee.l2 m x60 JR a b=some r/\AM DF 41 c (W d b e) b) PO (0,l61,h62,UO,k64) ⟨h,Nl⟩ sb V ?_))));clear h;rintro m97 ⟨x91,l92,h93,M9,Nb⟩ ⟨h,o96⟩;rcases m97 with _ | m97;simp [Ee.l2] at h;simp only [Ee.l2] at h;refine AR (ksr (M 2 (kld 6 0 V (M 1 (bnd h λx98 hx98 h=>(E0 (T:=41) (kd:=.i64) (R:=DF) V hx98 (AM.rd o96) λp99 B43 Btc A3d y101=>?_))))));obtain ⟨UL,VJ,rfl,Aqy⟩:=Uv Btc;refine GV (off:=4) V A3d y101 λBr4 e108 B5u=>?_;have e108:Elem _ Br4 [W UL x98.2.2.2.2 VJ]:=e108;refine FX V (by kernel_rfl) (by kernel_rfl) (by kernel_rfl) (by kernel_rfl) e108 (.tail _ (.tail _ (.tail _ (.tail _ (.tail _ (.tail _ (.tail _ (.tail _ (.head _))))))))) (M 2 (G (Az h (λh=>?_) λh=>?_)));refine AK (At (AR (Bw (bnd h λFF Amb h=>(Du (VR (R:=DF) o96 (Mt Amb).2.2 λAj9 Aka Bza _ _ Oo e117=>?_))))));obtain ⟨Xl,Z4,rfl,Aq3⟩:=Oo;refine AO (M 1 (kld 8 0 V (M 1 (E0 (T:=41) (kd:=.i64) (R:=DF) V Amb (AM.rd o96) λBr5 _ _ _ Axw=>?_))));have A3i:Elem Aka Br5 [D FF.1,I FF.2.1,I FF.2.2.1,I FF.2.2.2.1,W Xl FF.2.2.2.2 Z4]:=IU.elem e117 Axw;refine GV (off:=4) V A3i Axw λAbi e125 Bw8=>?_;have e125:Elem _ Abi [W Xl FF.2.2.2.2 Z4]:=e125;refine FX V (by kernel_rfl) (by kernel_rfl) (by kernel_rfl) (by kernel_rfl) e125 (.tail _ (.head _)) (M 2 (bnd h λXh Al5 h=>(IA (T:=43) (kd:=.i64) Mm V Al5 (AL.rd Aq3) λBr6 e129 Bw9=>?_)));have e129:Elem _ Br6 [I Xh.1,I Xh.2.1,D Xh.2.2]:=e129;refine bnd h λTz Alj h=>(VZ (v:=.agg #[I 9,I 0,D noS]) (off:=0) (x':=(9,0,(⟨#[]⟩:Ah))) Mm V (by kernel_rfl) (by kernel_rfl) (by kernel_rfl) (by kernel_rfl) (by kernel_rfl) Bw9 Aq3 Al5 (by kernel_rfl) (by kernel_rfl) Alj λAkc Bmj=>?_);have Ajt:=Og Alj;refine K.weak (env':=[(3,pt b10),(5,pt FT),(7,pt b32),(9,I x60),(10,I x91),(64,.agg #[I 9,I 0,D noS])]) ?_ ⟨gr,gr,gr,gr,gr,gr,Aj⟩;refine K.eq (l':=Akc :: Aka :: bk b32 #[W A25 BK.1 k26,W A29 BK.2.1 k30] 33 :: h24 :: h28 :: bk FT #[W D2 r12.1 k15,W Fb r12.2.1 k19] 25 :: h13 :: h17 :: bk b10 #[W M9 l92 Nb,W A7 r1.2.1 k8] 25 :: h6 :: X) rfl (by first | rfl | (unfold W;rw [Ajt];first | done | rfl)) (knl (bnd h λWe Alk h=>(Al (Al (Bjc (R:=DF) Alk e117 (by have q:DF.own (FF.1,FF.2.1,FF.2.2.1,FF.2.2.2.1,Tz) Akc [D FF.1,I FF.2.1,I FF.2.2.1,I FF.2.2.2.1,W Xl Tz Z4]:=(Uu (x:=(FF.1,FF.2.1,FF.2.2.1,FF.2.2.2.1,Tz)) Bmj);unfold W at q;rw [Ajt] at q;exact q) λAkh Bmk=>?_)))))
 have A6v:=Og Alk;refine K.weak (env':=[(3,pt b10),(5,pt FT),(7,pt b32),(9,I x60),(10,I x91)]) ?_ ⟨gr,gr,gr,gr,gr,Aj⟩;exact K.eq (l':=Akh :: bk b32 #[W A25 BK.1 k26,W A29 BK.2.1 k30] 33 :: h24 :: h28 :: bk FT #[W D2 r12.1 k15,W Fb r12.2.1 k19] 25 :: h13 :: h17 :: bk b10 #[W M9 We Nb,W A7 r1.2.1 k8] 25 :: h6 :: X) rfl (by first | rfl | (unfold W;rw [A6v];first | done | rfl)) (Bf (At (AO (M 3 (G (Du (Du (Du (Du (Du (Du (Du (Du (C5 m97 (Au (x91+1),We,Akh,M9,Nb) (Nat.lt_succ_self _) ⟨h,Bmk⟩ sb rfl))))))))))))))
 exact CP (BJ (BJ (CQ (At (AG (l92,h93,M9,Nb) ⟨h,o96⟩ sb V)))));exact CP (BJ (BJ (CQ (At (AG (l61,h62,UO,k64) ⟨h,Nl⟩ sb V)))));have h:=L4;clear L4;refine AO (bnd h λAsw Bdo h=>(CI (PM.ok Bdo hG) ⟨(t12 DO),Aj⟩ (M 2 (B4 29 h (λh=>?_) λh=>?_))));exact M 9 (G (Ar (Ap (Ar (BH (Ar (AY ⟨gr,gr,gr,gb (Ao h),Aj⟩)))))));refine BW 8 0 2 V (BW 4 0 2 V (Bb (Ar (PI (r:=((r1.2.2.1 == r12.2.2.1) && ((r1.2.2.2 == r12.2.2.2) && true))) (xs:=#[I r1.2.2.1,I r1.2.2.2]) (ys:=#[I r12.2.2.1,I r12.2.2.2]) true (by kernel_rfl) V (by kernel_rfl) (by kernel_rfl) (by kernel_rfl) (by kernel_rfl) (by kernel_rfl) (by kernel_rfl) (by kernel_rfl) (M 2 (B4 34 h (λh=>?_) λh=>?_))))));exact M 4 (G (Ar (BH (Ar (AY ⟨gr,gr,gr,gb (Ao h),Aj⟩)))));exact BW 7 0 2 V (S6 (Ar (BW 0 0 2 V (Ar (PI (r:=((r1.2.2.1 == BK.2.2.1) && ((r1.2.2.2 == BK.2.2.2) && true))) (xs:=#[I r1.2.2.1,I r1.2.2.2]) (ys:=#[I BK.2.2.1,I BK.2.2.2]) true (by kernel_rfl) V (by kernel_rfl) (by kernel_rfl) (by kernel_rfl) (by kernel_rfl) (by kernel_rfl) (by kernel_rfl) (by kernel_rfl) (M 1 (G (AY ⟨gr,gr,gr,gb (Ao h),Aj⟩))))))))
end
section
open Go Go.RowKit Lx
theorem cm0 (J:Unit->Option Bool):∀ (d i:Nat) (l:List Ah) (m:Nat),l.length=i+d->l.length<=1000000->d+1<=m->Ee.l0 m J (i:Int) l=J ()
 | 0,i,l,m,e,hl,hm=>by
  obtain ⟨m,rfl⟩:∃ m',m=m'+1:=⟨m - 1,by omega⟩;simp only [Ee.l0];rw [ltF (by omega)];rfl
 | d+1,i,l,m,e,hl,hm=>by
  obtain ⟨m,rfl⟩:∃ m',m=m'+1:=⟨m - 1,by omega⟩;simp only [Ee.l0];rw [Gv (by omega),cond_true,P6 (by omega),Aq,RY (by omega),Aq,wiC _ (by omega) (by omega)];exact cm0 J d (i+1) (l.set i _) m (by simp;omega) (by simpa using hl) (by omega)
def Q7 (L:Nat) (l:List DB):Prop:=l.length=L/\∀ x ∈ l,x.2.2.2.2.length<=400000
theorem Q7.set {L i:Nat} {l:List DB} {x:DB} (h:Q7 L l) (hx:x.2.2.2.2.length<=400000):Q7 L (l.set i x):=⟨by rw [List.length_set];exact h.1,λy hy=>by
 rcases List.mem_or_eq_of_mem_set hy with hy | rfl;exact h.2 y hy;exact hx⟩
theorem cm2 {R:Option Bool} (i:Nat) (J:List DB->Option Bool) (L:Nat) (hi:i < L) (hJ:∀ l:List DB,Q7 L l->J l=R):∀ (d x:Nat) (l:List DB) (m:Nat) (hl:Q7 L l),(l[i]'(by have:=hl.1;omega)).2.2.2.2.length=x+d->d+1<=m ->
  Ee.l2 m (i:Int) J (x:Int) l=R
 | 0,x,l,m,hl,e,hm=>by
  have h1:=hl.1;obtain ⟨m,rfl⟩:∃ m',m=m'+1:=⟨m - 1,by omega⟩;simp only [Ee.l2];rw [P6 (by omega),Aq,ltF (by omega)];exact hJ l hl
 | d+1,x,l,m,hl,e,hm=>by
  have h1:=hl.1;have hc:=hl.2 _ (List.getElem_mem (show i < l.length by omega));obtain ⟨m,rfl⟩:∃ m',m=m'+1:=⟨m - 1,by omega⟩;simp only [Ee.l2];rw [P6 (by omega),Aq,Gv (by omega),cond_true,Aq,P6 (by omega),Aq,RY (by omega),Aq,RY (by omega),Aq,wiC _ (by omega) (by omega)];refine cm2 i J L hi hJ d (x+1) _ m (hl.set (by simpa using hc)) ?_ (by omega);simp;omega
theorem cm1 {R:Option Bool} (J:List DB->Option Bool) (L:Nat) (hL:L<=400000) (hJ:∀ l:List DB,J l=R):∀ (d i:Nat) (l:List DB) (m:Nat),L=i+d->Q7 L l->d+500000<=m->Ee.l1 m J (i:Int) l=R
 | 0,i,l,m,e,hl,hm=>by
  have h1:=hl.1;obtain ⟨m,rfl⟩:∃ m',m=m'+1:=⟨m - 1,by omega⟩;simp only [Ee.l1];rw [ltF (by omega)];exact hJ l
 | d+1,i,l,m,e,hl,hm=>by
  have h1:=hl.1;have hc:=hl.2 _ (List.getElem_mem (show i < l.length by omega));obtain ⟨m,rfl⟩:∃ m',m=m'+1:=⟨m - 1,by omega⟩;simp only [Ee.l1,AN];rw [Gv (by omega),cond_true];refine cm2 i _ L (by omega) (λl' hl'=>?_) (l[i]'(by omega)).2.2.2.2.length 0 l m hl (by omega) (by omega);have h2:=hl'.1;rw [P6 (by omega),Aq,RY (by omega),Aq,wiC _ (by omega) (by omega)];exact cm1 J L hL hJ d (i+1) _ m (by omega) (hl'.set (by simp)) (by omega)
theorem Bk4 (s:Ah) (k:Nat) (hk:2000000<=k) (hfx:PM.f k=some true):Ee.f k s=some true:=by
 obtain ⟨r,h1,h2,h3,h4⟩:=Bue s;unfold Ee.f;rw [A1v k hk s,h1 k (by omega),hfx];simp only [Aq,Bool.not_true,cond_false,beq_self_eq_true,Bool.and_true];unfold AN;refine cm1 _ r.1.length h2 (λl=>?_) r.1.length 0 r.1 k (by omega) ⟨rfl,h4⟩ (by omega);have e:=cm0 (λ_=>(If.f k r.1 r.2.1 r.1 r.2.1).bind λD5=>some D5) r.2.1.length 0 r.2.1 k (by omega) (by omega) (by omega);refine Eq.trans e ?_;rw [same_eq k _ _ h2 h3 h4 (by omega)];rfl
theorem A1s (s:Ah):Ee.f 2000000 s=some true:=Bk4 s 2000000 (Nat.le_refl _) A6c
end
end Go.Proofs.YteccladehmaglaaGreatDoor
