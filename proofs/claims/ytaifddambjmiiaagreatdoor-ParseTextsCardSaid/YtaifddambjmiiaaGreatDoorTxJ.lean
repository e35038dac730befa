/- Texts of mine for parseTexts_card, part 10. -/
import Derived.Test.YtaifddambjmiiaaGreatDoorTxI
set_option linter.unusedSimpArgs false
set_option linter.unusedVariables false
set_option linter.unusedSectionVars false
namespace Go.Proofs.YtaifddambjmiiaaGreatDoor
set_option maxRecDepth 100000
section
open Go Go.RowKit Lx
mutual
def htX:Tree->Nat
 | .mk _ _ _ _ l=>Ju l+1
def Ju:List Tree->Nat
 | []=>0
 | x :: l=>max (htX x) (Ju l)
end
mutual
theorem Bjl:∀ t:Tree,htX t<=sz t
 | .mk _ _ _ _ l=>by simp only [htX,sz];have:=TU l;omega
theorem TU:∀ l:List Tree,Ju l<=AN l
 | []=>by simp [Ju,AN]
 | x :: l=>by simp only [Ju,AN];have:=Bjl x;have:=TU l;omega
end
theorem Ae4 (J:Int->Option Int) (R:H1):∀ (t pre:List Tree) (m a:Nat),pre.length+t.length<=10000000->t.length+1<=m ->
  (∀ x ∈ t,R.D2 x.kind x.text x.n x.at_ x.kids=some (htX x:Int))->D2.l0 m R (pre++t) J (a:Int) (pre.length:Int)=J ((max a (Ju t):Nat):Int)
 | [],pre,m,a,hl,hm,_=>by
  obtain ⟨m,rfl⟩:∃ m',m=m'+1:=⟨m - 1,by omega⟩;simp only [D2.l0];rw [GR (by simp)];simp [Ju]
 | x :: t,pre,m,a,hl,hm,hR=>by
  obtain ⟨m,rfl⟩:∃ m',m=m'+1:=⟨m - 1,by omega⟩;simp only [AH] at hl hm;have ih:=Ae4 J R t (pre++[x]) m (max a (htX x)) (by simp;omega) (by omega) (λy hy=>hR y (DF _ hy));simp only [D2.l0];rw [deT (by simp;omega),ixT];simp only [cond_true,Al];rw [hR x (Db ..)];simp only [Al];rw [Fj _ (by omega) (by omega)];rw [Bx,Bv] at ih;have e1:(if (htX x:Int) > (a:Int) then (htX x:Int) else (a:Int))=((max a (htX x):Nat):Int):=by split <;> omega
  rw [e1];refine ih.trans (congrArg J ?_);simp only [Ju];omega
theorem Ae2:∀ (k:Nat) (t:Tree),sz t<=k->sz t<=1000000->D2.g (H1.at k) k t.kind t.text t.n t.at_ t.kids=some (htX t:Int)
 | 0,t,h,_=>by have:=szP t;omega
 | k+1,.mk kd tx n a l,h,h9=>by
  simp only [sz] at h h9;have hl:=Et l;have hh:=TU l;unfold D2.g A2;have:=Ae4 (λx2=>some (Ar (x2+(1:Int)))) (H1.at (k+1)) l [] (k+1) 0 (by simp only [AX];omega) (by omega) λx hx=>by
   have:=Dr hx;exact Ae2 k x (by omega) (by omega)
  refine this.trans ?_;rw [Fj _ (by omega) (by omega)];simp [htX]
theorem Afi (J:Int->Option Int) (R:H2):∀ (t pre:List Tree) (m a:Nat),pre.length+t.length<=10000000->t.length+1<=m ->
  (∀ x ∈ t,R.DE x.kind x.text x.n x.at_ x.kids=some (htX x:Int))->DE.l0 m R (pre++t) J (a:Int) (pre.length:Int)=J ((max a (Ju t):Nat):Int)
 | [],pre,m,a,hl,hm,_=>by
  obtain ⟨m,rfl⟩:∃ m',m=m'+1:=⟨m - 1,by omega⟩;simp only [DE.l0];rw [GR (by simp)];simp [Ju]
 | x :: t,pre,m,a,hl,hm,hR=>by
  obtain ⟨m,rfl⟩:∃ m',m=m'+1:=⟨m - 1,by omega⟩;simp only [AH] at hl hm;have ih:=λa=>Afi J R t (pre++[x]) m a (by simp;omega) (by omega) (λy hy=>hR y (DF _ hy));simp only [Bx,List.singleton_append,Bv,List.length_singleton] at ih;simp only [DE.l0,A2];rw [deT (by simp;omega),ixT];simp only [cond_true,Al];rw [hR x (Db ..)];simp only [Al];rw [Fj _ (by omega) (by omega)];by_cases hgt:a < htX x;rw [deT (by omega)];simp only [cond_true];refine (ih (htX x)).trans (congrArg J ?_);simp only [Ju];omega;rw [GR (by omega)];simp only [cond_false];refine (ih a).trans (congrArg J ?_);simp only [Ju];omega
theorem Afh:∀ (k:Nat) (t:Tree),sz t<=k->sz t<=1000000->DE.g (H2.at k) k t.kind t.text t.n t.at_ t.kids=some (htX t:Int)
 | 0,t,h,_=>by have:=szP t;omega
 | k+1,.mk kd tx n a l,h,h9=>by
  simp only [sz] at h h9;have hl:=Et l;have hh:=TU l;unfold DE.g A2;have:=Afi (λx2=>some (Ar (x2+(1:Int)))) (H2.at (k+1)) l [] (k+1) 0 (by simp only [AX];omega) (by omega) λx hx=>by
   have:=Dr hx;exact Afh k x (by omega) (by omega)
  refine this.trans ?_;rw [Fj _ (by omega) (by omega)];simp [htX]
theorem Apc (J:List Int->Option (Ah×Int×Int)):∀ (q p:List Ah) (m:Nat),p.length+q.length<=1000000000000->q.length+1<=m->tw (p++q)<=BT ->
  GG.l0 m (p++q) J (bI (JN p)) (p.length:Int)=J (bI (JN (p++q)))
 | [],p,m,hl,hm,_=>by
  obtain ⟨m,rfl⟩:∃ m',m=m'+1:=⟨m - 1,by omega⟩;simp only [GG.l0];rw [GR (by simp)];simp
 | t :: q,p,m,hl,hm,hB=>by
  obtain ⟨m,rfl⟩:∃ m',m=m'+1:=⟨m - 1,by omega⟩;simp only [AH] at hl hm;have hBT:BT=1000000000000:=rfl;have ih:=Apc J q (p++[t]) m (by simp;omega) (by omega) (by simpa only [Bx,List.singleton_append] using hB);simp only [Bx,List.singleton_append,Bv,List.length_singleton] at ih;simp only [AO,tw] at hB;have hj:=Aa5 p;have hix:Bm (p++t :: q) (p.length:Int)=some t:=Rt rfl;simp only [GG.l0,A2];rw [deT (by simp;omega),hix,Fj _ (by omega) (by omega)];simp only [cond_true,Al];by_cases hp:p=[];subst hp;rw [GR (by simp)];simp only [cond_false];rw [OQ,GP _ _ _ (by rw [Eo,Eo,B0];omega),<- IM];simp only [Al];rw [show JN ([]++[t])=JN []++bs t by simp [JN,Kf]] at ih;exact ih;have:0 < p.length:=List.length_pos_iff.2 hp;rw [deT (by omega)];simp only [cond_true];rw [show [(32:Int)]=bI [32] from rfl,GP _ _ _ (by rw [Eo,Eo];simp;omega),<- IM];simp only [Al];rw [OQ,GP _ _ _ (by rw [Eo,Eo,B0];simp;omega),<- IM];simp only [Al];rw [Aa7 hp] at ih;simp only [Bx,List.singleton_append];exact ih
theorem Bxy {s:Ah} {n:Tree} (h:I9 s=MX n) (hp:Pr n) (hs:sz n<=80010):Kw.f 2000000 s=some (str (JN (ltD 100000 n)),0,0):=by
 obtain ⟨k,hk⟩:∃ k,k=2000000:=⟨_,rfl⟩;obtain ⟨d,hd⟩:∃ d,d=100000:=⟨_,rfl⟩;rw [<- hk,<- hd];have hb:=ZD d n hp (by omega);have hB:tw ([]++ltD d n)<=BT:=by
  have hBT:BT=1000000000000:=rfl;rw [List.nil_append];omega
 have hn:=node_eq d k n [] hp (by omega) (by omega) (by omega) hB;rw [List.nil_append] at hn;unfold Kw.f;rw [U5 k (by omega) s,h];simp only [Al,MX];rw [show ((0:Int) != 0)=false from rfl];simp only [cond_false];have:Bj.f k [] n.kind n.text n.n n.at_ n.kids=some (bI (JN (ltD d n))):=hn;rw [this];simp only [Al];unfold Lv.f;rw [Abi,cond_true,O3];rfl
theorem Bz6 {s:Ah} {n:Tree} (h:I9 s=MX n) (hp:Pr n) (hs:sz n<=80010):GG.f 2000000 s=some (str (JN (ltD 100000 n)),0,0):=by
 obtain ⟨k,hk⟩:∃ k,k=2000000:=⟨_,rfl⟩;obtain ⟨d,hd⟩:∃ d,d=100000:=⟨_,rfl⟩;rw [<- hk,<- hd];have hb:=ZD d n hp (by omega);have hc:=Akt d n hp (by omega);have hB:tw ([]++ltD d n)<=BT:=by
  have hBT:BT=1000000000000:=rfl;rw [List.nil_append];omega
 have hn:=XO d k n [] hp (by omega) (by omega) (by omega) hB;rw [List.nil_append] at hn hB;unfold GG.f;rw [Uz k (by omega) s,h];simp only [Al,MX];rw [show ((0:Int) != 0)=false from rfl];simp only [cond_false];have:Bc.f k [] n.kind n.text n.n n.at_ n.kids=some (ltD d n):=hn;rw [this];simp only [Al];unfold A2;refine (Apc (λl15=>some (strOfNums l15,(0:Int),(0:Int))) (ltD d n) [] k (by simp;omega) (by omega) hB).trans ?_;rw [List.nil_append,O3]
theorem B2q {s:Ah} {c a:Int} (hc:c≠0) (h:I9 s=MK c a) (k:Nat) (hk:2000000<=k):Kw.f k s=some (⟨#[]⟩,c,a)/\GG.f k s=some (⟨#[]⟩,c,a):=by
 unfold Kw.f GG.f;rw [U5 k (by omega) s,Uz k hk s,h];simp only [Al,MK];rw [show (c != 0)=true by rw [bne_iff_ne];exact hc];exact ⟨rfl,rfl⟩
theorem A5c:Pw.f 2000000=some true:=by kernel_rfl
theorem Af5 (k:Nat) (hk:200000<=k) {n:Tree} (hs:sz n<=80010):D2.f k n.kind n.text n.n n.at_ n.kids=some (htX n:Int)/\DE.f k n.kind n.text n.n n.at_ n.kids=some (htX n:Int) :=
 ⟨Ae2 k n (by omega) (by omega),Afh k n (by omega) (by omega)⟩
theorem Bxz (s:Ah):NY.f 2000000 s=some true:=by
 have hf:=A5c;rcases Bxl s with ⟨c,a,hc,h⟩ | ⟨n,h,hp,hs⟩;have ht:=B2q hc h 2000000 (Nat.le_refl _);have hn:=Af5 2000000 (by omega) (n:=.mk 0 ⟨#[]⟩ 0 0 []) (by decide);have h1:=U5 2000000 (by omega) s;have h2:=Uz 2000000 (Nat.le_refl _) s;obtain ⟨k,hk⟩:∃ k,k=2000000:=⟨_,rfl⟩;rw [<- hk] at hf ht hn h1 h2 ⊢;unfold NY.f;rw [ht.1,ht.2,h1,h2,h];simp only [Al,MK,hf,cond_true,beq_self_eq_true,Bool.and_self];have e1:D2.f k 0 ⟨#[]⟩ 0 0 []=some (htX (.mk 0 ⟨#[]⟩ 0 0 []):Int):=hn.1;have e2:DE.f k 0 ⟨#[]⟩ 0 0 []=some (htX (.mk 0 ⟨#[]⟩ 0 0 []):Int):=hn.2;rw [e1,e2];simp only [Al,beq_self_eq_true];have ht1:=Bxy h hp hs;have ht2:=Bz6 h hp hs;have hn:=Af5 2000000 (by omega) hs;have h1:=U5 2000000 (by omega) s;have h2:=Uz 2000000 (Nat.le_refl _) s;obtain ⟨x,hx⟩:∃ x,x=str (JN (ltD 100000 n)):=⟨_,rfl⟩;rw [<- hx] at ht1 ht2;obtain ⟨k,hk⟩:∃ k,k=2000000:=⟨_,rfl⟩;rw [<- hk] at hf ht1 ht2 hn h1 h2 ⊢;unfold NY.f;rw [ht1,ht2,h1,h2,h];simp only [Al,MX,hf,cond_true,beq_self_eq_true,Bool.and_self];rw [hn.1,hn.2];simp only [Al,beq_self_eq_true]
end
end Go.Proofs.YtaifddambjmiiaaGreatDoor
