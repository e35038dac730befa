/- Texts of mine for checkReports_card, part 8. -/
import Derived.Test.YteccladehmaglaaGreatDoorCpG
set_option linter.unusedSimpArgs false
set_option linter.unusedVariables false
set_option linter.unusedSectionVars false
namespace Go.Proofs.YteccladehmaglaaGreatDoor
set_option maxRecDepth 100000
section
open Go Go.RowKit
section
variable {l:List Tk}
theorem Aod (a b:List UInt8):(a == b)=decide (a=b):=by
 by_cases h:a=b;rw [decide_eq_true h,beq_iff_eq];exact h;rw [decide_eq_false h,beq_eq_false_iff_ne];exact h
theorem Bu6 {ts:List Tk}:G9 5 ts=(G9 6 ts).then λn r=>.ok (.mk 5 n.text n.n n.at_ n.kids) r:=by
 unfold G9;split <;> rfl
theorem Cm {α:Type} {b:Nat} {xs ys:List α} (h:(xs.length+ys.length) * b<=140737488355328):apd b xs ys=some (xs++ys):=by
 unfold apd;rw [decide_eq_true h];rfl
variable (hl:l.length<=1000000)
include hl
theorem Apc (J:List Tree->Int->Option (PR (List Tree×Int))) (hJ:∀ a i,J a i=some (.ok (a,i))):∀ (m:Nat) (acc:List Tree) (ts:List Tk),Good ts->ts <:+ l->ts.length < m->acc.length+ts.length<=1000000 ->
  GP.l0 m l J acc (ix l ts)=some (conv l eL (Kx acc ts))
 | 0,_,_,_,_,h,_=>by omega
 | m+1,acc,ts,hg,hs,hm,ha=>by
  rw [GP.l0,got_eq m hl hg hs,Ov acc hg];simp only [Aq];refine E_ (Dt _) (λhc=>?_) λhc=>?_;simp only [hc,if_true];obtain ⟨g1,g2,g3⟩:=hg.tail (AT hc);rw [name_eq m hl g1 (g3.trans hs)];refine CR (fName 6 g1) λn r hr hrs hn=>?_;simp only [eT,Cc];rw [Cm (by simp only [AW,Bp];omega)];simp only [Aq];exact Apc J hJ m _ r hr (hrs.trans (g3.trans hs)) (by omega) (by simp only [BQ,AW,Bp];omega);simp only [if_neg hc,hJ];rfl
theorem ZF (k:Nat) {ts:List Tk} (hg:Good ts) (hs:ts <:+ l) (hk:ts.length<=k):GP.f k l (ix l ts)=some (conv l eL (JD ts)):=by
 unfold GP.f JD;rw [name_eq k hl hg hs];refine CR (fName 6 hg) λn r hr hrs hn=>?_;simp only [AM,eT,Cc];have:=hrs.length_le;have:=hs.length_le;exact Apc hl _ (λ_ _=>rfl) k _ r hr (hrs.trans hs) (by omega) (by simp only [AW,Bp];omega)
end
structure AE (l:List Tk) (k:Nat):Prop where
 exp:∀ least ts,0<=least->Good ts->ts <:+ l->16 * ts.length+5<=k->(PE.at k).CF l (ix l ts) least=some (conv l eT (DZ least ts))
 operand:∀ ts,Good ts->ts <:+ l->16 * ts.length+4<=k->(PE.at k).Ig l (ix l ts)=some (conv l eT (Ky ts))
 Ec:∀ ts,Good ts->ts <:+ l->16 * ts.length+3<=k->(PE.at k).D9 l (ix l ts)=some (conv l eT (Jj ts))
 fields:∀ ts,Good ts->ts <:+ l->16 * ts.length+7<=k->(PE.at k).Fo l (ix l ts)=some (conv l eL (Lf [] ts))
 field:∀ ts,Good ts->ts <:+ l->16 * ts.length+6<=k->(PE.at k).Ic l (ix l ts)=some (conv l eT (Ou ts))
 CW:∀ ts,Good ts->ts <:+ l->16 * ts.length+6<=k->(PE.at k).D2 l (ix l ts)=some (conv l eL (FV ts))
section
variable {l:List Tk} (hl:l.length<=1000000) {k:Nat} (ih:AE l k)
include hl ih
theorem Ao3 (least:Int) (h0:0<=least) (r2:Int×Ah×Int×Int×List Tree×Int):∀ (m:Nat) (n:Tree) (ts:List Tk),n.at_=r2.2.2.2.1->Good ts->ts <:+ l->ts.length < m->16 * ts.length<=k ->
  CF.l0 m (PE.at k) l least r2 n.kind n.text n.n n.kids (ix l ts)=some (conv l eT (JC least n ts))
 | 0,_,_,_,_,_,h,_=>by omega
 | m+1,n,ts,hn,hg,hs,hm,hk=>by
  rw [CF.l0,Ke m hg hs,RM n h0 hg];simp only [Aq,Aza];refine E_ rfl (λhc=>?_) λhc=>?_;rw [<- hn];rfl;obtain ⟨g1,g2,g3⟩:=hg.tail (LZ (by omega));have hb:=Xm ts;simp only [AM];rw [I1 hl hg hs (LZ (by omega)),wrapM (CQ ts - 1) (by omega) (by omega)];have hq:(0:Int)<=(if CQ ts=4 then 3 else CQ ts):=by split <;> omega
  have key:∀ q:Int,q=(if CQ ts=4 then 3 else CQ ts)->PR.bind ((PE.at k).CF l (ix l ts.tail) q) (λr25=>CF.l0 m (PE.at k) l least r2 (11:Int) (hd ts).2.1 (0:Int) ([(Tree.mk n.kind n.text n.n r2.2.2.2.1 n.kids),(Tree.mk r25.1 r25.2.1 r25.2.2.1 r25.2.2.2.1 r25.2.2.2.2.1)]) r25.2.2.2.2.2)=some (conv l eT ((DZ (if CQ ts=4 then 3 else CQ ts) ts.tail).then λm r=>JC least (.mk 11 (hd ts).2.1 0 n.at_ [n,m]) r)):=by
   intro q hqe;subst hqe;rw [ih.exp _ _ hq g1 (g3.trans hs) (by omega)];refine CR (Da hq g1) λx r hr hrs hrn=>?_;simp only [eT,Cc];rw [<- hn,Cc];exact Ao3 least h0 r2 m (.mk 11 (hd ts).2.1 0 n.at_ [n,x]) r hn hr (hrs.trans (g3.trans hs)) (by omega) (by omega)
  by_cases h4:CQ ts=4;rw [show (CQ ts == (4:Int))=true by rw [beq_iff_eq];exact h4];exact key _ (by rw [if_pos h4,h4];rfl);rw [show (CQ ts == (4:Int))=false by rw [beq_eq_false_iff_ne];exact h4];exact key _ (by rw [if_neg h4])
theorem exp_eq (least:Int) (h0:0<=least) {ts:List Tk} (hg:Good ts) (hs:ts <:+ l) (hk:16 * ts.length+4<=k):CF.g (PE.at k) k l (ix l ts) least=some (conv l eT (DZ least ts)):=by
 unfold CF.g;rw [ih.operand ts hg hs hk,Us h0 hg];refine CR (S2 hg) λn r hr hrs hn=>?_;exact Ao3 hl ih least h0 (eT n (ix l r)) k n r rfl hr (hrs.trans hs) (by omega) (by omega)
theorem operand_eq {ts:List Tk} (hg:Good ts) (hs:ts <:+ l) (hk:16 * ts.length+3<=k):Ig.g (PE.at k) k l (ix l ts)=some (conv l eT (Ky ts)):=by
 unfold Ig.g;rw [Ke k hg hs,Avi hg];simp only [Aq,AM,MP k hg hs,got_eq k hl hg hs];refine E_ (N9 _ _) (λhc=>?_) λh3=>?_;rw [I1 hl hg hs (by omega)];rfl;refine E_ (N9 _ _) (λhc=>?_) λh4=>?_;rw [I1 hl hg hs (by omega)];rfl;refine E_ (Dt _) (λhc=>?_) λh5=>?_;rw [I1 hl hg hs (AT hc)];rfl;refine E_ (Dt _) (λhc=>?_) λh6=>?_;rw [I1 hl hg hs (AT hc)];rfl;refine E_ (Dt _) (λhc=>?_) λh7=>?_;rw [I1 hl hg hs (AT hc)];rfl;have hun:∀ (h8:(AB NO ts || AB NN ts || AB Kc ts)=true),PR.bind ((PE.at k).CF l (ix l ts.tail) (7:Int)) (λr21=>some (PR.ok ((10:Int),(hd ts).2.1,(0:Int),(hd ts).2.2.2,[(Tree.mk r21.1 r21.2.1 r21.2.2.1 r21.2.2.2.1 r21.2.2.2.2.1)],r21.2.2.2.2.2)))=some (conv l eT ((DZ 7 ts.tail).then λm r=>.ok (.mk 10 (hd ts).2.1 0 (hd ts).2.2.2 [m]) r)):=λh8=>by
  obtain ⟨g1,g2,g3⟩:=hg.tail (or3 rfl rfl rfl h8);rw [ih.exp 7 _ (by omega) g1 (g3.trans hs) (by omega)];refine CR (Da (by omega) g1) λx r hr hrs hn=>?_;simp only [eT,Cc];rfl
 cases hA:AB NO ts with
 | true =>
  have h8:(AB NO ts || AB NN ts || AB Kc ts)=true:=by rw [hA];rfl
  rw [hA] at h8;simp only [cond_true,if_true,h8];exact hun (by rw [hA];rfl)
 | false =>
 simp only [Bool.false_eq_true,if_false,cond_false,Bool.false_or,got_eq k hl hg hs,Aq];cases hB:AB NN ts with
 | true =>
  simp only [cond_true,if_true,Bool.true_or];exact hun (by rw [hB];simp)
 | false =>
 simp only [Bool.false_eq_true,if_false,cond_false,Bool.false_or,got_eq k hl hg hs,Aq];cases hC:AB Kc ts with
 | true =>
  simp only [cond_true,if_true];exact hun (by rw [hC];simp)
 | false =>
 simp only [Bool.false_eq_true,if_false,cond_false,got_eq k hl hg hs,Aq];refine E_ (Dt _) (λhc=>?_) λh9=>?_;simp only [hc,if_true];obtain ⟨g1,g2,g3⟩:=hg.tail (AT hc);rw [ih.fields _ g1 (g3.trans hs) (by omega)];refine CR (Ahx _ g1) λx r hr hrs hn=>?_;rfl;simp only [if_neg h9];rw [ih.Ec _ hg hs (by omega)];have:=CR (e':=eT) (F:=λr38:Int×Ah×Int×Int×List Tree×Int=>some (PR.ok (r38.1,r38.2.1,r38.2.2.1,r38.2.2.2.1,r38.2.2.2.2.1,r38.2.2.2.2.2))) (g:=λn r=>.ok n r) (l:=l) (OO hg) (e:=eT) (λn r _ _ _=>rfl);rw [this];cases Jj ts <;> rfl
theorem Ahn (J:List Tree->Int->Option (PR (List Tree×Int))) (hJ:∀ a i,J a i=some (.ok (a,i))):∀ (m:Nat) (acc:List Tree) (ts:List Tk),Good ts->ts <:+ l->ts.length < m->acc.length+ts.length<=1000000->16 * ts.length<=k ->
  D2.l0 m (PE.at k) l J acc (ix l ts)=some (conv l eL (Qf acc ts))
 | 0,_,_,_,_,h,_,_=>by omega
 | m+1,acc,ts,hg,hs,hm,ha,hk=>by
  rw [D2.l0,got_eq m hl hg hs,Acs acc hg];simp only [Aq];refine E_ (Dt _) (λhc=>?_) λhc=>?_;simp only [hc,if_true];obtain ⟨g1,g2,g3⟩:=hg.tail (AT hc);rw [ih.exp 0 _ (by omega) g1 (g3.trans hs) (by omega)];refine CR (Da (by omega) g1) λn r hr hrs hn=>?_;simp only [eT,Cc];rw [Cm (by simp only [AW,Bp];omega)];simp only [Aq];exact Ahn J hJ m _ r hr (hrs.trans (g3.trans hs)) (by omega) (by simp only [BQ,AW,Bp];omega) (by omega);simp only [if_neg hc,hJ];rfl
theorem Aht {ts:List Tk} (hg:Good ts) (hs:ts <:+ l) (hk:16 * ts.length+5<=k):D2.g (PE.at k) k l (ix l ts)=some (conv l eL (FV ts)):=by
 unfold D2.g;rw [ih.exp 0 ts (by omega) hg hs hk,Acu hg];refine CR (Da (by omega) hg) λn r hr hrs hn=>?_;simp only [AM,eT,Cc];have:=hs.length_le;exact Ahn hl ih _ (λ_ _=>rfl) k _ r hr (hrs.trans hs) (by omega) (by simp only [AW,Bp];omega) (by omega)
theorem Ah4 (J:List Tree->Int->Option (PR (List Tree×Int))) (hJ:∀ a r,Good r->r <:+ l->J a (ix l r)=some (conv l eL ((Db NP r).then λ_ r=>.ok a r))):∀ (m:Nat) (acc:List Tree) (ts:List Tk),Good ts->ts <:+ l->ts.length < m->acc.length+ts.length<=1000000->16 * ts.length+6<=k ->
  Fo.l0 m (PE.at k) l J acc (ix l ts)=some (conv l eL (Lf acc ts))
 | 0,_,_,_,_,h,_,_=>by omega
 | m+1,acc,ts,hg,hs,hm,ha,hk=>by
  rw [Fo.l0,MP m hg hs,Au6 acc hg];simp only [Aq];by_cases hR:AB NP ts=true;rw [if_pos hR,show AB (⟨#[125]⟩:Ah) ts=true from hR];simp only [Bool.not_true,cond_false];rw [hJ acc ts hg hs];unfold Db;rw [if_pos hR];rfl;rw [if_neg hR,show AB (⟨#[125]⟩:Ah) ts=false from by simpa using hR];simp only [Bool.not_false,cond_true];rw [ih.field ts hg hs hk];refine CR (X7 hg) λx r hr hrs hn=>?_;simp only [eT,Cc];rw [Cm (by simp only [AW,Bp];omega)];have hrl:=hrs.trans hs;simp only [Aq,AM,got_eq m hl hr hrl];have more:∀ {w:Ah},AB w r=true->Fo.l0 m (PE.at k) l J (acc++[x]) (ix l r.tail)=some (conv l eL (Lf (acc++[x]) r.tail)):=λhc=>by
   obtain ⟨g1,g2,g3⟩:=hr.tail (AT hc);exact Ah4 J hJ m _ _ g1 (g3.trans hrl) (by omega) (by simp only [BQ,AW,Bp];omega) (by omega)
  by_cases hc:AB Et r=true;rw [if_pos hc,show AB (⟨#[44]⟩:Ah) r=true from hc];simp only [Bool.not_true,cond_false,if_true];exact more hc;rw [if_neg hc,show AB (⟨#[44]⟩:Ah) r=false from by simpa using hc];simp only [Bool.not_false,cond_true,Bool.false_eq_true,if_false,got_eq m hl hr hrl,Aq];by_cases hd:AB Hg r=true;rw [if_pos hd,show AB (⟨#[59]⟩:Ah) r=true from hd];simp only [Bool.not_true,cond_false,if_true];exact more hd;rw [if_neg hd,show AB (⟨#[59]⟩:Ah) r=false from by simpa using hd];simp only [Bool.not_false,cond_true,Bool.false_eq_true,if_false];exact hJ _ _ hr hrl
theorem fields_eq {ts:List Tk} (hg:Good ts) (hs:ts <:+ l) (hk:16 * ts.length+6<=k):Fo.g (PE.at k) k l (ix l ts)=some (conv l eL (Lf [] ts)):=by
 unfold Fo.g;simp only [AM];have:=hs.length_le;refine Ah4 hl ih _ (λa r hr hrs=>?_) k [] ts hg hs (by omega) (by simp only [Bp];omega) hk;rw [GA k hl hr hrs];exact CR (CO _ hr) λ_ r2 hr2 _ _=>rfl
theorem A3y {ts:List Tk} (hg:Good ts) (hs:ts <:+ l) (hk:16 * ts.length+5<=k):Ic.g (PE.at k) k l (ix l ts)=some (conv l eT (Ou ts)):=by
 unfold Ic.g;rw [Ke k hg hs,Au4 hg];simp only [Aq,AM,got_eq k hl hg hs];refine E_ (Dt _) (λhc=>?_) λh1=>?_
 ·simp only [hc,if_true]
  obtain ⟨g1,g2,g3⟩:=hg.tail (AT hc);rw [ih.exp 0 _ (by omega) g1 (g3.trans hs) (by omega)];refine CR (Da (by omega) g1) λx r hr hrs hn=>?_;simp only [eT,Cc];have h1:=hrs.trans (g3.trans hs);rw [GA k hl hr h1];refine CR (CO _ hr) λ_ r2 hr2 Es hn2=>?_;simp only [eU];rw [GA k hl hr2 (Es.trans h1)];refine CR (CO _ hr2) λ_ r3 hr3 GH hn3=>?_;simp only [eU];rw [ih.exp 0 _ (by omega) hr3 (GH.trans (Es.trans h1)) (by omega)];refine CR (Da (by omega) hr3) λy r4 hr4 QG hn4=>?_;simp only [eT,Cc];rw [Cm (by simp)];rfl
 simp only [if_neg h1];have hq:((cond ((hd ts).1 == (1:Int)) ((B7 l (Au (ix l ts+(1:Int)))).bind λx57=>cond (x57.1 == (5:Int)) ((B7 l (Au (ix l ts+(1:Int)))).bind λx65=>some (x65.2.1.toList == (⟨#[61]⟩:Ah).toList)) (some false)) (some false)):Option Bool)=some (decide ((hd ts).1=1/\(hd ts.tail).1=5/\(hd ts.tail).2.1.toList=EK.toList)):=by
  by_cases h:(hd ts).1=1
  ·obtain ⟨g1,g2,g3⟩:=hg.tail (by omega)
   rw [I1 hl hg hs (by omega),Lz g1 (g3.trans hs),h];simp only [beq_self_eq_true,cond_true,Aq,true_and];by_cases h5:(hd ts.tail).1=5
   ·rw [h5]
    simp only [beq_self_eq_true,cond_true,true_and];exact congrArg some (Aod _ _)
   ·rw [show ((hd ts.tail).1 == (5:Int))=false by rw [beq_eq_false_iff_ne];exact h5]
    simp [h5]
  ·rw [show ((hd ts).1 == (1:Int))=false by rw [beq_eq_false_iff_ne];exact h]
   simp [h]
 rw [hq];simp only [Aq];refine E_ rfl (λhc=>?_) λh2=>?_
 ·obtain ⟨h1,h5,he⟩:=hc
  obtain ⟨g1,g2,g3⟩:=hg.tail (by omega);obtain ⟨g4,g5,g6⟩:=g1.tail (by omega);rw [name_eq k hl hg hs];unfold G9;rw [if_pos h1];simp only [conv,PR.bind,eT,Tree.kind,Tree.text,Tree.n,Tree.at_,Tree.kids];have hE:AB EK ts.tail=true:=by unfold AB isT;rw [h5,he];simp
  rw [GA k hl g1 (g3.trans hs)];unfold Db;rw [if_pos hE];simp only [conv,eU];rw [ih.exp 0 _ (by omega) g4 (g6.trans (g3.trans hs)) (by omega)];have:=CR (l:=l) (e:=eT) (e':=eT) (x:=DZ 0 ts.tail.tail) (F:=λr13=>(apd 64 [Tree.mk 5 (hd ts).2.1 0 (hd ts).2.2.2 []] [(Tree.mk r13.1 r13.2.1 r13.2.2.1 r13.2.2.2.1 r13.2.2.2.2.1)]).bind λRf=>some (PR.ok ((14:Int),(⟨#[]⟩:Ah),(0:Int),(hd ts).2.2.2,Rf,r13.2.2.2.2.2))) (g:=λv r=>.ok (.mk 14 noB 0 (hd ts).2.2.2 [.mk 5 (hd ts).2.1 0 (hd ts).2.2.2 [],v]) r) (Da (by omega) g4) (λy r4 hr4 QG hn4=>by
   simp only [eT,Cc];rw [Cm (by simp)];rfl)
  exact this
 ·rw [ih.exp 0 _ (by omega) hg hs (by omega)]
  refine CR (Da (by omega) hg) λy r4 hr4 QG hn4=>?_;simp only [eT,Cc];rw [Cm (by simp)];rfl
theorem Uk (r2:Tk):∀ (m:Nat) (n:Tree) (ts:List Tk),Good ts->ts <:+ l->ts.length < m->16 * ts.length<=k ->
  D9.l0 m (PE.at k) l r2 n.kind n.text n.n n.at_ n.kids (ix l ts)=some (conv l eT (Kz r2.2.2.2 n ts))
 | 0,_,_,_,_,h,_=>by omega
 | m+1,n,ts,hg,hs,hm,hk=>by
  rw [D9.l0,got_eq m hl hg hs,Acv _ n hg];simp only [Aq,Cc];refine E_ (Dt _) (λhc=>?_) λh1=>?_;simp only [hc,if_true];obtain ⟨g1,g2,g3⟩:=hg.tail (AT hc);rw [ih.exp 0 _ (by omega) g1 (g3.trans hs) (by omega)];refine CR (Da (by omega) g1) λx r hr hrs hn=>?_;simp only [eT,Cc];have hrl:=hrs.trans (g3.trans hs);rw [GA m hl hr hrl];refine CR (CO _ hr) λ_ r2' hr2 Es hn2=>?_;exact Uk r2 m (.mk 7 noB 0 r2.2.2.2 [n,x]) r2' hr2 (Es.trans hrl) (by omega) (by omega);simp only [if_neg h1,got_eq m hl hg hs,Aq];refine E_ (Dt _) (λhc=>?_) λh2=>?_;simp only [hc,if_true];obtain ⟨g1,g2,g3⟩:=hg.tail (AT hc);rw [name_eq m hl g1 (g3.trans hs),Bu6,then_assoc];refine CR (fName 6 g1) λx r hr hrs hn=>?_;exact Uk r2 m (.mk 7 noB 0 r2.2.2.2 [n,.mk 5 x.text x.n x.at_ x.kids]) r hr (hrs.trans (g3.trans hs)) (by omega) (by omega);simp only [if_neg h2,got_eq m hl hg hs,Aq];refine E_ (Dt _) (λhc=>?_) λh3=>?_;simp only [hc,if_true];obtain ⟨g1,g2,g3⟩:=hg.tail (AT hc);have gs:=g3.trans hs;have hlen:=hs.length_le;simp only [AM,MP m g1 gs,Aq];unfold WB;have tl:∀ (xs:List Tree) (r:List Tk),Good r->r <:+ l->r.length<=ts.tail.length->PR.bind (CJ.f m l (ix l r) (⟨#[41]⟩:Ah)) (λDK=>D9.l0 m (PE.at k) l r2 (8:Int) (⟨#[]⟩:Ah) (0:Int) r2.2.2.2 (n :: xs) DK)=some (conv l eT ((Db Gi r).then λ_ r=>Kz r2.2.2.2 (.mk 8 noB 0 r2.2.2.2 (n :: xs)) r)):=λxs r hr hrl hn=>by
   rw [GA m hl hr hrl];refine CR (CO _ hr) λ_ r2' hr2 Es hn2=>?_;exact Uk r2 m (.mk 8 noB 0 r2.2.2.2 (n :: xs)) r2' hr2 (Es.trans hrl) (by omega) (by omega)
  by_cases hR:AB Gi ts.tail=true;rw [if_pos hR,show AB (⟨#[41]⟩:Ah) ts.tail=true from hR];exact tl [] _ g1 gs (Nat.le_refl _);rw [if_neg hR,show AB (⟨#[41]⟩:Ah) ts.tail=false from by simpa using hR];simp only [Bool.not_false,cond_true];rw [ih.CW _ g1 gs (by omega)];cases hv:FV ts.tail with
  | bad i=>rfl
  | ok xs r =>
   have hf:=JT g1;rw [hv] at hf;have hxl:=NV g1 hv;show (apd 64 [n] xs).bind _=_;rw [Cm (by simp only [AW,Bp];omega)];exact tl xs r hf.1 (hf.2.2.trans gs) (by have:=hf.2.1;omega)
  simp only [if_neg h3];rfl
theorem At7 {ts:List Tk} (hg:Good ts) (hs:ts <:+ l) (hk:16 * ts.length+2<=k):D9.g (PE.at k) k l (ix l ts)=some (conv l eT (Jj ts)):=by
 unfold D9.g;rw [Ke k hg hs,Acx hg];simp only [Aq,AM,got_eq k hl hg hs];refine E_ (Dt _) (λhc=>?_) λh1=>?_;simp only [hc,if_true];obtain ⟨g1,g2,g3⟩:=hg.tail (AT hc);rw [ih.exp 0 _ (by omega) g1 (g3.trans hs) (by omega)];refine CR (Da (by omega) g1) λx r hr hrs hn=>?_;simp only [eT,Cc];have hrl:=hrs.trans (g3.trans hs);rw [GA k hl hr hrl];refine CR (CO _ hr) λ_ r2' hr2 Es hn2=>?_;exact Uk hl ih (hd ts) k (.mk 9 noB 0 (hd ts).2.2.2 [x]) r2' hr2 (Es.trans hrl) (by omega) (by omega);simp only [if_neg h1];rw [name_eq k hl hg hs];refine CR (fName 6 hg) λn r hr hrs hn=>?_;exact Uk hl ih (hd ts) k n r hr (hrs.trans hs) (by omega) (by omega)
end
theorem aE {l:List Tk} (hl:l.length<=1000000):∀ k,AE l k
 | 0=>by constructor <;> intros <;> omega
 | k+1=>by
  have ih:=aE hl k;exact ⟨λleast ts h0 hg hs h=>exp_eq hl ih least h0 hg hs (by omega),λts hg hs h=>operand_eq hl ih hg hs (by omega),λts hg hs h=>At7 hl ih hg hs (by omega),λts hg hs h=>fields_eq hl ih hg hs (by omega),λts hg hs h=>A3y hl ih hg hs (by omega),λts hg hs h=>Aht hl ih hg hs (by omega)⟩
theorem Avh (pre:List Tree):∀ (n:Nat) (acc:List Tree) (ts:List Tk),ts.length<=n->Good ts->Kx (pre++acc) ts=(Kx acc ts).then λxs r=>.ok (pre++xs) r
 | 0,_,[],_,hg=>hg.elim
 | n+1,acc,ts,hn,hg=>by
  rw [Ov _ hg,Ov acc hg];by_cases hc:AB Et ts=true;rw [if_pos hc,if_pos hc,then_assoc];obtain ⟨g1,g2,g3⟩:=hg.tail (AT hc);refine Un (fName 6 g1) λx r hr hl=>?_;rw [C7];exact Avh pre n _ r (by omega) hr;rw [if_neg hc,if_neg hc];rfl
structure AS (l:List Tk) (k:Nat):Prop where
 block:∀ c ts,Good ts->ts <:+ l->16 * ts.length+9<=k->(PS.at k).C_ l (ix l ts) c=some (conv l eT (FB c ts))
 function:∀ ts,AB NM ts=true->Good ts->ts <:+ l->16 * ts.length+7<=k->(PS.at k).Ie l (ix l ts)=some (conv l eT (RL ts))
 stat:∀ ts,Good ts->ts <:+ l->16 * ts.length+7<=k->(PS.at k).Ih l (ix l ts)=some (conv l eT (Nw ts))
 branches:∀ ts,Good ts->ts <:+ l->16 * ts.length+6<=k->(PS.at k).F7 l (ix l ts)=some (conv l eL (Nv [] ts))
 loop:∀ at_ ts,Good ts->ts <:+ l->16 * ts.length+8<=k->(PS.at k).If l (ix l ts) at_=some (conv l eT (Qg at_ ts))
 plain:∀ ts,Good ts->ts <:+ l->16 * ts.length+6<=k->(PS.at k).F8 l (ix l ts)=some (conv l eT (Qh ts))
section
variable {l:List Tk} (hl:l.length<=1000000)
include hl
theorem S5 (k:Nat) {ts:List Tk} (hg:Good ts) (hs:ts <:+ l) (hk:16 * ts.length+4<=k):CF.f k l (ix l ts) 0=some (conv l eT (DZ 0 ts)):=exp_eq hl (aE hl k) 0 (by omega) hg hs hk
theorem Vc (k:Nat) {ts:List Tk} (hg:Good ts) (hs:ts <:+ l) (hk:16 * ts.length+5<=k):D2.f k l (ix l ts)=some (conv l eL (FV ts)):=Aht hl (aE hl k) hg hs hk
theorem Aio (k:Nat) {ts:List Tk} (hg:Good ts) (hs:ts <:+ l) (hk:16 * ts.length+2<=k):D9.f k l (ix l ts)=some (conv l eT (Jj ts)):=At7 hl (aE hl k) hg hs hk
omit hl in
theorem Azo {ts:List Tk} (h:AB S_ ts=true) (hg:Good ts):Ji ts=(FB false ts.tail).then λb r=>(Db GI r).then λ_ r=>.ok b r:=by
 rw [Acn hg];unfold Db;rw [if_pos h];rfl
variable {k:Nat} (ih:AS l k)
include ih
theorem Av5 (F:Tree->Option (List Tree)) (Af:List Tree->Int->Option (PR (Int×Ah×Int×Int×List Tree×Int))) (g:Tree->Tree) {ts:List Tk} (hg:Good ts) (hs:ts <:+ l) (hk:16 * ts.length+9<=k+16)
  (hG:∀ b r,Good r->r <:+ l->∃ xs,F b=some xs/\Af xs (ix l r)=some (conv l eT (.ok (g b) r))) :
  PR.bind (CJ.f k l (ix l ts) (⟨#[100,111]⟩:Ah)) (λr36=>PR.bind ((PS.at k).C_ l r36 false) λr38=>(F (Tree.mk r38.1 r38.2.1 r38.2.2.1 r38.2.2.2.1 r38.2.2.2.2.1)).bind λl49=>PR.bind (CJ.f k l r38.2.2.2.2.2 (⟨#[101,110,100]⟩:Ah)) λGW=>Af l49 GW) =
   some (conv l eT ((Ji ts).then λb r=>.ok (g b) r)):=by
 rw [GA k hl hg hs,Acn hg,then_assoc];refine CR (CO _ hg) λ_ r hr hrs hn=>?_;simp only [eU];have h1:=hrs.trans hs;rw [ih.block false r hr h1 (by omega),then_assoc];refine CR (IS false hr) λb r2 hr2 Es hn2=>?_;simp only [eT,Cc];have h2:=Es.trans h1;obtain ⟨xs,hF,_⟩:=hG b r2 hr2 h2;rw [hF,then_assoc];simp only [Aq];rw [GA k hl hr2 h2];refine CR (CO _ hr2) λ_ r3 hr3 GH hn3=>?_;obtain ⟨xs',hF',hG'⟩:=hG b r3 hr3 (GH.trans h2);rw [hF] at hF';cases hF';exact hG'
theorem Xq (chunk:Bool) (r2:Tk):∀ (m:Nat) (acc:List Tree) (ts:List Tk),Good ts->ts <:+ l->16 * ts.length+6 < m->acc.length+ts.length<=1000000->16 * ts.length+8<=k ->
  C_.l0 m (PS.at k) l chunk r2 acc (ix l ts)=some (conv l eT (Kw chunk r2.2.2.2 acc ts))
 | 0,_,_,_,_,h,_,_=>by omega
 | m+1,acc,ts,hg,hs,hm,ha,hk=>by
  rw [C_.l0,Ke m hg hs,Auw chunk _ acc hg];simp only [Aq,got_eq m hl hg hs];refine E_ (Dt _) (λhc=>?_) λh1=>?_;simp only [hc,if_true];obtain ⟨g1,g2,g3⟩:=hg.tail (AT hc);exact Xq chunk r2 m acc _ g1 (g3.trans hs) (by omega) (by omega) (by omega);simp only [if_neg h1,got_eq m hl hg hs,Aq];refine E_ (Dt _) (λhc=>?_) λh2=>?_;simp only [hc,if_true];obtain ⟨g1,g2,g3⟩:=hg.tail (AT hc);have gs:=g3.trans hs;have hend:∀ (xs:List Tree) (r:List Tk),Good r->r <:+ l->(C0.f m l (ix l r) (⟨#[59]⟩:Ah)).bind (λr25=>(apd 64 acc [(Tree.mk (30:Int) (⟨#[]⟩:Ah) (0:Int) (hd ts).2.2.2 xs)]).bind λl29=>some (PR.ok ((20:Int),(⟨#[]⟩:Ah),(0:Int),r2.2.2.2,l29,r25.2)))=some (conv l eT (.ok (.mk 20 noB 0 r2.2.2.2 (acc++[.mk 30 noB 0 (hd ts).2.2.2 xs])) (if AB Hg r then r.tail else r))):=λxs r hr hrl=>by
   rw [got_eq m hl hr hrl,Cm (by simp only [AW,Bp];omega)];rfl
  simp only [AM,Ahb m g1 gs,MP m g1 gs,Aq];unfold WC;cases hE:JS ts.tail with
  | true =>
   simp only [Bool.not_true,cond_false,Aq,Bool.true_or,if_true];exact hend [] _ g1 gs
  | false =>
   simp only [Bool.not_false,cond_true,Aq,Bool.false_or];by_cases hS:AB Hg ts.tail=true;rw [if_pos hS,show AB (⟨#[59]⟩:Ah) ts.tail=true from hS];exact hend [] _ g1 gs;rw [if_neg hS,show AB (⟨#[59]⟩:Ah) ts.tail=false from by simpa using hS];simp only [Bool.not_false,cond_true];rw [Vc hl m g1 gs (by omega)];refine CR (JT g1) λxs r hr hrs hn=>?_;exact hend xs r hr (hrs.trans gs)
  simp only [if_neg h2,MP m hg hs,Ahb m hg hs,Aq];have hq:(cond chunk (some (AB (⟨#[102,117,110,99,116,105,111,110]⟩:Ah) ts)) (some false):Option Bool)=some (chunk && AB NM ts):=by cases chunk <;> rfl
  rw [hq];simp only [Aq];have more:∀ (x:Tree) (r:List Tk),Good r->r <:+ ts->r.length+1<=ts.length->((apd 64 acc [x]).bind λl56=>C_.l0 m (PS.at k) l chunk r2 l56 (ix l r))=some (conv l eT (Kw chunk r2.2.2.2 (acc++[x]) r)):=λx r hr hrs hn=>by
   rw [Cm (by simp only [AW,Bp];omega)];exact Xq chunk r2 m _ r hr (hrs.trans hs) (by omega) (by simp only [BQ,AW,Bp];omega) (by omega)
  refine E_ (Dt _) (λhc=>?_) λh3=>?_;simp only [Bool.and_eq_true] at hc;rw [ih.function ts hc.2 hg hs (by omega)];refine CR (Ahy (AT hc.2) hg) λx r hr hrs hn=>?_;simp only [eT,Cc];exact more x r hr hrs hn;refine E_ (Dt _) (λhc=>rfl) λh4=>?_;rw [ih.stat ts hg hs (by omega)];refine CR (X8 hg) λx r hr hrs hn=>?_;simp only [eT,Cc];exact more x r hr hrs hn
theorem Af2 (c:Bool) {ts:List Tk} (hg:Good ts) (hs:ts <:+ l) (hk:16 * ts.length+8<=k):C_.g (PS.at k) k l (ix l ts) c=some (conv l eT (FB c ts)):=by
 unfold C_.g;rw [Ke k hg hs,Auy c hg];simp only [Aq];have:=hs.length_le;exact Xq hl ih c (hd ts) k [] ts hg hs (by omega) (by simp only [Bp];omega) hk
theorem A4s {ts:List Tk} (hf:AB NM ts=true) (hg:Good ts) (hs:ts <:+ l) (hk:16 * ts.length+6<=k):Ie.g (PS.at k) k l (ix l ts)=some (conv l eT (RL ts)):=by
 unfold Ie.g;rw [Ke k hg hs,Ava (AT hf) hg];simp only [Aq];rw [GA k hl hg hs];unfold Db;rw [if_pos hf];obtain ⟨g1,g2,g3⟩:=hg.tail (AT hf);have gs:=g3.trans hs;have hle:=hs.length_le;show PR.bind (G4.f k l (ix l ts.tail)) _=_;rw [name_eq k hl g1 gs];refine CR (fName 6 g1) λnm r hr hrs hn=>?_;simp only [eT];have h1:=hrs.trans gs;rw [GA k hl hr h1];refine CR (CO _ hr) λ_ r2 hr2 Es hn2=>?_;simp only [eU,AM];have h2:=Es.trans h1;have tl:∀ (ps:List Tree) (r:List Tk),Good r->r <:+ l->r.length+1<=ts.length->ps.length<=1000000->PR.bind (CJ.f k l (ix l r) (⟨#[41]⟩:Ah)) (λr21=>PR.bind ((PS.at k).C_ l r21 false) λC1=>(apd 64 ps [(Tree.mk C1.1 C1.2.1 C1.2.2.1 C1.2.2.2.1 C1.2.2.2.2.1)]).bind λl32=>PR.bind (CJ.f k l C1.2.2.2.2.2 (⟨#[101,110,100]⟩:Ah)) λDQ=>some (PR.ok ((31:Int),nm.text,((ps.length:Nat):Int),(hd ts).2.2.2,l32,DQ))) =
   some (conv l eT ((Db Gi r).then λ_ r=>(FB false r).then λb r=>(Db GI r).then λ_ r=>.ok (.mk 31 nm.text ps.length (hd ts).2.2.2 (ps++[b])) r)):=λps r hr hrl hn hps=>by
  rw [GA k hl hr hrl];refine CR (CO _ hr) λ_ s hs1 hss hn'=>?_;simp only [eU];have h3:=hss.trans hrl;rw [ih.block false s hs1 h3 (by omega)];refine CR (IS false hs1) λb s2 hs2 Ka Bbp=>?_;simp only [eT,Cc];rw [Cm (by simp only [AW,Bp];omega)];simp only [Aq];rw [GA k hl hs2 (Ka.trans h3)];exact CR (CO _ hs2) λ_ s3 _ _ _=>rfl
 rw [MP k hr2 h2];simp only [Aq];unfold Uu;by_cases hR:AB Gi r2=true;rw [if_pos hR,show AB (⟨#[41]⟩:Ah) r2=true from hR];exact tl [] r2 hr2 h2 (by omega) (by simp);rw [if_neg hR,show AB (⟨#[41]⟩:Ah) r2=false from by simpa using hR];simp only [Bool.not_false,cond_true];rw [ZF hl k hr2 h2 (by omega)];cases hv:JD r2 with
 | bad i=>rfl
 | ok ps s =>
  have hf:=ON hr2;rw [hv] at hf;have hln:=Tm hr2 hv;exact tl ps s hf.1 (hf.2.2.trans h2) (by have:=hf.2.1;omega) (by omega)
theorem Af5 (J:List Tree->Int->Option (PR (List Tree×Int))) (hJ:∀ a r,Good r->r <:+ l->16 * r.length+9<=k->a.length<=1000000->J a (ix l r)=some (conv l eL (if AB NL r then (FB false r.tail).then λc r=>(Db GI r).then λ_ r=>.ok (a++[c]) r else (Db GI r).then λ_ r=>.ok a r))) :
  ∀ (m:Nat) (acc:List Tree) (ts:List Tk),Good ts->ts <:+ l->16 * ts.length+4 < m->acc.length+2 * ts.length<=1000000->16 * ts.length<=k->F7.l0 m (PS.at k) l J acc (ix l ts)=some (conv l eL (Nv acc ts))
 | 0,_,_,_,_,h,_,_=>by omega
 | m+1,acc,ts,hg,hs,hm,ha,hk=>by
  rw [F7.l0,S5 hl m hg hs (by omega),Au0 acc hg];refine CR (Da (by omega) hg) λe r hr hrs hn=>?_;simp only [eT,Cc];have h1:=hrs.trans hs;rw [Cm (by simp only [AW,Bp];omega)];simp only [Aq];rw [GA m hl hr h1];refine CR (CO _ hr) λ_ r2 hr2 Es hn2=>?_;simp only [eU];have h2:=Es.trans h1;rw [ih.block false r2 hr2 h2 (by omega)];refine CR (IS false hr2) λb r3 hr3 GH hn3=>?_;simp only [eT,Cc];have h3:=GH.trans h2;rw [Cm (by simp only [BQ,AW,Bp];omega)];simp only [Aq,got_eq m hl hr3 h3];by_cases hc:AB Pv r3=true;rw [if_pos hc,show AB (⟨#[101,108,115,101,105,102]⟩:Ah) r3=true from hc];simp only [Bool.not_true,cond_false,if_true];obtain ⟨g1,g2,g3⟩:=hr3.tail (AT hc);exact Af5 J hJ m _ _ g1 (g3.trans h3) (by omega) (by simp only [BQ,AW,Bp];omega) (by omega);rw [if_neg hc,show AB (⟨#[101,108,115,101,105,102]⟩:Ah) r3=false from by simpa using hc];simp only [Bool.not_false,cond_true,Bool.false_eq_true,if_false];exact hJ _ r3 hr3 h3 (by omega) (by simp only [BQ,AW,Bp];omega)
theorem Azq {ts:List Tk} (hg:Good ts) (hs:ts <:+ l) (hk:16 * ts.length+5<=k) (hl2:l.length<=400000):F7.g (PS.at k) k l (ix l ts)=some (conv l eL (Nv [] ts)):=by
 unfold F7.g;simp only [AM];have hle:=hs.length_le;refine Af5 hl ih _ (λa r hr hrl hk2 ha=>?_) k [] ts hg hs (by omega) (by simp only [Bp];omega) (by omega);rw [got_eq k hl hr hrl];simp only [Aq];refine E_ (Dt _) (λhc=>?_) λh1=>?_;simp only [hc,if_true];obtain ⟨g1,g2,g3⟩:=hr.tail (AT hc);have gs:=g3.trans hrl;rw [ih.block false _ g1 gs (by omega)];refine CR (IS false g1) λc r3 hr3 GH hn3=>?_;simp only [eT,Cc];rw [Cm (by simp only [AW,Bp];omega)];simp only [Aq];rw [GA k hl hr3 (GH.trans gs)];exact CR (CO _ hr3) λ_ _ _ _ _=>rfl;simp only [if_neg h1];rw [GA k hl hr hrl];exact CR (CO _ hr) λ_ _ _ _ _=>rfl
theorem A4p (at_:Int) {ts:List Tk} (hg:Good ts) (hs:ts <:+ l) (hk:16 * ts.length+7<=k):If.g (PS.at k) k l (ix l ts) at_=some (conv l eT (Qg at_ ts)):=by
 unfold If.g;rw [name_eq k hl hg hs,Au9 at_ hg];refine CR (fName 6 hg) λn r hr hrs hn=>?_;simp only [eT,Cc,AM];have h1:=hrs.trans hs;have hle:=hs.length_le;have tl:∀ (kd nn:Int) (xs:List Tree) (r:List Tk),Good r->r <:+ l->r.length+1<=ts.length->xs.length<=1000000->PR.bind (CJ.f k l (ix l r) (⟨#[100,111]⟩:Ah)) (λr19=>PR.bind ((PS.at k).C_ l r19 false) λr21=>(apd 64 xs [(Tree.mk r21.1 r21.2.1 r21.2.2.1 r21.2.2.2.1 r21.2.2.2.2.1)]).bind λF_=>PR.bind (CJ.f k l r21.2.2.2.2.2 (⟨#[101,110,100]⟩:Ah)) λEC=>some (PR.ok (kd,(⟨#[]⟩:Ah),nn,at_,F_,EC))) =
   some (conv l eT ((Ji r).then λbd r=>.ok (.mk kd noB nn at_ (xs++[bd])) r)):=λkd nn xs r hr hrl hn hxs =>
  Av5 hl ih (λb=>apd 64 xs [b]) (λF_ EC=>some (PR.ok (kd,(⟨#[]⟩:Ah),nn,at_,F_,EC))) (λbd=>.mk kd noB nn at_ (xs++[bd])) hr hrl (by omega) λb s hs1 hsl=>⟨_,Cm (by simp only [AW,Bp];omega),rfl⟩
 rw [got_eq k hl hr h1];simp only [Aq];refine E_ (Dt _) (λhc=>?_) λhne=>?_;simp only [hc,if_true];obtain ⟨g1,g2,g3⟩:=hr.tail (AT hc);have gs:=g3.trans h1;rw [S5 hl k g1 gs (by omega)];refine CR (Da (by omega) g1) λa r2 hr2 Es hn2=>?_;simp only [eT,Cc];have h2:=Es.trans gs;rw [Cm (by simp)];simp only [Aq];rw [GA k hl hr2 h2];refine CR (CO _ hr2) λ_ r3 hr3 GH hn3=>?_;simp only [eU];have h3:=GH.trans h2;rw [S5 hl k hr3 h3 (by omega)];refine CR (Da (by omega) hr3) λb r4 hr4 QG hn4=>?_;simp only [eT,Cc];have h4:=QG.trans h3;rw [Cm (by simp)];simp only [Aq,got_eq k hl hr4 h4];unfold Uv;by_cases hC:AB Et r4=true;rw [if_pos hC,show AB (⟨#[44]⟩:Ah) r4=true from hC];simp only [cond_true,if_true];obtain ⟨g5,g6,g7⟩:=hr4.tail (AT hC);have gs5:=g7.trans h4;rw [S5 hl k g5 gs5 (by omega),then_assoc];refine CR (Da (by omega) g5) λc r5 hr5 YR hn5=>?_;simp only [eT,Cc];rw [Cm (by simp)];exact tl 26 0 _ r5 hr5 (YR.trans gs5) (by omega) (by simp);rw [if_neg hC,show AB (⟨#[44]⟩:Ah) r4=false from by simpa using hC];simp only [cond_false,Bool.false_eq_true,if_false];have:=tl 26 0 ([n]++[a]++[b]) r4 hr4 h4 (by omega) (by simp);simp only [PV.then,List.append_nil];exact this;simp only [if_neg hne,got_eq k hl hr h1,Aq];have tl2:∀ (xs:List Tree) (r:List Tk),Good r->r <:+ l->r.length+1<=ts.length->xs.length+r.length<=ts.length+1->PR.bind (CJ.f k l (ix l r) (⟨#[105,110]⟩:Ah)) (λWu=>PR.bind (D2.f k l Wu) λP_=>(apd 64 xs P_.1).bind λQ_=>PR.bind (CJ.f k l P_.2 (⟨#[100,111]⟩:Ah)) λr19=>PR.bind ((PS.at k).C_ l r19 false) λr21=>(apd 64 Q_ [(Tree.mk r21.1 r21.2.1 r21.2.2.1 r21.2.2.2.1 r21.2.2.2.2.1)]).bind λF_=>PR.bind (CJ.f k l r21.2.2.2.2.2 (⟨#[101,110,100]⟩:Ah)) λEC=>some (PR.ok ((27:Int),(⟨#[]⟩:Ah),((xs.length:Nat):Int),at_,F_,EC))) =
   some (conv l eT ((Db V4 r).then λ_ r=>(FV r).then λes r=>(Ji r).then λbd r=>.ok (.mk 27 noB xs.length at_ (xs++es++[bd])) r)):=λxs r hr hrl hn hx=>by
  rw [GA k hl hr hrl];refine CR (CO _ hr) λ_ r3 hr3 GH hn3=>?_;simp only [eU];have h3:=GH.trans hrl;rw [Vc hl k hr3 h3 (by omega)];cases hv:FV r3 with
  | bad i=>rfl
  | ok es s =>
   have hf:=JT hr3;rw [hv] at hf;have hln:=NV hr3 hv;show (apd 64 xs es).bind _=_;rw [Cm (by omega)];exact tl 27 xs.length (xs++es) s hf.1 (hf.2.2.trans h3) (by have:=hf.2.1;omega) (by simp only [BQ];omega)
 by_cases hC:AB Et r=true;rw [show AB (⟨#[44]⟩:Ah) r=true from hC];simp only [cond_true,if_true];obtain ⟨g1,g2,g3⟩:=hr.tail (AT hC);have gs:=g3.trans h1;rw [ZF hl k g1 gs (by omega)];have e:Kx [n] r=(JD r.tail).then λxs r=>.ok ([n]++xs) r:=by
  rw [Ov _ hr,if_pos hC];unfold JD;rw [then_assoc];exact Un (fName 6 g1) λx s hs1 _=>Avh [n] _ [x] s (Nat.le_refl _) hs1
 rw [e,then_assoc];cases hv:JD r.tail with
 | bad i=>rfl
 | ok xs s =>
  have hf:=ON g1;rw [hv] at hf;have hln:=Tm g1 hv;show (apd 64 [n] xs).bind _=_;rw [Cm (by simp only [AW,Bp];omega)];exact tl2 ([n]++xs) s hf.1 (hf.2.2.trans gs) (by have:=hf.2.1;omega) (by simp only [BQ,AW,Bp];omega)
 rw [show AB (⟨#[44]⟩:Ah) r=false from by simpa using hC];simp only [cond_false,Bool.false_eq_true,if_false];rw [Ov _ hr,if_neg hC];exact tl2 [n] r hr h1 (by omega) (by simp only [AW,Bp];omega)
theorem Bt1 {ts:List Tk} (hg:Good ts) (hs:ts <:+ l) (hk:16 * ts.length+6<=k):Ih.g (PS.at k) k l (ix l ts)=some (conv l eT (Nw ts)):=by
 unfold Ih.g;rw [Ke k hg hs,Avl hg];simp only [Aq,AM,got_eq k hl hg hs];have hle:=hs.length_le;refine E_ (Dt _) (λhc=>?_) λh1=>?_;simp only [hc,if_true];obtain ⟨g1,g2,g3⟩:=hg.tail (AT hc);have gs:=g3.trans hs;rw [Azo hc hg,then_assoc,ih.block false _ g1 gs (by omega)];refine CR (IS false g1) λb r hr hrs hn=>?_;simp only [eT,Cc];rw [GA k hl hr (hrs.trans gs),then_assoc];exact CR (CO _ hr) λ_ _ _ _ _=>rfl;simp only [if_neg h1,got_eq k hl hg hs,Aq];refine E_ (Dt _) (λhc=>?_) λh2=>?_;simp only [hc,if_true];obtain ⟨g1,g2,g3⟩:=hg.tail (AT hc);have gs:=g3.trans hs;rw [S5 hl k g1 gs (by omega)];refine CR (Da (by omega) g1) λe r hr hrs hn=>?_;simp only [eT,Cc];exact Av5 hl ih (λb=>apd 64 [e] [b]) (λl49 GW=>some (PR.ok ((25:Int),(⟨#[]⟩:Ah),(0:Int),(hd ts).2.2.2,l49,GW))) (λb=>.mk 25 noB 0 (hd ts).2.2.2 [e,b]) hr (hrs.trans gs) (by omega) λb s _ _=>⟨_,Cm (by simp),rfl⟩;simp only [if_neg h2,got_eq k hl hg hs,Aq];refine E_ (Dt _) (λhc=>?_) λh3=>?_;simp only [hc,if_true];obtain ⟨g1,g2,g3⟩:=hg.tail (AT hc);rw [ih.branches _ g1 (g3.trans hs) (by omega)];exact CR (Ahw _ g1) λ_ _ _ _ _=>rfl;simp only [if_neg h3,got_eq k hl hg hs,Aq];have same:∀ {x:PV Tree},(PR.bind (some (conv l eT x)) λDk=>some (PR.ok (Dk.1,Dk.2.1,Dk.2.2.1,Dk.2.2.2.1,Dk.2.2.2.2.1,Dk.2.2.2.2.2)))=some (conv l eT x):=λ{x}=>by cases x <;> rfl
 refine E_ (Dt _) (λhc=>?_) λh4=>?_;simp only [hc,if_true];obtain ⟨g1,g2,g3⟩:=hg.tail (AT hc);rw [ih.loop _ _ g1 (g3.trans hs) (by omega)];exact same;simp only [if_neg h4,got_eq k hl hg hs,Aq];refine E_ (Dt _) (λhc=>?_) λh5=>?_;simp only [hc,if_true];obtain ⟨g1,g2,g3⟩:=hg.tail (AT hc);have gs:=g3.trans hs;rw [ZF hl k g1 gs (by omega)];cases hv:JD ts.tail with
 | bad i=>rfl
 | ok xs r =>
  have hf:=ON g1;rw [hv] at hf;have hln:=Tm g1 hv;have hrl:=hf.2.2.trans gs;show (C0.f k l (ix l r) _).bind _=some (conv l eT ((Ut r).then _));rw [got_eq k hl hf.1 hrl];unfold Ut;simp only [Aq,eL];by_cases hE:AB EK r=true;rw [if_pos hE,show AB (⟨#[61]⟩:Ah) r=true from hE];simp only [cond_true,if_true];obtain ⟨g4,g5,g6⟩:=hf.1.tail (AT hE);have h6:=hf.2.1;rw [Vc hl k g4 (g6.trans hrl) (by omega)];cases hv2:FV r.tail with
  | bad i=>rfl
  | ok es s =>
   have Bbm:=NV g4 hv2;show (apd 64 xs es).bind _=_;rw [Cm (by omega)];rfl
  rw [if_neg hE,show AB (⟨#[61]⟩:Ah) r=false from by simpa using hE];simp only [cond_false,Bool.false_eq_true,if_false,PV.then,List.append_nil];rfl
 simp only [if_neg h5,got_eq k hl hg hs,Aq];refine E_ (Dt _) (λhc=>?_) λh6=>?_;simp only [hc,if_true];rfl;simp only [if_neg h6];rw [ih.plain _ hg hs (by omega)];exact same
omit ih in
theorem targets_eq (J:List Tree->Int->Option (PR (Int×Ah×Int×Int×List Tree×Int))) (g:List Tree->List Tk->PV Tree) (Ag:Nat) (hJ:∀ a r,Good r->r <:+ l->r.length<=Ag->a.length+r.length<=1000000->J a (ix l r)=some (conv l eT (g a r))) :
  ∀ (m:Nat) (acc:List Tree) (e:Tree) (ts:List Tk),Good ts->ts <:+ l->16 * ts.length+2 < m->ts.length<=Ag->acc.length+ts.length+1<=1000000->F8.l0 m l J e.kind e.text e.n e.at_ e.kids acc (ix l ts)=some (conv l eT ((Qi acc e ts).then g))
 | 0,_,_,_,_,_,h,_,_=>by omega
 | m+1,acc,e,ts,hg,hs,hm,hN,ha=>by
  rw [F8.l0,Avq acc e hg];simp only [AM,Cc];have ht:PM.f m e.kind e.text e.n e.at_ e.kids=some (decide (e.kind=6\/e.kind=7)):=by
   unfold PM.f;rw [N9,N9];by_cases h6:e.kind=6;simp [h6];simp [h6]
  rw [ht];simp only [Aq];by_cases hk:e.kind=6\/e.kind=7;rw [if_pos hk,decide_eq_true hk];simp only [Bool.not_true,cond_false];rw [Cm (by simp only [AW,Bp];omega)];simp only [Aq,got_eq m hl hg hs];by_cases hc:AB Et ts=true;rw [show AB (⟨#[44]⟩:Ah) ts=true from hc];simp only [Bool.not_true,cond_false,if_true];rw [then_assoc];obtain ⟨g1,g2,g3⟩:=hg.tail (AT hc);have gs:=g3.trans hs;rw [Aio hl m g1 gs (by omega)];refine CR (OO g1) λx r hr hrs hn=>?_;exact targets_eq J g Ag hJ m _ x r hr (hrs.trans gs) (by omega) (by omega) (by simp only [BQ,AW,Bp];omega);rw [show AB (⟨#[44]⟩:Ah) ts=false from by simpa using hc];simp only [Bool.not_false,cond_true,Bool.false_eq_true,if_false];exact hJ _ ts hg hs (by omega) (by simp only [BQ,AW,Bp];omega);rw [if_neg hk,decide_eq_false hk];rfl
omit ih in
theorem Bqc (k:Nat) {ts:List Tk} (hg:Good ts) (hs:ts <:+ l) (hk:16 * ts.length+5<=k):F8.g (PS.at k) k l (ix l ts)=some (conv l eT (Qh ts)):=by
 unfold F8.g;rw [Aio hl k hg hs (by omega),Avj hg];have hle:=hs.length_le;refine CR (OO hg) λe r hr hrs hn=>?_;have h1:=hrs.trans hs;simp only [eT,Cc,MP k hr h1,Aq,AM];have hq:(cond (!AB (⟨#[61]⟩:Ah) r) (some (!AB (⟨#[44]⟩:Ah) r)) (some false):Option Bool)=some (!(AB EK r || AB Et r)):=by
  show (cond (!AB EK r) (some (!AB Et r)) (some false):Option Bool)=_;cases AB EK r <;> cases AB Et r <;> rfl
 rw [hq];simp only [Aq];cases hb:(AB EK r || AB Et r) with
 | true =>
  simp only [Bool.not_true,cond_false,if_true];refine targets_eq hl _ (λl r=>(Db EK r).then λ_ r=>(FV r).then λes r=>.ok (.mk 22 noB l.length e.at_ (l++es)) r) r.length (λa s hs1 hsl hsn ha=>?_) k [] e r hr h1 (by omega) (Nat.le_refl _) (by simp only [Bp];omega);rw [GA k hl hs1 hsl];refine CR (CO _ hs1) λ_ s2 hs2 Ka hn2=>?_;simp only [eU];have h2:=Ka.trans hsl;have hkey:16 * s2.length+5<=k:=by have:=hs2;omega
  rw [Vc hl k hs2 h2 hkey];cases hv:FV s2 with
  | bad i=>rfl
  | ok es s3 =>
   have hln:=NV hs2 hv;show (apd 64 a es).bind _=_;rw [Cm (by omega)];rfl
 | false =>
  simp only [Bool.not_false,cond_true,Bool.false_eq_true,if_false];by_cases h8:e.kind=8;rw [if_pos h8,h8];rfl;rw [if_neg h8,show (e.kind != 8)=true by rw [bne_iff_ne];exact h8];simp only [cond_true,Ke k hr h1,Aq];rfl
end
theorem aS {l:List Tk} (hl:l.length<=400000):∀ k,AS l k
 | 0=>by constructor <;> intros <;> omega
 | k+1=>by
  have ih:=aS hl k;have h1:l.length<=1000000:=by omega
  exact ⟨λc ts hg hs h=>Af2 h1 ih c hg hs (by omega),λts hf hg hs h=>A4s h1 ih hf hg hs (by omega),λts hg hs h=>Bt1 h1 ih hg hs (by omega),λts hg hs h=>Azq h1 ih hg hs (by omega) hl,λat_ ts hg hs h=>A4p h1 ih at_ hg hs (by omega),λts hg hs h=>Bqc h1 k hg hs (by omega)⟩
theorem A3q {l:List Tk} (hl:l.length<=400000) (k:Nat) (c:Bool) {ts:List Tk} (hg:Good ts) (hs:ts <:+ l) (hk:16 * ts.length+8<=k):C_.f k l (ix l ts) c=some (conv l eT (FB c ts)):=Af2 (by omega) (aS hl k) c hg hs hk
mutual
def sz:Tree->Nat
 | .mk _ _ _ _ l=>A_ l+1
def A_:List Tree->Nat
 | []=>0
 | x :: l=>sz x+A_ l
end
mutual
/-- Nodes begin in order. -/
def D5:Tree->Prop
 | .mk k _ _ a l=>F0 a l/\(k=20->l.Pairwise λx y=>x.at_ < y.at_)
def F0 (a:Int):List Tree->Prop
 | []=>True
 | x :: l=>(a<=x.at_/\D5 x)/\F0 a l
end
theorem Wf {a:Int}:∀ {l:List Tree},F0 a l ↔ ∀ x ∈ l,a<=x.at_/\D5 x
 | []=>by simp [F0]
 | x :: l=>by simp [F0,Wf (l:=l)]
theorem DY:∀ (l m:List Tree),A_ (l++m)=A_ l+A_ m
 | [],m=>by simp [A_]
 | x :: l,m=>by simp only [List.cons_append,A_,DY l m];omega
theorem Fr:∀ (l:List Tree),l.length<=A_ l
 | []=>Nat.zero_le _
 | .mk _ _ _ _ _ :: l=>by
  have:=Fr l;simp only [AW,A_,sz];omega
def Asc (ts:List Tk):Prop:=ts.Pairwise λa b=>a.2.2.2 < b.2.2.2
def at0 (ts:List Tk):Int:=(hd ts).2.2.2
structure C6 (n:Nat) (ts r:List Tk):Prop where
 good:Good r
 Cz:Asc r
 len:r.length+n<=ts.length
 le:at0 ts<=at0 r
 lt:r.length < ts.length->at0 ts < at0 r
theorem C6.refl {ts:List Tk} (hg:Good ts) (ha:Asc ts):C6 0 ts ts:=⟨hg,ha,Nat.le_refl _,Int.le_refl _,λh=>absurd h (Nat.lt_irrefl _)⟩
theorem C6.trans {n m:Nat} {ts r s:List Tk} (h:C6 n ts r) (h':C6 m r s):C6 (n+m) ts s:=by
 refine ⟨h'.good,h'.Cz,?_,?_,λhl=>?_⟩;have:=h.len;have:=h'.len;omega;have:=h.le;have:=h'.le;omega;by_cases hr:r.length < ts.length;have:=h.lt hr;have:=h'.le;omega;have:=h'.lt (by omega);have:=h.le;omega
theorem C6.weak {n m:Nat} {ts r:List Tk} (h:C6 n ts r) (hm:m<=n):C6 m ts r:=⟨h.good,h.Cz,by have:=h.len;omega,h.le,h.lt⟩
theorem C6.tail {n:Nat} {ts r:List Tk} (h:C6 n ts r) (h6:(hd r).1≠6):C6 (n+1) ts r.tail:=by
 obtain ⟨g1,g2,_⟩:=h.good.tail h6;refine h.trans (m:=1) ⟨g1,?_,by omega,?_,?_⟩
 ·cases r with
  | nil=>exact h.Cz
  | cons t r=>exact (List.pairwise_cons.1 h.Cz).2
 all_goals
  cases r with
  | nil=>exact h.good.elim
  | cons t r =>
   cases r with
   | nil=>exact g1.elim
   | cons u r =>
    have:=(List.pairwise_cons.1 h.Cz).1 u (DN ..);simp only [at0,hd,List.tail_cons,List.headD_cons];omega
def R {α:Type} (x:Option (PV α)) (Q:α->List Tk->Prop):Prop:=∀ a r,x=some (.ok a r)->Q a r
section
variable {α β:Type} {x y:Option (PV α)} {f:α->List Tk->Option (PV β)} {Q Q1:α->List Tk->Prop} {Q2:β->List Tk->Prop}
theorem R.bind (h1:R x Q1) (h2:∀ a r,Q1 a r->R (f a r) Q2):R (PV.bind x f) Q2:=λa r h=>by
 rcases bind_some h with ⟨i,_,he⟩ | ⟨a',r',hx,hf⟩;cases he;exact h2 a' r' (h1 a' r' hx) a r hf
theorem R.none:R (none:Option (PV α)) Q:=λ_ _ h=>by cases h
theorem R.bad {i:Int}:R (some (.bad i):Option (PV α)) Q:=λ_ _ h=>by cases h
theorem R.ok {a:α} {r:List Tk} (h:Q a r):R (some (.ok a r)) Q:=λ_ _ h'=>by cases h';exact h
theorem R.ite {c:Prop} [Decidable c] (h1:c->R x Q) (h2:¬ c->R y Q):R (if c then x else y) Q:=by
 by_cases h:c;rw [if_pos h];exact h1 h;rw [if_neg h];exact h2 h
theorem R.weak (h:R x Q1) (h2:∀ a r,Q1 a r->Q a r):R x Q:=λa r h'=>h2 a r (h a r h')
end
structure TE (b:Nat) (ts:List Tk) (n:Tree) (r:List Tk):Prop where
 Bu:C6 1 ts r
 at_:n.at_=at0 ts
 ord:D5 n
 size:sz n+b+4 * r.length<=4 * ts.length
structure LE (m:Nat) (lo:Int) (acc:List Tree) (ts:List Tk) (l:List Tree) (r:List Tk):Prop where
 Bu:C6 m ts r
 ord:F0 lo l
 size:A_ l+4 * r.length<=A_ acc+4 * ts.length
theorem F0.snoc {lo:Int} {l:List Tree} {x:Tree} (h:F0 lo l) (h1:lo<=x.at_) (h2:D5 x):F0 lo (l++[x]):=by
 rw [Wf] at h ⊢;intro y hy;rcases EH.1 hy with hy | hy;exact h y hy;obtain rfl:=EZ.1 hy;exact ⟨h1,h2⟩
theorem F0.app {lo:Int} {l m:List Tree} (h:F0 lo l) (h':F0 lo m):F0 lo (l++m):=by
 rw [Wf] at *;intro y hy;exact (EH.1 hy).elim (h y) (h' y)
theorem F0.weak {lo lo':Int} {l:List Tree} (h:F0 lo l) (h1:lo'<=lo):F0 lo' l:=by
 rw [Wf] at *;exact λy hy=>⟨Int.le_trans h1 (h y hy).1,(h y hy).2⟩
theorem D5.mk {k:Int} {t:Ah} {n a:Int} {l:List Tree} (h:F0 a l) (hk:k≠20):D5 (.mk k t n a l):=⟨h,λe=>absurd e hk⟩
theorem one {lo:Int} {x:Tree} (h1:lo<=x.at_) (h2:D5 x):F0 lo [x]:=⟨⟨h1,h2⟩,Aj⟩
theorem Io {w:Ah} {n:Nat} {ts s:List Tk} (h:C6 n ts s):R (FG w s) λ_ r=>C6 (n+1) ts r/\r.length+1=s.length:=by
 refine R.ite (λhc=>R.ok ⟨h.tail (AT hc),?_⟩) λ_=>R.bad;exact (h.good.tail (AT hc)).2.1
theorem RA {k:Int} {ts:List Tk} (hk:k≠20) (hg:Good ts) (ha:Asc ts):R (Ja k ts) (TE 1 ts):=by
 refine R.ite (λhc=>R.ok ?_) λ_=>R.bad;have h6:(hd ts).1≠6:=by omega
 have:=(hg.tail h6).2.1;exact ⟨((C6.refl hg ha).tail h6).weak (by omega),rfl,D5.mk trivial hk,by simp only [sz,A_];omega⟩
theorem Aa5:∀ (f:Nat) (acc:List Tree) (lo:Int) (ts:List Tk),Good ts->Asc ts->lo<=at0 ts->F0 lo acc->R (Gq f acc ts) (LE 0 lo acc ts)
 | 0,_,_,_,_,_,_,_=>R.none
 | f+1,acc,lo,ts,hg,ha,hlo,hacc=>by
  unfold Gq;refine R.ite (λhc=>?_) λ_=>R.ok ⟨C6.refl hg ha,hacc,Nat.le_refl _⟩;have ht:=(C6.refl hg ha).tail (AT hc);have:=ht.len;have:=ht.le;refine R.bind (RA (by decide) ht.good ht.Cz) λn r hn=>?_;have:=hn.at_;have:=hn.size;refine R.weak (Aa5 f _ lo r hn.Bu.good hn.Bu.Cz (by have:=hn.Bu.le;omega) (hacc.snoc (by omega) hn.ord)) λl s hl=>?_;have:=hl.size;rw [DY] at this;simp only [A_] at this;exact ⟨((ht.trans hn.Bu).trans hl.Bu).weak (by omega),hl.ord,by omega⟩
theorem Arc (f:Nat) {lo:Int} {ts:List Tk} (hg:Good ts) (ha:Asc ts) (hlo:lo<=at0 ts):R (Nd f ts) (LE 1 lo [] ts):=by
 refine R.bind (RA (by decide) hg ha) λn r hn=>?_;have:=hn.at_;have:=hn.size;refine R.weak (Aa5 f _ lo r hn.Bu.good hn.Bu.Cz (by have:=hn.Bu.le;omega) (one (by omega) hn.ord)) λl s hl=>?_;have:=hl.size;simp only [A_] at this ⊢;exact ⟨(hn.Bu.trans hl.Bu).weak (by omega),hl.ord,by simp only [A_];omega⟩
structure OE (f:Nat):Prop where
 exp:∀ least ts,0<=least->Good ts->Asc ts->R (Dz f least ts) (TE 1 ts)
 loop:∀ least n ts,0<=least->Good ts->Asc ts->D5 n->n.at_<=at0 ts->R (Fl f least n ts) λn' r=>C6 0 ts r/\n'.at_=n.at_/\D5 n'/\sz n'+4 * r.length<=sz n+4 * ts.length
 operand:∀ ts,Good ts->Asc ts->R (Fc f ts) (TE 1 ts)
 fields:∀ acc lo ts,Good ts->Asc ts->lo<=at0 ts->F0 lo acc->R (Fb f acc ts) (LE 1 lo acc ts)
 field:∀ ts,Good ts->Asc ts->R (F1 f ts) (TE 0 ts)
 Ec:∀ ts,Good ts->Asc ts->R (EO f ts) (TE 1 ts)
 DB:∀ at_ n ts,Good ts->Asc ts->D5 n->at_=n.at_->n.at_<=at0 ts->R (EN f at_ n ts) λn' r=>C6 0 ts r/\n'.at_=n.at_/\D5 n'/\sz n'+4 * r.length<=sz n+4 * ts.length
 CW:∀ lo ts,Good ts->Asc ts->lo<=at0 ts->R (EM f ts) (LE 1 lo [] ts)
 Gh:∀ acc lo ts,Good ts->Asc ts->lo<=at0 ts->F0 lo acc->R (Fk f acc ts) (LE 0 lo acc ts)
theorem Rm {k:Int} {t:Ah} {n:Int} {ts:List Tk} (hk:k≠20) (hg:Good ts) (ha:Asc ts) (h6:(hd ts).1≠6):TE 1 ts (.mk k t n (hd ts).2.2.2 []) ts.tail:=by
 have:=(hg.tail h6).2.1;exact ⟨((C6.refl hg ha).tail h6).weak (by omega),rfl,D5.mk trivial hk,by simp only [sz,A_];omega⟩
theorem rE:∀ f,OE f
 | 0=>by constructor <;> intros <;> (first | unfold Dz | unfold Fl | unfold Fc | unfold Fb | unfold F1 | unfold EO | unfold EN | unfold EM | unfold Fk) <;> exact R.none
 | f+1=>by
  have ih:=rE f;constructor;intro least ts hl hg ha;unfold Dz;refine R.bind (ih.operand ts hg ha) λn r hn=>?_;have:=hn.at_;have:=hn.size;have:=hn.Bu.le;refine R.weak (ih.loop least n r hl hn.Bu.good hn.Bu.Cz hn.ord (by omega)) λn' s ⟨h1,h2,h3,h4⟩=>?_;exact ⟨(hn.Bu.trans h1).weak (by omega),by omega,h3,by omega⟩;intro least n ts hl hg ha hn hat;unfold Fl;refine R.ite (λ_=>R.ok ⟨C6.refl hg ha,rfl,hn,Nat.le_refl _⟩) λhc=>?_;have hb:=Xm ts;have ht:=(C6.refl hg ha).tail (LZ (by omega));have:=ht.len;have:=ht.le;refine R.bind (ih.exp _ _ (by split <;> omega) ht.good ht.Cz) λm r hm=>?_;have:=hm.at_;have:=hm.size;have:=hm.Bu.le;refine R.weak (ih.loop least _ r hl hm.Bu.good hm.Bu.Cz (D5.mk ⟨⟨Int.le_refl _,hn⟩,⟨by omega,hm.ord⟩,Aj⟩ (by decide)) (show n.at_<=_ by omega)) λn' s ⟨h1,h2,h3,h4⟩=>?_;simp only [sz,A_] at h4;exact ⟨((ht.trans hm.Bu).trans h1).weak (by omega),h2,h3,by omega⟩;intro ts hg ha;unfold Fc;refine R.ite (λh=>R.ok (Rm (by decide) hg ha (by omega))) λ_=>?_;refine R.ite (λh=>R.ok (Rm (by decide) hg ha (by omega))) λ_=>?_;refine R.ite (λh=>R.ok (Rm (by decide) hg ha (AT h))) λ_=>?_;refine R.ite (λh=>R.ok (Rm (by decide) hg ha (AT h))) λ_=>?_;refine R.ite (λh=>R.ok (Rm (by decide) hg ha (AT h))) λ_=>?_;refine R.ite (λh=>?_) λ_=>?_;have h6:(hd ts).1≠6:=by
   simp only [Bool.or_eq_true] at h;rcases h with (h | h) | h <;> exact AT h
  have ht:=(C6.refl hg ha).tail h6;have:=ht.len;have:=ht.le;refine R.bind (ih.exp _ _ (by decide) ht.good ht.Cz) λm r hm=>R.ok ?_;have:=hm.at_;have:=hm.size;have:=hm.Bu.le;exact ⟨(ht.trans hm.Bu).weak (by omega),rfl,D5.mk (one (show at0 ts<=_ by omega) hm.ord) (by decide),by simp only [sz,A_];omega⟩;refine R.ite (λh=>?_) λ_=>ih.Ec ts hg ha;have ht:=(C6.refl hg ha).tail (AT h);have:=ht.len;have:=ht.le;refine R.bind (ih.fields [] (at0 ts) _ ht.good ht.Cz (by omega) Aj) λl r hl=>R.ok ?_;have h5:=hl.size;simp only [A_] at h5;exact ⟨(ht.trans hl.Bu).weak (by omega),rfl,D5.mk hl.ord (by decide),by simp only [sz];omega⟩;intro acc lo ts hg ha hlo hacc;unfold Fb;refine R.ite (λh=>?_) λ_=>?_;have ht:=(C6.refl hg ha).tail (AT h);have:=ht.len;exact R.ok ⟨ht.weak (by omega),hacc,by omega⟩;refine R.bind (ih.field ts hg ha) λx r hx=>?_;have:=hx.at_;have:=hx.size;have:=hx.Bu.le;have hacc':=hacc.snoc (x:=x) (by omega) hx.ord;refine R.ite (λh=>?_) λ_=>?_;have ht:=hx.Bu.tail (AT h);have:=ht.len;have:=ht.le;have:=(hx.Bu.good.tail (AT h)).2.1;refine R.weak (ih.fields _ lo _ ht.good ht.Cz (by omega) hacc') λl s hl=>?_;have h5:=hl.size;simp only [DY,A_] at h5;exact ⟨(ht.trans hl.Bu).weak (by omega),hl.ord,by omega⟩;refine R.ite (λh=>?_) λ_=>?_;have ht:=hx.Bu.tail (AT h);have:=ht.len;have:=ht.le;have:=(hx.Bu.good.tail (AT h)).2.1;refine R.weak (ih.fields _ lo _ ht.good ht.Cz (by omega) hacc') λl s hl=>?_;have h5:=hl.size;simp only [DY,A_] at h5;exact ⟨(ht.trans hl.Bu).weak (by omega),hl.ord,by omega⟩;refine R.bind (Io hx.Bu) λ_ s ⟨hs,hs2⟩=>R.ok ?_;exact ⟨hs.weak (by omega),hacc',by simp only [DY,A_];omega⟩;intro ts hg ha;unfold F1;refine R.ite (λh=>?_) λ_=>?_;have ht:=(C6.refl hg ha).tail (AT h);have:=ht.len;have:=ht.le;refine R.bind (ih.exp _ _ (by decide) ht.good ht.Cz) λk r hk=>?_;have:=hk.at_;have:=hk.size;have:=hk.Bu.le;refine R.bind (Io (ht.trans hk.Bu)) λ_ r2 ⟨h2,h2'⟩=>?_;refine R.bind (Io h2) λ_ r3 ⟨h3,h3'⟩=>?_;have:=h3.le;refine R.bind (ih.exp _ _ (by decide) h3.good h3.Cz) λv r4 hv=>R.ok ?_;have:=hv.at_;have:=hv.size;exact ⟨(h3.trans hv.Bu).weak (by omega),rfl,D5.mk ⟨⟨show at0 ts<=_ by omega,hk.ord⟩,⟨show at0 ts<=_ by omega,hv.ord⟩,Aj⟩ (by decide),by simp only [sz,A_];omega⟩;refine R.ite (λh=>?_) λ_=>?_;obtain ⟨h1,h2,_⟩:=h;have ht:=((C6.refl hg ha).tail (by omega)).tail (by omega);have:=ht.len;have:=ht.le;refine R.bind (ih.exp _ _ (by decide) ht.good ht.Cz) λv r hv=>R.ok ?_;have:=hv.at_;have:=hv.size;exact ⟨(ht.trans hv.Bu).weak (by omega),rfl,D5.mk ⟨⟨Int.le_refl _,D5.mk trivial (by decide)⟩,⟨show at0 ts<=_ by omega,hv.ord⟩,Aj⟩ (by decide),by simp only [sz,A_];omega⟩;refine R.bind (ih.exp _ _ (by decide) hg ha) λv r hv=>R.ok ?_;have:=hv.at_;have:=hv.size;exact ⟨hv.Bu,rfl,D5.mk (one (show at0 ts<=_ by omega) hv.ord) (by decide),by simp only [sz,A_];omega⟩;intro ts hg ha;unfold EO;refine R.ite (λh=>?_) λ_=>?_;have ht:=(C6.refl hg ha).tail (AT h);have:=ht.len;have:=ht.le;refine R.bind (ih.exp _ _ (by decide) ht.good ht.Cz) λe r he=>?_;have:=he.at_;have:=he.size;refine R.bind (Io (ht.trans he.Bu)) λ_ r2 ⟨h2,h2'⟩=>?_;have:=h2.le;refine R.weak (ih.DB _ _ r2 h2.good h2.Cz (D5.mk (one (show at0 ts<=_ by omega) he.ord) (by decide)) rfl (show at0 ts<=_ by omega)) λn' s ⟨h3,h4,h5,h6⟩=>?_;simp only [sz,A_] at h6;exact ⟨(h2.trans h3).weak (by omega),h4,h5,by omega⟩;refine R.bind (RA (by decide) hg ha) λn r hn=>?_;have:=hn.at_;have:=hn.size;have:=hn.Bu.le;refine R.weak (ih.DB _ _ r hn.Bu.good hn.Bu.Cz hn.ord hn.at_.symm (by omega)) λn' s ⟨h3,h4,h5,h6⟩=>?_;exact ⟨(hn.Bu.trans h3).weak (by omega),by omega,h5,by omega⟩;intro at_ n ts hg ha hn he hat;unfold EN;subst he;refine R.ite (λh=>?_) λ_=>?_;have ht:=(C6.refl hg ha).tail (AT h);have:=ht.len;have:=ht.le;refine R.bind (ih.exp _ _ (by decide) ht.good ht.Cz) λe r he=>?_;have:=he.at_;have:=he.size;refine R.bind (Io (ht.trans he.Bu)) λ_ r2 ⟨h2,h2'⟩=>?_;have:=h2.le;refine R.weak (ih.DB _ _ r2 h2.good h2.Cz (D5.mk ⟨⟨Int.le_refl _,hn⟩,⟨by omega,he.ord⟩,Aj⟩ (by decide)) rfl (show n.at_<=_ by omega)) λn' s ⟨h3,h4,h5,h6⟩=>?_;simp only [sz,A_] at h6;exact ⟨(h2.trans h3).weak (by omega),h4,h5,by omega⟩;refine R.ite (λh=>?_) λ_=>?_;have ht:=(C6.refl hg ha).tail (AT h);have:=ht.len;have:=ht.le;refine R.bind (RA (by decide) ht.good ht.Cz) λe r he=>?_;have:=he.at_;have:=he.size;have:=he.Bu.le;refine R.weak (ih.DB _ _ r he.Bu.good he.Bu.Cz (D5.mk ⟨⟨Int.le_refl _,hn⟩,⟨by omega,he.ord⟩,Aj⟩ (by decide)) rfl (show n.at_<=_ by omega)) λn' s ⟨h3,h4,h5,h6⟩=>?_;simp only [sz,A_] at h6;exact ⟨((ht.trans he.Bu).trans h3).weak (by omega),h4,h5,by omega⟩;refine R.ite (λh=>?_) λ_=>R.ok ⟨C6.refl hg ha,rfl,hn,Nat.le_refl _⟩;have ht:=(C6.refl hg ha).tail (AT h);have:=ht.len;have:=ht.le;refine R.bind (Q1:=LE 0 n.at_ [] ts.tail) ?_ λl r hl=>?_;refine R.ite (λ_=>R.ok ⟨C6.refl ht.good ht.Cz,Aj,Nat.le_refl _⟩) λ_=>?_;exact R.weak (ih.CW n.at_ _ ht.good ht.Cz (by omega)) λl r hl=>⟨hl.Bu.weak (by omega),hl.ord,hl.size⟩;refine R.bind (Io (ht.trans hl.Bu)) λ_ r2 ⟨h2,h2'⟩=>?_;have:=h2.le;have h7:=hl.size;simp only [A_] at h7;refine R.weak (ih.DB _ _ r2 h2.good h2.Cz (D5.mk ⟨⟨Int.le_refl _,hn⟩,hl.ord⟩ (by decide)) rfl (show n.at_<=_ by omega)) λn' s ⟨h3,h4,h5,h6⟩=>?_;simp only [sz,A_] at h6;exact ⟨(h2.trans h3).weak (by omega),h4,h5,by omega⟩;intro lo ts hg ha hlo;unfold EM;refine R.bind (ih.exp _ _ (by decide) hg ha) λe r he=>?_;have:=he.at_;have:=he.size;have:=he.Bu.le;refine R.weak (ih.Gh _ lo r he.Bu.good he.Bu.Cz (by omega) (one (by omega) he.ord)) λl s hl=>?_;have h7:=hl.size;simp only [A_] at h7;exact ⟨(he.Bu.trans hl.Bu).weak (by omega),hl.ord,by simp only [A_];omega⟩;intro acc lo ts hg ha hlo hacc;unfold Fk;refine R.ite (λh=>?_) λ_=>R.ok ⟨C6.refl hg ha,hacc,Nat.le_refl _⟩;have ht:=(C6.refl hg ha).tail (AT h);have:=ht.len;have:=ht.le;refine R.bind (ih.exp _ _ (by decide) ht.good ht.Cz) λe r he=>?_;have:=he.at_;have:=he.size;have:=he.Bu.le;refine R.weak (ih.Gh _ lo r he.Bu.good he.Bu.Cz (by omega) (hacc.snoc (by omega) he.ord)) λl s hl=>?_;have h7:=hl.size;simp only [DY,A_] at h7;exact ⟨((ht.trans he.Bu).trans hl.Bu).weak (by omega),hl.ord,by omega⟩
structure TB (ts:List Tk) (n:Tree) (r:List Tk):Prop where
 Bu:C6 0 ts r
 at_:n.at_=at0 ts
 ord:D5 n
 size:sz n+4 * r.length<=4 * ts.length+1
 kind:n.kind=20
structure OS (f:Nat):Prop where
 block:∀ c ts,Good ts->Asc ts->R (EA f c ts) (TB ts)
 Ek:∀ c at_ acc ts,Good ts->Asc ts->at_<=at0 ts->F0 at_ acc->(acc.Pairwise λx y=>x.at_ < y.at_)->(∀ x ∈ acc,x.at_ < at0 ts)->R (EL f c at_ acc ts) λn r=>C6 0 ts r/\n.at_=at_/\D5 n/\sz n+4 * r.length<=A_ acc+4 * ts.length+1/\n.kind=20
 function:∀ ts,(hd ts).1≠6->Good ts->Asc ts->R (F3 f ts) (TE 0 ts)
 body:∀ ts,Good ts->Asc ts->R (EY f ts) λb r=>C6 2 ts r/\at0 ts<=b.at_/\D5 b/\sz b+4 * r.length+7<=4 * ts.length
 stat:∀ ts,Good ts->Asc ts->R (F5 f ts) (TE 0 ts)
 branches:∀ acc lo ts,Good ts->Asc ts->lo<=at0 ts->F0 lo acc->R (Fj f acc ts) (LE 1 lo acc ts)
 for_:∀ at_ ts,Good ts->Asc ts->at_<=at0 ts->R (F2 f at_ ts) λn r=>C6 1 ts r/\n.at_=at_/\D5 n/\sz n+4 * r.length<=4 * ts.length
 plain:∀ ts,Good ts->Asc ts->R (F4 f ts) (TE 0 ts)
 targets:∀ acc lo e ts,Good ts->Asc ts->lo<=at0 ts->F0 lo acc->lo<=e.at_->D5 e->R (Fm f acc e ts) λl r=>C6 0 ts r/\F0 lo l/\A_ l+4 * r.length<=A_ acc+sz e+4 * ts.length
theorem Aq7 {acc:List Tree} {x:Tree} (h:acc.Pairwise λx y=>x.at_ < y.at_) (h2:∀ y ∈ acc,y.at_ < x.at_):(acc++[x]).Pairwise λx y=>x.at_ < y.at_:=by
 refine List.pairwise_append.2 ⟨h,List.pairwise_singleton ..,λy hy z hz=>?_⟩;obtain rfl:=EZ.1 hz;exact h2 y hy
theorem rS:∀ f,OS f
 | 0=>by constructor <;> intros <;> (first | unfold EA | unfold EL | unfold F3 | unfold EY | unfold F5 | unfold Fj | unfold F2 | unfold F4 | unfold Fm) <;> exact R.none
 | f+1=>by
  have ih:=rS f;have ie:=rE f;constructor
  ·intro c ts hg ha;unfold EA
   refine R.weak (ih.Ek c _ [] ts hg ha (Int.le_refl _) trivial List.Pairwise.nil (λ_ h=>by cases h)) λn r ⟨h1,h2,h3,h4,h5⟩=>?_;simp only [A_] at h4;exact ⟨h1,h2,h3,by omega,h5⟩
  ·intro c at_ acc ts hg ha hat hacc hp hlt;unfold EL
   have next:∀ x r,TE 0 ts x r->R (EL f c at_ (acc++[x]) r) λn r=>C6 0 ts r/\n.at_=at_/\D5 n/\sz n+4 * r.length<=A_ acc+4 * ts.length+1/\n.kind=20:=λx r hx=>by
    have:=hx.at_;have:=hx.size;have:=hx.Bu.len;have h9:=hx.Bu.lt (by omega);refine R.weak (ih.Ek c at_ (acc++[x]) r hx.Bu.good hx.Bu.Cz (by omega) (hacc.snoc (by omega) hx.ord) (Aq7 hp λy hy=>by have:=hlt y hy;omega) λy hy=>?_) λn s ⟨h1,h2,h3,h4,h5⟩=>?_
    ·rcases EH.1 hy with hy | hy
     ·have:=hlt y hy;omega
     ·obtain rfl:=EZ.1 hy;omega
    ·simp only [DY,A_] at h4
     exact ⟨(hx.Bu.trans h1).weak (by omega),h2,h3,by omega,h5⟩
   refine R.ite (λh=>?_) λ_=>?_
   ·have ht:=(C6.refl hg ha).tail (AT h)
    have:=ht.len;have:=ht.le;refine R.weak (ih.Ek c at_ acc _ ht.good ht.Cz (by omega) hacc hp λx hx=>by have:=hlt x hx;omega) λn s ⟨h1,h2,h3,h4,h5⟩=>?_;exact ⟨(ht.trans h1).weak (by omega),h2,h3,by omega,h5⟩
   refine R.ite (λh=>?_) λ_=>?_
   ·have ht:=(C6.refl hg ha).tail (AT h)
    have:=ht.len;have:=ht.le;refine R.bind (Q1:=LE 0 (at0 ts) [] ts.tail) ?_ λl r hl=>?_
    ·refine R.ite (λ_=>R.ok ⟨C6.refl ht.good ht.Cz,Aj,Nat.le_refl _⟩) λ_=>?_
     exact R.weak (ie.CW (at0 ts) _ ht.good ht.Cz (by omega)) λl r hl=>⟨hl.Bu.weak (by omega),hl.ord,hl.size⟩
    have h7:=hl.size;simp only [A_] at h7;have hr:C6 0 ts (if AB Hg r=true then r.tail else r)/\(if AB Hg r=true then r.tail else r).length<=r.length:=by
     split
     ·rename_i hc
      have:=(hl.Bu.good.tail (AT hc)).2.1;exact ⟨((ht.trans hl.Bu).tail (AT hc)).weak (by omega),by omega⟩
     ·exact ⟨(ht.trans hl.Bu).weak (by omega),Nat.le_refl _⟩
    have:=hr.2;refine R.ok ⟨hr.1,rfl,⟨hacc.snoc (show at_<=at0 ts by omega) (D5.mk hl.ord (by decide)),λ_=>Aq7 hp λy hy=>hlt y hy⟩,?_,rfl⟩;simp only [sz,A_,DY];omega
   refine R.ite (λh=>?_) λ_=>?_
   ·simp only [Bool.and_eq_true] at h
    exact R.bind (ih.function ts (AT h.2) hg ha) next
   refine R.ite (λh=>?_) λ_=>R.bind (ih.stat ts hg ha) next;refine R.ok ⟨C6.refl hg ha,rfl,⟨hacc,λ_=>hp⟩,?_,rfl⟩;simp only [sz];omega
  ·intro ts h6 hg ha;unfold F3
   have ht:=(C6.refl hg ha).tail h6;have:=ht.len;have:=ht.le;refine R.bind (RA (by decide) ht.good ht.Cz) λnm r hn=>?_;have:=hn.size;have hnp:1<=sz nm:=by cases nm;simp only [sz];omega
   refine R.bind (Io (ht.trans hn.Bu)) λ_ r2 ⟨h2,h2'⟩=>?_;have:=h2.le;refine R.bind (Q1:=LE 0 (at0 ts) [] r2) ?_ λps r3 hl=>?_
   ·refine R.ite (λ_=>R.ok ⟨C6.refl h2.good h2.Cz,Aj,Nat.le_refl _⟩) λ_=>?_
    exact R.weak (Arc f h2.good h2.Cz (by omega)) λl r hl=>⟨hl.Bu.weak (by omega),hl.ord,hl.size⟩
   refine R.bind (Io (h2.trans hl.Bu)) λ_ r4 ⟨h4,h4'⟩=>?_;have h7:=hl.size;simp only [A_] at h7;have:=h4.le;refine R.bind (ih.block false r4 h4.good h4.Cz) λb r5 hb=>?_;have:=hb.at_;have:=hb.size;refine R.bind (Io (h4.trans hb.Bu)) λ_ r6 ⟨h8,h8'⟩=>R.ok ?_;refine ⟨h8.weak (by omega),rfl,D5.mk (hl.ord.snoc (show at0 ts<=_ by omega) hb.ord) (by decide),?_⟩;simp only [sz,A_,DY];omega
  ·intro ts hg ha;unfold EY
   refine R.bind (Io (C6.refl hg ha)) λ_ r ⟨h1,h1'⟩=>?_;have:=h1.le;refine R.bind (ih.block false r h1.good h1.Cz) λb r2 hb=>?_;have:=hb.at_;have:=hb.size;refine R.bind (Io (h1.trans hb.Bu)) λ_ r3 ⟨h3,h3'⟩=>R.ok ?_;exact ⟨h3.weak (by omega),by omega,hb.ord,by omega⟩
  ·intro ts hg ha;unfold F5
   refine R.ite (λh=>?_) λ_=>?_
   ·refine R.bind (ih.body ts hg ha) λb r ⟨h1,h2,h3,h4⟩=>R.ok ?_
    exact ⟨h1.weak (by omega),rfl,D5.mk (one (show at0 ts<=_ by omega) h3) (by decide),by simp only [sz,A_];omega⟩
   refine R.ite (λh=>?_) λ_=>?_
   ·have ht:=(C6.refl hg ha).tail (AT h)
    have:=ht.len;have:=ht.le;refine R.bind (ie.exp _ _ (by decide) ht.good ht.Cz) λe r he=>?_;have:=he.at_;have:=he.size;have:=he.Bu.le;refine R.bind (ih.body r he.Bu.good he.Bu.Cz) λb r ⟨h1,h2,h3,h4⟩=>R.ok ?_;exact ⟨((ht.trans he.Bu).trans h1).weak (by omega),rfl,D5.mk ⟨⟨show at0 ts<=_ by omega,he.ord⟩,⟨show at0 ts<=_ by omega,h3⟩,Aj⟩ (by decide),by simp only [sz,A_];omega⟩
   refine R.ite (λh=>?_) λ_=>?_
   ·have ht:=(C6.refl hg ha).tail (AT h)
    have:=ht.len;have:=ht.le;refine R.bind (ih.branches [] (at0 ts) _ ht.good ht.Cz (by omega) Aj) λl r hl=>R.ok ?_;have h7:=hl.size;simp only [A_] at h7;exact ⟨(ht.trans hl.Bu).weak (by omega),rfl,D5.mk hl.ord (by decide),by simp only [sz];omega⟩
   refine R.ite (λh=>?_) λ_=>?_
   ·have ht:=(C6.refl hg ha).tail (AT h)
    have:=ht.len;have:=ht.le;refine R.weak (ih.for_ (at0 ts) _ ht.good ht.Cz (by omega)) λn r ⟨h1,h2,h3,h4⟩=>?_;exact ⟨(ht.trans h1).weak (by omega),h2,h3,by omega⟩
   refine R.ite (λh=>?_) λ_=>?_
   ·have ht:=(C6.refl hg ha).tail (AT h)
    have:=ht.len;have:=ht.le;refine R.bind (Arc f ht.good ht.Cz (lo:=at0 ts) (by omega)) λl r hl=>?_;have:=hl.Bu.le;have h7:=hl.size;simp only [A_] at h7;refine R.bind (Q1:=LE 0 (at0 ts) [] r) ?_ λes r2 he=>R.ok ?_
    ·refine R.ite (λhc=>?_) λ_=>R.ok ⟨C6.refl hl.Bu.good hl.Bu.Cz,Aj,Nat.le_refl _⟩
     have ht2:=(C6.refl hl.Bu.good hl.Bu.Cz).tail (AT hc);have:=ht2.len;have:=ht2.le;exact R.weak (ie.CW (at0 ts) _ ht2.good ht2.Cz (by omega)) λl r hl=>⟨(ht2.trans hl.Bu).weak (by omega),hl.ord,by have:=hl.size;omega⟩
    have h8:=he.size;simp only [A_] at h8;exact ⟨((ht.trans hl.Bu).trans he.Bu).weak (by omega),rfl,D5.mk (hl.ord.app he.ord) (by decide),by simp only [sz,DY];omega⟩
   refine R.ite (λh=>?_) λ_=>ih.plain ts hg ha;have:=Rm (k:=29) (t:=noB) (n:=0) (by decide) hg ha (AT h);exact R.ok ⟨this.Bu,this.at_,this.ord,by have:=this.size;omega⟩
  ·intro acc lo ts hg ha hlo hacc;unfold Fj
   refine R.bind (ie.exp _ _ (by decide) hg ha) λe r he=>?_;have:=he.at_;have:=he.size;have:=he.Bu.le;refine R.bind (Io he.Bu) λ_ r2 ⟨h2,h2'⟩=>?_;have:=h2.le;refine R.bind (ih.block false r2 h2.good h2.Cz) λb r3 hb=>?_;have:=hb.at_;have:=hb.size;have:=hb.Bu.le;have h3:=h2.trans hb.Bu;have hacc':=(hacc.snoc (x:=e) (by omega) he.ord).snoc (x:=b) (by omega) hb.ord;refine R.ite (λh=>?_) λ_=>?_
   ·have ht:=h3.tail (AT h)
    have:=ht.le;have:=(h3.good.tail (AT h)).2.1;refine R.weak (ih.branches _ lo _ ht.good ht.Cz (by omega) hacc') λl s hl=>?_;have h7:=hl.size;simp only [DY,A_] at h7;exact ⟨(ht.trans hl.Bu).weak (by omega),hl.ord,by omega⟩
   refine R.ite (λh=>?_) λ_=>?_
   ·have ht:=h3.tail (AT h)
    have:=ht.le;have:=(h3.good.tail (AT h)).2.1;refine R.bind (ih.block false _ ht.good ht.Cz) λc r4 hc=>?_;have:=hc.at_;have:=hc.size;refine R.bind (Io (ht.trans hc.Bu)) λ_ r5 ⟨h5,h5'⟩=>R.ok ?_;exact ⟨h5.weak (by omega),hacc'.snoc (by omega) hc.ord,by simp only [DY,A_];omega⟩
   ·refine R.bind (Io h3) λ_ r5 ⟨h5,h5'⟩=>R.ok ?_
    exact ⟨h5.weak (by omega),hacc',by simp only [DY,A_];omega⟩
  ·intro at_ ts hg ha hat;unfold F2
   refine R.bind (RA (by decide) hg ha) λn r hn=>?_;have:=hn.at_;have:=hn.size;have:=hn.Bu.le;refine R.ite (λh=>?_) λ_=>?_
   ·have ht:=hn.Bu.tail (AT h)
    have:=ht.le;have:=(hn.Bu.good.tail (AT h)).2.1;refine R.bind (ie.exp _ _ (by decide) ht.good ht.Cz) λa r2 h2=>?_;have:=h2.at_;have:=h2.size;refine R.bind (Io (ht.trans h2.Bu)) λ_ r3 ⟨h3,h3'⟩=>?_;have:=h3.le;refine R.bind (ie.exp _ _ (by decide) h3.good h3.Cz) λb r4 h4=>?_;have:=h4.at_;have:=h4.size;have:=h4.Bu.le;refine R.bind (Q1:=LE 0 at_ [] r4) ?_ λcs r5 h5=>?_
    ·refine R.ite (λhc=>?_) λ_=>R.ok ⟨C6.refl h4.Bu.good h4.Bu.Cz,Aj,Nat.le_refl _⟩
     have ht2:=(C6.refl h4.Bu.good h4.Bu.Cz).tail (AT hc);have:=ht2.len;have:=ht2.le;refine R.bind (ie.exp _ _ (by decide) ht2.good ht2.Cz) λc s hc=>R.ok ?_;have:=hc.at_;have:=hc.size;exact ⟨(ht2.trans hc.Bu).weak (by omega),one (by omega) hc.ord,by simp only [A_];omega⟩
    have h7:=h5.size;simp only [A_] at h7;have:=h5.Bu.le;refine R.bind (ih.body r5 h5.Bu.good h5.Bu.Cz) λbd r6 ⟨h8,h9,h10,h11⟩=>R.ok ?_;refine ⟨(((h3.trans h4.Bu).trans h5.Bu).trans h8).weak (by omega),rfl,D5.mk ?_ (by decide),by simp only [sz,DY,A_];omega⟩;exact ((((one (x:=n) (by omega) hn.ord).snoc (x:=a) (by omega) h2.ord).snoc (x:=b) (by omega) h4.ord).app h5.ord).snoc (x:=bd) (by omega) h10
   refine R.bind (Aa5 f [n] at_ r hn.Bu.good hn.Bu.Cz (by omega) (one (by omega) hn.ord)) λl r2 hl=>?_;have h7:=hl.size;simp only [A_] at h7;refine R.bind (Io (hn.Bu.trans hl.Bu)) λ_ r3 ⟨h3,h3'⟩=>?_;have:=h3.le;refine R.bind (ie.CW at_ r3 h3.good h3.Cz (by omega)) λes r4 h4=>?_;have h8:=h4.size;simp only [A_] at h8;have:=h4.Bu.le;refine R.bind (ih.body r4 h4.Bu.good h4.Bu.Cz) λbd r6 ⟨h9,h10,h11,h12⟩=>R.ok ?_;exact ⟨((h3.trans h4.Bu).trans h9).weak (by omega),rfl,D5.mk ((hl.ord.app h4.ord).snoc (x:=bd) (by omega) h11) (by decide),by simp only [sz,DY,A_];omega⟩
  ·intro ts hg ha;unfold F4
   refine R.bind (ie.Ec ts hg ha) λe r he=>?_;have:=he.at_;have:=he.size;have:=he.Bu.le;refine R.ite (λh=>?_) λ_=>?_
   ·refine R.bind (ih.targets [] (at0 ts) e r he.Bu.good he.Bu.Cz (by omega) trivial (by omega) he.ord) λl r2 ⟨h1,h2,h3⟩=>?_
    simp only [A_] at h3;refine R.bind (Io (he.Bu.trans h1)) λ_ r3 ⟨h4,h4'⟩=>?_;have:=h4.le;refine R.bind (ie.CW (at0 ts) r3 h4.good h4.Cz (by omega)) λes r4 h5=>R.ok ?_;have h6:=h5.size;simp only [A_] at h6;exact ⟨(h4.trans h5.Bu).weak (by omega),he.at_,D5.mk ((h2.app h5.ord).weak (by omega)) (by decide),by simp only [sz,DY];omega⟩
   refine R.ite (λh=>R.ok ?_) λ_=>R.bad;exact ⟨he.Bu,he.at_,D5.mk (one (Int.le_refl _) he.ord) (by decide),by simp only [sz,A_];omega⟩
  ·intro acc lo e ts hg ha hlo hacc he0 he;unfold Fm
   refine R.ite (λh=>?_) λ_=>R.bad;have hacc':=hacc.snoc he0 he;refine R.ite (λh=>?_) λ_=>R.ok ⟨C6.refl hg ha,hacc',by simp only [DY,A_];omega⟩;have ht:=(C6.refl hg ha).tail (AT h);have:=ht.len;have:=ht.le;refine R.bind (ie.Ec _ ht.good ht.Cz) λe' r hx=>?_;have:=hx.at_;have:=hx.size;have:=hx.Bu.le;refine R.weak (ih.targets _ lo e' r hx.Bu.good hx.Bu.Cz (by omega) hacc' (by omega) hx.ord) λl s ⟨h1,h2,h3⟩=>?_;simp only [DY,A_] at h3;exact ⟨((ht.trans hx.Bu).trans h1).weak (by omega),h2,by omega⟩
theorem Bu4 {c:Bool} {ts r:List Tk} {b:Tree} (hg:Good ts) (ha:Asc ts) (h:FB c ts=.ok b r):TB ts b r :=
 (rS _).block c ts hg ha b r ((PH c hg (by unfold fu;omega:_<=fu ts)).trans (congrArg some h))
end
section
namespace Lx
theorem Abj (f:Nat) (l:Bs) (at_:Nat) (acc:List Tok):Hs (f+1) l at_ acc =
  match D6 (l.drop (B5 CE l)) with
  | .done=>.inr (acc++[⟨6,[],0,at_+B5 CE l⟩])
  | .skip n=>Hs f ((l.drop (B5 CE l)).drop n) (at_+B5 CE l+n) acc
  | .tok kind text n len=>Hs f ((l.drop (B5 CE l)).drop len) (at_+B5 CE l+len) (acc++[⟨kind,text,n,at_+B5 CE l⟩])
  | .bad c r=>.inl (c,(at_+B5 CE l+r:Nat)):=rfl
theorem OK (b:UInt8) (t:Bs) (h:b.toNat < 128):B1 (b :: t)=(b.toNat,1):=by
 unfold B1;simp only [List.getD_cons_zero];rw [if_pos h]
end Lx
namespace Lx
theorem LN (l:Bs):(∀ n,D6 l=.skip n->1<=n/\n<=l.length)/\(∀ k t n len,D6 l=.tok k t n len->1<=len/\len<=l.length) :=
 ⟨λn h=>Ats l n h,λk t n len h=>Atu l k t n len h⟩
theorem W3:∀ (f g:Nat) (l:Bs) (at_:Nat) (acc:List Tok),l.length < f->l.length < g->Hs f l at_ acc=Hs g l at_ acc
 | 0,_,l,_,_,h,_=>by omega
 | _,0,l,_,_,_,h=>by omega
 | f+1,g+1,l,at_,acc,h,h'=>by
  rw [Abj,Abj];have hd:(l.drop (B5 CE l)).length<=l.length:=by rw [BU];omega
  cases hst:D6 (l.drop (B5 CE l)) with
  | done=>rfl
  | bad c r=>rfl
  | skip n =>
   have:=(LN _).1 n hst;exact W3 f g _ _ _ (by rw [BU];omega) (by rw [BU];omega)
  | tok k t n len =>
   have:=(LN _).2 k t n len hst;exact W3 f g _ _ _ (by rw [BU];omega) (by rw [BU];omega)
def Jg (l:Bs) (at_:Nat) (acc:List Tok):(Int×Int) ⊕ List Tok:=Hs (l.length+1) l at_ acc
theorem RH (l:Bs) (at_:Nat) (acc:List Tok):Jg l at_ acc =
  match D6 (l.drop (B5 CE l)) with
  | .done=>.inr (acc++[⟨6,[],0,at_+B5 CE l⟩])
  | .skip n=>Jg ((l.drop (B5 CE l)).drop n) (at_+B5 CE l+n) acc
  | .tok kind text n len=>Jg ((l.drop (B5 CE l)).drop len) (at_+B5 CE l+len) (acc++[⟨kind,text,n,at_+B5 CE l⟩])
  | .bad c r=>.inl (c,(at_+B5 CE l+r:Nat)):=by
 unfold Jg;rw [Abj];have hd:(l.drop (B5 CE l)).length<=l.length:=by rw [BU];omega
 cases hst:D6 (l.drop (B5 CE l)) with
 | done=>rfl
 | bad c r=>rfl
 | skip n =>
  have:=(LN _).1 n hst;exact W3 _ _ _ _ _ (by rw [BU];omega) (by omega)
 | tok k t n len =>
  have:=(LN _).2 k t n len hst;exact W3 _ _ _ _ _ (by rw [BU];omega) (by omega)
def uF (t:Bs):Qp :=
 if (BZ 8 t 0 0).2=0\/Utf8.valid (BZ 8 t 0 0).1=false\/(t.drop (BZ 8 t 0 0).2).head?≠some 125 then .FL
 else .ok (bs (Utf8.encode (BZ 8 t 0 0).1)) (4+(BZ 8 t 0 0).2)
theorem A2l (c:UInt8) (t:Bs):IR (c :: t) =
  if FR c≠0 then .ok [FR c] 2
  else if c=120 then
   if (BZ 2 t 0 0).2 < 2 then .FL else .ok [UInt8.ofNat (BZ 2 t 0 0).1] 4
  else if c=117/\t.head? = some 123 then uF t.tail
  else if (DI 3 (c :: t) 0 0).2=0\/(DI 3 (c :: t) 0 0).1 > 255 then .FL
   else .ok [UInt8.ofNat (DI 3 (c :: t) 0 0).1] (1+(DI 3 (c :: t) 0 0).2):=rfl
theorem A2n (t:Bs):IR (117 :: 123 :: t)=uF t:=by
 rw [A2l,if_neg (by decide),if_neg (by decide),if_pos ⟨rfl,rfl⟩];rfl
end Lx
end
section
open Go Go.RowKit Lx
def O8:Nat->Nat->List Tok->Prop
 | _,_,[]=>False
 | lo,hi,x :: t=>lo<=x.at_/\x.at_<=hi/\((x.kind=6/\t=[])\/(x.kind≠6/\O8 (x.at_+1) hi t))
theorem O8.weak:∀ {t:List Tok} {lo lo' hi:Nat},lo'<=lo->O8 lo hi t->O8 lo' hi t
 | [],_,_,_,_,h=>h
 | _ :: _,_,_,_,hl,⟨h1,h2,h3⟩=>⟨Nat.le_trans hl h1,h2,h3⟩
theorem Bt4 (l:Bs) (k:Int) (t:Bs) (n:Int) (len:Nat) (h:D6 l=.tok k t n len):k≠6:=by
 unfold D6 at h;dsimp only at h
 repeat' split at h
 all_goals first | (cases h;done) | (simp only [Step.tok.injEq] at h;obtain ⟨rfl,_⟩:=h;(repeat' split) <;> decide)
theorem Abm:∀ (f:Nat) (l:Bs) (at_:Nat) (acc t:List Tok),l.length < f->Hs f l at_ acc=.inr t->∃ t',t=acc++t'/\O8 at_ (at_+l.length) t'
 | 0,l,_,_,_,hf,_=>absurd hf (Nat.not_lt_zero _)
 | f+1,l,at_,acc,t,hf,h=>by
  unfold Hs at h;dsimp only at h;have hk:=Kv CE l;have hdl:(l.drop (B5 CE l)).length=l.length - B5 CE l:=BU;cases hst:D6 (l.drop (B5 CE l)) with
  | done =>
   rw [hst] at h;cases h;exact ⟨_,rfl,by show at_<=at_+_;omega,by show at_+_<=_;omega,.inl ⟨rfl,rfl⟩⟩
  | bad c r=>rw [hst] at h;cases h
  | skip q =>
   have hq:=(LN _).1 q hst;rw [hst] at h;dsimp only at h;have hlen:((l.drop (B5 CE l)).drop q).length=l.length - B5 CE l - q:=by rw [BU,hdl]
   obtain ⟨t',e,hR⟩:=Abm f _ _ _ _ (by omega) h;refine ⟨t',e,?_⟩;rw [show at_+l.length=at_+B5 CE l+q+((l.drop (B5 CE l)).drop q).length by omega];exact hR.weak (by omega)
  | tok kd tx x len =>
   have hq:=(LN _).2 _ _ _ _ hst;rw [hst] at h;dsimp only at h;have hlen:((l.drop (B5 CE l)).drop len).length=l.length - B5 CE l - len:=by rw [BU,hdl]
   obtain ⟨t',e,hR⟩:=Abm f _ _ _ _ (by omega) h;refine ⟨⟨kd,tx,x,at_+B5 CE l⟩ :: t',by rw [e,C7];rfl,by show at_<=at_+_;omega,by show at_+_<=_;omega,.inr ⟨Bt4 _ _ _ _ _ hst,?_⟩⟩;rw [show at_+l.length=at_+B5 CE l+len+((l.drop (B5 CE l)).drop len).length by omega];exact hR.weak (by show at_+_+1<=_;omega)
theorem O8.good:∀ {t:List Tok} {lo hi:Nat},O8 lo hi t->Good (t.map Gv)/\Asc (t.map Gv)/\(∀ x ∈ t.map Gv,(lo:Int)<=x.2.2.2/\x.2.2.2<=hi)/\lo+t.length<=hi+1
 | [],_,_,h=>h.elim
 | x :: t,lo,hi,⟨h1,h2,h3⟩=>by
  rcases h3 with ⟨h6,rfl⟩ | ⟨h6,hR⟩;refine ⟨h6,List.pairwise_singleton ..,λy hy=>?_,by simp;omega⟩;obtain rfl:=EZ.1 hy;exact ⟨by show (lo:Int)<=x.at_;omega,by show (x.at_:Int)<=hi;omega⟩;obtain ⟨g1,g2,g3,g4⟩:=hR.good;refine ⟨?_,List.pairwise_cons.2 ⟨λy hy=>?_,g2⟩,λy hy=>?_,by simp only [AW];omega⟩;cases t with
  | nil=>exact hR.elim
  | cons u t=>exact ⟨h6,g1⟩
  have:=(g3 y hy).1;show (x.at_:Int) < _;omega;rcases List.mem_cons.1 hy with rfl | hy;exact ⟨by show (lo:Int)<=x.at_;omega,by show (x.at_:Int)<=hi;omega⟩;have:=g3 y hy;exact ⟨by omega,this.2⟩
structure Afc (n:Nat) (ts:List Tk):Prop where
 good:Good ts
 Cz:Asc ts
 at_:∀ x ∈ ts,0<=x.2.2.2/\x.2.2.2<=n
 len:ts.length<=20001
theorem W4 (s:Ah) (t:List Tok) (h:Gu (bs s)=.inr t):Afc s.size (t.map Gv):=by
 unfold Gu at h;split at h;cases h;rename_i hs;have hl:(bs s).length=s.size:=BY s;obtain ⟨t',e,hR⟩:=Abm _ _ _ _ _ (Nat.lt_succ_self _) h;rw [List.nil_append] at e;subst e;obtain ⟨g1,g2,g3,g4⟩:=hR.good;refine ⟨g1,g2,λx hx=>?_,by rw [List.length_map];omega⟩;have:=g3 x hx;omega
end
section
open Go Go.RowKit
structure Cx (n:Int) (ts:List Tk):Prop where
 good:Good ts
 Cz:Asc ts
 at_:∀ x ∈ ts,0<=x.2.2.2/\x.2.2.2<=n
theorem Cx.suf {n:Int} {ts r:List Tk} (h:Cx n ts) (hg:Good r) (hs:r <:+ ts):Cx n r:=⟨hg,List.Pairwise.sublist hs.sublist h.Cz,λx hx=>h.at_ x (hs.subset hx)⟩
theorem Cx.tail {n:Int} {ts:List Tk} (h:Cx n ts) (h6:(hd ts).1≠6):Cx n ts.tail:=h.suf (h.good.tail h6).1 (h.good.tail h6).2.2
theorem Cx.hd {n:Int} {ts:List Tk} (h:Cx n ts):0<=(hd ts).2.2.2/\(hd ts).2.2.2<=n:=by
 cases ts with
 | nil=>exact h.good.elim
 | cons t ts=>exact h.at_ t (DN ..)
def BB {α:Type} (n:Int) (x:Option (PV α)):Prop:=∀ i,x=some (.bad i)->0<=i/\i<=n
section
variable {α β:Type} {n:Int} {m:Nat} {ts:List Tk} {x y:Option (PV α)} {f:α->List Tk->Option (PV β)}
theorem BB.bind (hC:Cx n ts) (hs:Step m ts x) (h1:BB n x) (h2:∀ a r,x=some (.ok a r)->Cx n r->BB n (f a r)):BB n (PV.bind x f):=λi h=>by
 rcases bind_some h with ⟨j,hx,he⟩ | ⟨a,r,hx,hf⟩;cases he;exact h1 _ hx;obtain ⟨g1,_,g3⟩:=hs hC.good _ hx;exact h2 a r hx (hC.suf g1 g3) i hf
theorem BB.ok {a:α} {r:List Tk}:BB n (some (.ok a r)):=λ_ h=>by cases h
theorem BB.bad {i:Int} (h:0<=i/\i<=n):BB n (some (.bad i):Option (PV α)):=λ_ h'=>by cases h';exact h
end
variable {n:Int}
structure GvE (n:Int) (f:Nat):Prop where
 exp:∀ least ts,0<=least->Cx n ts->BB n (Dz f least ts)
 loop:∀ least t ts,0<=least->Cx n ts->BB n (Fl f least t ts)
 operand:∀ ts,Cx n ts->BB n (Fc f ts)
 fields:∀ acc ts,Cx n ts->BB n (Fb f acc ts)
 field:∀ ts,Cx n ts->BB n (F1 f ts)
 Ec:∀ ts,Cx n ts->BB n (EO f ts)
 DB:∀ at_ t ts,Cx n ts->BB n (EN f at_ t ts)
 CW:∀ ts,Cx n ts->BB n (EM f ts)
 Gh:∀ acc ts,Cx n ts->BB n (Fk f acc ts)
structure GvS (n:Int) (f:Nat):Prop where
 block:∀ c ts,Cx n ts->BB n (EA f c ts)
 Ek:∀ c at_ acc ts,Cx n ts->BB n (EL f c at_ acc ts)
 function:∀ ts,(hd ts).1≠6->Cx n ts->BB n (F3 f ts)
 body:∀ ts,Cx n ts->BB n (EY f ts)
 stat:∀ ts,Cx n ts->BB n (F5 f ts)
 branches:∀ acc ts,Cx n ts->BB n (Fj f acc ts)
 for_:∀ at_ ts,Cx n ts->BB n (F2 f at_ ts)
 plain:∀ ts,Cx n ts->BB n (F4 f ts)
 targets:∀ acc e ts,Cx n ts->0<=e.at_/\e.at_<=n->BB n (Fm f acc e ts)
end
section
namespace Lx
def L_ (b:UInt8):Bool:=b == 32 || b == 9 || b == 10 || b == 13
theorem Aze {b:UInt8} (h:L_ b=true):b.toNat < 128/\CE b.toNat=true:=by
 simp only [L_,Bool.or_eq_true,beq_iff_eq] at h;rcases h with ((rfl | rfl) | rfl) | rfl <;> decide
theorem Azh {b:UInt8} (h:CE b.toNat=true):L_ b=true:=by
 simp only [CE,Bool.or_eq_true,beq_iff_eq] at h;simp only [L_,Bool.or_eq_true,beq_iff_eq];rcases h with ((h | h) | h) | h;exact .inl (.inl (.inl (UInt8.toNat_inj.1 h)));exact .inl (.inl (.inr (UInt8.toNat_inj.1 h)));exact .inl (.inr (UInt8.toNat_inj.1 h));exact .inr (UInt8.toNat_inj.1 h)
theorem Asu (x:Bs):∀ bl:Bs,(∀ b ∈ bl,L_ b=true)->B5 CE (bl++x)=bl.length+B5 CE x
 | [],_=>by simp
 | b :: bl,h=>by
  have hb:=Aze (h b (by simp));rw [List.cons_append,Np _ _ (by simp),OK b _ hb.1];simp only [hb.2,if_true,List.drop_succ_cons,List.drop_zero];rw [Asu x bl (λy hy=>h y (by simp [hy]))];simp only [AW];omega
theorem A0k (l:Bs) (b:UInt8) (hb:b ∈ l.take (B1 l).2) (hlow:b.toNat < 128):(B1 l).1=b.toNat/\(B1 l).2=1:=by
 obtain ⟨i,hi⟩:=List.mem_iff_getElem?.1 hb;rw [List.getElem?_take] at hi;split at hi
 case isFalse=>exact absurd hi (by simp)
 rename_i hlt;have hg:l.getD i 0=b:=by rw [List.getD_eq_getElem?_getD,hi];rfl
 have hg2:(l.getD i 0).toNat=b.toNat:=by rw [hg]
 clear hb hi hg;unfold B1 at hlt ⊢;dsimp only at hlt ⊢;have hi4:i=0\/i=1\/i=2\/3<=i:=by omega
 by_cases h0:(l.getD 0 0).toNat < 128
 ·rw [if_pos h0] at hlt ⊢
  have:i=0:=by simpa using hlt
  subst this;exact ⟨hg2,rfl⟩
 ·rw [if_neg h0] at hlt
  have hne:i≠0:=by rintro rfl;omega
  exfalso;split at hlt
  ·rename_i h1
   simp only [Bool.and_eq_true,beq_iff_eq,decide_eq_true_eq] at h1;split at hlt <;> dsimp only at hlt
   ·rcases hi4 with rfl | rfl | rfl | hi4 <;> omega
   ·omega
  ·split at hlt
   ·rename_i h1
    simp only [Bool.and_eq_true,beq_iff_eq,decide_eq_true_eq] at h1;split at hlt <;> dsimp only at hlt
    ·rcases hi4 with rfl | rfl | rfl | hi4 <;> omega
    ·omega
   ·split at hlt
    ·rename_i h1
     simp only [Bool.and_eq_true,beq_iff_eq,decide_eq_true_eq] at h1;split at hlt <;> dsimp only at hlt
     ·have hi5:i=1\/i=2\/i=3:=by omega
      rcases hi5 with rfl | rfl | rfl <;> omega
     ·omega
    ·dsimp only at hlt;omega
theorem Bsz (x:Bs) (at_:Nat) (acc:List Tok) (bl:Bs) (h:∀ b ∈ bl,L_ b=true):Jg (bl++x) at_ acc=Jg x (at_+bl.length) acc:=by
 rw [RH (bl++x),RH x,Asu x bl h];have e:(bl++x).drop (bl.length+B5 CE x)=x.drop (B5 CE x):=by
  rw [<- List.drop_drop,List.drop_left'];rfl
 rw [e,Nat.add_assoc]
def Closed' (a:Bs):Prop:=∀ i,[45,45].isPrefixOf (a.drop i)=true->10 ∈ a.drop i
theorem Closed'.drop {a:Bs} (h:Closed' a) (k:Nat):Closed' (a.drop k):=λi hi=>by
 rw [List.drop_drop] at hi ⊢;exact h _ hi
theorem Afm (l:Bs) (c:Int) (r:Nat) (h:D6 l=.bad c r):c≠0:=by
 have ht:∀ q f (l acc:Bs) i c r,Fs q f l acc i=.bad c r->c≠0:=by
  intro q f;induction f with
  | zero=>intro l acc i c r h;cases h;decide
  | succ f ih =>
   intro l acc i c r h;cases l with
   | nil=>cases h;decide
   | cons b t =>
    simp only [Fs] at h;split at h;cases h;decide;split at h;split at h;cases h;decide;cases h;split at h;split at h;cases h;decide;cases h;decide;exact ih _ _ _ _ _ h;exact ih _ _ _ _ _ h
 unfold D6 at h;by_cases h0:l=[];rw [if_pos h0] at h;cases h;rw [if_neg h0] at h;by_cases h1:[45,45].isPrefixOf l=true;rw [if_pos h1] at h;cases h;rw [if_neg h1] at h;by_cases h2:HY (B1 l).1=true;rw [if_pos h2] at h;dsimp only at h;split at h;cases h;decide;cases h;rw [if_neg h2] at h;by_cases h3:GF (B1 l).1=true;rw [if_pos h3] at h;dsimp only at h;split at h;rename_i hp;cases h;exact hp;cases h;rw [if_neg h3] at h;split at h;split at h;rename_i c' r' hx;cases h;exact ht _ _ _ _ _ _ _ hx;cases h;split at h;cases h;decide;cases h
theorem Btc:∀ (n:Nat) (l:Bs) (at_:Nat) (acc:List Tok) (c p:Int),l.length<=n->Jg l at_ acc=.inl (c,p)->c≠0:=by
 intro n;induction n with
 | zero =>
  intro l at_ acc c p hn h;have:l=[]:=List.eq_nil_of_length_eq_zero (by omega);subst this;rw [RH] at h;have e0:D6 (([]:Bs).drop (B5 CE []))=.done:=rfl;rw [e0] at h;cases h
 | succ n ih =>
  intro l at_ acc c p hn h;rw [RH] at h;have hk:=Kv CE l;cases hst:D6 (l.drop (B5 CE l)) with
  | done=>rw [hst] at h;cases h
  | bad c' r =>
   rw [hst] at h;simp only [Sum.inl.injEq,Prod.mk.injEq] at h;rw [<- h.1];exact Afm _ _ _ hst
  | skip q =>
   have:=(LN _).1 q hst;rw [BU] at this;rw [hst] at h;exact ih _ _ _ _ _ (by rw [BU,BU];omega) h
  | tok kd tx x len =>
   have:=(LN _).2 _ _ _ _ hst;rw [BU] at this;rw [hst] at h;exact ih _ _ _ _ _ (by rw [BU,BU];omega) h
theorem Bsw (l:Bs) (h:l.length<=20000):Gu l=Jg l 0 []:=by
 unfold Gu Jg;rw [if_neg (by omega)]
end Lx
end
section
open Go Go.RowKit Lx
abbrev Out:=Int×Ah×Int×Int×List Tree×Int×Int
def Nc (c a:Int):Out:=(0,⟨#[]⟩,0,0,[],c,a)
def Qd (n:Tree):Out:=(n.kind,n.text,n.n,n.at_,n.kids,0,0)
def Jz (s:Ah):Out :=
 match Gu (bs s) with
 | .inl (c,a)=>Nc c a
 | .inr t=>match Qe (t.map Gv) with
  | .ok n _=>Qd n
  | .bad i=>Nc 4 i
theorem W2 (l:Bs) (c p:Int) (h:Gu l=.inl (c,p)):c≠0:=by
 unfold Gu at h;split at h;simp only [Sum.inl.injEq,Prod.mk.injEq] at h;omega;exact Btc l.length l 0 [] c p (Nat.le_refl _) h
theorem WA {n:Nat} {ts:List Tk} (h:Afc n ts):(∃ b r,FB true ts=.ok b r/\TB ts b r/\((hd r).1=6/\Qe ts=.ok b r\/(hd r).1≠6/\Qe ts=.bad (hd r).2.2.2))\/∃ i,FB true ts=.bad i/\Qe ts=.bad i:=by
 unfold Qe;cases hb:FB true ts with
 | bad i=>exact .inr ⟨i,rfl,rfl⟩
 | ok b r =>
  refine .inl ⟨b,r,rfl,Bu4 h.good h.Cz hb,?_⟩;by_cases h6:(hd r).1=6;exact .inl ⟨h6,by simp [PV.then,h6]⟩;exact .inr ⟨h6,by simp [PV.then,h6]⟩
theorem Aan {s:Ah} {c p:Int} (h:Gu (bs s)=.inl (c,p)):Jz s=Nc c p:=by unfold Jz;rw [h]
theorem Aao {s:Ah} {t:List Tok} {b:Tree} {r:List Tk} (h:Gu (bs s)=.inr t) (hv:Qe (t.map Gv)=.ok b r):Jz s=Qd b:=by unfold Jz;rw [h];simp only [hv]
theorem R6 {s:Ah} {t:List Tok} {i:Int} (h:Gu (bs s)=.inr t) (hv:Qe (t.map Gv)=.bad i):Jz s=Nc 4 i:=by unfold Jz;rw [h];simp only [hv]
theorem Ak5 (l:List Tk):ix l l=0:=by unfold ix;omega
theorem Bqk (k:Nat) (hk:400000<=k) (s:Ah):PK.f k s=some (Jz s):=by
 unfold PK.f To.f Ro Jz;simp only [Aq];cases hs:Gu (bs s) with
 | inl x =>
  obtain ⟨c,p⟩:=x;have:=W2 _ _ _ hs;simp only;rw [show (c != 0)=true by rw [bne_iff_ne];exact this];rfl
 | inr t =>
  have hT:=W4 s t hs;simp only [bne_self_eq_false,cond_false];have hf:=A3q (l:=t.map Gv) (by have:=hT.len;omega) k true hT.good (List.suffix_refl _) (by have:=hT.len;omega);rw [Ak5] at hf;rw [hf];rcases WA hT with ⟨b,r,hb,hB,h6⟩ | ⟨i,hb,he⟩
  ·have hw:=IS true hT.good
   rw [hb] at hw ⊢;obtain ⟨hg,_,SU⟩:=hw;simp only [conv,PR.elim,AM];unfold DP.f;simp only [eT];rw [Lz hg SU];simp only [Aq];rcases h6 with ⟨h6,he⟩ | ⟨h6,he⟩
   ·rw [he,show ((hd r).1 != 6)=false by rw [bne_eq_false_iff_eq];exact h6]
    rfl
   ·rw [he,show ((hd r).1 != 6)=true by rw [bne_iff_ne];exact h6]
    rfl
  ·rw [hb,he]
   rfl
def shp (k n:Int) (t:Ah) (l:List Tree):Prop :=
 t.size<=30000/\k≠31/\(k=7->l.length=2)/\(k=25->l.length=2)/\(k=26->4<=l.length)/\(k=21\/k=22->∃ m:Nat,n=m/\m<=l.length)/\(k=27->∃ m:Nat,n=m/\m+1<=l.length)
mutual
def wfT:Tree->Prop
 | .mk k t n _ l=>shp k n t l/\Hb l
def Hb:List Tree->Prop
 | []=>True
 | x :: l=>wfT x/\Hb l
end
theorem Ac3:∀ {l:List Tree},Hb l ↔ ∀ x ∈ l,wfT x
 | []=>by simp [Hb]
 | x :: l=>by simp [Hb,Ac3 (l:=l)]
theorem Iu {l m:List Tree} (h:Hb l) (h':Hb m):Hb (l++m):=by
 rw [Ac3] at *;intro y hy;exact (EH.1 hy).elim (h y) (h' y)
theorem wf1 {x:Tree} (h:wfT x):Hb [x]:=⟨h,Aj⟩
def fnT:Tree->Prop
 | .mk k t n _ l=>t.size<=30000/\k=31/\(∃ m:Nat,n=m/\l.length=m+1)/\Hb l
def Bur (x:Tree):Prop:=wfT x\/fnT x
def wfC:Tree->Prop
 | .mk k t _ _ l=>k=20/\t.size<=30000/\∀ x ∈ l,Bur x
def TT (ts:List Tk):Prop:=∀ x ∈ ts,x.2.1.size<=30000
theorem TT.tail {ts:List Tk} (h:TT ts):TT ts.tail:=λx hx=>h x (List.mem_of_mem_tail hx)
theorem TT.hd {ts:List Tk} (h:TT ts):(hd ts).2.1.size<=30000:=by
 cases ts with
 | nil=>decide
 | cons x t=>exact h x (DN ..)
abbrev WT (n:Tree) (r:List Tk):Prop:=wfT n/\TT r
abbrev WL (l:List Tree) (r:List Tk):Prop:=Hb l/\TT r
theorem Ow {k:Int} {t:Ah} {n a:Int} {l:List Tree} (h1:t.size<=30000) (h2:Hb l) (h3:k≠31) (h4:k=7->l.length=2) (h5:k=25->l.length=2) (h6:k=26->4<=l.length) (h7:k=21\/k=22->∃ m:Nat,n=m/\m<=l.length) (h8:k=27->∃ m:Nat,n=m/\m+1<=l.length):wfT (.mk k t n a l):=⟨⟨h1,h3,h4,h5,h6,h7,h8⟩,h2⟩
theorem wfe {k:Int} {t:Ah} {n a:Int} {l:List Tree} (h1:t.size<=30000) (h2:Hb l) (h3:k≠31/\k≠7/\k≠25/\k≠26/\k≠21/\k≠22/\k≠27):wfT (.mk k t n a l):=by
 refine Ow h1 h2 h3.1 ?_ ?_ ?_ ?_ ?_ <;> intro h <;> exfalso;exact h3.2.1 h;exact h3.2.2.1 h;exact h3.2.2.2.1 h;exact h.elim h3.2.2.2.2.1 h3.2.2.2.2.2.1;exact h3.2.2.2.2.2.2 h
theorem nx {p q:Prop} [Decidable p] (h:decide p=false) (hp:p):q:=absurd hp (of_decide_eq_false h)
theorem Fz:noB.size<=30000:=by decide
theorem It {w:Ah} {ts:List Tk} (h:TT ts):R (FG w ts) λ_ r=>TT r:=R.ite (λ_=>R.ok h.tail) λ_=>R.bad
theorem RN {k:Int} {ts:List Tk} (hk:k≠31/\k≠7/\k≠25/\k≠26/\k≠21/\k≠22/\k≠27) (h:TT ts):R (Ja k ts) λn r=>WT n r/\n.text.size<=30000:=R.ite (λ_=>R.ok ⟨⟨wfe h.hd trivial hk,h.tail⟩,h.hd⟩) λ_=>R.bad
theorem Acz:∀ (f:Nat) (acc:List Tree) (ts:List Tk),TT ts->Hb acc->R (Gq f acc ts) WL
 | 0,_,_,_,_=>R.none
 | f+1,acc,ts,h,ha=>by
  unfold Gq;exact R.ite (λ_=>R.bind (RN (by decide) h.tail) λn r hn=>Acz f _ r hn.1.2 (Iu ha (wf1 hn.1.1))) λ_=>R.ok ⟨ha,h⟩
theorem Avy (f:Nat) {ts:List Tk} (h:TT ts):R (Nd f ts) WL:=R.bind (RN (by decide) h) λn r hn=>Acz f _ r hn.1.2 (wf1 hn.1.1)
structure WE (f:Nat):Prop where
 exp:∀ least ts,TT ts->R (Dz f least ts) WT
 loop:∀ least n ts,TT ts->wfT n->R (Fl f least n ts) WT
 operand:∀ ts,TT ts->R (Fc f ts) WT
 fields:∀ acc ts,TT ts->Hb acc->R (Fb f acc ts) WL
 field:∀ ts,TT ts->R (F1 f ts) WT
 Ec:∀ ts,TT ts->R (EO f ts) WT
 DB:∀ at_ n ts,TT ts->wfT n->R (EN f at_ n ts) WT
 CW:∀ ts,TT ts->R (EM f ts) WL
 Gh:∀ acc ts,TT ts->Hb acc->R (Fk f acc ts) WL
theorem wE:∀ f,WE f
 | 0=>by constructor <;> intros <;> (first | rw [Dz] | rw [Fl] | rw [Fc] | rw [Fb] | rw [F1] | rw [EO] | rw [EN] | rw [EM] | rw [Fk]) <;> exact R.none
 | f+1=>by
  have ih:=wE f;constructor;intro least ts h;unfold Dz;exact R.bind (ih.operand ts h) λn r hn=>ih.loop _ _ _ hn.2 hn.1;intro least n ts h hw;unfold Fl;refine R.ite (λ_=>R.ok ⟨hw,h⟩) λ_=>R.bind (ih.exp _ _ h.tail) λm r hm=>ih.loop _ _ _ hm.2 ?_;exact wfe h.hd ⟨hw,hm.1,Aj⟩ (by decide);intro ts h;unfold Fc;refine R.ite (λ_=>R.ok ⟨wfe Fz trivial (by decide),h.tail⟩) λ_=>?_;refine R.ite (λ_=>R.ok ⟨wfe h.hd trivial (by decide),h.tail⟩) λ_=>?_;refine R.ite (λ_=>R.ok ⟨wfe Fz trivial (by decide),h.tail⟩) λ_=>?_;refine R.ite (λ_=>R.ok ⟨wfe Fz trivial (by decide),h.tail⟩) λ_=>?_;refine R.ite (λ_=>R.ok ⟨wfe Fz trivial (by decide),h.tail⟩) λ_=>?_;refine R.ite (λ_=>R.bind (ih.exp _ _ h.tail) λm r hm=>R.ok ⟨wfe h.hd (wf1 hm.1) (by decide),hm.2⟩) λ_=>?_;refine R.ite (λ_=>R.bind (ih.fields _ _ h.tail Aj) λl r hl=>R.ok ⟨wfe Fz hl.1 (by decide),hl.2⟩) λ_=>?_;exact ih.Ec _ h;intro acc ts h ha;unfold Fb;refine R.ite (λ_=>R.ok ⟨ha,h.tail⟩) λ_=>R.bind (ih.field ts h) λx r hx=>?_;have hs:=Iu ha (wf1 hx.1);refine R.ite (λ_=>ih.fields _ _ hx.2.tail hs) λ_=>R.ite (λ_=>ih.fields _ _ hx.2.tail hs) λ_=>?_;exact R.bind (It hx.2) λ_ s hr=>R.ok ⟨hs,hr⟩;intro ts h;unfold F1;refine R.ite (λ_=>?_) λ_=>R.ite (λ_=>?_) λ_=>?_;refine R.bind (ih.exp _ _ h.tail) λk r hk=>R.bind (It hk.2) λ_ r hr=>R.bind (It hr) λ_ r hr=>R.bind (ih.exp _ _ hr) λv r hv=>R.ok ⟨?_,hv.2⟩;exact wfe Fz ⟨hk.1,hv.1,Aj⟩ (by decide);refine R.bind (ih.exp _ _ h.tail.tail) λv r hv=>R.ok ⟨?_,hv.2⟩;exact wfe Fz ⟨wfe h.hd trivial (by decide),hv.1,Aj⟩ (by decide);exact R.bind (ih.exp _ _ h) λv r hv=>R.ok ⟨wfe Fz (wf1 hv.1) (by decide),hv.2⟩;intro ts h;unfold EO;refine R.ite (λ_=>?_) λ_=>?_;exact R.bind (ih.exp _ _ h.tail) λe r he=>R.bind (It he.2) λ_ r hr=>ih.DB _ _ _ hr (wfe Fz (wf1 he.1) (by decide));exact R.bind (RN (by decide) h) λn r hn=>ih.DB _ _ _ hn.1.2 hn.1.1;intro at_ n ts h hw;unfold EN;refine R.ite (λ_=>?_) λ_=>R.ite (λ_=>?_) λ_=>R.ite (λ_=>?_) λ_=>R.ok ⟨hw,h⟩;refine R.bind (ih.exp _ _ h.tail) λe r he=>R.bind (It he.2) λ_ r hr=>ih.DB _ _ _ hr ?_;exact Ow Fz ⟨hw,he.1,Aj⟩ (by decide) (λ_=>rfl) (nx rfl) (nx rfl) (nx rfl) (nx rfl);refine R.bind (RN (by decide) h.tail) λe r he=>ih.DB _ _ _ he.1.2 ?_;exact Ow Fz ⟨hw,he.1.1,Aj⟩ (by decide) (λ_=>rfl) (nx rfl) (nx rfl) (nx rfl) (nx rfl);refine R.bind (Q1:=WL) (R.ite (λ_=>R.ok ⟨Aj,h.tail⟩) λ_=>ih.CW _ h.tail) λl r hl=>R.bind (It hl.2) λ_ r hr=>ih.DB _ _ _ hr ?_;exact wfe Fz ⟨hw,hl.1⟩ (by decide);intro ts h;unfold EM;exact R.bind (ih.exp _ _ h) λe r he=>ih.Gh _ _ he.2 (wf1 he.1);intro acc ts h ha;unfold Fk;exact R.ite (λ_=>R.bind (ih.exp _ _ h.tail) λe r he=>ih.Gh _ _ he.2 (Iu ha (wf1 he.1))) λ_=>R.ok ⟨ha,h⟩
def Pr (c:Bool) (x:Tree):Prop:=wfT x\/(c=true/\fnT x)
structure WS (f:Nat):Prop where
 block:∀ c ts,TT ts->R (EA f c ts) λn r=>(∃ a l,n=.mk 20 noB 0 a l/\∀ x ∈ l,Pr c x)/\TT r
 Ek:∀ c at_ acc ts,TT ts->(∀ x ∈ acc,Pr c x)->R (EL f c at_ acc ts) λn r=>(∃ a l,n=.mk 20 noB 0 a l/\∀ x ∈ l,Pr c x)/\TT r
 function:∀ ts,TT ts->R (F3 f ts) λn r=>fnT n/\TT r
 body:∀ ts,TT ts->R (EY f ts) WT
 stat:∀ ts,TT ts->R (F5 f ts) WT
 branches:∀ acc ts,TT ts->Hb acc->R (Fj f acc ts) WL
 for_:∀ at_ ts,TT ts->R (F2 f at_ ts) WT
 plain:∀ ts,TT ts->R (F4 f ts) WT
 targets:∀ acc e ts,TT ts->Hb acc->wfT e->R (Fm f acc e ts) WL
theorem Bfu {a:Int} {l:List Tree} (h:∀ x ∈ l,Pr false x):wfT (.mk 20 noB 0 a l) :=
 wfe Fz (Ac3.2 λx hx=>(h x hx).elim id λh=>nomatch h.1) (by decide)
theorem Zb {c:Bool} {acc:List Tree} {x:Tree} (h:∀ y ∈ acc,Pr c y) (hx:Pr c x):∀ y ∈ acc++[x],Pr c y:=λy hy=>by
 rcases EH.1 hy with hy | hy;exact h y hy;obtain rfl:=EZ.1 hy;exact hx
theorem wS:∀ f,WS f
 | 0=>by constructor <;> intros <;> (first | unfold EA | unfold EL | unfold F3 | unfold EY | unfold F5 | unfold Fj | unfold F2 | unfold F4 | unfold Fm) <;> exact R.none
 | f+1=>by
  have ih:=wS f;have ie:=wE f;have blk:∀ ts,TT ts->R (EA f false ts) WT:=λts h=>R.weak (ih.block false ts h) λn r ⟨⟨a,l,e,hl⟩,hr⟩=>⟨by rw [e];exact Bfu hl,hr⟩;constructor;intro c ts h;unfold EA;exact ih.Ek _ _ _ _ h (λ_ hx=>nomatch hx)
  intro c at_ acc ts h ha;unfold EL;refine R.ite (λ_=>ih.Ek _ _ _ _ h.tail ha) λ_=>R.ite (λ_=>?_) λ_=>R.ite (λhc=>?_) λ_=>R.ite (λ_=>R.ok ⟨⟨_,_,rfl,ha⟩,h⟩) λ_=>?_;refine R.bind (Q1:=WL) (R.ite (λ_=>R.ok ⟨Aj,h.tail⟩) λ_=>ie.CW _ h.tail) λl r hl=>R.ok ⟨⟨_,_,rfl,?_⟩,?_⟩;exact Zb ha (.inl (wfe Fz hl.1 (by decide)));split;exact hl.2.tail;exact hl.2;have hc':c=true:=by simp only [Bool.and_eq_true] at hc;exact hc.1
  exact R.bind (ih.function ts h) λx r hx=>ih.Ek _ _ _ _ hx.2 (Zb ha (.inr ⟨hc',hx.1⟩));exact R.bind (ih.stat ts h) λx r hx=>ih.Ek _ _ _ _ hx.2 (Zb ha (.inl hx.1));intro ts h;unfold F3;refine R.bind (RN (by decide) h.tail) λnm r hn=>R.bind (It hn.1.2) λ_ r hr=>R.bind (Q1:=WL) (R.ite (λ_=>R.ok ⟨Aj,hr⟩) λ_=>Avy f hr) λps r hp=>R.bind (It hp.2) λ_ r hr=>R.bind (blk _ hr) λb r hb=>R.bind (It hb.2) λ_ r hr=>R.ok ⟨?_,hr⟩;exact ⟨hn.2,rfl,⟨ps.length,rfl,by simp⟩,Iu hp.1 (wf1 hb.1)⟩;intro ts h;unfold EY;exact R.bind (It h) λ_ r hr=>R.bind (blk _ hr) λb r hb=>R.bind (It hb.2) λ_ r hr=>R.ok ⟨hb.1,hr⟩;intro ts h;unfold F5;refine R.ite (λ_=>?_) λ_=>R.ite (λ_=>?_) λ_=>R.ite (λ_=>?_) λ_=>R.ite (λ_=>ih.for_ _ _ h.tail) λ_=>R.ite (λ_=>?_) λ_=>R.ite (λ_=>R.ok ⟨wfe Fz trivial (by decide),h.tail⟩) λ_=>ih.plain _ h;exact R.bind (ih.body ts h) λb r hb=>R.ok ⟨wfe Fz (wf1 hb.1) (by decide),hb.2⟩;refine R.bind (ie.exp _ _ h.tail) λe r he=>R.bind (ih.body _ he.2) λb r hb=>R.ok ⟨?_,hb.2⟩;exact Ow Fz ⟨he.1,hb.1,Aj⟩ (by decide) (nx rfl) (λ_=>rfl) (nx rfl) (nx rfl) (nx rfl);exact R.bind (ih.branches _ _ h.tail Aj) λl r hl=>R.ok ⟨wfe Fz hl.1 (by decide),hl.2⟩;refine R.bind (Avy f h.tail) λl r hl=>R.bind (Q1:=WL) (R.ite (λ_=>ie.CW _ hl.2.tail) λ_=>R.ok ⟨Aj,hl.2⟩) λes r he=>R.ok ⟨?_,he.2⟩;exact Ow Fz (Iu hl.1 he.1) (by decide) (nx rfl) (nx rfl) (nx rfl) (λ_=>⟨l.length,rfl,by simp⟩) (nx rfl);intro acc ts h ha;unfold Fj;refine R.bind (ie.exp _ _ h) λe r he=>R.bind (It he.2) λ_ r hr=>R.bind (blk _ hr) λb r hb=>?_;have h2:=Iu (Iu ha (wf1 he.1)) (wf1 hb.1);refine R.ite (λ_=>ih.branches _ _ hb.2.tail h2) λ_=>R.ite (λ_=>?_) λ_=>?_;exact R.bind (blk _ hb.2.tail) λc r hc=>R.bind (It hc.2) λ_ r hr=>R.ok ⟨Iu h2 (wf1 hc.1),hr⟩;exact R.bind (It hb.2) λ_ r hr=>R.ok ⟨h2,hr⟩;intro at_ ts h;unfold F2;refine R.bind (RN (by decide) h) λn r hn=>R.ite (λ_=>?_) λ_=>?_;refine R.bind (ie.exp _ _ hn.1.2.tail) λa r ha=>R.bind (It ha.2) λ_ r hr=>R.bind (ie.exp _ _ hr) λb r hb=>R.bind (Q1:=WL) (R.ite (λ_=>R.bind (ie.exp _ _ hb.2.tail) λc r hc=>R.ok ⟨wf1 hc.1,hc.2⟩) λ_=>R.ok ⟨Aj,hb.2⟩) λcs r hcs=>R.bind (ih.body _ hcs.2) λbd r hbd=>R.ok ⟨?_,hbd.2⟩;exact Ow Fz (Iu (Iu (Iu (Iu (wf1 hn.1.1) (wf1 ha.1)) (wf1 hb.1)) hcs.1) (wf1 hbd.1)) (by decide) (nx rfl) (nx rfl) (λ_=>by simp) (nx rfl) (nx rfl);refine R.bind (Acz f _ _ hn.1.2 (wf1 hn.1.1)) λl r hl=>R.bind (It hl.2) λ_ r hr=>R.bind (ie.CW _ hr) λes r he=>R.bind (ih.body _ he.2) λbd r hbd=>R.ok ⟨?_,hbd.2⟩;exact Ow Fz (Iu (Iu hl.1 he.1) (wf1 hbd.1)) (by decide) (nx rfl) (nx rfl) (nx rfl) (nx rfl) (λ_=>⟨l.length,rfl,by simp⟩);intro ts h;unfold F4;refine R.bind (ie.Ec ts h) λe r he=>R.ite (λ_=>?_) λ_=>R.ite (λ_=>R.ok ⟨wfe Fz (wf1 he.1) (by decide),he.2⟩) λ_=>R.bad;refine R.bind (ih.targets _ _ _ he.2 trivial he.1) λl r hl=>R.bind (It hl.2) λ_ r hr=>R.bind (ie.CW _ hr) λes r hes=>R.ok ⟨?_,hes.2⟩;exact Ow Fz (Iu hl.1 hes.1) (by decide) (nx rfl) (nx rfl) (nx rfl) (λ_=>⟨l.length,rfl,by simp⟩) (nx rfl);intro acc e ts h ha hw;unfold Fm;refine R.ite (λ_=>?_) λ_=>R.bad;exact R.ite (λ_=>R.bind (ie.Ec _ h.tail) λe' r he=>ih.targets _ _ _ he.2 (Iu ha (wf1 hw)) he.1) λ_=>R.ok ⟨Iu ha (wf1 hw),h⟩
theorem Acf (q:UInt8):∀ (f:Nat) (l acc:Bs) (i:Nat) (v:Bs) (k:Nat),Fs q f l acc i=.ok v k->v.length<=10000
 | 0,_,_,_,_,_,h=>by unfold Fs at h;cases h
 | f+1,[],_,_,_,_,h=>by unfold Fs at h;cases h
 | f+1,b :: t,acc,i,v,k,h=>by
  unfold Fs at h;split at h;cases h;split at h;split at h;cases h;cases h;omega;split at h;split at h;cases h;cases h;exact Acf q f _ _ _ _ _ h;exact Acf q f _ _ _ _ _ h
theorem Btl:∀ s ∈ Ht,s.length<=20000:=by decide
theorem Bt5 (l:Bs) (hl:l.length<=20000) (k:Int) (t:Bs) (n:Int) (len:Nat) (h:D6 l=.tok k t n len):t.length<=20000:=by
 unfold D6 at h;dsimp only at h
 repeat' split at h
 all_goals first
  | (cases h;done)
  | (simp only [Step.tok.injEq] at h;obtain ⟨_,rfl,_⟩:=h;rw [List.length_take];omega)
  | (rename_i hx;simp only [Step.tok.injEq] at h;obtain ⟨_,rfl,_⟩:=h;first | exact Nat.le_trans (Acf _ _ _ _ _ _ _ hx) (by decide) | exact Btl _ (List.mem_of_find?_eq_some hx))
theorem Abn:∀ (f:Nat) (l:Bs) (at_:Nat) (acc t:List Tok),l.length<=20000->(∀ x ∈ acc,x.text.length<=20000)->Hs f l at_ acc=.inr t->∀ x ∈ t,x.text.length<=20000
 | 0,l,at_,acc,t,hl,ha,h=>by
  unfold Hs at h;cases h;intro x hx;rcases EH.1 hx with hx | hx;exact ha x hx;obtain rfl:=EZ.1 hx;exact Nat.zero_le _
 | f+1,l,at_,acc,t,hl,ha,h=>by
  unfold Hs at h;dsimp only at h;have hdl:(l.drop (B5 CE l)).length<=20000:=by rw [BU];omega
  cases hst:D6 (l.drop (B5 CE l)) with
  | done =>
   rw [hst] at h;cases h;intro x hx;rcases EH.1 hx with hx | hx;exact ha x hx;obtain rfl:=EZ.1 hx;exact Nat.zero_le _
  | bad c r=>rw [hst] at h;cases h
  | skip q =>
   rw [hst] at h;exact Abn f _ _ _ _ (by rw [BU];omega) ha h
  | tok kd tx x len =>
   rw [hst] at h;refine Abn f _ _ _ _ (by rw [BU];omega) (λy hy=>?_) h;rcases EH.1 hy with hy | hy;exact ha y hy;obtain rfl:=EZ.1 hy;exact Bt5 _ hdl _ _ _ _ hst
theorem As5 {s:Ah} {t:List Tok} (h:Gu (bs s)=.inr t):TT (t.map Gv):=by
 unfold Gu at h;split at h;cases h;intro x hx;obtain ⟨y,hy,rfl⟩:=List.mem_map.1 hx;have:=Abn _ _ _ [] _ (by omega) (λ_ hx=>absurd hx (List.not_mem_nil)) h y hy;show (str y.text).size<=30000;rw [Nt];omega
theorem val_ok {α:Type} {x:Option (PV α)} {a:α} {r:List Tk} (h:val x=.ok a r):x=some (.ok a r):=by
 cases x with
 | none=>cases h
 | some v=>exact congrArg some h
theorem Bp9 (s:Ah):(∃ c a,c≠0/\Jz s=Nc c a)\/∃ n,Jz s=Qd n/\wfC n/\sz n<=80010:=by
 cases hs:Gu (bs s) with
 | inl x =>
  obtain ⟨c,p⟩:=x;exact .inl ⟨c,p,W2 _ _ _ hs,Aan hs⟩
 | inr t =>
  have hT:=W4 s t hs;rcases WA hT with ⟨b,r,hb,hB,⟨_,he⟩ | ⟨_,he⟩⟩ | ⟨j,hb,he⟩;refine .inr ⟨b,Aao hs he,?_,?_⟩;obtain ⟨⟨a,l,rfl,hl⟩,_⟩:=(wS (fu _)).block true _ (As5 hs) _ _ (val_ok hb);exact ⟨rfl,Fz,λx hx=>Or.elim (hl x hx) .inl (λh=>.inr h.2)⟩;have:=hB.size;have:=hT.len;omega;exact .inl ⟨4,_,by decide,R6 hs he⟩;exact .inl ⟨4,_,by decide,R6 hs he⟩
theorem wiC (x:Int) (h0:-9223372036854775808<=x) (h1:x<=9223372036854775807):Au x=x:=by unfold Au IntKind.wrap;simp [IntKind.bits,IntKind.signed];omega
theorem VL {α:Type} {l:List α} {i:Nat} (h:i < l.length):B7 l (i:Int)=some l[i]:=by
 unfold B7;rw [if_pos (by omega),Int.toNat_natCast,List.getElem?_eq_getElem h]
def RP (X:Bs):List Bs->Int->Int
 | [],_=>-1
 | y :: l,i=>if X == y then i else RP X l (i+1)
theorem Aky (L:List Ah) (hL:L.length<=1000) (s:Ah):∀ (d i k:Nat),L.length - i<=d->i<=L.length->d < k ->
  Ge.l0 k L s (λ_=>some (-1)) (i:Int)=some (RP s.toList ((L.drop i).map (·.toList)) i)
 | d,i,k,hd,hi,hk=>by
  obtain ⟨k,rfl⟩:∃ m,k=m+1:=⟨k - 1,by omega⟩;simp only [Ge.l0];rcases Nat.lt_or_ge i L.length with h | h;obtain ⟨d,rfl⟩:∃ m,d=m+1:=⟨d - 1,by omega⟩;rw [decide_eq_true (p:=(i:Int) < L.length) (by omega),VL h,wiC ((i:Int)+1) (by omega) (by omega),show (i:Int)+1=((i+1:Nat):Int) by omega,List.drop_eq_getElem_cons h,List.map_cons];simp only [cond_true,Aq];unfold RP;cases hq:s.toList == L[i].toList with
  | true=>rfl
  | false =>
   rw [cond_false,Aky L hL s d (i+1) k (by omega) (by omega) (by omega)];rfl
  rw [decide_eq_false (p:=(i:Int) < L.length) (by omega),List.drop_of_length_le h];rfl
def Nn:Av:=[(⟨#[112,114,105,110,116]⟩:Ah),(⟨#[116,121,112,101]⟩:Ah),(⟨#[116,111,115,116,114,105,110,103]⟩:Ah),(⟨#[116,111,110,117,109,98,101,114]⟩:Ah),(⟨#[110,101,120,116]⟩:Ah),(⟨#[112,97,105,114,115]⟩:Ah),(⟨#[105,112,97,105,114,115]⟩:Ah),(⟨#[114,97,119,108,101,110]⟩:Ah),(⟨#[115,116,97,116,115]⟩:Ah),(⟨#[112,114,111,98,101,115]⟩:Ah),(⟨#[]⟩:Ah),(⟨#[116,97,98,108,101,46,105,110,115,101,114,116]⟩:Ah),(⟨#[116,97,98,108,101,46,114,101,109,111,118,101]⟩:Ah),(⟨#[116,97,98,108,101,46,99,111,110,99,97,116]⟩:Ah),(⟨#[116,97,98,108,101,46,117,110,112,97,99,107]⟩:Ah),(⟨#[116,97,98,108,101,46,109,111,118,101]⟩:Ah),(⟨#[116,97,98,108,101,46,115,111,114,116]⟩:Ah),(⟨#[117,116,102,56,46,108,101,110]⟩:Ah),(⟨#[117,116,102,56,46,99,104,97,114]⟩:Ah),(⟨#[117,116,102,56,46,99,111,100,101,112,111,105,110,116]⟩:Ah),(⟨#[117,116,102,56,46,111,102,102,115,101,116]⟩:Ah),(⟨#[117,116,102,56,46,99,111,100,101,115]⟩:Ah)]
def Wq:List Bs:=Lib.fields (⟨#[112,114,105,110,116,32,116,121,112,101,32,116,111,115,116,114,105,110,103,32,116,111,110,117,109,98,101,114,32,110,101,120,116,32,112,97,105,114,115,32,105,112,97,105,114,115,32,114,97,119,108,101,110,32,115,116,97,116,115,32,112,114,111,98,101,115,32,45,32,116,97,98,108,101,46,105,110,115,101,114,116,32,116,97,98,108,101,46,114,101,109,111,118,101,32,116,97,98,108,101,46,99,111,110,99,97,116,32,116,97,98,108,101,46,117,110,112,97,99,107,32,116,97,98,108,101,46,109,111,118,101,32,116,97,98,108,101,46,115,111,114,116,32,117,116,102,56,46,108,101,110,32,117,116,102,56,46,99,104,97,114,32,117,116,102,56,46,99,111,100,101,112,111,105,110,116,32,117,116,102,56,46,111,102,102,115,101,116,32,117,116,102,56,46,99,111,100,101,115,32,45]⟩:Ah).data.toList
def Qj (X:Bs):List Bs->Int->Int
 | [],_=>0
 | y :: l,i=>if (!(X == [])) && y == X then i+1 else Qj X l (i+1)
theorem Bsa (k:Nat) (a0:Ah) (J:Unit->Option Int) (x:Int):IF.l0 (k+1) a0 J x=cond (decide (x < (22:Int))) ((cond (!(a0.toList == (⟨#[]⟩:Ah).toList)) ((B7 Nn x).bind λx9=>some (x9.toList == a0.toList)) (some false):Option Bool).bind λq6=>cond q6 (some (Au (x+(1:Int)))) (IF.l0 k a0 J (Au (x+(1:Int))))) (J ()):=rfl
theorem Aru (s:Ah):∀ (d i k:Nat),22 - i<=d->i<=22->d < k->IF.l0 k s (λ_=>some 0) (i:Int)=some (Qj s.toList ((Nn.drop i).map (·.toList)) i)
 | d,i,k,hd,hi,hk=>by
  obtain ⟨k,rfl⟩:∃ m,k=m+1:=⟨k - 1,by omega⟩;have hlen:Nn.length=22:=rfl;rw [Bsa];rcases Nat.lt_or_ge i 22 with h | h;obtain ⟨d,rfl⟩:∃ m,d=m+1:=⟨d - 1,by omega⟩;have h':i < Nn.length:=by omega
  have he:(⟨#[]⟩:Ah).toList=[]:=by kernel_rfl
  rw [decide_eq_true (p:=(i:Int) < 22) (by omega),VL h',wiC ((i:Int)+1) (by omega) (by omega),List.drop_eq_getElem_cons h',List.map_cons,he];simp only [cond_true,Aq];unfold Qj;have ih:=Aru s d (i+1) k (by omega) (by omega) (by omega);rw [show ((i+1:Nat):Int)=(i:Int)+1 by omega] at ih;cases hn:s.toList == [] with
  | true=>simp only [Bool.not_true,cond_false,Aq,Bool.false_and,Bool.false_eq_true,if_false];exact ih
  | false =>
   simp only [Bool.not_false,cond_true,Aq,Bool.true_and];cases hq:Nn[i].toList == s.toList with
   | true=>rfl
   | false=>simp only [cond_false,Bool.false_eq_true,if_false];exact ih
  rw [decide_eq_false (p:=(i:Int) < 22) (by omega),List.drop_of_length_le (by omega)];rfl
theorem Av8 (X:Bs):∀ (l:List Bs) (i:Int),X ∉ l->RP X l i=-1
 | [],_,_=>rfl
 | y :: l,i,h=>by
  unfold RP;rw [if_neg (by simp only [beq_iff_eq];rintro rfl;exact h (DN ..))];exact Av8 X l _ λh'=>h (EI _ h')
theorem Awa (X:Bs):∀ (l:List Bs) (i:Int),X ∉ l->Qj X l i=0
 | [],_,_=>rfl
 | y :: l,i,h=>by
  unfold Qj;rw [if_neg (by simp only [Bool.and_eq_true,beq_iff_eq];rintro ⟨_,rfl⟩;exact h (DN ..))];exact Awa X l _ λh'=>h (EI _ h')
def Jw (X:Bs):Int:=if X == [45] then 0 else RP X Wq 0+1
theorem Aow (X:Bs):Jw X=Qj X (Nn.map (·.toList)) 0/\0<=Jw X/\Jw X<=22:=by
 by_cases h:X ∈ [45] :: (Wq++Nn.map (·.toList));revert h;have key:∀ x ∈ [45] :: (Wq++Nn.map (·.toList)),Jw x=Qj x (Nn.map (·.toList)) 0/\0<=Jw x/\Jw x<=22:=by decide +kernel
 exact key X;simp only [List.mem_cons,EH,not_or] at h;obtain ⟨h1,h2,h3⟩:=h;have e:Jw X=0:=by
  unfold Jw;rw [if_neg (by simpa using h1),Av8 X _ _ h2];rfl
 rw [e,Awa X _ _ h3];decide
def Wp:Av:=(Lib.fields (⟨#[112,114,105,110,116,32,116,121,112,101,32,116,111,115,116,114,105,110,103,32,116,111,110,117,109,98,101,114,32,110,101,120,116,32,112,97,105,114,115,32,105,112,97,105,114,115,32,114,97,119,108,101,110,32,115,116,97,116,115,32,112,114,111,98,101,115,32,45,32,116,97,98,108,101,46,105,110,115,101,114,116,32,116,97,98,108,101,46,114,101,109,111,118,101,32,116,97,98,108,101,46,99,111,110,99,97,116,32,116,97,98,108,101,46,117,110,112,97,99,107,32,116,97,98,108,101,46,109,111,118,101,32,116,97,98,108,101,46,115,111,114,116,32,117,116,102,56,46,108,101,110,32,117,116,102,56,46,99,104,97,114,32,117,116,102,56,46,99,111,100,101,112,111,105,110,116,32,117,116,102,56,46,111,102,102,115,101,116,32,117,116,102,56,46,99,111,100,101,115,32,45]⟩:Ah).data.toList).map λl=>⟨l.toArray⟩
theorem A4b (k:Nat):strings_Fields.f k (⟨#[112,114,105,110,116,32,116,121,112,101,32,116,111,115,116,114,105,110,103,32,116,111,110,117,109,98,101,114,32,110,101,120,116,32,112,97,105,114,115,32,105,112,97,105,114,115,32,114,97,119,108,101,110,32,115,116,97,116,115,32,112,114,111,98,101,115,32,45,32,116,97,98,108,101,46,105,110,115,101,114,116,32,116,97,98,108,101,46,114,101,109,111,118,101,32,116,97,98,108,101,46,99,111,110,99,97,116,32,116,97,98,108,101,46,117,110,112,97,99,107,32,116,97,98,108,101,46,109,111,118,101,32,116,97,98,108,101,46,115,111,114,116,32,117,116,102,56,46,108,101,110,32,117,116,102,56,46,99,104,97,114,32,117,116,102,56,46,99,111,100,101,112,111,105,110,116,32,117,116,102,56,46,111,102,102,115,101,116,32,117,116,102,56,46,99,111,100,101,115,32,45]⟩:Ah)=some Wp:=by
 have h:(decide ((⟨#[112,114,105,110,116,32,116,121,112,101,32,116,111,115,116,114,105,110,103,32,116,111,110,117,109,98,101,114,32,110,101,120,116,32,112,97,105,114,115,32,105,112,97,105,114,115,32,114,97,119,108,101,110,32,115,116,97,116,115,32,112,114,111,98,101,115,32,45,32,116,97,98,108,101,46,105,110,115,101,114,116,32,116,97,98,108,101,46,114,101,109,111,118,101,32,116,97,98,108,101,46,99,111,110,99,97,116,32,116,97,98,108,101,46,117,110,112,97,99,107,32,116,97,98,108,101,46,109,111,118,101,32,116,97,98,108,101,46,115,111,114,116,32,117,116,102,56,46,108,101,110,32,117,116,102,56,46,99,104,97,114,32,117,116,102,56,46,99,111,100,101,112,111,105,110,116,32,117,116,102,56,46,111,102,102,115,101,116,32,117,116,102,56,46,99,111,100,101,115,32,45]⟩:Ah).size < 4294967281/\(Lib.fields (⟨#[112,114,105,110,116,32,116,121,112,101,32,116,111,115,116,114,105,110,103,32,116,111,110,117,109,98,101,114,32,110,101,120,116,32,112,97,105,114,115,32,105,112,97,105,114,115,32,114,97,119,108,101,110,32,115,116,97,116,115,32,112,114,111,98,101,115,32,45,32,116,97,98,108,101,46,105,110,115,101,114,116,32,116,97,98,108,101,46,114,101,109,111,118,101,32,116,97,98,108,101,46,99,111,110,99,97,116,32,116,97,98,108,101,46,117,110,112,97,99,107,32,116,97,98,108,101,46,109,111,118,101,32,116,97,98,108,101,46,115,111,114,116,32,117,116,102,56,46,108,101,110,32,117,116,102,56,46,99,104,97,114,32,117,116,102,56,46,99,111,100,101,112,111,105,110,116,32,117,116,102,56,46,111,102,102,115,101,116,32,117,116,102,56,46,99,111,100,101,115,32,45]⟩:Ah).data.toList).length<=1000000) && (⟨#[112,114,105,110,116,32,116,121,112,101,32,116,111,115,116,114,105,110,103,32,116,111,110,117,109,98,101,114,32,110,101,120,116,32,112,97,105,114,115,32,105,112,97,105,114,115,32,114,97,119,108,101,110,32,115,116,97,116,115,32,112,114,111,98,101,115,32,45,32,116,97,98,108,101,46,105,110,115,101,114,116,32,116,97,98,108,101,46,114,101,109,111,118,101,32,116,97,98,108,101,46,99,111,110,99,97,116,32,116,97,98,108,101,46,117,110,112,97,99,107,32,116,97,98,108,101,46,109,111,118,101,32,116,97,98,108,101,46,115,111,114,116,32,117,116,102,56,46,108,101,110,32,117,116,102,56,46,99,104,97,114,32,117,116,102,56,46,99,111,100,101,112,111,105,110,116,32,117,116,102,56,46,111,102,102,115,101,116,32,117,116,102,56,46,99,111,100,101,115,32,45]⟩:Ah).data.toList.all λb=>decide (b.toNat < 128))=true:=by decide +kernel
 unfold strings_Fields.f;rw [h];rfl
theorem Bql:Wp.length=23:=by decide +kernel
theorem Bqr:Wp.map (·.toList)=Wq:=by decide +kernel
theorem Bi8 (k:Nat) (hk:30<=k) (a0:Ah):M7.f k a0=some (Jw a0.toList):=by
 have h1:=A4b k;obtain ⟨L,hL⟩:∃ L,L=Wp:=⟨_,rfl⟩;have h2:=Bql;have h3:=Bqr;rw [<- hL] at h1 h2 h3;have hd:(⟨#[45]⟩:Ah).toList=[45]:=by kernel_rfl
 unfold M7.f;rw [hd,h1];unfold Jw;cases hq:a0.toList == [45] with
 | true=>rfl
 | false =>
  simp only [cond_false,Aq,Bool.false_eq_true,if_false];unfold Ge.f AM;have hl:=Aky L (by omega) a0 L.length 0 k (by omega) (by omega) (by omega);rw [List.drop_zero,h3,Int.ofNat_zero] at hl;change ((Ge.l0 k L a0 (λ_=>some (-1)) 0).bind _)=_;rw [hl];have hb:=(Aow a0.toList).2;unfold Jw at hb;rw [hq] at hb;simp only [Bool.false_eq_true,if_false] at hb;simp only [Aq];rw [wiC _ (by omega) (by omega)]
theorem Br9 (k:Nat) (hk:30<=k) (a0:Ah):IF.f k a0=some (Jw a0.toList):=by
 unfold IF.f AM;have hl:=Aru a0 22 0 k (by omega) (by omega) (by omega);rw [List.drop_zero,Int.ofNat_zero,<- (Aow a0.toList).1] at hl;exact hl
theorem HZ {α:Type} (pre:List α) (x:α) (t:List α):B7 (pre++x :: t) (pre.length:Int)=some x:=by
 unfold B7;rw [if_pos (by omega)];simp
theorem Hj {a b:Int} (h:a < b):decide (a < b)=true:=decide_eq_true h
theorem ltF {a b:Int} (h:¬ a < b):decide (a < b)=false:=decide_eq_false h
abbrev V3:=Int×Int×Ah
abbrev E5:=Ah×Int×Int×Int×List V3
abbrev CT:=List E5×List Ah×Int×List V3×List Ah×Int
structure Bo where
 fs:List E5
 gl:List Ah
 sl:Int
 cs:List V3
 lo:List Ah
 lp:Int
def Bo.Iq (s:Bo):CT:=(s.fs,s.gl,s.sl,s.cs,s.lo,s.lp)
abbrev PC (α:Type):=PR α (Int×Int)
def PR.th {α β ε:Type} (x:PR α ε) (f:α->PR β ε):PR β ε:=match x with | .ok a=>f a | .bad e=>.bad e
def PR.mp {α β ε:Type} (f:α->β) (x:PR α ε):PR β ε:=match x with | .ok a=>.ok (f a) | .bad e=>.bad e
def G1 (l:List Ah) (a:Ah):Bool:=l.any λx=>a.toList == x.toList
def ME (l:List V3) (v:V3):Bool:=l.any λx=>(v.1 == x.1) && ((v.2.1 == x.2.1) && ((v.2.2.toList == x.2.2.toList) && true))
abbrev Xj:Ah:=⟨#[116,97,98,108,101]⟩
abbrev Ay1:Ah:=⟨#[117,116,102,56]⟩
abbrev Afj:Ah:=⟨#[46]⟩
def Ef (t:Ah):Bool:=t.toList == Xj.toList || t.toList == Ay1.toList
def Du (a:Int) (count most:Int):PC Unit:=if count > most then .bad (6,a) else .ok ()
def EU (gl:List Ah) (t:Ah):List Ah:=if G1 gl t then gl else gl++[t]
def KB (a:Int) (cs:List V3) (v:V3):PC (List V3):=if ME cs v then .ok cs else (Du a (cs.length+1:Nat) 250).th λ_=>.ok (cs++[v])
def NZ (a:Int) (t:Ah) (gl lo ab:List Ah):PC (List Ah) :=
 if Ef t then .bad (5,a) else if G1 lo t then .ok gl else if G1 ab t then .bad (5,a) else .ok (EU gl t)
def KR:List Ah->List Tree->PC (List Ah)
 | lo,[]=>.ok lo
 | lo,x :: l=>if Ef x.text then .bad (5,x.at_) else KR (lo++[x.text]) l
def Fv (a:Int) (sl:Int) (lo:List Ah) (l:List Tree):PC (Int×List Ah) :=
 (KR lo l).th λlo=>(Du a (lo.length:Nat) 60).th λ_=>.ok (if ((lo.length:Nat):Int) > sl then ((lo.length:Nat):Int) else sl,lo)
def CZ (f:Bo->Tree->PC Bo):Bo->List Tree->PC Bo
 | s,[]=>.ok s
 | s,x :: l=>(f s x).th λs=>CZ f s l
def K8 (f:Bo->Tree->Bool->PC Bo) (n:Int):Nat->Bo->List Tree->PC Bo
 | _,s,[]=>.ok s
 | i,s,x :: l=>(f s x (decide ((i:Int) < n))).th λs=>K8 f n (i+1) s l
def tNo:Tree:=.mk 0 ⟨#[]⟩ 0 0 []
def Cb (l:List Tree) (i:Nat):Tree:=(l[i]?).getD tNo
def Gm (f:Bo->Tree->PC Bo) (a:Int) (s:Bo) (names:List Tree) (b:Tree) (more:Nat):PC Bo :=
 (if more > 0 then Fv a s.sl (s.lo++List.replicate more ⟨#[]⟩) names else .ok (s.sl,s.lo)).th λr =>
  (f { s with sl:=r.1,lo:=r.2,lp:=s.lp+1 } b).th λs'=>.ok { s' with lo:=s'.lo.take s.lo.length,lp:=s'.lp - 1 }
def UR (tg:Bool) (x y:Tree):Bool:=tg || (y.kind != 5 || Jw (x.text++Afj++y.text).toList == 0)
def NE (f:Bo->List Tree->PC Bo) (ab:List Ah) (s:Bo) (k:Int) (t:Ah) (n a:Int) (l:List Tree) (tg:Bool):PC Bo :=
 if k=8 then (Du a ((l.length:Nat) - 1:Int) 50).th λ_=>f s l
 else if k=30 then (Du a (l.length:Nat) 50).th λ_=>f s l
 else if k=12 then (Du a (l.length:Nat) 200).th λ_=>f s l
 else if k=4 then (KB a s.cs (2,n,⟨#[]⟩)).th λcs=>f { s with cs:=cs } l
 else if k=5 then (KB a s.cs (3,0,t)).th λcs=>f { s with cs:=cs } l
 else if k=6 then (NZ a t s.gl s.lo ab).th λgl=>f { s with gl:=gl } l
 else if k=7/\(Cb l 0).kind=6/\Ef (Cb l 0).text=true then
  if UR tg (Cb l 0) (Cb l 1) then .bad (5,a) else .ok s
 else f s l
def Bq:Nat->List Ah->Bo->Tree->Bool->PC Bo
 | 0,_,_,_,_=>.bad (0,0)
 | d+1,ab,s,.mk k t n a l,tg =>
  if k=20 then (CZ (λs x=>Bq d ab s x false) s l).th λs'=>.ok { s' with lo:=s'.lo.take s.lo.length }
  else if k=31 then
   (Du a (s.fs.length:Nat) 100).th λ_=>if Ef t then .bad (5,a) else
    (Du a n 50).th λ_=>(Fv a 0 [] (l.take n.toNat)).th λr =>
     (Bq d s.lo ⟨s.fs,EU s.gl t,r.1,[],r.2,0⟩ (Cb l n.toNat) false).th λs' =>
      .ok { s with fs:=s'.fs++[(t,a,n,s'.sl,s'.cs)],gl:=s'.gl }
  else if k=21 then
   (Du a n 50).th λ_=>(Du a (l.length - n) 50).th λ_=>(CZ (λs x=>Bq d ab s x false) s (l.drop n.toNat)).th λs =>
    (Fv a s.sl s.lo (l.take n.toNat)).th λr=>.ok { s with sl:=r.1,lo:=r.2 }
  else if k=22 then
   (Du a n 50).th λ_=>(Du a (l.length - n) 50).th λ_=>K8 (λs x b=>Bq d ab s x b) n 0 s l
  else if k=25 then (Bq d ab s (Cb l 0) false).th λs=>Gm (λs x=>Bq d ab s x false) a s [] (Cb l 1) 0
  else if k=26 then (CZ (λs x=>Bq d ab s x false) s ((l.drop 1).take (l.length - 2))).th λs=>Gm (λs x=>Bq d ab s x false) a s (l.take 1) (Cb l (l.length - 1)) 3
  else if k=27 then
   (Du a n 50).th λ_=>(Du a (l.length - 1 - n) 50).th λ_=>(CZ (λs x=>Bq d ab s x false) s ((l.drop n.toNat).take (l.length - 1 - n.toNat))).th λs =>
    Gm (λs x=>Bq d ab s x false) a s (l.take n.toNat) (Cb l (l.length - 1)) 3
  else if k=29 then if s.lp=0 then .bad (5,a) else .ok s
  else NE (λs l=>CZ (λs x=>Bq d ab s x false) s l) ab s k t n a l tg
theorem Afo {α β ε:Type} (x:PR α ε) (f:α->PR β ε) (F:α->Option (PR β ε)) (h:∀ a,x=.ok a->F a=some (f a)):PR.bind (some x) F=some (x.th f):=by
 cases x with
 | ok a=>exact h a rfl
 | bad e=>rfl
theorem Q6 (k:Nat) (a0:Int) (a1:Ah) (a2 a3:Int) (a4:List Tree) (c m:Int):Er.f k a0 a1 a2 a3 a4 c m=some (Du a3 c m):=by
 unfold Er.f Du;by_cases h:c > m;rw [decide_eq_true h,if_pos h];rfl;rw [decide_eq_false h,if_neg h];rfl
theorem VA (k:Nat) (t:Ah):JQ.f k t=some (Ef t):=by
 unfold JQ.f Ef;cases t.toList == Xj.toList <;> rfl
theorem Akw:∀ (t pre:List Ah) (a:Ah) (m:Nat),pre.length+t.length<=1000000->t.length+1<=m ->
  ∃ v,Ge.l0 m (pre++t) a (λ_=>some (-1)) (pre.length:Int)=some v/\decide (v >= 0)=G1 t a
 | [],pre,a,m,hl,hm=>by
  obtain ⟨m,rfl⟩:∃ m',m=m'+1:=⟨m - 1,by omega⟩;simp only [Ge.l0];rw [ltF (by simp)];exact ⟨-1,rfl,rfl⟩
 | x :: t,pre,a,m,hl,hm=>by
  obtain ⟨m,rfl⟩:∃ m',m=m'+1:=⟨m - 1,by omega⟩;simp only [AW] at hl hm;simp only [Ge.l0];rw [Hj (by simp;omega),HZ];simp only [cond_true,Aq];unfold G1;rw [List.any_cons];cases hq:a.toList == x.toList with
  | true=>exact ⟨_,rfl,decide_eq_true (by omega)⟩
  | false =>
   rw [cond_false,Bool.false_or,wiC _ (by omega) (by omega)];have ih:=Akw t (pre++[x]) a m (by simp;omega) (by omega);rw [C7,BQ] at ih;exact ih
theorem containsS (k:Nat) (l:List Ah) (a:Ah) (hl:l.length<=1000000) (hk:l.length+1<=k):LM.f k l a=some (G1 l a):=by
 unfold LM.f Ge.f AM;obtain ⟨v,hv,hd⟩:=Akw l [] a k (by simpa using hl) hk;have hv:Ge.l0 k l a (λ_=>some (-1)) (0:Int)=some v:=hv;simp only [hv,Aq,hd]
theorem Akx:∀ (t pre:List V3) (a0 a1:Int) (a2:Ah) (m:Nat),pre.length+t.length<=1000000->t.length+1<=m ->
  ∃ v,II.l0 m (pre++t) a0 a1 a2 (λ_=>some (-1)) (pre.length:Int)=some v/\decide (v >= 0)=ME t (a0,a1,a2)
 | [],pre,a0,a1,a2,m,hl,hm=>by
  obtain ⟨m,rfl⟩:∃ m',m=m'+1:=⟨m - 1,by omega⟩;simp only [II.l0];rw [ltF (by simp)];exact ⟨-1,rfl,rfl⟩
 | x :: t,pre,a0,a1,a2,m,hl,hm=>by
  obtain ⟨m,rfl⟩:∃ m',m=m'+1:=⟨m - 1,by omega⟩;simp only [AW] at hl hm;simp only [II.l0];rw [Hj (by simp;omega),HZ];simp only [cond_true,Aq];unfold ME;rw [List.any_cons];simp only;cases hq:(a0 == x.1) && ((a1 == x.2.1) && ((a2.toList == x.2.2.toList) && true)) with
  | true=>exact ⟨_,rfl,decide_eq_true (by omega)⟩
  | false =>
   rw [cond_false,Bool.false_or,wiC _ (by omega) (by omega)];have ih:=Akx t (pre++[x]) a0 a1 a2 m (by simp;omega) (by omega);rw [C7,BQ] at ih;exact ih
theorem A0e (k:Nat) (l:List V3) (a0 a1:Int) (a2:Ah) (hl:l.length<=1000000) (hk:l.length+1<=k):Qb.f k l a0 a1 a2=some (ME l (a0,a1,a2)):=by
 unfold Qb.f II.f AM;obtain ⟨v,hv,hd⟩:=Akx l [] a0 a1 a2 k (by simpa using hl) hk;have hv:II.l0 k l a0 a1 a2 (λ_=>some (-1)) (0:Int)=some v:=hv;simp only [hv,Aq,hd]
theorem Lm {α:Type} {b:Nat} {l ys:List α} (h:(l.length+ys.length) * b<=140737488355328):apd b l ys=some (l++ys):=by
 unfold apd;rw [decide_eq_true h];rfl
section
variable {k:Nat} {f0:List E5} {gl:List Ah} {nm:Ah} {at_ pc sl:Int} {cs:List V3} {lo:List Ah} {lp:Int} {ab:List Ah}
theorem Ait (t:Ah) (hg:gl.length<=400000) (hk:500000<=k):M9.f k f0 gl nm at_ pc sl cs lo lp ab t=some (EU gl t):=by
 unfold M9.f EU;rw [containsS k gl t (by omega) (by omega)];simp only [Aq];cases G1 gl t with
 | true=>rfl
 | false =>
  rw [Lm (by simp;omega)];rfl
theorem Bjg (x0:Int) (t:Ah) (x2 a:Int) (x4:List Tree) (hg:gl.length<=400000) (ho:lo.length<=400000) (ha:ab.length<=400000) (hk:500000<=k) :
  OJ.f k f0 gl nm at_ pc sl cs lo lp ab x0 t x2 a x4=some (NZ a t gl lo ab):=by
 unfold OJ.f NZ;rw [VA,containsS k lo t (by omega) (by omega),containsS k ab t (by omega) (by omega),Ait t hg hk];simp only [Aq];cases Ef t with
 | true=>rfl
 | false =>
  cases G1 lo t with
  | true=>rfl
  | false=>cases G1 ab t <;> rfl
theorem const_eq (x0:Int) (x1:Ah) (x2 a:Int) (x4:List Tree) (v0 v1:Int) (v2:Ah) (hc:cs.length<=400000) (hk:500000<=k) :
  M8.f k f0 gl nm at_ pc sl cs lo lp ab x0 x1 x2 a x4 v0 v1 v2=some (KB a cs (v0,v1,v2)):=by
 unfold M8.f KB;rw [A0e k cs v0 v1 v2 (by omega) (by omega)];simp only [Aq];cases ME cs (v0,v1,v2) with
 | true=>rfl
 | false =>
  simp only [Bool.not_false,cond_true,Bool.false_eq_true,if_false];rw [Q6,wiC _ (by omega) (by omega)];refine Afo _ _ _ λu _=>?_;rw [Lm (by simp;omega)];rfl
theorem Af6:∀ (t pre:List Tree) (lo:Av) (m:Nat) (J:Av->Option (PC (Int×Av))) (j:Av->PC (Int×Av)),pre.length+t.length<=400000->lo.length+t.length<=900000->t.length+1<=m ->
  (∀ lo',KR lo t=.ok lo'->J lo'=some (j lo'))->Gz.l0 m (pre++t) J (pre.length:Int) lo=some ((KR lo t).th j)
 | [],pre,lo,m,J,j,hl,ho,hm,hJ=>by
  obtain ⟨m,rfl⟩:∃ m',m=m'+1:=⟨m - 1,by omega⟩;simp only [Gz.l0];rw [ltF (by simp)];exact hJ lo rfl
 | x :: t,pre,lo,m,J,j,hl,ho,hm,hJ=>by
  obtain ⟨m,rfl⟩:∃ m',m=m'+1:=⟨m - 1,by omega⟩;simp only [AW] at hl ho hm;simp only [Gz.l0];rw [Hj (by simp;omega),HZ];simp only [cond_true,Aq,AM,VA];unfold KR;cases hq:Ef x.text with
  | true=>rfl
  | false =>
   simp only [cond_false,Bool.false_eq_true,if_false];rw [Lm (by simp;omega),wiC _ (by omega) (by omega)];have ih:=Af6 t (pre++[x]) (lo++[x.text]) m J j (by simp;omega) (by simp;omega) (by omega) λlo' h=>hJ lo' (by unfold KR;rw [hq];exact h);rw [C7,BQ] at ih;exact ih
theorem Xr (x0:Int) (x1:Ah) (x2 a:Int) (x4:List Tree) (l:List Tree) (hl:l.length<=400000) (ho:lo.length<=400000) (hk:500000<=k) :
  Gz.f k f0 gl nm at_ pc sl cs lo lp ab x0 x1 x2 a x4 l=some (Fv a sl lo l):=by
 unfold Gz.f AM Fv;refine Af6 l [] lo k _ _ (by simpa using hl) (by omega) (by omega) λlo' _=>?_;rw [Q6];exact Afo _ _ _ λ_ _=>rfl
end
def A5a (k n:Int) (t:Ah) (l:List Tree):Prop :=
 t.size<=30000/\(k=7->l.length=2)/\(k=25->l.length=2)/\(k=26->4<=l.length)/\(k=21\/k=22->∃ m:Nat,n=m/\m<=l.length)/\(k=27->∃ m:Nat,n=m/\m+1<=l.length)/\(k=31->∃ m:Nat,n=m/\l.length=m+1)
mutual
def gw:Tree->Prop
 | .mk k t n _ l=>A5a k n t l/\MC l
def MC:List Tree->Prop
 | []=>True
 | x :: l=>gw x/\MC l
end
theorem JV:∀ {l:List Tree},MC l ↔ ∀ x ∈ l,gw x
 | []=>by simp [MC]
 | x :: l=>by simp [MC,JV (l:=l)]
mutual
theorem Av7:∀ {t:Tree},wfT t->gw t
 | .mk k t n a l,⟨⟨h1,h2,h3,h4,h5,h6,h7⟩,hl⟩=>⟨⟨h1,h3,h4,h5,h6,h7,λh=>absurd h h2⟩,Ac2 hl⟩
theorem Ac2:∀ {l:List Tree},Hb l->MC l
 | [],_=>trivial
 | _ :: _,h=>⟨Av7 h.1,Ac2 h.2⟩
end
theorem A4h {t:Tree} (h:fnT t):gw t:=by
 cases t with
 | mk k t n a l =>
  obtain ⟨h1,h2,h3,h4⟩:=h;subst h2;exact ⟨⟨h1,nx rfl,nx rfl,nx rfl,nx rfl,nx rfl,λ_=>h3⟩,Ac2 h4⟩
theorem Mu (t:Tree):1<=sz t:=by cases t;simp only [sz];omega
theorem IJ {x:Tree}:∀ {l:List Tree},x ∈ l->sz x<=A_ l
 | y :: l,h=>by
  simp only [A_];rcases List.mem_cons.1 h with rfl | h;omega;have:=IJ h;omega
theorem Nu (l:List Tree) (i:Nat):A_ (l.take i)+A_ (l.drop i)=A_ l:=by rw [<- DY,List.take_append_drop]
theorem I2 {l:List Tree} {i:Nat} (h:i < l.length):Cb l i=l[i]/\Cb l i ∈ l:=by
 unfold Cb;rw [List.getElem?_eq_getElem h];exact ⟨rfl,List.getElem_mem h⟩
theorem A0y {l:List Tree} {i:Nat} (h:i < l.length):l.drop i=Cb l i :: l.drop (i+1):=by
 rw [(I2 h).1];exact List.drop_eq_getElem_cons h
theorem Mv {l:List Tree} {i:Nat} (h:i < l.length):A_ (l.take i)+sz (Cb l i)+A_ (l.drop (i+1))=A_ l:=by
 have:=Nu l i;rw [A0y h] at this;simp only [A_] at this;omega
def pot (s:Bo):Nat:=s.fs.length+s.gl.length+s.cs.length+s.lo.length
structure Post (s s':Bo) (n:Nat):Prop where
 pre:s.lo <+: s'.lo
 lp:s'.lp=s.lp
 pot:pot s'<=pot s+n
theorem Post.refl (s:Bo):Post s s 0:=⟨List.prefix_refl _,rfl,Nat.le_refl _⟩
theorem Post.trans {s s1 s2:Bo} {n m:Nat} (h:Post s s1 n) (h':Post s1 s2 m):Post s s2 (n+m):=⟨h.pre.trans h'.pre,h'.lp.trans h.lp,by have:=h.pot;have:=h'.pot;omega⟩
theorem Post.weak {s s':Bo} {n m:Nat} (h:Post s s' n) (hm:n<=m):Post s s' m:=⟨h.pre,h.lp,by have:=h.pot;omega⟩
theorem Ab1 {α:Type} {a b:List α} (h:a <+: b):b.take a.length=a:=by obtain ⟨t,rfl⟩:=h;simp
theorem Aq3 {α:Type} {a b:List α} (h:a <+: b):a.length<=b.length:=by obtain ⟨t,rfl⟩:=h;simp
theorem Cu {α β ε:Type} {x:PR α ε} {f:α->PR β ε} {b:β} (h:x.th f=.ok b):∃ a,x=.ok a/\f a=.ok b:=by
 cases x with
 | ok a=>exact ⟨a,rfl,h⟩
 | bad e=>cases h
theorem ZG:∀ {l:List Tree} {lo lo':List Ah},KR lo l=.ok lo'->lo'=lo++l.map Tree.text
 | [],lo,lo',h=>by cases h;simp
 | x :: l,lo,lo',h=>by
  unfold KR at h;split at h;cases h;rw [ZG h];simp
theorem Qz {a sl:Int} {lo:List Ah} {l:List Tree} {r:Int×List Ah} (h:Fv a sl lo l=.ok r):r.2=lo++l.map Tree.text/\r.2.length<=60/\r.1=max sl (r.2.length:Int):=by
 unfold Fv at h;obtain ⟨lo',h1,h⟩:=Cu h;obtain ⟨_,h2,h⟩:=Cu h;unfold Du at h2;split at h2;cases h2;cases h;refine ⟨ZG h1,by show lo'.length<=60;omega,?_⟩;show (if ((lo'.length:Nat):Int) > sl then ((lo'.length:Nat):Int) else sl)=max sl (lo'.length:Int);split <;> omega
theorem Qw (gl:List Ah) (t:Ah):(EU gl t).length<=gl.length+1:=by unfold EU;split <;> simp
theorem Xu {a:Int} {cs cs':List V3} {v:V3} (h:KB a cs v=.ok cs'):cs'.length<=cs.length+1:=by
 unfold KB at h;split at h;cases h;omega;obtain ⟨_,_,h⟩:=Cu h;cases h;simp
theorem Apa {a:Int} {t:Ah} {gl lo ab gl':List Ah} (h:NZ a t gl lo ab=.ok gl'):gl'.length<=gl.length+1:=by
 unfold NZ at h;split at h;cases h;split at h;cases h;omega;split at h;cases h;cases h;exact Qw _ _
theorem VQ {f:Bo->Tree->PC Bo}:∀ {l:List Tree} {s s':Bo},(∀ s x s',x ∈ l->f s x=.ok s'->Post s s' (4 * sz x))->CZ f s l=.ok s'->Post s s' (4 * A_ l)
 | [],s,s',_,h=>by cases h;exact Post.refl _
 | x :: l,s,s',hf,h=>by
  unfold CZ at h;obtain ⟨s1,h1,h⟩:=Cu h;have:=(hf _ _ _ (DN ..) h1).trans (VQ (λs y s' hy=>hf s y s' (EI _ hy)) h);exact this.weak (by simp only [A_];omega)
theorem Afh {f:Bo->Tree->Bool->PC Bo} {n:Int}:∀ {l:List Tree} {i:Nat} {s s':Bo},(∀ s x b s',x ∈ l->f s x b=.ok s'->Post s s' (4 * sz x))->K8 f n i s l=.ok s'->Post s s' (4 * A_ l)
 | [],_,s,s',_,h=>by cases h;exact Post.refl _
 | x :: l,i,s,s',hf,h=>by
  unfold K8 at h;obtain ⟨s1,h1,h⟩:=Cu h;have:=(hf _ _ _ _ (DN ..) h1).trans (Afh (λs y b s' hy=>hf s y b s' (EI _ hy)) h);exact this.weak (by simp only [A_];omega)
theorem ZC {f:Bo->Tree->PC Bo} {a:Int} {s s':Bo} {names:List Tree} {b:Tree} {more:Nat} (hm:more=0\/more=3) (hf:∀ s s',f s b=.ok s'->Post s s' (4 * sz b)) (h:Gm f a s names b more=.ok s'):Post s s' (4 * sz b+names.length+3)/\s'.lo=s.lo:=by
 unfold Gm at h;obtain ⟨r,h1,h⟩:=Cu h;obtain ⟨s1,h2,h⟩:=Cu h;cases h;have hp:=hf _ _ h2;have hr:s.lo <+: r.2/\r.2.length<=s.lo.length+names.length+3:=by
  split at h1;have:=(Qz h1).1;rw [this];refine ⟨⟨_,by rw [C7]⟩,?_⟩;simp;omega;cases h1;exact ⟨List.prefix_refl _,by show s.lo.length<=_;omega⟩
 have h3:=Ab1 (hr.1.trans hp.pre);refine ⟨⟨by show s.lo <+: s1.lo.take s.lo.length;rw [h3];exact List.prefix_refl _,by show s1.lp - 1=s.lp;have:=hp.lp;simp only at this;omega,?_⟩,h3⟩;have hq:=hp.pot;have:=Aq3 hp.pre;simp only [pot] at hq this ⊢;rw [List.length_take];omega
theorem A3h {f:Bo->List Tree->PC Bo} {ab:Av} {s s':Bo} {k n a:Int} {t:Ah} {l:List Tree} {tg:Bool} (hf:∀ s s',f s l=.ok s'->Post s s' (4 * A_ l)) (h:NE f ab s k t n a l tg=.ok s'):Post s s' (4 * A_ l+1):=by
 unfold NE at h;split at h;obtain ⟨_,_,h⟩:=Cu h;exact (hf _ _ h).weak (by omega);split at h;obtain ⟨_,_,h⟩:=Cu h;exact (hf _ _ h).weak (by omega);split at h;obtain ⟨_,_,h⟩:=Cu h;exact (hf _ _ h).weak (by omega);split at h;obtain ⟨cs,h1,h⟩:=Cu h;have hp:=hf _ _ h;have:=Xu h1;exact ⟨hp.pre,hp.lp,by have:=hp.pot;simp only [pot] at this ⊢;omega⟩;split at h;obtain ⟨cs,h1,h⟩:=Cu h;have hp:=hf _ _ h;have:=Xu h1;exact ⟨hp.pre,hp.lp,by have:=hp.pot;simp only [pot] at this ⊢;omega⟩;split at h;obtain ⟨gl,h1,h⟩:=Cu h;have hp:=hf _ _ h;have:=Apa h1;exact ⟨hp.pre,hp.lp,by have:=hp.pot;simp only [pot] at this ⊢;omega⟩;split at h;split at h;cases h;cases h;exact (Post.refl _).weak (by omega);exact (hf _ _ h).weak (by omega)
theorem Jx:∀ {d:Nat} {ab:List Ah} {s s':Bo} {t:Tree} {tg:Bool},gw t->Bq d ab s t tg=.ok s'->Post s s' (4 * sz t)
 | 0,_,_,_,_,_,_,h=>by unfold Bq at h;cases h
 | d+1,ab,s,s',.mk k t n a l,tg,hw,h=>by
  obtain ⟨⟨hs1,hs7,YS,YT,Vv,YU,YV⟩,hw⟩:=hw;rw [JV] at hw;have hN:∀ (m:List Tree),(∀ x ∈ m,x ∈ l)->∀ ab s s',CZ (λs x=>Bq d ab s x false) s m=.ok s'->Post s s' (4 * A_ m):=λm hm ab s s' h=>VQ (λs x s' hx h=>Jx (hw x (hm x hx)) h) h;have hlen:=Fr l;simp only [sz];unfold Bq at h;split at h;obtain ⟨s1,h1,h⟩:=Cu h;cases h;have hp:=hN l (λ_ h=>h) _ _ _ h1;refine ⟨by rw [Ab1 hp.pre];exact List.prefix_refl _,hp.lp,?_⟩;have:=hp.pot;simp only [pot] at this ⊢;rw [List.length_take];omega;split at h;rename_i hk;obtain ⟨m,rfl,hm⟩:=YV hk;obtain ⟨_,_,h⟩:=Cu h;split at h;cases h;obtain ⟨_,_,h⟩:=Cu h;obtain ⟨r,h1,h⟩:=Cu h;obtain ⟨s1,h2,h⟩:=Cu h;cases h;simp only [Int.toNat_natCast] at h1 h2;have hk:=I2 (l:=l) (i:=m) (by omega);have hp:=Jx (hw _ hk.2) h2;have hb:=Qz h1;have:=Mv (l:=l) (i:=m) (by omega);have h3:=hp.pot;have h4:=Qw s.gl t;have h5:r.2.length<=m:=by rw [hb.1];simp;omega
  refine ⟨List.prefix_refl _,rfl,?_⟩;have:=Fr (l.take m);rw [List.length_take] at this;simp only [pot,BQ,AW,Bp] at h3 ⊢;omega;split at h;rename_i hk;obtain ⟨m,rfl,hm⟩:=Vv (.inl hk);obtain ⟨_,_,h⟩:=Cu h;obtain ⟨_,_,h⟩:=Cu h;obtain ⟨s1,h1,h⟩:=Cu h;obtain ⟨r,h2,h⟩:=Cu h;cases h;simp only [Int.toNat_natCast] at h1 h2;have hp:=hN _ (λx hx=>List.mem_of_mem_drop hx) _ _ _ h1;have hb:=Qz h2;have:=Nu l m;have:=Fr (l.take m);refine ⟨hp.pre.trans ⟨_,hb.1.symm⟩,hp.lp,?_⟩;have h3:=hp.pot;simp only [pot] at h3 ⊢;rw [hb.1];simp only [BQ,List.length_map];omega;split at h;obtain ⟨_,_,h⟩:=Cu h;obtain ⟨_,_,h⟩:=Cu h;exact (Afh (λs x b s' hx h=>Jx (hw x hx) h) h).weak (by omega);split at h;rename_i hk;have h2:=YS hk;obtain ⟨s1,h1,h⟩:=Cu h;have k0:=I2 (l:=l) (i:=0) (by omega);have k1:=I2 (l:=l) (i:=1) (by omega);have hp:=Jx (hw _ k0.2) h1;have hq:=(ZC (.inl rfl) (λs s' h=>Jx (hw _ k1.2) h) h).1;have e1:=Mv (l:=l) (i:=1) (by omega);have e2:A_ (l.take 1)=sz (Cb l 0):=by
   have:=Mv (l:=l) (i:=0) (by omega);have:=Nu l 1;simp only [List.take_zero,A_,Nat.zero_add] at *;omega
  exact (hp.trans hq).weak (by simp only [Bp];omega);split at h;rename_i hk;have h2:=YT hk;obtain ⟨s1,h1,h⟩:=Cu h;have kl:=I2 (l:=l) (i:=l.length - 1) (by omega);have hp:=hN _ (λx hx=>List.mem_of_mem_drop (List.mem_of_mem_take hx)) _ _ _ h1;have hq:=(ZC (.inr rfl) (λs s' h=>Jx (hw _ kl.2) h) h).1;have e1:=Mv (l:=l) (i:=l.length - 1) (by omega);have e2:A_ ((l.drop 1).take (l.length - 2))+A_ (l.take 1)<=A_ (l.take (l.length - 1)):=by
   have:=Nu (l.take (l.length - 1)) 1;rw [List.drop_take,List.take_take,Nat.min_eq_left (by omega),show l.length - 1 - 1=l.length - 2 by omega] at this;omega
  have e3:=Fr (l.take 1);exact (hp.trans hq).weak (by omega);split at h;rename_i hk;obtain ⟨m,rfl,hm⟩:=YU hk;obtain ⟨_,_,h⟩:=Cu h;obtain ⟨_,_,h⟩:=Cu h;obtain ⟨s1,h1,h⟩:=Cu h;simp only [Int.toNat_natCast] at h1 h;have kl:=I2 (l:=l) (i:=l.length - 1) (by omega);have hp:=hN _ (λx hx=>List.mem_of_mem_drop (List.mem_of_mem_take hx)) _ _ _ h1;have hq:=(ZC (.inr rfl) (λs s' h=>Jx (hw _ kl.2) h) h).1;have e1:=Mv (l:=l) (i:=l.length - 1) (by omega);have e2:A_ ((l.drop m).take (l.length - 1 - m))+A_ (l.take m)<=A_ (l.take (l.length - 1)):=by
   have:=Nu (l.take (l.length - 1)) m;rw [List.drop_take,List.take_take,Nat.min_eq_left (by omega)] at this;omega
  have e3:=Fr (l.take m);exact (hp.trans hq).weak (by omega);split at h;split at h;cases h;cases h;exact (Post.refl _).weak (by omega);exact (A3h (λs s' h=>hN l (λ_ h=>h) _ _ _ h) h).weak (by omega)
structure BdC (s:Bo) (ab:List Ah) (n:Nat):Prop where
 pot:pot s+4 * n<=400000
 ab:ab.length<=400000
 lp0:0<=s.lp
 lp:s.lp+n<=400000
theorem BdC.weak {s:Bo} {ab:List Ah} {n m:Nat} (h:BdC s ab n) (hm:m<=n):BdC s ab m:=⟨by have:=h.pot;omega,h.ab,h.lp0,by have:=h.lp;omega⟩
theorem BdC.step {s s':Bo} {ab:List Ah} {n m:Nat} (h:BdC s ab (n+m)) (hp:Post s s' (4 * n)):BdC s' ab m:=⟨by have:=h.pot;have:=hp.pot;omega,h.ab,by rw [hp.lp];exact h.lp0,by rw [hp.lp];have:=h.lp;omega⟩
section
variable {α β γ δ ε:Type}
theorem bindM {x:PR α ε} {g:α->β} {F:β->Option (PR γ ε)} {f:α->PR δ ε} {h:δ->γ} (H:∀ a,x=.ok a->F (g a)=some (PR.mp h (f a))):PR.bind (some (PR.mp g x)) F=some (PR.mp h (x.th f)):=by
 cases x with
 | ok a=>exact H a rfl
 | bad e=>rfl
theorem Hu {x:PR α ε} {F:α->Option (PR γ ε)} {f:α->PR δ ε} {h:δ->γ} (H:∀ a,x=.ok a->F a=some (PR.mp h (f a))):PR.bind (some x) F=some (PR.mp h (x.th f)):=by
 cases x with
 | ok a=>exact H a rfl
 | bad e=>rfl
end
theorem eqC {a b:Int} (h:a=b):(a == b)=true:=beq_iff_eq.2 h
theorem Cf {a b:Int} (h:a≠b):(a == b)=false:=beq_eq_false_iff_ne.2 h
theorem Jh {α:Type} {l:List α} {lo hi:Int} (a b:Nat) (ha:lo=a) (hb:hi=b) (h1:a<=b) (h2:b<=l.length):Fi l lo hi=some ((l.drop a).take (b - a)):=by
 subst ha hb;unfold Fi;rw [decide_eq_true (by omega)];rfl
theorem Aty {α:Type} {l m:List α} (h:m <+: l):Fi l (0:Int) ((m.length:Nat):Int)=some (l.take m.length):=by
 rw [Jh 0 m.length (by omega) (by omega) (Nat.zero_le _) (Aq3 h)];rfl
theorem KI {l:List Tree} {i:Int} (m:Nat) (h:i=m) (hm:m < l.length):B7 l i=some (Cb l m):=by
 rw [h,VL hm,(I2 hm).1]
theorem UX {a b:Ah} (h:a.size+b.size<=9223372036854775807):Oj a b=some (a++b):=by
 unfold Oj;rw [decide_eq_true h];rfl
def RcN (R:CK) (d:Nat):Prop:=∀ (nm:Ah) (at_ pc:Int) (ab:List Ah) (s:Bo) (t:Tree) (tg:Bool),sz t<=d->gw t->BdC s ab (sz t) ->
 R.Dq s.fs s.gl nm at_ pc s.sl s.cs s.lo s.lp ab t.kind t.text t.n t.at_ t.kids tg=some (PR.mp Bo.Iq (Bq d ab s t tg))
abbrev nsC (d:Nat) (ab:List Ah) (s:Bo) (l:List Tree):PC Bo:=CZ (λs x=>Bq d ab s x false) s l
def RcL (R:CK) (d:Nat):Prop:=∀ (nm:Ah) (at_ pc:Int) (ab:List Ah) (s:Bo) (l:List Tree),(∀ x ∈ l,sz x<=d/\gw x)->BdC s ab (A_ l) ->
 R.Ee s.fs s.gl nm at_ pc s.sl s.cs s.lo s.lp ab l=some (PR.mp Bo.Iq (nsC d ab s l))
def RcX (R:CK) (d:Nat):Prop:=∀ (nm:Ah) (at_ pc:Int) (ab:List Ah) (s:Bo) (k:Int) (t:Ah) (n a:Int) (l:List Tree) (tg:Bool),(∀ x ∈ l,sz x<=d/\gw x)->(k=7->l.length=2)->BdC s ab (A_ l+1) ->
 R.Hy s.fs s.gl nm at_ pc s.sl s.cs s.lo s.lp ab k t n a l tg=some (PR.mp Bo.Iq (NE (λs l=>nsC d ab s l) ab s k t n a l tg))
def RcP (R:CK) (d:Nat):Prop:=∀ (nm:Ah) (at_ pc:Int) (ab:Av) (s:Bo) (k:Int) (t:Ah) (n a:Int) (l names:List Tree) (b:Tree) (more:Nat),more=0\/more=3->sz b<=d->gw b->BdC s ab (sz b+names.length+1) ->
 R.FP s.fs s.gl nm at_ pc s.sl s.cs s.lo s.lp ab k t n a l names b.kind b.text b.n b.at_ b.kids (more:Int)=some (PR.mp Bo.Iq (Gm (λs x=>Bq d ab s x false) a s names b more))
def RcF (R:CK) (d:Nat):Prop:=∀ (nm:Ah) (at_ pc:Int) (ab:List Ah) (s:Bo) (t:Ah) (m:Nat) (a:Int) (l:List Tree),(∀ x ∈ l,sz x<=d/\gw x)->l.length=m+1->BdC s ab (A_ l+1) ->
 R.Hz s.fs s.gl nm at_ pc s.sl s.cs s.lo s.lp ab 31 t (m:Int) a l=some (PR.mp Bo.Iq (Bq (d+1) ab s (.mk 31 t (m:Int) a l) false))
theorem Apm {R:CK} {d:Nat} (hR:RcN R d) (nm:Ah) (at_ pc:Int) (ab:Av):∀ (t pre:List Tree) (s:Bo) (m:Nat),pre.length+t.length<=400000->t.length+1<=m->(∀ x ∈ t,sz x<=d/\gw x)->BdC s ab (A_ t) ->
  Ee.l0 m R nm at_ pc ab (pre++t) (pre.length:Int) s.fs s.gl s.sl s.cs s.lo s.lp=some (PR.mp Bo.Iq (nsC d ab s t))
 | [],pre,s,m,hl,hm,hw,hb=>by
  obtain ⟨m,rfl⟩:∃ m',m=m'+1:=⟨m - 1,by omega⟩;simp only [Ee.l0];rw [ltF (by simp)];rfl
 | x :: t,pre,s,m,hl,hm,hw,hb=>by
  obtain ⟨m,rfl⟩:∃ m',m=m'+1:=⟨m - 1,by omega⟩;simp only [AW] at hl hm;simp only [A_] at hb;simp only [Ee.l0];rw [Hj (by simp;omega),HZ];simp only [cond_true,Aq];have hx:=hw x (DN ..);rw [hR nm at_ pc ab s x false hx.1 hx.2 (hb.weak (by omega))];unfold nsC CZ;refine bindM λs' hs'=>?_;have ih:=Apm hR nm at_ pc ab t (pre++[x]) s' m (by simp;omega) (by omega) (λy hy=>hw y (EI _ hy)) (hb.step (Jx hx.2 hs'));rw [wiC _ (by omega) (by omega)];rw [C7,BQ] at ih;exact ih
theorem Afe {R:CK} {d:Nat} (hR:RcN R d) (nm:Ah) (at_ pc:Int) (ab:Av) (n:Int):∀ (t pre:List Tree) (s:Bo) (m:Nat),pre.length+t.length<=400000->t.length+1<=m->(∀ x ∈ t,sz x<=d/\gw x)->BdC s ab (A_ t) ->
  Dq.l0 m R nm at_ pc ab n (pre++t) (pre.length:Int) s.fs s.gl s.sl s.cs s.lo s.lp=some (PR.mp Bo.Iq (K8 (λs x b=>Bq d ab s x b) n pre.length s t))
 | [],pre,s,m,hl,hm,hw,hb=>by
  obtain ⟨m,rfl⟩:∃ m',m=m'+1:=⟨m - 1,by omega⟩;simp only [Dq.l0];rw [ltF (by simp)];rfl
 | x :: t,pre,s,m,hl,hm,hw,hb=>by
  obtain ⟨m,rfl⟩:∃ m',m=m'+1:=⟨m - 1,by omega⟩;simp only [AW] at hl hm;simp only [A_] at hb;simp only [Dq.l0];rw [Hj (by simp;omega),HZ];simp only [cond_true,Aq];have hx:=hw x (DN ..);rw [hR nm at_ pc ab s x _ hx.1 hx.2 (hb.weak (by omega))];unfold K8;refine bindM λs' hs'=>?_;have ih:=Afe hR nm at_ pc ab n t (pre++[x]) s' m (by simp;omega) (by omega) (λy hy=>hw y (EI _ hy)) (hb.step (Jx hx.2 hs'));rw [wiC _ (by omega) (by omega)];rw [C7,BQ] at ih;exact ih
theorem Apo {k d:Nat} (hk:500000<=k) (hR:RcN (CK.at k) d):RcL (CK.at (k+1)) d:=λnm at_ pc ab s l hw hb=>by
 have:=Fr l;have:=hb.pot;exact Apm hR nm at_ pc ab l [] s k (by simp only [Bp];omega) (by omega) hw hb
theorem A3d {k d:Nat} (hk:500000<=k) (hR:RcL (CK.at k) d):RcX (CK.at (k+1)) d:=λnm at_ pc ab s k0 t n a l tg hw h7 hb=>by
 have hp:=hb.pot;have hlen:=Fr l;have hL:∀ s',BdC s' ab (A_ l)->PR.bind ((CK.at k).Ee s'.fs s'.gl nm at_ pc s'.sl s'.cs s'.lo s'.lp ab l) (λr13=>some (PR.ok (r13.1,r13.2.1,r13.2.2.1,r13.2.2.2.1,r13.2.2.2.2.1,r13.2.2.2.2.2)))=some (PR.mp Bo.Iq (nsC d ab s' l)):=λs' hb=>by
  rw [hR nm at_ pc ab s' l hw hb];cases nsC d ab s' l <;> rfl
 have hcs:∀ v cs,KB a s.cs v=.ok cs->BdC { s with cs:=cs } ab (A_ l):=λv cs h=>⟨by have:=Xu h;simp only [pot] at hp ⊢;omega,hb.ab,hb.lp0,by have:=hb.lp;show s.lp+_<=_;omega⟩;show Hy.g (CK.at k) k s.fs s.gl nm at_ pc s.sl s.cs s.lo s.lp ab k0 t n a l tg=_;unfold Hy.g NE AM;simp only [Q6];have Wn:s.gl.length<=400000/\s.lo.length<=400000/\s.cs.length<=400000:=by simp only [pot] at hp;omega
 by_cases h:k0=8;rw [eqC h,if_pos h,cond_true,wiC _ (by omega) (by omega)];exact Hu λ_ _=>hL s (hb.weak (by omega));rw [Cf h,if_neg h,cond_false];by_cases h:k0=30;rw [eqC h,if_pos h,cond_true];exact Hu λ_ _=>hL s (hb.weak (by omega));rw [Cf h,if_neg h,cond_false];by_cases h:k0=12;rw [eqC h,if_pos h,cond_true];exact Hu λ_ _=>hL s (hb.weak (by omega));rw [Cf h,if_neg h,cond_false];by_cases h:k0=4;rw [eqC h,if_pos h,cond_true,const_eq _ _ _ _ _ _ _ _ Wn.2.2 hk];exact Hu λcs hcs'=>hL { s with cs:=cs } (hcs _ _ hcs');rw [Cf h,if_neg h,cond_false];by_cases h:k0=5;rw [eqC h,if_pos h,cond_true,const_eq _ _ _ _ _ _ _ _ Wn.2.2 hk];exact Hu λcs hcs'=>hL { s with cs:=cs } (hcs _ _ hcs');rw [Cf h,if_neg h,cond_false];by_cases h:k0=6;rw [eqC h,if_pos h,cond_true,Bjg _ _ _ _ _ Wn.1 Wn.2.1 hb.ab hk];exact Hu λgl hgl=>hL { s with gl:=gl } ⟨by have:=Apa hgl;simp only [pot] at hp ⊢;omega,hb.ab,hb.lp0,by have:=hb.lp;show s.lp+_<=_;omega⟩;rw [Cf h,if_neg h,cond_false];by_cases h:k0=7;rw [eqC h,cond_true];have h2:=h7 h;rw [KI 0 (by omega) (by omega)];simp only [Aq];by_cases h6:(Cb l 0).kind=6;rw [eqC h6,cond_true,VA];simp only [Aq];cases hq:Ef (Cb l 0).text with
 | false =>
  rw [cond_false,if_neg (λe=>by cases e.2.2)];exact hL s (hb.weak (by omega))
 | true =>
  rw [cond_true,if_pos ⟨h,h6,rfl⟩,KI 1 (by omega) (by omega)];simp only [Aq];unfold UR;cases tg with
  | true=>rfl
  | false =>
   simp only [cond_false,Bool.false_or];by_cases h5:(Cb l 1).kind=5;have e5:((Cb l 1).kind != 5)=false:=by simp [h5]
   have w0:=(hw _ (I2 (l:=l) (i:=0) (by omega)).2).2;have w1:=(hw _ (I2 (l:=l) (i:=1) (by omega)).2).2;have z0:(Cb l 0).text.size<=30000:=by
    cases hx:Cb l 0 with
    | mk k1 t1 n1 a1 l1=>rw [hx] at w0;exact w0.1.1
   have z1:(Cb l 1).text.size<=30000:=by
    cases hx:Cb l 1 with
    | mk k1 t1 n1 a1 l1=>rw [hx] at w1;exact w1.1.1
   have zd:(⟨#[46]⟩:Ah).size=1:=rfl;rw [e5,UX (by omega)];simp only [cond_false,Bool.false_or,Aq];rw [UX (by rw [ByteArray.size_append];omega)];simp only [Aq];rw [Bi8 k (by omega)];simp only [Aq];cases Jw (((Cb l 0).text++Afj++(Cb l 1).text).toList) == 0 <;> rfl;have e5:((Cb l 1).kind != 5)=true:=by simp [h5]
   rw [e5];rfl
 rw [Cf h6,if_neg (λe=>h6 e.2.1)];exact hL s (hb.weak (by omega));rw [Cf h,if_neg (λe=>h e.1),cond_false];exact hL s (hb.weak (by omega))
theorem Bjc {k d:Nat} (hk:500000<=k) (hR:RcN (CK.at k) d):RcP (CK.at (k+1)) d:=λnm at_ pc ab s k0 t n a l names b more hm hd hw hb=>by
 have hp:=hb.pot;have hlp:=hb.lp;have Byx:=hb.lp0;show FP.g (CK.at k) k s.fs s.gl nm at_ pc s.sl s.cs s.lo s.lp ab k0 t n a l names b.kind b.text b.n b.at_ b.kids (more:Int)=_;unfold FP.g Gm AM Xd;have hlo:s.lo.length+4<=400000:=by simp only [pot] at hp;omega
 rw [decide_eq_true (by rw [Int.toNat_natCast];omega)];simp only [cond_true,Aq,Int.toNat_natCast];have tail:∀ r:Int×List Ah,s.lo <+: r.2->r.2.length<=s.lo.length+names.length+3 ->
   PR.bind ((CK.at k).Dq s.fs s.gl nm at_ pc r.1 s.cs r.2 (Au (s.lp+1)) ab b.kind b.text b.n b.at_ b.kids false) (λCa=>(Fi Ca.2.2.2.2.1 (0:Int) ((s.lo.length:Nat):Int)).bind λFa=>some (PR.ok (Ca.1,Ca.2.1,Ca.2.2.1,Ca.2.2.2.1,Fa,Au (Ca.2.2.2.2.2 - 1))))
   =some (PR.mp Bo.Iq ((Bq d ab { s with sl:=r.1,lo:=r.2,lp:=s.lp+1 } b false).th λs'=>.ok { s' with lo:=s'.lo.take s.lo.length,lp:=s'.lp - 1 })):=λr h1 h2=>by
  rw [wiC _ (by omega) (by omega)];have hb':BdC { s with sl:=r.1,lo:=r.2,lp:=s.lp+1 } ab (sz b):=⟨by simp only [pot] at hp ⊢;omega,hb.ab,by show 0<=s.lp+1;omega,by show s.lp+1+_<=_;omega⟩;have:=hR nm at_ pc ab { s with sl:=r.1,lo:=r.2,lp:=s.lp+1 } b false hd hw hb';simp only at this;rw [this];refine bindM λs' hs'=>?_;have hq:=Jx hw hs';have hl':s'.lp=s.lp+1:=hq.lp;show (Fi s'.lo (0:Int) ((s.lo.length:Nat):Int)).bind _=_;rw [Aty (h1.trans hq.pre),Aq,show s'.Iq.2.2.2.2.2=s'.lp from rfl,wiC _ (by omega) (by omega)];rfl
 rcases hm with rfl | rfl;simp only [List.replicate_zero,List.append_nil];rw [decide_eq_false (p:=((0:Nat):Int) > 0) (by omega),cond_false,if_neg (by omega)];have:=tail (s.sl,s.lo) (List.prefix_refl _) (by show s.lo.length<=_;omega);exact this;rw [decide_eq_true (p:=((3:Nat):Int) > 0) (by omega),cond_true];rw [Xr _ _ _ _ _ _ (by omega) (by simp;omega) hk,if_pos (by omega)];refine Hu λr hr=>?_;have hr':=Qz hr;refine tail r ?_ ?_;rw [hr'.1];exact ⟨_,by rw [C7]⟩;rw [hr'.1];simp;omega
theorem A4i {k d:Nat} (hk:500000<=k) (hR:RcN (CK.at k) d):RcF (CK.at (k+1)) d:=λnm at_ pc ab s t m a l hw hm hb=>by
 have hp:=hb.pot;have hlen:=Fr l;have X_:=I2 (l:=l) (i:=m) (by omega);have hks:=Mv (l:=l) (i:=m) (by omega);have hts:=Fr (l.take m);rw [List.length_take] at hts;have Byu:=Qw s.gl t;have hpp:s.fs.length<=400000/\s.gl.length<=399999/\s.lo.length<=400000:=by simp only [pot] at hp;omega
 show Hz.g (CK.at k) k s.fs s.gl nm at_ pc s.sl s.cs s.lo s.lp ab 31 t (m:Int) a l=_;unfold Hz.g AM Bq;rw [if_neg (by decide),if_pos rfl,Q6];refine Hu λ_ _=>?_;rw [VA];simp only [Aq];cases hq:Ef t with
 | true=>rfl
 | false =>
  simp only [cond_false,Bool.false_eq_true,if_false];rw [Q6];refine Hu λ_ _=>?_;rw [Ait t (by omega) hk,Aq,Jh 0 m (by omega) (by omega) (Nat.zero_le _) (by omega),Aq];simp only [List.drop_zero,Nat.sub_zero,Int.toNat_natCast];rw [Xr _ _ _ _ _ _ (by rw [List.length_take];omega) (by simp) hk];refine Hu λr hr=>?_;have hr':=Qz hr;have hrl:r.2.length<=m:=by rw [hr'.1];simp;omega
  rw [KI m (by omega) (by omega),Aq];have hw':=hw _ X_.2;have hb':BdC ⟨s.fs,EU s.gl t,r.1,[],r.2,0⟩ s.lo (sz (Cb l m)):=⟨by simp only [pot,Bp] at hp ⊢;omega,hpp.2.2,Int.le_refl _,by show (0:Int)+_<=_;omega⟩;have:=hR t a m s.lo ⟨s.fs,EU s.gl t,r.1,[],r.2,0⟩ (Cb l m) false hw'.1 hw'.2 hb';simp only at this;rw [this];refine bindM λs' hs'=>?_;have hq':=(Jx hw'.2 hs').pot;show (apd 64 s'.fs [(t,a,(m:Int),s'.sl,s'.cs)]).bind _=_;rw [Lm (by simp only [pot,Bp] at hp hq';simp;omega)];rfl
theorem Bj4 {k d:Nat} (hk:500000<=k) (hR:RcN (CK.at k) d) (hL:RcL (CK.at k) d) (hX:RcX (CK.at k) d) (hP:RcP (CK.at k) d) (hF:RcF (CK.at k) d):RcN (CK.at (k+1)) (d+1):=λnm at_ pc ab s x tg hd hw hb=>by
 cases x with
 | mk k0 t n a l =>
  obtain ⟨⟨hs1,hs7,YS,YT,Vv,YU,YV⟩,hw⟩:=hw;rw [JV] at hw;simp only [sz] at hd hb;have hlen:=Fr l;have hp:=hb.pot;have hwd:∀ x ∈ l,sz x<=d/\gw x:=λx hx=>⟨by have:=IJ hx;omega,hw x hx⟩;have id':∀ (x:PC Bo) ,PR.bind (some (PR.mp Bo.Iq x)) (λr=>some (PR.ok (r.1,r.2.1,r.2.2.1,r.2.2.2.1,r.2.2.2.2.1,r.2.2.2.2.2)))=some (PR.mp Bo.Iq x):=λx=>by cases x <;> rfl
  have nP:∀ {m:List Tree},(∀ x ∈ m,x ∈ l)->∀ {s s'},nsC d ab s m=.ok s'->Post s s' (4 * A_ m):=λhm _ _ h=>VQ (λs x s' hx h=>Jx (hw x (hm x hx)) h) h;show Dq.g (CK.at k) k s.fs s.gl nm at_ pc s.sl s.cs s.lo s.lp ab k0 t n a l tg=some (PR.mp Bo.Iq (Bq (d+1) ab s (.mk k0 t n a l) tg));unfold Dq.g;by_cases h31:k0=31;obtain ⟨m,rfl,hm⟩:=YV h31;subst h31;rw [Cf (by decide),cond_false,eqC rfl,cond_true,hF nm at_ pc ab s t m a l hwd hm (hb.weak (by omega)),id'];rfl;unfold Bq;by_cases h:k0=20;rw [eqC h,if_pos h,cond_true,hL nm at_ pc ab s l hwd (hb.weak (by omega))];refine bindM λs' hs'=>?_;show (Fi s'.lo (0:Int) ((s.lo.length:Nat):Int)).bind _=_;rw [Aty (nP (λ_ h=>h) hs').pre];rfl;rw [Cf h,if_neg h,cond_false,Cf h31,if_neg h31,cond_false];simp only [Q6];by_cases h:k0=21;obtain ⟨m,rfl,hm⟩:=Vv (.inl h);rw [eqC h,if_pos h,cond_true,wiC _ (by omega) (by omega)];refine Hu λ_ _=>Hu λ_ _=>?_;have hsp:=Nu l m;have hlt:=Fr (l.take m);rw [Jh m l.length (by omega) (by omega) hm (Nat.le_refl _),Aq,List.take_of_length_le (by rw [BU];omega)];rw [hL nm at_ pc ab s _ (λx hx=>hwd x (List.mem_of_mem_drop hx)) (hb.weak (by omega))];simp only [Int.toNat_natCast];refine bindM λs' hs'=>?_;have hq:=(nP (λ_ h=>List.mem_of_mem_drop h) hs').pot;rw [Jh 0 m (by omega) (by omega) (Nat.zero_le _) hm,Aq];simp only [List.drop_zero,Nat.sub_zero,Bo.Iq];rw [Xr _ _ _ _ _ _ (by rw [List.length_take];omega) (by simp only [pot] at hp hq;omega) hk];exact Hu λr hr=>rfl;rw [Cf h,if_neg h,cond_false];by_cases h:k0=22;obtain ⟨m,rfl,hm⟩:=Vv (.inr h);rw [eqC h,if_pos h,cond_true,wiC _ (by omega) (by omega)];refine Hu λ_ _=>Hu λ_ _=>?_;exact Afe hR nm at_ pc ab _ l [] s k (by simp only [Bp];omega) (by omega) hwd (hb.weak (by omega));rw [Cf h,if_neg h,cond_false];by_cases h:k0=25;have h2:=YS h;have k0:=I2 (l:=l) (i:=0) (by omega);have k1:=I2 (l:=l) (i:=1) (by omega);have e1:=Mv (l:=l) (i:=1) (by omega);have e2:A_ (l.take 1)=sz (Cb l 0):=by
   have:=Mv (l:=l) (i:=0) (by omega);have:=Nu l 1;simp only [List.take_zero,A_,Nat.zero_add] at *;omega
  rw [eqC h,if_pos h,cond_true,KI 0 (by omega) (by omega),Aq,hR nm at_ pc ab s (Cb l 0) false (hwd _ k0.2).1 (hwd _ k0.2).2 (hb.weak (by omega))];refine bindM λs' hs'=>?_;have hb':BdC s' ab (sz (Cb l 1)+0+1):=(hb.weak (m:=sz (Cb l 0)+(sz (Cb l 1)+0+1)) (by omega)).step (Jx (hwd _ k0.2).2 hs');rw [KI 1 (by omega) (by omega),Aq];have:=hP nm at_ pc ab s' 25 t n a l [] (Cb l 1) 0 (.inl rfl) (hwd _ k1.2).1 (hwd _ k1.2).2 hb';simp only [Bo.Iq];rw [h];have this:=this;simp only [Int.ofNat_zero,Int.natCast_zero] at this;rw [this];exact id' _;rw [Cf h,if_neg h,cond_false];by_cases h:k0=26;have h2:=YT h;have kl:=I2 (l:=l) (i:=l.length - 1) (by omega);have e1:=Mv (l:=l) (i:=l.length - 1) (by omega);have e2:A_ ((l.drop 1).take (l.length - 2))+A_ (l.take 1)<=A_ (l.take (l.length - 1)):=by
   have:=Nu (l.take (l.length - 1)) 1;rw [List.drop_take,List.take_take,Nat.min_eq_left (by omega),show l.length - 1 - 1=l.length - 2 by omega] at this;omega
  have e3:=Fr (l.take 1);rw [eqC h,if_pos h,cond_true,wiC _ (by omega) (by omega),Jh 1 (l.length - 1) (by omega) (by omega) (by omega) (by omega),Aq,show l.length - 1 - 1=l.length - 2 by omega];rw [hL nm at_ pc ab s _ (λx hx=>hwd x (List.mem_of_mem_drop (List.mem_of_mem_take hx))) (hb.weak (by omega))];refine bindM λs' hs'=>?_;have hb':=(hb.weak (m:=A_ ((l.drop 1).take (l.length - 2))+(sz (Cb l (l.length - 1))+(l.take 1).length+1)) (by omega)).step (nP (λx hx=>List.mem_of_mem_drop (List.mem_of_mem_take hx)) hs');rw [Jh 0 1 (by omega) (by omega) (Nat.zero_le _) (by omega),Aq,KI (l.length - 1) (by omega) (by omega),Aq];simp only [List.drop_zero,Nat.sub_zero,Bo.Iq];have:=hP nm at_ pc ab s' k0 t n a l (l.take 1) (Cb l (l.length - 1)) 3 (.inr rfl) (hwd _ kl.2).1 (hwd _ kl.2).2 hb';have this:(CK.at k).FP s'.fs s'.gl nm at_ pc s'.sl s'.cs s'.lo s'.lp ab k0 t n a l (l.take 1) (Cb l (l.length - 1)).kind (Cb l (l.length - 1)).text (Cb l (l.length - 1)).n (Cb l (l.length - 1)).at_ (Cb l (l.length - 1)).kids (3:Int)=_:=this;rw [this];exact id' _;rw [Cf h,if_neg h,cond_false];by_cases h:k0=27;obtain ⟨m,rfl,hm⟩:=YU h;have kl:=I2 (l:=l) (i:=l.length - 1) (by omega);have e1:=Mv (l:=l) (i:=l.length - 1) (by omega);have e2:A_ ((l.drop m).take (l.length - 1 - m))+A_ (l.take m)<=A_ (l.take (l.length - 1)):=by
   have:=Nu (l.take (l.length - 1)) m;rw [List.drop_take,List.take_take,Nat.min_eq_left (by omega)] at this;omega
  have e3:=Fr (l.take m);rw [eqC h,if_pos h,cond_true,wiC ((l.length:Int) - 1) (by omega) (by omega),wiC _ (by omega) (by omega)];refine Hu λ_ _=>Hu λ_ _=>?_;rw [Jh m (l.length - 1) (by omega) (by omega) (by omega) (by omega),Aq];rw [hL nm at_ pc ab s _ (λx hx=>hwd x (List.mem_of_mem_drop (List.mem_of_mem_take hx))) (hb.weak (by omega))];simp only [Int.toNat_natCast];refine bindM λs' hs'=>?_;have hb':=(hb.weak (m:=A_ ((l.drop m).take (l.length - 1 - m))+(sz (Cb l (l.length - 1))+(l.take m).length+1)) (by omega)).step (nP (λx hx=>List.mem_of_mem_drop (List.mem_of_mem_take hx)) hs');rw [Jh 0 m (by omega) (by omega) (Nat.zero_le _) (by omega),Aq,KI (l.length - 1) (by omega) (by omega),Aq];simp only [List.drop_zero,Nat.sub_zero,Bo.Iq];have:=hP nm at_ pc ab s' k0 t m a l (l.take m) (Cb l (l.length - 1)) 3 (.inr rfl) (hwd _ kl.2).1 (hwd _ kl.2).2 hb';have this:(CK.at k).FP s'.fs s'.gl nm at_ pc s'.sl s'.cs s'.lo s'.lp ab k0 t m a l (l.take m) (Cb l (l.length - 1)).kind (Cb l (l.length - 1)).text (Cb l (l.length - 1)).n (Cb l (l.length - 1)).at_ (Cb l (l.length - 1)).kids (3:Int)=_:=this;rw [this];exact id' _;rw [Cf h,if_neg h,cond_false];by_cases h:k0=29;rw [eqC h,if_pos h,cond_true];by_cases h0:s.lp=0;rw [eqC h0,if_pos h0];rfl;rw [Cf h0,if_neg h0];rfl;rw [Cf h,if_neg h,cond_false,hX nm at_ pc ab s k0 t n a l tg hwd hs7 (hb.weak (by omega)),id']
theorem VP:∀ (d k:Nat),500003+3 * d<=k->RcN (CK.at k) d
 | 0,k,_=>λnm at_ pc ab s t tg h=>by have:=Mu t;omega
 | d+1,k,hk=>by
  obtain ⟨k,rfl⟩:∃ m,k=m+3:=⟨k - 3,by omega⟩;have h0:=VP d k (by omega);have h1:=VP d (k+1) (by omega);have h2:=VP d (k+2) (by omega);exact Bj4 (by omega) h2 (Apo (by omega) h1) (A3d (by omega) (Apo (by omega) h0)) (Bjc (by omega) h1) (A4i (by omega) h1)
mutual
def htT:Tree->Nat
 | .mk _ _ _ _ l=>KH l+1
def KH:List Tree->Nat
 | []=>0
 | x :: l=>max (htT x) (KH l)
end
mutual
theorem Beq:∀ t:Tree,htT t<=sz t
 | .mk _ _ _ _ l=>by simp only [htT,sz];have:=Vw l;omega
theorem Vw:∀ l:List Tree,KH l<=A_ l
 | []=>by simp [KH,A_]
 | x :: l=>by simp only [KH,A_];have:=Beq x;have:=Vw l;omega
end
theorem Akn (J:Int->Option Int) (R:H1):∀ (t pre:List Tree) (m a:Nat),pre.length+t.length<=10000000->t.length+1<=m ->
  (∀ x ∈ t,R.DT x.kind x.text x.n x.at_ x.kids=some (htT x:Int))->DT.l0 m R (pre++t) J (a:Int) (pre.length:Int)=J ((max a (KH t):Nat):Int)
 | [],pre,m,a,hl,hm,_=>by
  obtain ⟨m,rfl⟩:∃ m',m=m'+1:=⟨m - 1,by omega⟩;simp only [DT.l0];rw [ltF (by simp)];simp [KH]
 | x :: t,pre,m,a,hl,hm,hR=>by
  obtain ⟨m,rfl⟩:∃ m',m=m'+1:=⟨m - 1,by omega⟩;simp only [AW] at hl hm;have ih:=Akn J R t (pre++[x]) m (max a (htT x)) (by simp;omega) (by omega) (λy hy=>hR y (EI _ hy));simp only [DT.l0];rw [Hj (by simp;omega),HZ];simp only [cond_true,Aq];rw [hR x (DN ..)];simp only [Aq];rw [wiC _ (by omega) (by omega)];rw [C7,BQ] at ih;have e1:(if (htT x:Int) > (a:Int) then (htT x:Int) else (a:Int))=((max a (htT x):Nat):Int):=by split <;> omega
  rw [e1];refine ih.trans (congrArg J ?_);simp only [KH];omega
theorem Akm:∀ (k:Nat) (t:Tree),sz t<=k->sz t<=1000000->DT.g (H1.at k) k t.kind t.text t.n t.at_ t.kids=some (htT t:Int)
 | 0,t,h,_=>by have:=Mu t;omega
 | k+1,.mk kd tx n a l,h,h9=>by
  simp only [sz] at h h9;have hl:=Fr l;have hh:=Vw l;unfold DT.g AM;have:=Akn (λx2=>some (Au (x2+(1:Int)))) (H1.at (k+1)) l [] (k+1) 0 (by simp only [Bp];omega) (by omega) λx hx=>by
   have:=IJ hx;exact Akm k x (by omega) (by omega)
  refine this.trans ?_;rw [wiC _ (by omega) (by omega)];simp [htT]
def st0:Bo:=⟨[(⟨#[]⟩,0,0,0,[])],[],0,[],[],0⟩
def W9 (d:Nat) (n:Tree):PC Bo:=if htT n > 100 then .bad (6,n.at_) else Bq d [] st0 n false
abbrev Rep:=List E5×List Ah×Int×Int
def Arv (a:Int):PC Bo->Rep
 | .bad e=>([],[],e.1,e.2)
 | .ok s=>((⟨#[]⟩,a,0,s.sl,s.cs) :: s.fs.tail,s.gl,0,0)
theorem Bj3:∀ {d:Nat} {ab:List Ah} {s s':Bo} {t:Tree} {tg:Bool},Bq d ab s t tg=.ok s'->s.fs <+: s'.fs:=by
 intro d;induction d with
 | zero=>intro ab s s' t tg h;unfold Bq at h;cases h
 | succ d ih =>
  have hN:∀ {m:List Tree} {ab s s'},CZ (λs x=>Bq d ab s x false) s m=.ok s'->s.fs <+: s'.fs:=by
   intro m;induction m with
   | nil=>intro ab s s' h;cases h;exact List.prefix_refl _
   | cons x m ihm =>
    intro ab s s' h;unfold CZ at h;obtain ⟨s1,h1,h⟩:=Cu h;exact (ih h1).trans (ihm h)
  have hA:∀ {m:List Tree} {n i ab s s'},K8 (λs x b=>Bq d ab s x b) n i s m=.ok s'->s.fs <+: s'.fs:=by
   intro m;induction m with
   | nil=>intro n i ab s s' h;cases h;exact List.prefix_refl _
   | cons x m ihm =>
    intro n i ab s s' h;unfold K8 at h;obtain ⟨s1,h1,h⟩:=Cu h;exact (ih h1).trans (ihm h)
  have hP:∀ {a:Int} {names:List Tree} {b:Tree} {more:Nat} {ab s s'},Gm (λs x=>Bq d ab s x false) a s names b more=.ok s'->s.fs <+: s'.fs:=by
   intro a names b more ab s s' h;unfold Gm at h;obtain ⟨r,_,h⟩:=Cu h;obtain ⟨s1,h1,h⟩:=Cu h;cases h;have h2:=ih (show Bq d ab _ b false=_ from h1);exact h2
  intro ab s s' t tg h;cases t with
  | mk k t n a l =>
   unfold Bq at h;split at h
   ·obtain ⟨s1,h1,h⟩:=Cu h;cases h;have h2:=hN h1;exact h2
   split at h
   ·obtain ⟨_,_,h⟩:=Cu h
    split at h
    ·cases h
    obtain ⟨_,_,h⟩:=Cu h;obtain ⟨r,_,h⟩:=Cu h;obtain ⟨s1,h1,h⟩:=Cu h;cases h;exact (ih h1).trans (List.prefix_append _ _)
   split at h
   ·obtain ⟨_,_,h⟩:=Cu h
    obtain ⟨_,_,h⟩:=Cu h;obtain ⟨s1,h1,h⟩:=Cu h;obtain ⟨r,_,h⟩:=Cu h;cases h;have h2:=hN h1;exact h2
   split at h
   ·obtain ⟨_,_,h⟩:=Cu h
    obtain ⟨_,_,h⟩:=Cu h;exact hA h
   split at h
   ·obtain ⟨s1,h1,h⟩:=Cu h;exact (ih h1).trans (hP h)
   split at h
   ·obtain ⟨s1,h1,h⟩:=Cu h;exact (hN h1).trans (hP h)
   split at h
   ·obtain ⟨_,_,h⟩:=Cu h
    obtain ⟨_,_,h⟩:=Cu h;obtain ⟨s1,h1,h⟩:=Cu h;exact (hN h1).trans (hP h)
   split at h
   ·split at h
    ·cases h
    ·cases h;exact List.prefix_refl _
   ·unfold NE at h
    (repeat' split at h) <;> first
     | (cases h;done)
     | (cases h;exact List.prefix_refl _)
     | exact hN h
     | (obtain ⟨_,_,h⟩:=Cu h;have h2:=hN (show CZ (λs x=>Bq d ab s x false) _ l=_ from h);exact h2)
theorem Ac1 {n:Tree} (h:wfC n):gw n/\n.kind=20:=by
 cases n with
 | mk k t n a l =>
  obtain ⟨h1,h0,h2⟩:=h;subst h1;exact ⟨⟨⟨h0,nx rfl,nx rfl,nx rfl,nx rfl,nx rfl,nx rfl⟩,JV.2 λx hx=>(h2 x hx).elim Av7 A4h⟩,rfl⟩
theorem check_eq (k:Nat) (hk:900000<=k) (s:Ah):IP.f k s=some (match Jz s with | (kd,tx,n,a,l,c,p)=>if c≠0 then ([],[],c,p) else Arv a (W9 100000 (.mk kd tx n a l))):=by
 unfold IP.f;rw [Bqk k (by omega),Aq];rcases Bp9 s with ⟨c,p,hc,he⟩ | ⟨n,he,hw,hz⟩;rw [he];unfold Nc;simp only;rw [show (c != 0)=true by rw [bne_iff_ne];exact hc,cond_true,if_pos hc];rw [he];unfold Qd;obtain ⟨hg,_⟩:=Ac1 hw;simp only [bne_self_eq_false,cond_false,AM,ne_eq,not_true_eq_false,if_false];have e:Tree.mk n.kind n.text n.n n.at_ n.kids=n:=by cases n;rfl
 rw [e,show DT.f k n.kind n.text n.n n.at_ n.kids=some (htT n:Int) from Akm k n (by omega) (by omega)];simp only [Aq];unfold W9;by_cases hh:htT n > 100;rw [decide_eq_true (by omega),if_pos hh];rfl;rw [decide_eq_false (by omega),if_neg hh,cond_false];have hb:BdC st0 [] (sz n):=⟨by simp only [pot,st0,AW,Bp];omega,by simp,Int.le_refl _,by show (0:Int)+_<=_;omega⟩;have hk':=VP 100000 (k+1) (by omega) ⟨#[]⟩ n.at_ 0 [] st0 n false (by omega) hg hb;have hk':Dq.f k [(⟨#[]⟩,0,0,0,[])] [] ⟨#[]⟩ n.at_ 0 0 [] [] 0 [] n.kind n.text n.n n.at_ n.kids false=_:=hk';rw [hk'];cases hn:Bq 100000 [] st0 n false with
 | bad e=>rfl
 | ok s' =>
  obtain ⟨t,ht⟩:=Bj3 hn;cases s' with
  | mk fs gl sl cs lo lp =>
   have ht:(⟨#[]⟩,0,0,0,[]) :: t=fs:=ht;subst ht;rfl
mutual
inductive IsE:Tree->Prop
 | atom {k n a:Int} {t:Ah}:1<=k->k<=6->IsE (.mk k t n a [])
 | index {n a:Int} {t:Ah} {x y:Tree}:IsE x->IsE y->IsE (.mk 7 t n a [x,y])
 | call {n a:Int} {t:Ah} {x:Tree} {l:List Tree}:IsE x->(∀ y ∈ l,IsE y)->IsE (.mk 8 t n a (x :: l))
 | paren {n a:Int} {t:Ah} {x:Tree}:IsE x->IsE (.mk 9 t n a [x])
 | unary {n a:Int} {t:Ah} {x:Tree}:IsE x->IsE (.mk 10 t n a [x])
 | binary {n a:Int} {t:Ah} {x y:Tree}:IsE x->IsE y->IsE (.mk 11 t n a [x,y])
 | table {n a:Int} {t:Ah} {l:List Tree}:(∀ y ∈ l,N6 y)->IsE (.mk 12 t n a l)
inductive N6:Tree->Prop
 | item {n a:Int} {t:Ah} {x:Tree}:IsE x->N6 (.mk 13 t n a [x])
 | field {n a:Int} {t:Ah} {x y:Tree}:IsE x->IsE y->N6 (.mk 14 t n a [x,y])
end
mutual
inductive FD:Tree->Prop
 | block {n a:Int} {t:Ah} {l:List Tree}:(∀ x ∈ l,IsS x)->FD (.mk 20 t n a l)
inductive IsS:Tree->Prop
 | loc {a:Int} {t:Ah} {l m:List Tree}:l≠[]->(∀ x ∈ m,IsE x)->IsS (.mk 21 t (l.length:Nat) a (l++m))
 | asg {a:Int} {t:Ah} {l m:List Tree}:l≠[]->(∀ x ∈ l,IsE x/\(x.kind=6\/x.kind=7))->m≠[]->(∀ x ∈ m,IsE x)->IsS (.mk 22 t (l.length:Nat) a (l++m))
 | run {n a:Int} {t:Ah} {x:Tree}:IsE x->x.kind=8->IsS (.mk 23 t n a [x])
 | if_ {n a:Int} {t:Ah} {l:List Tree}:IsR l->IsS (.mk 24 t n a l)
 | while_ {n a:Int} {t:Ah} {x b:Tree}:IsE x->FD b->IsS (.mk 25 t n a [x,b])
 | for_ {n a:Int} {t:Ah} {x b:Tree} {l:List Tree}:l.length=2\/l.length=3->(∀ y ∈ l,IsE y)->FD b->IsS (.mk 26 t n a (x :: l++[b]))
 | forIn {a:Int} {t:Ah} {b:Tree} {l m:List Tree}:l≠[]->m≠[]->(∀ y ∈ m,IsE y)->FD b->IsS (.mk 27 t (l.length:Nat) a (l++m++[b]))
 | do_ {n a:Int} {t:Ah} {b:Tree}:FD b->IsS (.mk 28 t n a [b])
 | break_ {n a:Int} {t:Ah}:IsS (.mk 29 t n a [])
 | ret {n a:Int} {t:Ah} {l:List Tree}:(∀ y ∈ l,IsE y)->IsS (.mk 30 t n a l)
/-- The branches of an if. -/
inductive IsR:List Tree->Prop
 | nil:IsR []
 | last {b:Tree}:FD b->IsR [b]
 | more {e b:Tree} {l:List Tree}:IsE e->FD b->IsR l->IsR (e :: b :: l)
end
inductive O4:Tree->Prop
 | fn {a:Int} {t:Ah} {l:List Tree} {b:Tree}:FD b->O4 (.mk 31 t (l.length:Nat) a (l++[b]))
inductive IsC:Tree->Prop
 | chunk {n a:Int} {t:Ah} {l:List Tree}:(∀ x ∈ l,IsS x\/O4 x)->IsC (.mk 20 t n a l)
abbrev K7 (l:List Tree):Prop:=∀ x ∈ l,IsE x
theorem Z8 {l:List Tree} {x:Tree} (h:K7 l) (hx:IsE x):K7 (l++[x]):=λy hy=>by
 rcases EH.1 hy with hy | hy;exact h y hy;obtain rfl:=EZ.1 hy;exact hx
theorem le_nil:K7 []:=λ_ h=>nomatch h
structure XE (f:Nat):Prop where
 exp:∀ least ts,R (Dz f least ts) λn _=>IsE n
 loop:∀ least n ts,IsE n->R (Fl f least n ts) λn _=>IsE n
 operand:∀ ts,R (Fc f ts) λn _=>IsE n
 fields:∀ acc ts,(∀ x ∈ acc,N6 x)->R (Fb f acc ts) λl _=>∀ x ∈ l,N6 x
 field:∀ ts,R (F1 f ts) λn _=>N6 n
 Ec:∀ ts,R (EO f ts) λn _=>IsE n
 DB:∀ at_ n ts,IsE n->R (EN f at_ n ts) λn _=>IsE n
 CW:∀ ts,R (EM f ts) λl _=>K7 l/\l≠[]
 Gh:∀ acc ts,K7 acc->acc≠[]->R (Fk f acc ts) λl _=>K7 l/\l≠[]
theorem Uz (ts:List Tk):R (Ja 6 ts) λn _=>IsE n/\n.kind=6:=R.ite (λ_=>R.ok ⟨.atom (by decide) (by decide),rfl⟩) λ_=>R.bad
theorem Bve (ts:List Tk):R (Ja 5 ts) λn _=>IsE n:=R.ite (λ_=>R.ok (.atom (by decide) (by decide))) λ_=>R.bad
theorem Iv (w:Ah) (ts:List Tk):R (FG w ts) λ_ _=>True:=R.ite (λ_=>R.ok Aj) λ_=>R.bad
theorem Adg:∀ (f:Nat) (acc:List Tree) (ts:List Tk),acc≠[]->R (Gq f acc ts) λl _=>l≠[]
 | 0,_,_,_=>R.none
 | f+1,acc,ts,h=>by
  unfold Gq;exact R.ite (λ_=>R.bind (Uz ts.tail) λn r _=>Adg f _ r (by simp)) λ_=>R.ok h
theorem Awj (f:Nat) (ts:List Tk):R (Nd f ts) λl _=>l≠[]:=R.bind (Uz ts) λn r _=>Adg f _ r (by simp)
theorem xE:∀ f,XE f
 | 0=>by constructor <;> intros <;> (first | rw [Dz] | rw [Fl] | rw [Fc] | rw [Fb] | rw [F1] | rw [EO] | rw [EN] | rw [EM] | rw [Fk]) <;> exact R.none
 | f+1=>by
  have ih:=xE f;constructor;intro least ts;unfold Dz;exact R.bind (ih.operand ts) λn r hn=>ih.loop _ _ _ hn;intro least n ts hw;unfold Fl;refine R.ite (λ_=>R.ok hw) λ_=>R.bind (ih.exp _ _) λm r hm=>ih.loop _ _ _ (.binary hw hm);intro ts;unfold Fc;refine R.ite (λ_=>R.ok (.atom (by decide) (by decide))) λ_=>?_;refine R.ite (λ_=>R.ok (.atom (by decide) (by decide))) λ_=>?_;refine R.ite (λ_=>R.ok (.atom (by decide) (by decide))) λ_=>?_;refine R.ite (λ_=>R.ok (.atom (by decide) (by decide))) λ_=>?_;refine R.ite (λ_=>R.ok (.atom (by decide) (by decide))) λ_=>?_;refine R.ite (λ_=>R.bind (ih.exp _ _) λm r hm=>R.ok (.unary hm)) λ_=>?_;refine R.ite (λ_=>R.bind (ih.fields _ _ (λ_ h=>nomatch h)) λl r hl=>R.ok (.table hl)) λ_=>?_
  exact ih.Ec _;intro acc ts ha;unfold Fb;refine R.ite (λ_=>R.ok ha) λ_=>R.bind (ih.field ts) λx r hx=>?_;have hs:∀ y ∈ acc++[x],N6 y:=λy hy=>by
   rcases EH.1 hy with hy | hy;exact ha y hy;obtain rfl:=EZ.1 hy;exact hx
  refine R.ite (λ_=>ih.fields _ _ hs) λ_=>R.ite (λ_=>ih.fields _ _ hs) λ_=>?_;exact R.bind (Iv _ _) λ_ s hr=>R.ok hs;intro ts;unfold F1;refine R.ite (λ_=>?_) λ_=>R.ite (λ_=>?_) λ_=>?_;exact R.bind (ih.exp _ _) λk r hk=>R.bind (Iv _ _) λ_ r hr=>R.bind (Iv _ _) λ_ r hr=>R.bind (ih.exp _ _) λv r hv=>R.ok (.field hk hv);exact R.bind (ih.exp _ _) λv r hv=>R.ok (.field (.atom (by decide) (by decide)) hv);exact R.bind (ih.exp _ _) λv r hv=>R.ok (.item hv);intro ts;unfold EO;refine R.ite (λ_=>?_) λ_=>?_;exact R.bind (ih.exp _ _) λe r he=>R.bind (Iv _ _) λ_ r hr=>ih.DB _ _ _ (.paren he);exact R.bind (Uz _) λn r hn=>ih.DB _ _ _ hn.1;intro at_ n ts hw;unfold EN;refine R.ite (λ_=>?_) λ_=>R.ite (λ_=>?_) λ_=>R.ite (λ_=>?_) λ_=>R.ok hw;exact R.bind (ih.exp _ _) λe r he=>R.bind (Iv _ _) λ_ r hr=>ih.DB _ _ _ (.index hw he);exact R.bind (Bve _) λe r he=>ih.DB _ _ _ (.index hw he);exact R.bind (Q1:=λl _=>K7 l) (R.ite (λ_=>R.ok le_nil) λ_=>R.weak (ih.CW _) λl _ h=>h.1) λl r hl=>R.bind (Iv _ _) λ_ r hr=>ih.DB _ _ _ (.call hw hl);intro ts;unfold EM;exact R.bind (ih.exp _ _) λe r he=>ih.Gh _ _ (Z8 le_nil he) (by simp);intro acc ts ha hn;unfold Fk;exact R.ite (λ_=>R.bind (ih.exp _ _) λe r he=>ih.Gh _ _ (Z8 ha he) (by simp)) λ_=>R.ok ⟨ha,hn⟩
def QJ (c:Bool) (x:Tree):Prop:=IsS x\/(c=true/\O4 x)
theorem Zc {c:Bool} {acc:List Tree} {x:Tree} (h:∀ y ∈ acc,QJ c y) (hx:QJ c x):∀ y ∈ acc++[x],QJ c y:=λy hy=>by
 rcases EH.1 hy with hy | hy;exact h y hy;obtain rfl:=EZ.1 hy;exact hx
theorem IsR.Afd:∀ {acc:List Tree} {e b:Tree},IsR acc->(∃ m,acc.length=2 * m)->IsE e->FD b->IsR (acc++[e]++[b])/\(∃ m,(acc++[e]++[b]).length=2 * m)
 | [],e,b,_,_,he,hb=>⟨.more he hb .nil,1,rfl⟩
 | [_],e,b,_,⟨m,hm⟩,_,_=>by simp at hm;omega
 | x :: y :: l,e,b,h,⟨m,hm⟩,he,hb=>by
  cases h with
  | more h1 h2 h3 =>
   obtain ⟨h4,m',h5⟩:=IsR.Afd h3 ⟨m - 1,by simp at hm;omega⟩ he hb;exact ⟨.more h1 h2 h4,m'+1,by simp at h5 ⊢;omega⟩
theorem IsR.app1:∀ {acc:List Tree} {b:Tree},IsR acc->(∃ m,acc.length=2 * m)->FD b->IsR (acc++[b])
 | [],b,_,_,hb=>.last hb
 | [_],b,_,⟨m,hm⟩,_=>by simp at hm;omega
 | x :: y :: l,b,h,⟨m,hm⟩,hb=>by
  cases h with
  | more h1 h2 h3=>exact .more h1 h2 (IsR.app1 h3 ⟨m - 1,by simp at hm;omega⟩ hb)
structure XS (f:Nat):Prop where
 block:∀ c ts,R (EA f c ts) λn _=>∃ a l,n=.mk 20 noB 0 a l/\∀ x ∈ l,QJ c x
 Ek:∀ c at_ acc ts,(∀ x ∈ acc,QJ c x)->R (EL f c at_ acc ts) λn _=>∃ a l,n=.mk 20 noB 0 a l/\∀ x ∈ l,QJ c x
 function:∀ ts,R (F3 f ts) λn _=>O4 n
 body:∀ ts,R (EY f ts) λn _=>FD n
 stat:∀ ts,R (F5 f ts) λn _=>IsS n
 branches:∀ acc ts,IsR acc->(∃ m,acc.length=2 * m)->R (Fj f acc ts) λl _=>IsR l
 for_:∀ at_ ts,R (F2 f at_ ts) λn _=>IsS n
 plain:∀ ts,R (F4 f ts) λn _=>IsS n
 targets:∀ acc e ts,(∀ x ∈ acc,IsE x/\(x.kind=6\/x.kind=7))->IsE e->R (Fm f acc e ts) λl _=>l≠[]/\∀ x ∈ l,IsE x/\(x.kind=6\/x.kind=7)
theorem xS:∀ f,XS f
 | 0=>by constructor <;> intros <;> (first | unfold EA | unfold EL | unfold F3 | unfold EY | unfold F5 | unfold Fj | unfold F2 | unfold F4 | unfold Fm) <;> exact R.none
 | f+1=>by
  have ih:=xS f;have ie:=xE f;have blk:∀ ts,R (EA f false ts) λn _=>FD n:=λts=>R.weak (ih.block false ts) λn r ⟨a,l,e,hl⟩=>by
   rw [e];exact .block λx hx=>(hl x hx).elim id λh=>nomatch h.1
  constructor;intro c ts;unfold EA;exact ih.Ek _ _ _ _ (λ_ hx=>nomatch hx)
  intro c at_ acc ts ha;unfold EL;refine R.ite (λ_=>ih.Ek _ _ _ _ ha) λ_=>R.ite (λ_=>?_) λ_=>R.ite (λhc=>?_) λ_=>R.ite (λ_=>R.ok ⟨_,_,rfl,ha⟩) λ_=>?_;exact R.bind (Q1:=λl _=>K7 l) (R.ite (λ_=>R.ok le_nil) λ_=>R.weak (ie.CW _) λl _ h=>h.1) λl r hl=>R.ok ⟨_,_,rfl,Zc ha (.inl (.ret hl))⟩;have hc':c=true:=by simp only [Bool.and_eq_true] at hc;exact hc.1
  exact R.bind (ih.function ts) λx r hx=>ih.Ek _ _ _ _ (Zc ha (.inr ⟨hc',hx⟩));exact R.bind (ih.stat ts) λx r hx=>ih.Ek _ _ _ _ (Zc ha (.inl hx));intro ts;unfold F3;exact R.bind (Uz _) λnm r hn=>R.bind (Iv _ _) λ_ r hr=>R.bind (Q1:=λ_ _=>True) (R.ite (λ_=>R.ok Aj) λ_=>R.weak (Awj f _) λ_ _ _=>Aj) λps r hp=>R.bind (Iv _ _) λ_ r hr=>R.bind (blk _) λb r hb=>R.bind (Iv _ _) λ_ r hr=>R.ok (.fn hb);intro ts;unfold EY;exact R.bind (Iv _ _) λ_ r hr=>R.bind (blk _) λb r hb=>R.bind (Iv _ _) λ_ r hr=>R.ok hb;intro ts;unfold F5;refine R.ite (λ_=>?_) λ_=>R.ite (λ_=>?_) λ_=>R.ite (λ_=>?_) λ_=>R.ite (λ_=>ih.for_ _ _) λ_=>R.ite (λ_=>?_) λ_=>R.ite (λ_=>R.ok .break_) λ_=>ih.plain _;exact R.bind (ih.body ts) λb r hb=>R.ok (.do_ hb);exact R.bind (ie.exp _ _) λe r he=>R.bind (ih.body _) λb r hb=>R.ok (.while_ he hb);exact R.bind (ih.branches _ _ .nil ⟨0,rfl⟩) λl r hl=>R.ok (.if_ hl);exact R.bind (Awj f _) λl r hl=>R.bind (Q1:=λl _=>K7 l) (R.ite (λ_=>R.weak (ie.CW _) λl _ h=>h.1) λ_=>R.ok le_nil) λes r he=>R.ok (.loc hl he);intro acc ts ha hm;unfold Fj;refine R.bind (ie.exp _ _) λe r he=>R.bind (Iv _ _) λ_ r hr=>R.bind (blk _) λb r hb=>?_;obtain ⟨h2,h3⟩:=IsR.Afd ha hm he hb;refine R.ite (λ_=>ih.branches _ _ h2 h3) λ_=>R.ite (λ_=>?_) λ_=>?_;exact R.bind (blk _) λc r hc=>R.bind (Iv _ _) λ_ r hr=>R.ok (IsR.app1 h2 h3 hc);exact R.bind (Iv _ _) λ_ r hr=>R.ok h2;intro at_ ts;unfold F2;refine R.bind (Uz _) λn r hn=>R.ite (λ_=>?_) λ_=>?_;refine R.bind (ie.exp _ _) λa r ha=>R.bind (Iv _ _) λ_ r hr=>R.bind (ie.exp _ _) λb r hb=>R.bind (Q1:=λl _=>K7 l/\l.length<=1) (R.ite (λ_=>R.bind (ie.exp _ _) λc r hc=>R.ok ⟨Z8 le_nil hc,Nat.le_refl _⟩) λ_=>R.ok ⟨le_nil,Nat.zero_le _⟩) λcs r hcs=>R.bind (ih.body _) λbd r hbd=>R.ok ?_;have hl:K7 ([a]++[b]++cs):=λy hy=>by
   simp only [EH,EZ] at hy;rcases hy with (rfl | rfl) | hy;exact ha;exact hb;exact hcs.1 y hy
  exact IsS.for_ (x:=n) (l:=[a]++[b]++cs) (by have:=hcs.2;simp only [BQ,AW,Bp];omega) hl hbd;exact R.bind (Adg f _ _ (by simp)) λl r hl=>R.bind (Iv _ _) λ_ r hr=>R.bind (ie.CW _) λes r he=>R.bind (ih.body _) λbd r hbd=>R.ok (.forIn hl he.2 he.1 hbd);intro ts;unfold F4;refine R.bind (ie.Ec ts) λe r he=>R.ite (λ_=>?_) λ_=>R.ite (λhk=>R.ok (.run he hk)) λ_=>R.bad;exact R.bind (ih.targets _ _ _ (λ_ h=>nomatch h) he) λl r hl=>R.bind (Iv _ _) λ_ r hr=>R.bind (ie.CW _) λes r hes=>R.ok (.asg hl.1 hl.2 hes.2 hes.1)
  intro acc e ts ha hw;unfold Fm;refine R.ite (λhk=>?_) λ_=>R.bad;have h2:∀ x ∈ acc++[e],IsE x/\(x.kind=6\/x.kind=7):=λy hy=>by
   rcases EH.1 hy with hy | hy;exact ha y hy;obtain rfl:=EZ.1 hy;exact ⟨hw,hk⟩
  exact R.ite (λ_=>R.bind (ie.Ec _) λe' r he=>ih.targets _ _ _ h2 he) λ_=>R.ok ⟨by simp,h2⟩
theorem Bu3 {ts:List Tk} {n:Tree} {r:List Tk} (h:FB true ts=.ok n r):IsC n:=by
 obtain ⟨a,l,rfl,hl⟩:=(xS (fu _)).block true ts n r (val_ok h);exact .chunk λx hx=>(hl x hx).elim .inl λh=>.inr h.2
structure RW where
 fs:List E5
 gl:List Ah
 F:Nat
 ab:List Ah
 er:Int×Int
def RW.bad (w:RW) (e a:Int):RW:=if w.er.1=0 then { w with er:=(e,a) } else w
def RW.few (w:RW) (a count most:Int):RW:=if count > most then w.bad 6 a else w
def RW.EV (w:RW) (t:Ah):RW:={ w with gl:=EU w.gl t }
def RW.mod (w:RW) (f:Int×List V3->Int×List V3):RW:={ w with fs:=w.fs.modify w.F λr=>(r.1,r.2.1,r.2.2.1,f r.2.2.2) }
def RW.slots (p:Int×List V3) (n:Int):Int×List V3:=(if n > p.1 then n else p.1,p.2)
def RW.there (w:RW) (a n:Int):RW:=(w.few a n 60).mod λp=>RW.slots p n
def Ga:RW->List Tree->RW
 | w,[]=>w
 | w,x :: r=>Ga (if Ef x.text then w.bad 5 x.at_ else w) r
def RW.brings (w:RW) (a:Int) (lo:List Ah) (names:List Tree) (h:Nat):RW×List Ah :=
 let l:=lo++List.replicate h noB++names.map Tree.text
 ((Ga w names).there a (l.length:Nat),l)
def RW.cs (w:RW):List V3:=match w.fs[w.F]? with | some r=>r.2.2.2.2 | none=>[]
def RW.const (w:RW) (a:Int) (v:V3):RW:=if ME w.cs v then w else (w.mod λp=>(p.1,p.2++[v])).few a (w.cs.length+1:Nat) 250
def RW.name (w:RW) (a:Int) (t:Ah) (lo:List Ah):RW:=if Ef t || !G1 lo t && G1 w.ab t then w.bad 5 a else if !G1 lo t then w.EV t else w
def Cn:Nat->List Ah->RW->Tree->Bool->RW
 | 0,_,w,_,_=>w
 | d+1,lo,w,.mk k t n a l,tg =>
  let all:=λw:RW=>l.foldl (λw x=>Cn d lo w x false) w
  if w.er.1≠0 then w
  else if k=8 then all (w.few a ((l.length:Nat) - 1:Int) 50)
  else if k=12 then all (w.few a (l.length:Nat) 200)
  else if k=4 then all (w.const a (2,n,noB))
  else if k=5 then all (w.const a (3,0,t))
  else if k=6 then all (w.name a t lo)
  else if k=7/\(Cb l 0).kind=6/\Ef (Cb l 0).text=true then if UR tg (Cb l 0) (Cb l 1) then w.bad 5 a else w
  else all w
def IG (f:RW->Tree->Bool->RW) (n:Int):Nat->RW->List Tree->RW
 | _,w,[]=>w
 | i,w,x :: l=>IG f n (i+1) (f w x (decide ((i:Int) < n))) l
def Hq (f:RW->List Ah->Tree->RW×List Ah):RW->List Ah->List Tree->RW
 | w,_,[]=>w
 | w,lo,x :: l=>if w.er.1≠0 then w else Hq f (f w lo x).1 (f w lo x).2 l
mutual
def rB:Nat->RW->List Ah->Tree->Bool->RW
 | 0,w,_,_,_=>w
 | d+1,w,lo,b,lp=>Hq (λw lo x=>C9 d w lo x lp) w lo b.kids
def C9:Nat->RW->List Ah->Tree->Bool->RW×List Ah
 | 0,w,lo,_,_=>(w,lo)
 | d+1,w,lo,.mk k t n a l,lp =>
  let CW:=λ(w:RW) (l:List Tree)=>l.foldl (λw x=>Cn d lo w x false) w
  if k=31 then
   let w:=w.few a (w.fs.length:Nat) 100;let w:=if Ef t then w.bad 5 a else w
   let w:=(w.few a n 50).EV t;let w:RW:={ w with ab:=lo,F:=w.fs.length,fs:=w.fs++[(t,a,n,0,[])] };let r:=w.brings a [] (l.take n.toNat) 0
   ({ rB d r.1 r.2 (Cb l n.toNat) false with F:=0,ab:=[] },lo)
  else if k=21 then (CW ((w.few a n 50).few a (l.length - n) 50) (l.drop n.toNat)).brings a lo (l.take n.toNat) 0
  else if k=22 then (IG (λw x b=>Cn d lo w x b) n 0 ((w.few a n 50).few a (l.length - n) 50) l,lo)
  else if k=23 then (CW w l,lo)
  else if k=24 then (l.foldl (λw x=>if x.kind=20 then rB d w lo x lp else Cn d lo w x false) w,lo)
  else if k=25 then (rB d (Cn d lo w (Cb l 0) false) lo (Cb l 1) true,lo)
  else if k=26 then
   let r:=(CW w ((l.drop 1).take (l.length - 2))).brings a lo (l.take 1) 3
   (rB d r.1 r.2 (Cb l (l.length - 1)) true,lo)
  else if k=27 then
   let r:=(CW ((w.few a n 50).few a (l.length - 1 - n) 50) ((l.drop n.toNat).take (l.length - 1 - n.toNat))).brings a lo (l.take n.toNat) 3
   (rB d r.1 r.2 (Cb l (l.length - 1)) true,lo)
  else if k=28 then (rB d w lo (Cb l 0) lp,lo)
  else if k=29 then (if lp then w else w.bad 5 a,lo)
  else if k=30 then (CW (w.few a (l.length:Nat) 50) l,lo)
  else (w,lo)
end
def Ua (d:Nat) (n:Tree):List E5×List Ah×Int×Int :=
 if htT n > 100 then ([],[],6,n.at_) else
  let w:=rB d ⟨[(noB,n.at_,0,0,[])],[],0,[],(0,0)⟩ [] n false
  if w.er.1≠0 then ([],[],w.er.1,w.er.2) else (w.fs,w.gl,0,0)
theorem RW.US {w:RW} {e a:Int} (h:w.er.1≠0):(w.bad e a).er=w.er:=by unfold RW.bad;rw [if_neg h]
theorem RW.S3 {w:RW} {a c m:Int} (h:w.er.1≠0):(w.few a c m).er=w.er:=by unfold RW.few;split;exact RW.US h;rfl
theorem RW.A3t {w:RW} {a c m:Int} (h:w.er.1≠0):(w.few a c m).er.1≠0:=by rw [RW.S3 h];exact h
theorem Tw:∀ {l:List Tree} {w:RW},w.er.1≠0->(Ga w l).er=w.er
 | [],_,_=>rfl
 | x :: l,w,h=>by
  unfold Ga;split;rw [Tw (by rw [RW.US h];exact h),RW.US h];exact Tw h
theorem RW.OH {w:RW} {a:Int} {lo:List Ah} {l:List Tree} {n:Nat} (h:w.er.1≠0):(w.brings a lo l n).1.er=w.er:=by
 show ((Ga w l).few a _ 60).er=w.er;rw [RW.S3 (by rw [Tw h];exact h),Tw h]
theorem Aa4 {d:Nat} {lo:List Ah} {w:RW} {x:Tree} {tg:Bool} (h:w.er.1≠0):Cn d lo w x tg=w:=by
 cases d with
 | zero=>rfl
 | succ d=>cases x;unfold Cn;rw [if_pos h]
theorem Mc {d:Nat} {lo:List Ah}:∀ {l:List Tree} {w:RW},w.er.1≠0->l.foldl (λw x=>Cn d lo w x false) w=w
 | [],_,_=>rfl
 | x :: l,w,h=>by rw [List.foldl_cons,Aa4 h];exact Mc h
theorem Aa0 {d:Nat} {lo:List Ah} {n:Int}:∀ {l:List Tree} {i:Nat} {w:RW},w.er.1≠0->IG (λw x b=>Cn d lo w x b) n i w l=w
 | [],_,_,_=>rfl
 | x :: l,i,w,h=>by unfold IG;rw [Aa4 h];exact Aa0 h
theorem Aa3 {f:RW->List Ah->Tree->RW×List Ah} {l:List Tree} {lo:List Ah} {w:RW} (h:w.er.1≠0):Hq f w lo l=w:=by
 cases l with
 | nil=>rfl
 | cons x l=>unfold Hq;rw [if_pos h]
def RW.put (w:RW) (s:Bo):RW:={ w.mod (λ_=>(s.sl,s.cs)) with gl:=s.gl }
theorem RW.Bq0 {w:RW} {s:Bo}:(w.put s).er=w.er:=rfl
theorem RW.Bqv {w:RW} {s:Bo}:(w.put s).ab=w.ab:=rfl
theorem RW.Aq5 {w:RW} {s:Bo} {f:Int×List V3->Int×List V3}:(w.put s).mod f=w.put { s with sl:=(f (s.sl,s.cs)).1,cs:=(f (s.sl,s.cs)).2 }:=by
 unfold RW.put RW.mod;simp only [List.modify_modify_eq];rfl
theorem RW.Bqw {w:RW} {s:Bo} (h:w.F < w.fs.length):(w.put s).cs=s.cs:=by
 unfold RW.cs RW.put RW.mod;simp [h]
def Rs (w:RW) (x:PC Bo) (w':RW):Prop:=match x with | .ok s=>w'=w.put s | .bad e=>w'.er=e/\e.1≠0
theorem Rs.th {w w1 w2:RW} {x:PC Bo} {f:Bo->PC Bo} (h:Rs w x w1) (h1:∀ s,x=.ok s->w1=w.put s->Rs w (f s) w2) (h2:w1.er.1≠0->w2.er=w1.er):Rs w (x.th f) w2:=by
 cases x with
 | ok s=>exact h1 s rfl h
 | bad e =>
  obtain ⟨ha,hb⟩:=h;exact ⟨(h2 (by rw [ha];exact hb)).trans ha,hb⟩
theorem ne5:(5:Int)≠0:=by decide
theorem MV:(6:Int)≠0:=by decide
theorem OG {w:RW} {s:Bo} {e a:Int} (h:w.er.1=0) (he:e≠0):((w.put s).bad e a).er=(e,a):=by
 unfold RW.bad;rw [if_pos (show (w.put s).er.1=0 from h)]
theorem Ah1 {w:RW} {s:Bo} {a c m:Int} (h:w.er.1=0):Rs w ((Du a c m).th λ_=>.ok s) ((w.put s).few a c m):=by
 unfold Du RW.few;split;exact ⟨OG h (by decide),MV⟩;rfl
theorem Ah2 {w w2:RW} {s:Bo} {a c m:Int} {f:PC Bo} (h:w.er.1=0) (h1:(w.put s).few a c m=w.put s->Rs w f w2) (h2:((w.put s).few a c m).er.1≠0->w2.er=((w.put s).few a c m).er):Rs w ((Du a c m).th λ_=>f) w2:=by
 have:=Ah1 (s:=s) (a:=a) (c:=c) (m:=m) h;unfold Du at this ⊢;split;rename_i hc;rw [if_pos hc] at this;obtain ⟨ha,hb⟩:=this;exact ⟨(h2 (by rw [ha];exact hb)).trans ha,hb⟩;rename_i hc;exact h1 (by unfold RW.few;rw [if_neg hc])
theorem A0c {w:RW} {s:Bo} {a:Int} {v:V3} (h:w.er.1=0) (hF:w.F < w.fs.length):Rs w ((KB a s.cs v).th λcs=>.ok { s with cs:=cs }) ((w.put s).const a v):=by
 unfold KB RW.const;rw [RW.Bqw hF];split;rfl;rw [RW.Aq5];have:=Ah1 (s:={ s with cs:=s.cs++[v] }) (a:=a) (c:=(s.cs.length+1:Nat)) (m:=250) h;unfold Du at this ⊢;split at this;rename_i hc;rw [if_pos hc];exact this;rename_i hc;rw [if_neg hc];exact this
theorem Bjj {w:RW} {s:Bo} {a:Int} {t:Ah} (h:w.er.1=0):Rs w ((NZ a t s.gl s.lo w.ab).th λgl=>.ok { s with gl:=gl }) ((w.put s).name a t s.lo):=by
 unfold NZ RW.name;rw [RW.Bqv];cases Ef t with
 | true=>exact ⟨OG h (by decide),ne5⟩
 | false =>
  cases G1 s.lo t with
  | true=>rfl
  | false =>
   cases G1 w.ab t with
   | true=>exact ⟨OG h (by decide),ne5⟩
   | false=>rfl
theorem Apk {w:RW} {s:Bo} (h:w.er.1=0):∀ {l:List Tree} {lo:List Ah},(∀ lo',KR lo l=.ok lo'->Ga (w.put s) l=w.put s)/\(∀ e,KR lo l=.bad e->(Ga (w.put s) l).er=e/\e.1≠0)
 | [],lo=>⟨λ_ _=>rfl,λe he=>(by cases he)⟩
 | x :: l,lo=>by
  unfold KR Ga;cases Ef x.text with
  | true =>
   refine ⟨λ_ he=>(by cases he),λe he=>?_⟩;cases he;have hb:((w.put s).bad 5 x.at_).er=(5,x.at_):=OG h (by decide);simp only [if_true];exact ⟨by rw [Tw (by rw [hb];exact ne5),hb],ne5⟩
  | false=>simp only [Bool.false_eq_true,if_false];exact Apk h
theorem Ah0 {a c m:Int}:(c > m->Du a c m=.bad (6,a))/\(¬ c > m->Du a c m=.ok ()):=by unfold Du;exact ⟨λh=>if_pos h,λh=>if_neg h⟩
theorem A3w {w:RW} {a c m:Int} (h:¬ c > m):w.few a c m=w:=by unfold RW.few;rw [if_neg h]
theorem Af7 {w:RW} {s:Bo} {a:Int} {l:List Tree} {n:Nat} (h:w.er.1=0) :
  (∀ r,Fv a s.sl (s.lo++List.replicate n noB) l=.ok r->(w.put s).brings a s.lo l n=(w.put { s with sl:=r.1 },r.2)) /\
   (∀ e,Fv a s.sl (s.lo++List.replicate n noB) l=.bad e->((w.put s).brings a s.lo l n).1.er=e/\e.1≠0):=by
 have hn:=Apk (s:=s) h (l:=l) (lo:=s.lo++List.replicate n noB);cases hq:KR (s.lo++List.replicate n noB) l with
 | bad e =>
  have eb:Fv a s.sl (s.lo++List.replicate n noB) l=.bad e:=by unfold Fv;rw [hq];rfl
  rw [eb];refine ⟨λ_ he=>(by cases he),λe' he=>?_⟩;cases he;obtain ⟨h1,h2⟩:=hn.2 _ hq;refine ⟨?_,h2⟩;show ((Ga (w.put s) l).few a _ 60).er=e;rw [RW.S3 (by rw [h1];exact h2),h1]
 | ok lo' =>
  have h1:=hn.1 _ hq;have h2:=ZG hq;have e1:(w.put s).brings a s.lo l n=((((w.put s)).few a (lo'.length:Nat) 60).mod λp=>RW.slots p (lo'.length:Nat),lo'):=by
   unfold RW.brings RW.there;simp only;rw [h1,<- h2]
  rw [e1];by_cases hc:((lo'.length:Nat):Int) > 60;have eb:Fv a s.sl (s.lo++List.replicate n noB) l=.bad (6,a):=by unfold Fv;rw [hq];show PR.th (Du a (lo'.length:Nat) 60) _=_;rw [Ah0.1 hc];rfl
  rw [eb];refine ⟨λ_ he=>(by cases he),λe' he=>?_⟩;cases he;refine ⟨?_,MV⟩;show ((w.put s).few a (lo'.length:Nat) 60).er=_;unfold RW.few;rw [if_pos hc];exact OG h MV;have eb:Fv a s.sl (s.lo++List.replicate n noB) l=.ok (if ((lo'.length:Nat):Int) > s.sl then ((lo'.length:Nat):Int) else s.sl,lo'):=by unfold Fv;rw [hq];show PR.th (Du a (lo'.length:Nat) 60) _=_;rw [Ah0.2 hc];rfl
  rw [eb];refine ⟨λr he=>?_,λe' he=>(by cases he)⟩;cases he;rw [A3w hc,RW.Aq5];rfl
def IsX (x:Tree):Prop:=IsE x\/N6 x
theorem IsX.kids {k n a:Int} {t:Ah} {l:List Tree} (h:IsX (.mk k t n a l)):1<=k/\k<=14/\∀ x ∈ l,IsX x:=by
 rcases h with h | h;cases h with
 | atom h1 h2=>exact ⟨h1,by omega,λ_ hx=>nomatch hx⟩
 | index h1 h2=>exact ⟨by decide,by decide,λx hx=>by simp only [List.mem_cons,List.not_mem_nil,or_false] at hx;rcases hx with rfl | rfl;exact .inl h1;exact .inl h2⟩
 | call h1 h2=>exact ⟨by decide,by decide,λx hx=>by rcases List.mem_cons.1 hx with rfl | hx;exact .inl h1;exact .inl (h2 x hx)⟩
 | paren h1=>exact ⟨by decide,by decide,λx hx=>by obtain rfl:=EZ.1 hx;exact .inl h1⟩
 | unary h1=>exact ⟨by decide,by decide,λx hx=>by obtain rfl:=EZ.1 hx;exact .inl h1⟩
 | binary h1 h2=>exact ⟨by decide,by decide,λx hx=>by simp only [List.mem_cons,List.not_mem_nil,or_false] at hx;rcases hx with rfl | rfl;exact .inl h1;exact .inl h2⟩
 | table h1=>exact ⟨by decide,by decide,λx hx=>.inr (h1 x hx)⟩
 cases h with
 | item h1=>exact ⟨by decide,by decide,λx hx=>by obtain rfl:=EZ.1 hx;exact .inl h1⟩
 | field h1 h2=>exact ⟨by decide,by decide,λx hx=>by simp only [List.mem_cons,List.not_mem_nil,or_false] at hx;rcases hx with rfl | rfl;exact .inl h1;exact .inl h2⟩
def Kp (s:Bo) (lo:List Ah) (s':Bo):Prop:=s'.lo=lo/\s'.fs=s.fs/\s'.lp=s.lp
theorem Kp.trans {s s1 s2:Bo} {lo:List Ah} (h:Kp s lo s1) (h':Kp s1 lo s2):Kp s lo s2:=⟨h'.1,h'.2.1.trans h.2.1,h'.2.2.trans h.2.2⟩
theorem X6 {d:Nat} {ab:List Ah} {w:RW} {lo:List Ah} (h:w.er.1=0):∀ {l:List Tree} {s:Bo},s.lo=lo ->
  (∀ x ∈ l,∀ s:Bo,s.lo=lo->Rs w (Bq d ab s x false) (Cn d lo (w.put s) x false)/\∀ s',Bq d ab s x false=.ok s'->Kp s lo s') ->
  Rs w (CZ (λs x=>Bq d ab s x false) s l) (l.foldl (λw x=>Cn d lo w x false) (w.put s))/\∀ s',CZ (λs x=>Bq d ab s x false) s l=.ok s'->Kp s lo s'
 | [],s,hs,_=>⟨rfl,λs' e=>by cases e;exact ⟨hs,rfl,rfl⟩⟩
 | x :: l,s,hs,hx=>by
  have hd:=hx x (DN ..) s hs;have ht:=λ(s':Bo) (hs':s'.lo=lo)=>X6 (d:=d) (ab:=ab) h (l:=l) hs' λy hy=>hx y (EI _ hy);unfold CZ;rw [List.foldl_cons];refine ⟨hd.1.th (λs' e e'=>?_) λhe=>by rw [Mc he],λs' e=>?_⟩;rw [e'];exact (ht s' (hd.2 _ e).1).1;obtain ⟨s1,e1,e2⟩:=Cu e;exact (hd.2 _ e1).trans ((ht s1 (hd.2 _ e1).1).2 _ e2)
theorem Afi {d:Nat} {ab:List Ah} {w:RW} {lo:List Ah} {n:Int} (h:w.er.1=0):∀ {l:List Tree} {i:Nat} {s:Bo},s.lo=lo ->
  (∀ x ∈ l,∀ (s:Bo) (b:Bool),s.lo=lo->Rs w (Bq d ab s x b) (Cn d lo (w.put s) x b)/\∀ s',Bq d ab s x b=.ok s'->Kp s lo s') ->
  Rs w (K8 (λs x b=>Bq d ab s x b) n i s l) (IG (λw x b=>Cn d lo w x b) n i (w.put s) l)/\∀ s',K8 (λs x b=>Bq d ab s x b) n i s l=.ok s'->Kp s lo s'
 | [],i,s,hs,_=>⟨rfl,λs' e=>by cases e;exact ⟨hs,rfl,rfl⟩⟩
 | x :: l,i,s,hs,hx=>by
  have hd:=hx x (DN ..) s (decide ((i:Int) < n)) hs;have ht:=λ(s':Bo) (hs':s'.lo=lo)=>Afi (d:=d) (ab:=ab) (n:=n) h (l:=l) (i:=i+1) hs' λy hy=>hx y (EI _ hy);unfold K8 IG;refine ⟨hd.1.th (λs' e e'=>?_) λhe=>by rw [Aa0 he],λs' e=>?_⟩;rw [e'];exact (ht s' (hd.2 _ e).1).1;obtain ⟨s1,e1,e2⟩:=Cu e;exact (hd.2 _ e1).trans ((ht s1 (hd.2 _ e1).1).2 _ e2)
theorem Bj0 {d:Nat} {ab:List Ah} {s:Bo} {k n a:Int} {t:Ah} {l:List Tree} {tg:Bool} (h:k<=14\/k=23\/k=24\/k=28\/k=30) :
  Bq (d+1) ab s (.mk k t n a l) tg=NE (λs l=>CZ (λs x=>Bq d ab s x false) s l) ab s k t n a l tg:=by
 conv=>lhs;unfold Bq
 rw [if_neg (by omega),if_neg (by omega),if_neg (by omega),if_neg (by omega),if_neg (by omega),if_neg (by omega),if_neg (by omega),if_neg (by omega)]
theorem Ahl {ab:List Ah} {w:RW} (h:w.er.1=0) (hF:w.F < w.fs.length) (hab:w.ab=ab):∀ (d:Nat) {lo:List Ah} {x:Tree} {s:Bo} {tg:Bool},s.lo=lo->IsX x->sz x<=d ->
  Rs w (Bq d ab s x tg) (Cn d lo (w.put s) x tg)/\∀ s',Bq d ab s x tg=.ok s'->Kp s lo s'
 | 0,_,x,_,_,_,_,hd=>by have:=Mu x;omega
 | d+1,lo,.mk k t n a l,s,tg,hs,hx,hd=>by
  obtain ⟨h1,h2,h3⟩:=hx.kids;simp only [sz] at hd;have all:∀ s:Bo,s.lo=lo->Rs w (CZ (λs x=>Bq d ab s x false) s l) (l.foldl (λw x=>Cn d lo w x false) (w.put s))/\∀ s',CZ (λs x=>Bq d ab s x false) s l=.ok s'->Kp s lo s':=λs hs =>
   X6 h hs λy hy s hs=>Ahl h hF hab d hs (h3 y hy) (by have:=IJ hy;omega)
  rw [Bj0 (.inl h2)];unfold NE Cn;dsimp only;rw [if_neg (show ¬ (w.put s).er.1≠0 from λe=>e h)];have few:∀ c m,Rs w ((Du a c m).th λ_=>CZ (λs x=>Bq d ab s x false) s l) (l.foldl (λw x=>Cn d lo w x false) ((w.put s).few a c m))/\∀ s',((Du a c m).th λ_=>CZ (λs x=>Bq d ab s x false) s l)=.ok s'->Kp s lo s':=λc m =>
   ⟨Ah2 (s:=s) h (λe=>by rw [e];exact (all s hs).1) (λe=>by rw [Mc e]),λs' e=>by obtain ⟨_,_,e2⟩:=Cu e;exact (all s hs).2 _ e2⟩
  have Ags:∀ v,Rs w ((KB a s.cs v).th λcs=>CZ (λs x=>Bq d ab s x false) { s with cs:=cs } l) (l.foldl (λw x=>Cn d lo w x false) ((w.put s).const a v))/\∀ s',((KB a s.cs v).th λcs=>CZ (λs x=>Bq d ab s x false) { s with cs:=cs } l)=.ok s'->Kp s lo s':=λv=>by
   refine ⟨?_,λs' e=>by obtain ⟨cs,_,e2⟩:=Cu e;exact (all { s with cs:=cs } hs).2 _ e2⟩;have hq:=A0c (s:=s) (a:=a) (v:=v) h hF;cases hc:KB a s.cs v with
   | bad e =>
    rw [hc] at hq;obtain ⟨ha,hb⟩:=hq;exact ⟨by rw [Mc (by rw [ha];exact hb),ha],hb⟩
   | ok cs =>
    rw [hc] at hq;have hq:(w.put s).const a v=w.put { s with cs:=cs }:=hq;rw [hq];exact (all { s with cs:=cs } hs).1
  by_cases h8:k=8;rw [if_pos h8,if_pos h8];exact few _ _;rw [if_neg h8,if_neg h8,if_neg (by omega)];by_cases h12:k=12;rw [if_pos h12,if_pos h12];exact few _ _;rw [if_neg h12,if_neg h12];by_cases h4:k=4;rw [if_pos h4,if_pos h4];exact Ags _;rw [if_neg h4,if_neg h4];by_cases h5:k=5;rw [if_pos h5,if_pos h5];exact Ags _;rw [if_neg h5,if_neg h5];by_cases h6:k=6;rw [if_pos h6,if_pos h6];refine ⟨?_,λs' e=>by obtain ⟨gl,_,e2⟩:=Cu e;exact (all { s with gl:=gl } hs).2 _ e2⟩;have hq:=Bjj (s:=s) (a:=a) (t:=t) h;rw [hab] at hq;subst hs;cases hc:NZ a t s.gl s.lo ab with
  | bad e =>
   rw [hc] at hq;obtain ⟨ha,hb⟩:=hq;exact ⟨by rw [Mc (by rw [ha];exact hb),ha],hb⟩
  | ok gl =>
   rw [hc] at hq;have hq:(w.put s).name a t s.lo=w.put { s with gl:=gl }:=hq;rw [hq];exact (all { s with gl:=gl } rfl).1
  rw [if_neg h6,if_neg h6];by_cases h7:k=7/\(Cb l 0).kind=6/\Ef (Cb l 0).text=true;rw [if_pos h7,if_pos h7];split;exact ⟨⟨OG h (by decide),ne5⟩,λs' e=>(by cases e)⟩;exact ⟨rfl,λs' e=>by cases e;exact ⟨hs,rfl,rfl⟩⟩;rw [if_neg h7,if_neg h7];exact all s hs
end
end Go.Proofs.YteccladehmaglaaGreatDoor
