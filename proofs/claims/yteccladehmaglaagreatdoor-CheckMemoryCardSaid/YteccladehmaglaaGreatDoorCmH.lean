/- Texts of mine for checkMemory_card, part 8. -/
import Derived.Test.YteccladehmaglaaGreatDoorCmG
set_option linter.unusedSimpArgs false
set_option linter.unusedVariables false
set_option linter.unusedSectionVars false
namespace Go.Proofs.YteccladehmaglaaGreatDoor
set_option maxRecDepth 100000
section
open Go Go.RowKit
section
variable {l:List Tk}
theorem Apo (a b:List UInt8):(a == b)=decide (a=b):=by
 by_cases h:a=b;rw [decide_eq_true h,beq_iff_eq];exact h;rw [decide_eq_false h,beq_eq_false_iff_ne];exact h
theorem Bwu {ts:List Tk}:GH 5 ts=(GH 6 ts).then λn r=>.ok (.mk 5 n.text n.n n.at_ n.kids) r:=by
 unfold GH;split <;> rfl
theorem Cn {α:Type} {b:Nat} {xs ys:List α} (h:(xs.length+ys.length) * b<=140737488355328):apd b xs ys=some (xs++ys):=by
 unfold apd;rw [decide_eq_true h];rfl
variable (hl:l.length<=1000000)
include hl
theorem Aqj (J:List Tree->Int->Option (PR (List Tree×Int))) (hJ:∀ a i,J a i=some (.ok (a,i))):∀ (m:Nat) (acc:List Tree) (ts:List Tk),Good ts->ts <:+ l->ts.length < m->acc.length+ts.length<=1000000 ->
  Ha.l0 m l J acc (ix l ts)=some (conv l eL (K6 acc ts))
 | 0,_,_,_,_,h,_=>by omega
 | m+1,acc,ts,hg,hs,hm,ha=>by
  rw [Ha.l0,got_eq m hl hg hs,O9 acc hg];simp only [Aq];refine Fe (Dt _) (λhc=>?_) λhc=>?_;simp only [hc,if_true];obtain ⟨g1,g2,g3⟩:=hg.tail (AU hc);rw [name_eq m hl g1 (g3.trans hs)];refine CU (fName 6 g1) λn r hr hrs hn=>?_;simp only [eT,Cd];rw [Cn (by simp only [AX,Bp];omega)];simp only [Aq];exact Aqj J hJ m _ r hr (hrs.trans (g3.trans hs)) (by omega) (by simp only [BT,AX,Bp];omega);simp only [if_neg hc,hJ];rfl
theorem Aaf (k:Nat) {ts:List Tk} (hg:Good ts) (hs:ts <:+ l) (hk:ts.length<=k):Ha.f k l (ix l ts)=some (conv l eL (JI ts)):=by
 unfold Ha.f JI;rw [name_eq k hl hg hs];refine CU (fName 6 hg) λn r hr hrs hn=>?_;simp only [AN,eT,Cd];have:=hrs.length_le;have:=hs.length_le;exact Aqj hl _ (λ_ _=>rfl) k _ r hr (hrs.trans hs) (by omega) (by simp only [AX,Bp];omega)
end
structure AE (l:List Tk) (k:Nat):Prop where
 exp:∀ least ts,0<=least->Good ts->ts <:+ l->16 * ts.length+5<=k->(PE.at k).CF l (ix l ts) least=some (conv l eT (Ec least ts))
 operand:∀ ts,Good ts->ts <:+ l->16 * ts.length+4<=k->(PE.at k).Iq l (ix l ts)=some (conv l eT (K7 ts))
 Eg:∀ ts,Good ts->ts <:+ l->16 * ts.length+3<=k->(PE.at k).DD l (ix l ts)=some (conv l eT (Jp ts))
 fields:∀ ts,Good ts->ts <:+ l->16 * ts.length+7<=k->(PE.at k).Fr l (ix l ts)=some (conv l eL (Ln [] ts))
 field:∀ ts,Good ts->ts <:+ l->16 * ts.length+6<=k->(PE.at k).Im l (ix l ts)=some (conv l eT (O8 ts))
 CY:∀ ts,Good ts->ts <:+ l->16 * ts.length+6<=k->(PE.at k).D4 l (ix l ts)=some (conv l eL (Gb ts))
section
variable {l:List Tk} (hl:l.length<=1000000) {k:Nat} (ih:AE l k)
include hl ih
theorem Ap7 (least:Int) (h0:0<=least) (r2:Int×Ah×Int×Int×List Tree×Int):∀ (m:Nat) (n:Tree) (ts:List Tk),n.at_=r2.2.2.2.1->Good ts->ts <:+ l->ts.length < m->16 * ts.length<=k ->
  CF.l0 m (PE.at k) l least r2 n.kind n.text n.n n.kids (ix l ts)=some (conv l eT (JH least n ts))
 | 0,_,_,_,_,_,h,_=>by omega
 | m+1,n,ts,hn,hg,hs,hm,hk=>by
  rw [CF.l0,Kk m hg hs,Sd n h0 hg];simp only [Aq,A0p];refine Fe rfl (λhc=>?_) λhc=>?_;rw [<- hn];rfl;obtain ⟨g1,g2,g3⟩:=hg.tail (Mi (by omega));have hb:=XA ts;simp only [AN];rw [I9 hl hg hs (Mi (by omega)),wrapM (CS ts - 1) (by omega) (by omega)];have hq:(0:Int)<=(if CS ts=4 then 3 else CS ts):=by split <;> omega
  have key:∀ q:Int,q=(if CS ts=4 then 3 else CS ts)->PR.bind ((PE.at k).CF l (ix l ts.tail) q) (λr25=>CF.l0 m (PE.at k) l least r2 (11:Int) (hd ts).2.1 (0:Int) ([(Tree.mk n.kind n.text n.n r2.2.2.2.1 n.kids),(Tree.mk r25.1 r25.2.1 r25.2.2.1 r25.2.2.2.1 r25.2.2.2.2.1)]) r25.2.2.2.2.2)=some (conv l eT ((Ec (if CS ts=4 then 3 else CS ts) ts.tail).then λm r=>JH least (.mk 11 (hd ts).2.1 0 n.at_ [n,m]) r)):=by
   intro q hqe;subst hqe;rw [ih.exp _ _ hq g1 (g3.trans hs) (by omega)];refine CU (Da hq g1) λx r hr hrs hrn=>?_;simp only [eT,Cd];rw [<- hn,Cd];exact Ap7 least h0 r2 m (.mk 11 (hd ts).2.1 0 n.at_ [n,x]) r hn hr (hrs.trans (g3.trans hs)) (by omega) (by omega)
  by_cases h4:CS ts=4;rw [show (CS ts == (4:Int))=true by rw [beq_iff_eq];exact h4];exact key _ (by rw [if_pos h4,h4];rfl);rw [show (CS ts == (4:Int))=false by rw [beq_eq_false_iff_ne];exact h4];exact key _ (by rw [if_neg h4])
theorem exp_eq (least:Int) (h0:0<=least) {ts:List Tk} (hg:Good ts) (hs:ts <:+ l) (hk:16 * ts.length+4<=k):CF.g (PE.at k) k l (ix l ts) least=some (conv l eT (Ec least ts)):=by
 unfold CF.g;rw [ih.operand ts hg hs hk,UB h0 hg];refine CU (SI hg) λn r hr hrs hn=>?_;exact Ap7 hl ih least h0 (eT n (ix l r)) k n r rfl hr (hrs.trans hs) (by omega) (by omega)
theorem operand_eq {ts:List Tk} (hg:Good ts) (hs:ts <:+ l) (hk:16 * ts.length+3<=k):Iq.g (PE.at k) k l (ix l ts)=some (conv l eT (K7 ts)):=by
 unfold Iq.g;rw [Kk k hg hs,Awy hg];simp only [Aq,AN,MZ k hg hs,got_eq k hl hg hs];refine Fe (NN _ _) (λhc=>?_) λh3=>?_;rw [I9 hl hg hs (by omega)];rfl;refine Fe (NN _ _) (λhc=>?_) λh4=>?_;rw [I9 hl hg hs (by omega)];rfl;refine Fe (Dt _) (λhc=>?_) λh5=>?_;rw [I9 hl hg hs (AU hc)];rfl;refine Fe (Dt _) (λhc=>?_) λh6=>?_;rw [I9 hl hg hs (AU hc)];rfl;refine Fe (Dt _) (λhc=>?_) λh7=>?_;rw [I9 hl hg hs (AU hc)];rfl;have hun:∀ (h8:(AB Oa ts || AB N_ ts || AB Kh ts)=true),PR.bind ((PE.at k).CF l (ix l ts.tail) (7:Int)) (λr21=>some (PR.ok ((10:Int),(hd ts).2.1,(0:Int),(hd ts).2.2.2,[(Tree.mk r21.1 r21.2.1 r21.2.2.1 r21.2.2.2.1 r21.2.2.2.2.1)],r21.2.2.2.2.2)))=some (conv l eT ((Ec 7 ts.tail).then λm r=>.ok (.mk 10 (hd ts).2.1 0 (hd ts).2.2.2 [m]) r)):=λh8=>by
  obtain ⟨g1,g2,g3⟩:=hg.tail (or3 rfl rfl rfl h8);rw [ih.exp 7 _ (by omega) g1 (g3.trans hs) (by omega)];refine CU (Da (by omega) g1) λx r hr hrs hn=>?_;simp only [eT,Cd];rfl
 cases hA:AB Oa ts with
 | true =>
  have h8:(AB Oa ts || AB N_ ts || AB Kh ts)=true:=by rw [hA];rfl
  rw [hA] at h8;simp only [cond_true,if_true,h8];exact hun (by rw [hA];rfl)
 | false =>
 simp only [Bool.false_eq_true,if_false,cond_false,Bool.false_or,got_eq k hl hg hs,Aq];cases hB:AB N_ ts with
 | true =>
  simp only [cond_true,if_true,Bool.true_or];exact hun (by rw [hB];simp)
 | false =>
 simp only [Bool.false_eq_true,if_false,cond_false,Bool.false_or,got_eq k hl hg hs,Aq];cases hC:AB Kh ts with
 | true =>
  simp only [cond_true,if_true];exact hun (by rw [hC];simp)
 | false =>
 simp only [Bool.false_eq_true,if_false,cond_false,got_eq k hl hg hs,Aq];refine Fe (Dt _) (λhc=>?_) λh9=>?_;simp only [hc,if_true];obtain ⟨g1,g2,g3⟩:=hg.tail (AU hc);rw [ih.fields _ g1 (g3.trans hs) (by omega)];refine CU (Aiu _ g1) λx r hr hrs hn=>?_;rfl;simp only [if_neg h9];rw [ih.Eg _ hg hs (by omega)];have:=CU (e':=eT) (F:=λr38:Int×Ah×Int×Int×List Tree×Int=>some (PR.ok (r38.1,r38.2.1,r38.2.2.1,r38.2.2.2.1,r38.2.2.2.2.1,r38.2.2.2.2.2))) (g:=λn r=>.ok n r) (l:=l) (Pc hg) (e:=eT) (λn r _ _ _=>rfl);rw [this];cases Jp ts <;> rfl
theorem Aio (J:List Tree->Int->Option (PR (List Tree×Int))) (hJ:∀ a i,J a i=some (.ok (a,i))):∀ (m:Nat) (acc:List Tree) (ts:List Tk),Good ts->ts <:+ l->ts.length < m->acc.length+ts.length<=1000000->16 * ts.length<=k ->
  D4.l0 m (PE.at k) l J acc (ix l ts)=some (conv l eL (Qv acc ts))
 | 0,_,_,_,_,h,_,_=>by omega
 | m+1,acc,ts,hg,hs,hm,ha,hk=>by
  rw [D4.l0,got_eq m hl hg hs,Ads acc hg];simp only [Aq];refine Fe (Dt _) (λhc=>?_) λhc=>?_;simp only [hc,if_true];obtain ⟨g1,g2,g3⟩:=hg.tail (AU hc);rw [ih.exp 0 _ (by omega) g1 (g3.trans hs) (by omega)];refine CU (Da (by omega) g1) λn r hr hrs hn=>?_;simp only [eT,Cd];rw [Cn (by simp only [AX,Bp];omega)];simp only [Aq];exact Aio J hJ m _ r hr (hrs.trans (g3.trans hs)) (by omega) (by simp only [BT,AX,Bp];omega) (by omega);simp only [if_neg hc,hJ];rfl
theorem Aip {ts:List Tk} (hg:Good ts) (hs:ts <:+ l) (hk:16 * ts.length+5<=k):D4.g (PE.at k) k l (ix l ts)=some (conv l eL (Gb ts)):=by
 unfold D4.g;rw [ih.exp 0 ts (by omega) hg hs hk,Adu hg];refine CU (Da (by omega) hg) λn r hr hrs hn=>?_;simp only [AN,eT,Cd];have:=hs.length_le;exact Aio hl ih _ (λ_ _=>rfl) k _ r hr (hrs.trans hs) (by omega) (by simp only [AX,Bp];omega) (by omega)
theorem Ai9 (J:List Tree->Int->Option (PR (List Tree×Int))) (hJ:∀ a r,Good r->r <:+ l->J a (ix l r)=some (conv l eL ((Dc Ob r).then λ_ r=>.ok a r))):∀ (m:Nat) (acc:List Tree) (ts:List Tk),Good ts->ts <:+ l->ts.length < m->acc.length+ts.length<=1000000->16 * ts.length+6<=k ->
  Fr.l0 m (PE.at k) l J acc (ix l ts)=some (conv l eL (Ln acc ts))
 | 0,_,_,_,_,h,_,_=>by omega
 | m+1,acc,ts,hg,hs,hm,ha,hk=>by
  rw [Fr.l0,MZ m hg hs,Awo acc hg];simp only [Aq];by_cases hR:AB Ob ts=true;rw [if_pos hR,show AB (⟨#[125]⟩:Ah) ts=true from hR];simp only [Bool.not_true,cond_false];rw [hJ acc ts hg hs];unfold Dc;rw [if_pos hR];rfl;rw [if_neg hR,show AB (⟨#[125]⟩:Ah) ts=false from by simpa using hR];simp only [Bool.not_false,cond_true];rw [ih.field ts hg hs hk];refine CU (XX hg) λx r hr hrs hn=>?_;simp only [eT,Cd];rw [Cn (by simp only [AX,Bp];omega)];have hrl:=hrs.trans hs;simp only [Aq,AN,got_eq m hl hr hrl];have more:∀ {w:Ah},AB w r=true->Fr.l0 m (PE.at k) l J (acc++[x]) (ix l r.tail)=some (conv l eL (Ln (acc++[x]) r.tail)):=λhc=>by
   obtain ⟨g1,g2,g3⟩:=hr.tail (AU hc);exact Ai9 J hJ m _ _ g1 (g3.trans hrl) (by omega) (by simp only [BT,AX,Bp];omega) (by omega)
  by_cases hc:AB Ez r=true;rw [if_pos hc,show AB (⟨#[44]⟩:Ah) r=true from hc];simp only [Bool.not_true,cond_false,if_true];exact more hc;rw [if_neg hc,show AB (⟨#[44]⟩:Ah) r=false from by simpa using hc];simp only [Bool.not_false,cond_true,Bool.false_eq_true,if_false,got_eq m hl hr hrl,Aq];by_cases hd:AB Ht r=true;rw [if_pos hd,show AB (⟨#[59]⟩:Ah) r=true from hd];simp only [Bool.not_true,cond_false,if_true];exact more hd;rw [if_neg hd,show AB (⟨#[59]⟩:Ah) r=false from by simpa using hd];simp only [Bool.not_false,cond_true,Bool.false_eq_true,if_false];exact hJ _ _ hr hrl
theorem fields_eq {ts:List Tk} (hg:Good ts) (hs:ts <:+ l) (hk:16 * ts.length+6<=k):Fr.g (PE.at k) k l (ix l ts)=some (conv l eL (Ln [] ts)):=by
 unfold Fr.g;simp only [AN];have:=hs.length_le;refine Ai9 hl ih _ (λa r hr hrs=>?_) k [] ts hg hs (by omega) (by simp only [Bp];omega) hk;rw [GI k hl hr hrs];exact CU (CO _ hr) λ_ r2 hr2 _ _=>rfl
theorem A5w {ts:List Tk} (hg:Good ts) (hs:ts <:+ l) (hk:16 * ts.length+5<=k):Im.g (PE.at k) k l (ix l ts)=some (conv l eT (O8 ts)):=by
 unfold Im.g;rw [Kk k hg hs,Awj hg];simp only [Aq,AN,got_eq k hl hg hs];refine Fe (Dt _) (λhc=>?_) λh1=>?_
 ·simp only [hc,if_true]
  obtain ⟨g1,g2,g3⟩:=hg.tail (AU hc);rw [ih.exp 0 _ (by omega) g1 (g3.trans hs) (by omega)];refine CU (Da (by omega) g1) λx r hr hrs hn=>?_;simp only [eT,Cd];have h1:=hrs.trans (g3.trans hs);rw [GI k hl hr h1];refine CU (CO _ hr) λ_ r2 hr2 Ey hn2=>?_;simp only [eU];rw [GI k hl hr2 (Ey.trans h1)];refine CU (CO _ hr2) λ_ r3 hr3 GP hn3=>?_;simp only [eU];rw [ih.exp 0 _ (by omega) hr3 (GP.trans (Ey.trans h1)) (by omega)];refine CU (Da (by omega) hr3) λy r4 hr4 QX hn4=>?_;simp only [eT,Cd];rw [Cn (by simp)];rfl
 simp only [if_neg h1];have hq:((cond ((hd ts).1 == (1:Int)) ((B5 l (Au (ix l ts+(1:Int)))).bind λx57=>cond (x57.1 == (5:Int)) ((B5 l (Au (ix l ts+(1:Int)))).bind λx65=>some (x65.2.1.toList == (⟨#[61]⟩:Ah).toList)) (some false)) (some false)):Option Bool)=some (decide ((hd ts).1=1/\(hd ts.tail).1=5/\(hd ts.tail).2.1.toList=EO.toList)):=by
  by_cases h:(hd ts).1=1
  ·obtain ⟨g1,g2,g3⟩:=hg.tail (by omega)
   rw [I9 hl hg hs (by omega),LB g1 (g3.trans hs),h];simp only [beq_self_eq_true,cond_true,Aq,true_and];by_cases h5:(hd ts.tail).1=5
   ·rw [h5]
    simp only [beq_self_eq_true,cond_true,true_and];exact congrArg some (Apo _ _)
   ·rw [show ((hd ts.tail).1 == (5:Int))=false by rw [beq_eq_false_iff_ne];exact h5]
    simp [h5]
  ·rw [show ((hd ts).1 == (1:Int))=false by rw [beq_eq_false_iff_ne];exact h]
   simp [h]
 rw [hq];simp only [Aq];refine Fe rfl (λhc=>?_) λh2=>?_
 ·obtain ⟨h1,h5,he⟩:=hc
  obtain ⟨g1,g2,g3⟩:=hg.tail (by omega);obtain ⟨g4,g5,g6⟩:=g1.tail (by omega);rw [name_eq k hl hg hs];unfold GH;rw [if_pos h1];simp only [conv,PR.bind,eT,Tree.kind,Tree.text,Tree.n,Tree.at_,Tree.kids];have hE:AB EO ts.tail=true:=by unfold AB isT;rw [h5,he];simp
  rw [GI k hl g1 (g3.trans hs)];unfold Dc;rw [if_pos hE];simp only [conv,eU];rw [ih.exp 0 _ (by omega) g4 (g6.trans (g3.trans hs)) (by omega)];have:=CU (l:=l) (e:=eT) (e':=eT) (x:=Ec 0 ts.tail.tail) (F:=λr13=>(apd 64 [Tree.mk 5 (hd ts).2.1 0 (hd ts).2.2.2 []] [(Tree.mk r13.1 r13.2.1 r13.2.2.1 r13.2.2.2.1 r13.2.2.2.2.1)]).bind λRy=>some (PR.ok ((14:Int),(⟨#[]⟩:Ah),(0:Int),(hd ts).2.2.2,Ry,r13.2.2.2.2.2))) (g:=λv r=>.ok (.mk 14 noB 0 (hd ts).2.2.2 [.mk 5 (hd ts).2.1 0 (hd ts).2.2.2 [],v]) r) (Da (by omega) g4) (λy r4 hr4 QX hn4=>by
   simp only [eT,Cd];rw [Cn (by simp)];rfl)
  exact this
 ·rw [ih.exp 0 _ (by omega) hg hs (by omega)]
  refine CU (Da (by omega) hg) λy r4 hr4 QX hn4=>?_;simp only [eT,Cd];rw [Cn (by simp)];rfl
theorem U3 (r2:Tk):∀ (m:Nat) (n:Tree) (ts:List Tk),Good ts->ts <:+ l->ts.length < m->16 * ts.length<=k ->
  DD.l0 m (PE.at k) l r2 n.kind n.text n.n n.at_ n.kids (ix l ts)=some (conv l eT (K8 r2.2.2.2 n ts))
 | 0,_,_,_,_,h,_=>by omega
 | m+1,n,ts,hg,hs,hm,hk=>by
  rw [DD.l0,got_eq m hl hg hs,Adv _ n hg];simp only [Aq,Cd];refine Fe (Dt _) (λhc=>?_) λh1=>?_;simp only [hc,if_true];obtain ⟨g1,g2,g3⟩:=hg.tail (AU hc);rw [ih.exp 0 _ (by omega) g1 (g3.trans hs) (by omega)];refine CU (Da (by omega) g1) λx r hr hrs hn=>?_;simp only [eT,Cd];have hrl:=hrs.trans (g3.trans hs);rw [GI m hl hr hrl];refine CU (CO _ hr) λ_ r2' hr2 Ey hn2=>?_;exact U3 r2 m (.mk 7 noB 0 r2.2.2.2 [n,x]) r2' hr2 (Ey.trans hrl) (by omega) (by omega);simp only [if_neg h1,got_eq m hl hg hs,Aq];refine Fe (Dt _) (λhc=>?_) λh2=>?_;simp only [hc,if_true];obtain ⟨g1,g2,g3⟩:=hg.tail (AU hc);rw [name_eq m hl g1 (g3.trans hs),Bwu,then_assoc];refine CU (fName 6 g1) λx r hr hrs hn=>?_;exact U3 r2 m (.mk 7 noB 0 r2.2.2.2 [n,.mk 5 x.text x.n x.at_ x.kids]) r hr (hrs.trans (g3.trans hs)) (by omega) (by omega);simp only [if_neg h2,got_eq m hl hg hs,Aq];refine Fe (Dt _) (λhc=>?_) λh3=>?_;simp only [hc,if_true];obtain ⟨g1,g2,g3⟩:=hg.tail (AU hc);have gs:=g3.trans hs;have hlen:=hs.length_le;simp only [AN,MZ m g1 gs,Aq];unfold Xc;have tl:∀ (xs:List Tree) (r:List Tk),Good r->r <:+ l->r.length<=ts.tail.length->PR.bind (CJ.f m l (ix l r) (⟨#[41]⟩:Ah)) (λDQ=>DD.l0 m (PE.at k) l r2 (8:Int) (⟨#[]⟩:Ah) (0:Int) r2.2.2.2 (n :: xs) DQ)=some (conv l eT ((Dc Gs r).then λ_ r=>K8 r2.2.2.2 (.mk 8 noB 0 r2.2.2.2 (n :: xs)) r)):=λxs r hr hrl hn=>by
   rw [GI m hl hr hrl];refine CU (CO _ hr) λ_ r2' hr2 Ey hn2=>?_;exact U3 r2 m (.mk 8 noB 0 r2.2.2.2 (n :: xs)) r2' hr2 (Ey.trans hrl) (by omega) (by omega)
  by_cases hR:AB Gs ts.tail=true;rw [if_pos hR,show AB (⟨#[41]⟩:Ah) ts.tail=true from hR];exact tl [] _ g1 gs (Nat.le_refl _);rw [if_neg hR,show AB (⟨#[41]⟩:Ah) ts.tail=false from by simpa using hR];simp only [Bool.not_false,cond_true];rw [ih.CY _ g1 gs (by omega)];cases hv:Gb ts.tail with
  | bad i=>rfl
  | ok xs r =>
   have hf:=JZ g1;rw [hv] at hf;have hxl:=Oh g1 hv;show (apd 64 [n] xs).bind _=_;rw [Cn (by simp only [AX,Bp];omega)];exact tl xs r hf.1 (hf.2.2.trans gs) (by have:=hf.2.1;omega)
  simp only [if_neg h3];rfl
theorem Avr {ts:List Tk} (hg:Good ts) (hs:ts <:+ l) (hk:16 * ts.length+2<=k):DD.g (PE.at k) k l (ix l ts)=some (conv l eT (Jp ts)):=by
 unfold DD.g;rw [Kk k hg hs,Adx hg];simp only [Aq,AN,got_eq k hl hg hs];refine Fe (Dt _) (λhc=>?_) λh1=>?_;simp only [hc,if_true];obtain ⟨g1,g2,g3⟩:=hg.tail (AU hc);rw [ih.exp 0 _ (by omega) g1 (g3.trans hs) (by omega)];refine CU (Da (by omega) g1) λx r hr hrs hn=>?_;simp only [eT,Cd];have hrl:=hrs.trans (g3.trans hs);rw [GI k hl hr hrl];refine CU (CO _ hr) λ_ r2' hr2 Ey hn2=>?_;exact U3 hl ih (hd ts) k (.mk 9 noB 0 (hd ts).2.2.2 [x]) r2' hr2 (Ey.trans hrl) (by omega) (by omega);simp only [if_neg h1];rw [name_eq k hl hg hs];refine CU (fName 6 hg) λn r hr hrs hn=>?_;exact U3 hl ih (hd ts) k n r hr (hrs.trans hs) (by omega) (by omega)
end
theorem aE {l:List Tk} (hl:l.length<=1000000):∀ k,AE l k
 | 0=>by constructor <;> intros <;> omega
 | k+1=>by
  have ih:=aE hl k;exact ⟨λleast ts h0 hg hs h=>exp_eq hl ih least h0 hg hs (by omega),λts hg hs h=>operand_eq hl ih hg hs (by omega),λts hg hs h=>Avr hl ih hg hs (by omega),λts hg hs h=>fields_eq hl ih hg hs (by omega),λts hg hs h=>A5w hl ih hg hs (by omega),λts hg hs h=>Aip hl ih hg hs (by omega)⟩
theorem Awx (pre:List Tree):∀ (n:Nat) (acc:List Tree) (ts:List Tk),ts.length<=n->Good ts->K6 (pre++acc) ts=(K6 acc ts).then λxs r=>.ok (pre++xs) r
 | 0,_,[],_,hg=>hg.elim
 | n+1,acc,ts,hn,hg=>by
  rw [O9 _ hg,O9 acc hg];by_cases hc:AB Ez ts=true;rw [if_pos hc,if_pos hc,then_assoc];obtain ⟨g1,g2,g3⟩:=hg.tail (AU hc);refine U6 (fName 6 g1) λx r hr hl=>?_;rw [C8];exact Awx pre n _ r (by omega) hr;rw [if_neg hc,if_neg hc];rfl
structure AS (l:List Tk) (k:Nat):Prop where
 block:∀ c ts,Good ts->ts <:+ l->16 * ts.length+9<=k->(PS.at k).C_ l (ix l ts) c=some (conv l eT (FE c ts))
 function:∀ ts,AB NZ ts=true->Good ts->ts <:+ l->16 * ts.length+7<=k->(PS.at k).Io l (ix l ts)=some (conv l eT (Sb ts))
 stat:∀ ts,Good ts->ts <:+ l->16 * ts.length+7<=k->(PS.at k).Ir l (ix l ts)=some (conv l eT (N8 ts))
 branches:∀ ts,Good ts->ts <:+ l->16 * ts.length+6<=k->(PS.at k).FA l (ix l ts)=some (conv l eL (N7 [] ts))
 loop:∀ at_ ts,Good ts->ts <:+ l->16 * ts.length+8<=k->(PS.at k).Ip l (ix l ts) at_=some (conv l eT (Qw at_ ts))
 plain:∀ ts,Good ts->ts <:+ l->16 * ts.length+6<=k->(PS.at k).FB l (ix l ts)=some (conv l eT (Qx ts))
section
variable {l:List Tk} (hl:l.length<=1000000)
include hl
theorem SL (k:Nat) {ts:List Tk} (hg:Good ts) (hs:ts <:+ l) (hk:16 * ts.length+4<=k):CF.f k l (ix l ts) 0=some (conv l eT (Ec 0 ts)):=exp_eq hl (aE hl k) 0 (by omega) hg hs hk
theorem Vw (k:Nat) {ts:List Tk} (hg:Good ts) (hs:ts <:+ l) (hk:16 * ts.length+5<=k):D4.f k l (ix l ts)=some (conv l eL (Gb ts)):=Aip hl (aE hl k) hg hs hk
theorem Ajo (k:Nat) {ts:List Tk} (hg:Good ts) (hs:ts <:+ l) (hk:16 * ts.length+2<=k):DD.f k l (ix l ts)=some (conv l eT (Jp ts)):=Avr hl (aE hl k) hg hs hk
omit hl in
theorem A06 {ts:List Tk} (h:AB Tp ts=true) (hg:Good ts):Jo ts=(FE false ts.tail).then λb r=>(Dc GQ r).then λ_ r=>.ok b r:=by
 rw [Adp hg];unfold Dc;rw [if_pos h];rfl
variable {k:Nat} (ih:AS l k)
include ih
theorem Axi (F:Tree->Option (List Tree)) (Af:List Tree->Int->Option (PR (Int×Ah×Int×Int×List Tree×Int))) (g:Tree->Tree) {ts:List Tk} (hg:Good ts) (hs:ts <:+ l) (hk:16 * ts.length+9<=k+16)
  (hG:∀ b r,Good r->r <:+ l->∃ xs,F b=some xs/\Af xs (ix l r)=some (conv l eT (.ok (g b) r))) :
  PR.bind (CJ.f k l (ix l ts) (⟨#[100,111]⟩:Ah)) (λr36=>PR.bind ((PS.at k).C_ l r36 false) λr38=>(F (Tree.mk r38.1 r38.2.1 r38.2.2.1 r38.2.2.2.1 r38.2.2.2.2.1)).bind λl49=>PR.bind (CJ.f k l r38.2.2.2.2.2 (⟨#[101,110,100]⟩:Ah)) λHe=>Af l49 He) =
   some (conv l eT ((Jo ts).then λb r=>.ok (g b) r)):=by
 rw [GI k hl hg hs,Adp hg,then_assoc];refine CU (CO _ hg) λ_ r hr hrs hn=>?_;simp only [eU];have h1:=hrs.trans hs;rw [ih.block false r hr h1 (by omega),then_assoc];refine CU (I_ false hr) λb r2 hr2 Ey hn2=>?_;simp only [eT,Cd];have h2:=Ey.trans h1;obtain ⟨xs,hF,_⟩:=hG b r2 hr2 h2;rw [hF,then_assoc];simp only [Aq];rw [GI k hl hr2 h2];refine CU (CO _ hr2) λ_ r3 hr3 GP hn3=>?_;obtain ⟨xs',hF',hG'⟩:=hG b r3 hr3 (GP.trans h2);rw [hF] at hF';cases hF';exact hG'
theorem XF (chunk:Bool) (r2:Tk):∀ (m:Nat) (acc:List Tree) (ts:List Tk),Good ts->ts <:+ l->16 * ts.length+6 < m->acc.length+ts.length<=1000000->16 * ts.length+8<=k ->
  C_.l0 m (PS.at k) l chunk r2 acc (ix l ts)=some (conv l eT (K5 chunk r2.2.2.2 acc ts))
 | 0,_,_,_,_,h,_,_=>by omega
 | m+1,acc,ts,hg,hs,hm,ha,hk=>by
  rw [C_.l0,Kk m hg hs,Awd chunk _ acc hg];simp only [Aq,got_eq m hl hg hs];refine Fe (Dt _) (λhc=>?_) λh1=>?_;simp only [hc,if_true];obtain ⟨g1,g2,g3⟩:=hg.tail (AU hc);exact XF chunk r2 m acc _ g1 (g3.trans hs) (by omega) (by omega) (by omega);simp only [if_neg h1,got_eq m hl hg hs,Aq];refine Fe (Dt _) (λhc=>?_) λh2=>?_;simp only [hc,if_true];obtain ⟨g1,g2,g3⟩:=hg.tail (AU hc);have gs:=g3.trans hs;have hend:∀ (xs:List Tree) (r:List Tk),Good r->r <:+ l->(C1.f m l (ix l r) (⟨#[59]⟩:Ah)).bind (λr25=>(apd 64 acc [(Tree.mk (30:Int) (⟨#[]⟩:Ah) (0:Int) (hd ts).2.2.2 xs)]).bind λl29=>some (PR.ok ((20:Int),(⟨#[]⟩:Ah),(0:Int),r2.2.2.2,l29,r25.2)))=some (conv l eT (.ok (.mk 20 noB 0 r2.2.2.2 (acc++[.mk 30 noB 0 (hd ts).2.2.2 xs])) (if AB Ht r then r.tail else r))):=λxs r hr hrl=>by
   rw [got_eq m hl hr hrl,Cn (by simp only [AX,Bp];omega)];rfl
  simp only [AN,Ah6 m g1 gs,MZ m g1 gs,Aq];unfold Xd;cases hE:JY ts.tail with
  | true =>
   simp only [Bool.not_true,cond_false,Aq,Bool.true_or,if_true];exact hend [] _ g1 gs
  | false =>
   simp only [Bool.not_false,cond_true,Aq,Bool.false_or];by_cases hS:AB Ht ts.tail=true;rw [if_pos hS,show AB (⟨#[59]⟩:Ah) ts.tail=true from hS];exact hend [] _ g1 gs;rw [if_neg hS,show AB (⟨#[59]⟩:Ah) ts.tail=false from by simpa using hS];simp only [Bool.not_false,cond_true];rw [Vw hl m g1 gs (by omega)];refine CU (JZ g1) λxs r hr hrs hn=>?_;exact hend xs r hr (hrs.trans gs)
  simp only [if_neg h2,MZ m hg hs,Ah6 m hg hs,Aq];have hq:(cond chunk (some (AB (⟨#[102,117,110,99,116,105,111,110]⟩:Ah) ts)) (some false):Option Bool)=some (chunk && AB NZ ts):=by cases chunk <;> rfl
  rw [hq];simp only [Aq];have more:∀ (x:Tree) (r:List Tk),Good r->r <:+ ts->r.length+1<=ts.length->((apd 64 acc [x]).bind λl56=>C_.l0 m (PS.at k) l chunk r2 l56 (ix l r))=some (conv l eT (K5 chunk r2.2.2.2 (acc++[x]) r)):=λx r hr hrs hn=>by
   rw [Cn (by simp only [AX,Bp];omega)];exact XF chunk r2 m _ r hr (hrs.trans hs) (by omega) (by simp only [BT,AX,Bp];omega) (by omega)
  refine Fe (Dt _) (λhc=>?_) λh3=>?_;simp only [Bool.and_eq_true] at hc;rw [ih.function ts hc.2 hg hs (by omega)];refine CU (Aiv (AU hc.2) hg) λx r hr hrs hn=>?_;simp only [eT,Cd];exact more x r hr hrs hn;refine Fe (Dt _) (λhc=>rfl) λh4=>?_;rw [ih.stat ts hg hs (by omega)];refine CU (XY hg) λx r hr hrs hn=>?_;simp only [eT,Cd];exact more x r hr hrs hn
theorem Ag4 (c:Bool) {ts:List Tk} (hg:Good ts) (hs:ts <:+ l) (hk:16 * ts.length+8<=k):C_.g (PS.at k) k l (ix l ts) c=some (conv l eT (FE c ts)):=by
 unfold C_.g;rw [Kk k hg hs,Awg c hg];simp only [Aq];have:=hs.length_le;exact XF hl ih c (hd ts) k [] ts hg hs (by omega) (by simp only [Bp];omega) hk
theorem A6u {ts:List Tk} (hf:AB NZ ts=true) (hg:Good ts) (hs:ts <:+ l) (hk:16 * ts.length+6<=k):Io.g (PS.at k) k l (ix l ts)=some (conv l eT (Sb ts)):=by
 unfold Io.g;rw [Kk k hg hs,Awr (AU hf) hg];simp only [Aq];rw [GI k hl hg hs];unfold Dc;rw [if_pos hf];obtain ⟨g1,g2,g3⟩:=hg.tail (AU hf);have gs:=g3.trans hs;have hle:=hs.length_le;show PR.bind (GC.f k l (ix l ts.tail)) _=_;rw [name_eq k hl g1 gs];refine CU (fName 6 g1) λnm r hr hrs hn=>?_;simp only [eT];have h1:=hrs.trans gs;rw [GI k hl hr h1];refine CU (CO _ hr) λ_ r2 hr2 Ey hn2=>?_;simp only [eU,AN];have h2:=Ey.trans h1;have tl:∀ (ps:List Tree) (r:List Tk),Good r->r <:+ l->r.length+1<=ts.length->ps.length<=1000000->PR.bind (CJ.f k l (ix l r) (⟨#[41]⟩:Ah)) (λr21=>PR.bind ((PS.at k).C_ l r21 false) λBK=>(apd 64 ps [(Tree.mk BK.1 BK.2.1 BK.2.2.1 BK.2.2.2.1 BK.2.2.2.2.1)]).bind λl32=>PR.bind (CJ.f k l BK.2.2.2.2.2 (⟨#[101,110,100]⟩:Ah)) λDV=>some (PR.ok ((31:Int),nm.text,((ps.length:Nat):Int),(hd ts).2.2.2,l32,DV))) =
   some (conv l eT ((Dc Gs r).then λ_ r=>(FE false r).then λb r=>(Dc GQ r).then λ_ r=>.ok (.mk 31 nm.text ps.length (hd ts).2.2.2 (ps++[b])) r)):=λps r hr hrl hn hps=>by
  rw [GI k hl hr hrl];refine CU (CO _ hr) λ_ s hs1 hss hn'=>?_;simp only [eU];have h3:=hss.trans hrl;rw [ih.block false s hs1 h3 (by omega)];refine CU (I_ false hs1) λb s2 hs2 Kf Bcw=>?_;simp only [eT,Cd];rw [Cn (by simp only [AX,Bp];omega)];simp only [Aq];rw [GI k hl hs2 (Kf.trans h3)];exact CU (CO _ hs2) λ_ s3 _ _ _=>rfl
 rw [MZ k hr2 h2];simp only [Aq];unfold UD;by_cases hR:AB Gs r2=true;rw [if_pos hR,show AB (⟨#[41]⟩:Ah) r2=true from hR];exact tl [] r2 hr2 h2 (by omega) (by simp);rw [if_neg hR,show AB (⟨#[41]⟩:Ah) r2=false from by simpa using hR];simp only [Bool.not_false,cond_true];rw [Aaf hl k hr2 h2 (by omega)];cases hv:JI r2 with
 | bad i=>rfl
 | ok ps s =>
  have hf:=Pb hr2;rw [hv] at hf;have hln:=T3 hr2 hv;exact tl ps s hf.1 (hf.2.2.trans h2) (by have:=hf.2.1;omega) (by omega)
theorem Ag7 (J:List Tree->Int->Option (PR (List Tree×Int))) (hJ:∀ a r,Good r->r <:+ l->16 * r.length+9<=k->a.length<=1000000->J a (ix l r)=some (conv l eL (if AB NY r then (FE false r.tail).then λc r=>(Dc GQ r).then λ_ r=>.ok (a++[c]) r else (Dc GQ r).then λ_ r=>.ok a r))) :
  ∀ (m:Nat) (acc:List Tree) (ts:List Tk),Good ts->ts <:+ l->16 * ts.length+4 < m->acc.length+2 * ts.length<=1000000->16 * ts.length<=k->FA.l0 m (PS.at k) l J acc (ix l ts)=some (conv l eL (N7 acc ts))
 | 0,_,_,_,_,h,_,_=>by omega
 | m+1,acc,ts,hg,hs,hm,ha,hk=>by
  rw [FA.l0,SL hl m hg hs (by omega),Awh acc hg];refine CU (Da (by omega) hg) λe r hr hrs hn=>?_;simp only [eT,Cd];have h1:=hrs.trans hs;rw [Cn (by simp only [AX,Bp];omega)];simp only [Aq];rw [GI m hl hr h1];refine CU (CO _ hr) λ_ r2 hr2 Ey hn2=>?_;simp only [eU];have h2:=Ey.trans h1;rw [ih.block false r2 hr2 h2 (by omega)];refine CU (I_ false hr2) λb r3 hr3 GP hn3=>?_;simp only [eT,Cd];have h3:=GP.trans h2;rw [Cn (by simp only [BT,AX,Bp];omega)];simp only [Aq,got_eq m hl hr3 h3];by_cases hc:AB PB r3=true;rw [if_pos hc,show AB (⟨#[101,108,115,101,105,102]⟩:Ah) r3=true from hc];simp only [Bool.not_true,cond_false,if_true];obtain ⟨g1,g2,g3⟩:=hr3.tail (AU hc);exact Ag7 J hJ m _ _ g1 (g3.trans h3) (by omega) (by simp only [BT,AX,Bp];omega) (by omega);rw [if_neg hc,show AB (⟨#[101,108,115,101,105,102]⟩:Ah) r3=false from by simpa using hc];simp only [Bool.not_false,cond_true,Bool.false_eq_true,if_false];exact hJ _ r3 hr3 h3 (by omega) (by simp only [BT,AX,Bp];omega)
theorem A08 {ts:List Tk} (hg:Good ts) (hs:ts <:+ l) (hk:16 * ts.length+5<=k) (hl2:l.length<=400000):FA.g (PS.at k) k l (ix l ts)=some (conv l eL (N7 [] ts)):=by
 unfold FA.g;simp only [AN];have hle:=hs.length_le;refine Ag7 hl ih _ (λa r hr hrl hk2 ha=>?_) k [] ts hg hs (by omega) (by simp only [Bp];omega) (by omega);rw [got_eq k hl hr hrl];simp only [Aq];refine Fe (Dt _) (λhc=>?_) λh1=>?_;simp only [hc,if_true];obtain ⟨g1,g2,g3⟩:=hr.tail (AU hc);have gs:=g3.trans hrl;rw [ih.block false _ g1 gs (by omega)];refine CU (I_ false g1) λc r3 hr3 GP hn3=>?_;simp only [eT,Cd];rw [Cn (by simp only [AX,Bp];omega)];simp only [Aq];rw [GI k hl hr3 (GP.trans gs)];exact CU (CO _ hr3) λ_ _ _ _ _=>rfl;simp only [if_neg h1];rw [GI k hl hr hrl];exact CU (CO _ hr) λ_ _ _ _ _=>rfl
theorem A6t (at_:Int) {ts:List Tk} (hg:Good ts) (hs:ts <:+ l) (hk:16 * ts.length+7<=k):Ip.g (PS.at k) k l (ix l ts) at_=some (conv l eT (Qw at_ ts)):=by
 unfold Ip.g;rw [name_eq k hl hg hs,Awp at_ hg];refine CU (fName 6 hg) λn r hr hrs hn=>?_;simp only [eT,Cd,AN];have h1:=hrs.trans hs;have hle:=hs.length_le;have tl:∀ (kd nn:Int) (xs:List Tree) (r:List Tk),Good r->r <:+ l->r.length+1<=ts.length->xs.length<=1000000->PR.bind (CJ.f k l (ix l r) (⟨#[100,111]⟩:Ah)) (λr19=>PR.bind ((PS.at k).C_ l r19 false) λr21=>(apd 64 xs [(Tree.mk r21.1 r21.2.1 r21.2.2.1 r21.2.2.2.1 r21.2.2.2.2.1)]).bind λGg=>PR.bind (CJ.f k l r21.2.2.2.2.2 (⟨#[101,110,100]⟩:Ah)) λEH=>some (PR.ok (kd,(⟨#[]⟩:Ah),nn,at_,Gg,EH))) =
   some (conv l eT ((Jo r).then λbd r=>.ok (.mk kd noB nn at_ (xs++[bd])) r)):=λkd nn xs r hr hrl hn hxs =>
  Axi hl ih (λb=>apd 64 xs [b]) (λGg EH=>some (PR.ok (kd,(⟨#[]⟩:Ah),nn,at_,Gg,EH))) (λbd=>.mk kd noB nn at_ (xs++[bd])) hr hrl (by omega) λb s hs1 hsl=>⟨_,Cn (by simp only [AX,Bp];omega),rfl⟩
 rw [got_eq k hl hr h1];simp only [Aq];refine Fe (Dt _) (λhc=>?_) λhne=>?_;simp only [hc,if_true];obtain ⟨g1,g2,g3⟩:=hr.tail (AU hc);have gs:=g3.trans h1;rw [SL hl k g1 gs (by omega)];refine CU (Da (by omega) g1) λa r2 hr2 Ey hn2=>?_;simp only [eT,Cd];have h2:=Ey.trans gs;rw [Cn (by simp)];simp only [Aq];rw [GI k hl hr2 h2];refine CU (CO _ hr2) λ_ r3 hr3 GP hn3=>?_;simp only [eU];have h3:=GP.trans h2;rw [SL hl k hr3 h3 (by omega)];refine CU (Da (by omega) hr3) λb r4 hr4 QX hn4=>?_;simp only [eT,Cd];have h4:=QX.trans h3;rw [Cn (by simp)];simp only [Aq,got_eq k hl hr4 h4];unfold UE;by_cases hC:AB Ez r4=true;rw [if_pos hC,show AB (⟨#[44]⟩:Ah) r4=true from hC];simp only [cond_true,if_true];obtain ⟨g5,g6,g7⟩:=hr4.tail (AU hC);have gs5:=g7.trans h4;rw [SL hl k g5 gs5 (by omega),then_assoc];refine CU (Da (by omega) g5) λc r5 hr5 Zo hn5=>?_;simp only [eT,Cd];rw [Cn (by simp)];exact tl 26 0 _ r5 hr5 (Zo.trans gs5) (by omega) (by simp);rw [if_neg hC,show AB (⟨#[44]⟩:Ah) r4=false from by simpa using hC];simp only [cond_false,Bool.false_eq_true,if_false];have:=tl 26 0 ([n]++[a]++[b]) r4 hr4 h4 (by omega) (by simp);simp only [PV.then,List.append_nil];exact this;simp only [if_neg hne,got_eq k hl hr h1,Aq];have tl2:∀ (xs:List Tree) (r:List Tk),Good r->r <:+ l->r.length+1<=ts.length->xs.length+r.length<=ts.length+1->PR.bind (CJ.f k l (ix l r) (⟨#[105,110]⟩:Ah)) (λWK=>PR.bind (D4.f k l WK) λQp=>(apd 64 xs Qp.1).bind λRu=>PR.bind (CJ.f k l Qp.2 (⟨#[100,111]⟩:Ah)) λr19=>PR.bind ((PS.at k).C_ l r19 false) λr21=>(apd 64 Ru [(Tree.mk r21.1 r21.2.1 r21.2.2.1 r21.2.2.2.1 r21.2.2.2.2.1)]).bind λGg=>PR.bind (CJ.f k l r21.2.2.2.2.2 (⟨#[101,110,100]⟩:Ah)) λEH=>some (PR.ok ((27:Int),(⟨#[]⟩:Ah),((xs.length:Nat):Int),at_,Gg,EH))) =
   some (conv l eT ((Dc VP r).then λ_ r=>(Gb r).then λes r=>(Jo r).then λbd r=>.ok (.mk 27 noB xs.length at_ (xs++es++[bd])) r)):=λxs r hr hrl hn hx=>by
  rw [GI k hl hr hrl];refine CU (CO _ hr) λ_ r3 hr3 GP hn3=>?_;simp only [eU];have h3:=GP.trans hrl;rw [Vw hl k hr3 h3 (by omega)];cases hv:Gb r3 with
  | bad i=>rfl
  | ok es s =>
   have hf:=JZ hr3;rw [hv] at hf;have hln:=Oh hr3 hv;show (apd 64 xs es).bind _=_;rw [Cn (by omega)];exact tl 27 xs.length (xs++es) s hf.1 (hf.2.2.trans h3) (by have:=hf.2.1;omega) (by simp only [BT];omega)
 by_cases hC:AB Ez r=true;rw [show AB (⟨#[44]⟩:Ah) r=true from hC];simp only [cond_true,if_true];obtain ⟨g1,g2,g3⟩:=hr.tail (AU hC);have gs:=g3.trans h1;rw [Aaf hl k g1 gs (by omega)];have e:K6 [n] r=(JI r.tail).then λxs r=>.ok ([n]++xs) r:=by
  rw [O9 _ hr,if_pos hC];unfold JI;rw [then_assoc];exact U6 (fName 6 g1) λx s hs1 _=>Awx [n] _ [x] s (Nat.le_refl _) hs1
 rw [e,then_assoc];cases hv:JI r.tail with
 | bad i=>rfl
 | ok xs s =>
  have hf:=Pb g1;rw [hv] at hf;have hln:=T3 g1 hv;show (apd 64 [n] xs).bind _=_;rw [Cn (by simp only [AX,Bp];omega)];exact tl2 ([n]++xs) s hf.1 (hf.2.2.trans gs) (by have:=hf.2.1;omega) (by simp only [BT,AX,Bp];omega)
 rw [show AB (⟨#[44]⟩:Ah) r=false from by simpa using hC];simp only [cond_false,Bool.false_eq_true,if_false];rw [O9 _ hr,if_neg hC];exact tl2 [n] r hr h1 (by omega) (by simp only [AX,Bp];omega)
theorem Bvt {ts:List Tk} (hg:Good ts) (hs:ts <:+ l) (hk:16 * ts.length+6<=k):Ir.g (PS.at k) k l (ix l ts)=some (conv l eT (N8 ts)):=by
 unfold Ir.g;rw [Kk k hg hs,Aw0 hg];simp only [Aq,AN,got_eq k hl hg hs];have hle:=hs.length_le;refine Fe (Dt _) (λhc=>?_) λh1=>?_;simp only [hc,if_true];obtain ⟨g1,g2,g3⟩:=hg.tail (AU hc);have gs:=g3.trans hs;rw [A06 hc hg,then_assoc,ih.block false _ g1 gs (by omega)];refine CU (I_ false g1) λb r hr hrs hn=>?_;simp only [eT,Cd];rw [GI k hl hr (hrs.trans gs),then_assoc];exact CU (CO _ hr) λ_ _ _ _ _=>rfl;simp only [if_neg h1,got_eq k hl hg hs,Aq];refine Fe (Dt _) (λhc=>?_) λh2=>?_;simp only [hc,if_true];obtain ⟨g1,g2,g3⟩:=hg.tail (AU hc);have gs:=g3.trans hs;rw [SL hl k g1 gs (by omega)];refine CU (Da (by omega) g1) λe r hr hrs hn=>?_;simp only [eT,Cd];exact Axi hl ih (λb=>apd 64 [e] [b]) (λl49 He=>some (PR.ok ((25:Int),(⟨#[]⟩:Ah),(0:Int),(hd ts).2.2.2,l49,He))) (λb=>.mk 25 noB 0 (hd ts).2.2.2 [e,b]) hr (hrs.trans gs) (by omega) λb s _ _=>⟨_,Cn (by simp),rfl⟩;simp only [if_neg h2,got_eq k hl hg hs,Aq];refine Fe (Dt _) (λhc=>?_) λh3=>?_;simp only [hc,if_true];obtain ⟨g1,g2,g3⟩:=hg.tail (AU hc);rw [ih.branches _ g1 (g3.trans hs) (by omega)];exact CU (Ait _ g1) λ_ _ _ _ _=>rfl;simp only [if_neg h3,got_eq k hl hg hs,Aq];have same:∀ {x:PV Tree},(PR.bind (some (conv l eT x)) λDk=>some (PR.ok (Dk.1,Dk.2.1,Dk.2.2.1,Dk.2.2.2.1,Dk.2.2.2.2.1,Dk.2.2.2.2.2)))=some (conv l eT x):=λ{x}=>by cases x <;> rfl
 refine Fe (Dt _) (λhc=>?_) λh4=>?_;simp only [hc,if_true];obtain ⟨g1,g2,g3⟩:=hg.tail (AU hc);rw [ih.loop _ _ g1 (g3.trans hs) (by omega)];exact same;simp only [if_neg h4,got_eq k hl hg hs,Aq];refine Fe (Dt _) (λhc=>?_) λh5=>?_;simp only [hc,if_true];obtain ⟨g1,g2,g3⟩:=hg.tail (AU hc);have gs:=g3.trans hs;rw [Aaf hl k g1 gs (by omega)];cases hv:JI ts.tail with
 | bad i=>rfl
 | ok xs r =>
  have hf:=Pb g1;rw [hv] at hf;have hln:=T3 g1 hv;have hrl:=hf.2.2.trans gs;show (C1.f k l (ix l r) _).bind _=some (conv l eT ((UC r).then _));rw [got_eq k hl hf.1 hrl];unfold UC;simp only [Aq,eL];by_cases hE:AB EO r=true;rw [if_pos hE,show AB (⟨#[61]⟩:Ah) r=true from hE];simp only [cond_true,if_true];obtain ⟨g4,g5,g6⟩:=hf.1.tail (AU hE);have h6:=hf.2.1;rw [Vw hl k g4 (g6.trans hrl) (by omega)];cases hv2:Gb r.tail with
  | bad i=>rfl
  | ok es s =>
   have Bcr:=Oh g4 hv2;show (apd 64 xs es).bind _=_;rw [Cn (by omega)];rfl
  rw [if_neg hE,show AB (⟨#[61]⟩:Ah) r=false from by simpa using hE];simp only [cond_false,Bool.false_eq_true,if_false,PV.then,List.append_nil];rfl
 simp only [if_neg h5,got_eq k hl hg hs,Aq];refine Fe (Dt _) (λhc=>?_) λh6=>?_;simp only [hc,if_true];rfl;simp only [if_neg h6];rw [ih.plain _ hg hs (by omega)];exact same
omit ih in
theorem targets_eq (J:List Tree->Int->Option (PR (Int×Ah×Int×Int×List Tree×Int))) (g:List Tree->List Tk->PV Tree) (Ag:Nat) (hJ:∀ a r,Good r->r <:+ l->r.length<=Ag->a.length+r.length<=1000000->J a (ix l r)=some (conv l eT (g a r))) :
  ∀ (m:Nat) (acc:List Tree) (e:Tree) (ts:List Tk),Good ts->ts <:+ l->16 * ts.length+2 < m->ts.length<=Ag->acc.length+ts.length+1<=1000000->FB.l0 m l J e.kind e.text e.n e.at_ e.kids acc (ix l ts)=some (conv l eT ((Qy acc e ts).then g))
 | 0,_,_,_,_,_,h,_,_=>by omega
 | m+1,acc,e,ts,hg,hs,hm,hN,ha=>by
  rw [FB.l0,Aw1 acc e hg];simp only [AN,Cd];have ht:Qf.f m e.kind e.text e.n e.at_ e.kids=some (decide (e.kind=6\/e.kind=7)):=by
   unfold Qf.f;rw [NN,NN];by_cases h6:e.kind=6;simp [h6];simp [h6]
  rw [ht];simp only [Aq];by_cases hk:e.kind=6\/e.kind=7;rw [if_pos hk,decide_eq_true hk];simp only [Bool.not_true,cond_false];rw [Cn (by simp only [AX,Bp];omega)];simp only [Aq,got_eq m hl hg hs];by_cases hc:AB Ez ts=true;rw [show AB (⟨#[44]⟩:Ah) ts=true from hc];simp only [Bool.not_true,cond_false,if_true];rw [then_assoc];obtain ⟨g1,g2,g3⟩:=hg.tail (AU hc);have gs:=g3.trans hs;rw [Ajo hl m g1 gs (by omega)];refine CU (Pc g1) λx r hr hrs hn=>?_;exact targets_eq J g Ag hJ m _ x r hr (hrs.trans gs) (by omega) (by omega) (by simp only [BT,AX,Bp];omega);rw [show AB (⟨#[44]⟩:Ah) ts=false from by simpa using hc];simp only [Bool.not_false,cond_true,Bool.false_eq_true,if_false];exact hJ _ ts hg hs (by omega) (by simp only [BT,AX,Bp];omega);rw [if_neg hk,decide_eq_false hk];rfl
omit ih in
theorem Bsl (k:Nat) {ts:List Tk} (hg:Good ts) (hs:ts <:+ l) (hk:16 * ts.length+5<=k):FB.g (PS.at k) k l (ix l ts)=some (conv l eT (Qx ts)):=by
 unfold FB.g;rw [Ajo hl k hg hs (by omega),Awz hg];have hle:=hs.length_le;refine CU (Pc hg) λe r hr hrs hn=>?_;have h1:=hrs.trans hs;simp only [eT,Cd,MZ k hr h1,Aq,AN];have hq:(cond (!AB (⟨#[61]⟩:Ah) r) (some (!AB (⟨#[44]⟩:Ah) r)) (some false):Option Bool)=some (!(AB EO r || AB Ez r)):=by
  show (cond (!AB EO r) (some (!AB Ez r)) (some false):Option Bool)=_;cases AB EO r <;> cases AB Ez r <;> rfl
 rw [hq];simp only [Aq];cases hb:(AB EO r || AB Ez r) with
 | true =>
  simp only [Bool.not_true,cond_false,if_true];refine targets_eq hl _ (λl r=>(Dc EO r).then λ_ r=>(Gb r).then λes r=>.ok (.mk 22 noB l.length e.at_ (l++es)) r) r.length (λa s hs1 hsl hsn ha=>?_) k [] e r hr h1 (by omega) (Nat.le_refl _) (by simp only [Bp];omega);rw [GI k hl hs1 hsl];refine CU (CO _ hs1) λ_ s2 hs2 Kf hn2=>?_;simp only [eU];have h2:=Kf.trans hsl;have hkey:16 * s2.length+5<=k:=by have:=hs2;omega
  rw [Vw hl k hs2 h2 hkey];cases hv:Gb s2 with
  | bad i=>rfl
  | ok es s3 =>
   have hln:=Oh hs2 hv;show (apd 64 a es).bind _=_;rw [Cn (by omega)];rfl
 | false =>
  simp only [Bool.not_false,cond_true,Bool.false_eq_true,if_false];by_cases h8:e.kind=8;rw [if_pos h8,h8];rfl;rw [if_neg h8,show (e.kind != 8)=true by rw [bne_iff_ne];exact h8];simp only [cond_true,Kk k hr h1,Aq];rfl
end
theorem aS {l:List Tk} (hl:l.length<=400000):∀ k,AS l k
 | 0=>by constructor <;> intros <;> omega
 | k+1=>by
  have ih:=aS hl k;have h1:l.length<=1000000:=by omega
  exact ⟨λc ts hg hs h=>Ag4 h1 ih c hg hs (by omega),λts hf hg hs h=>A6u h1 ih hf hg hs (by omega),λts hg hs h=>Bvt h1 ih hg hs (by omega),λts hg hs h=>A08 h1 ih hg hs (by omega) hl,λat_ ts hg hs h=>A6t h1 ih at_ hg hs (by omega),λts hg hs h=>Bsl h1 k hg hs (by omega)⟩
theorem A5m {l:List Tk} (hl:l.length<=400000) (k:Nat) (c:Bool) {ts:List Tk} (hg:Good ts) (hs:ts <:+ l) (hk:16 * ts.length+8<=k):C_.f k l (ix l ts) c=some (conv l eT (FE c ts)):=Ag4 (by omega) (aS hl k) c hg hs hk
mutual
def sz:Tree->Nat
 | .mk _ _ _ _ l=>A_ l+1
def A_:List Tree->Nat
 | []=>0
 | x :: l=>sz x+A_ l
end
mutual
/-- Nodes begin in order. -/
def D8:Tree->Prop
 | .mk k _ _ a l=>F3 a l/\(k=20->l.Pairwise λx y=>x.at_ < y.at_)
def F3 (a:Int):List Tree->Prop
 | []=>True
 | x :: l=>(a<=x.at_/\D8 x)/\F3 a l
end
theorem W4 {a:Int}:∀ {l:List Tree},F3 a l ↔ ∀ x ∈ l,a<=x.at_/\D8 x
 | []=>by simp [F3]
 | x :: l=>by simp [F3,W4 (l:=l)]
theorem Eb:∀ (l m:List Tree),A_ (l++m)=A_ l+A_ m
 | [],m=>by simp [A_]
 | x :: l,m=>by simp only [List.cons_append,A_,Eb l m];omega
theorem Fu:∀ (l:List Tree),l.length<=A_ l
 | []=>Nat.zero_le _
 | .mk _ _ _ _ _ :: l=>by
  have:=Fu l;simp only [AX,A_,sz];omega
def Asc (ts:List Tk):Prop:=ts.Pairwise λa b=>a.2.2.2 < b.2.2.2
def at0 (ts:List Tk):Int:=(hd ts).2.2.2
structure C7 (n:Nat) (ts r:List Tk):Prop where
 good:Good r
 C0:Asc r
 len:r.length+n<=ts.length
 le:at0 ts<=at0 r
 lt:r.length < ts.length->at0 ts < at0 r
theorem C7.refl {ts:List Tk} (hg:Good ts) (ha:Asc ts):C7 0 ts ts:=⟨hg,ha,Nat.le_refl _,Int.le_refl _,λh=>absurd h (Nat.lt_irrefl _)⟩
theorem C7.trans {n m:Nat} {ts r s:List Tk} (h:C7 n ts r) (h':C7 m r s):C7 (n+m) ts s:=by
 refine ⟨h'.good,h'.C0,?_,?_,λhl=>?_⟩;have:=h.len;have:=h'.len;omega;have:=h.le;have:=h'.le;omega;by_cases hr:r.length < ts.length;have:=h.lt hr;have:=h'.le;omega;have:=h'.lt (by omega);have:=h.le;omega
theorem C7.weak {n m:Nat} {ts r:List Tk} (h:C7 n ts r) (hm:m<=n):C7 m ts r:=⟨h.good,h.C0,by have:=h.len;omega,h.le,h.lt⟩
theorem C7.tail {n:Nat} {ts r:List Tk} (h:C7 n ts r) (h6:(hd r).1≠6):C7 (n+1) ts r.tail:=by
 obtain ⟨g1,g2,_⟩:=h.good.tail h6;refine h.trans (m:=1) ⟨g1,?_,by omega,?_,?_⟩
 ·cases r with
  | nil=>exact h.C0
  | cons t r=>exact (List.pairwise_cons.1 h.C0).2
 all_goals
  cases r with
  | nil=>exact h.good.elim
  | cons t r =>
   cases r with
   | nil=>exact g1.elim
   | cons u r =>
    have:=(List.pairwise_cons.1 h.C0).1 u (DT ..);simp only [at0,hd,List.tail_cons,List.headD_cons];omega
def R {α:Type} (x:Option (PV α)) (Q:α->List Tk->Prop):Prop:=∀ a r,x=some (.ok a r)->Q a r
section
variable {α β:Type} {x y:Option (PV α)} {f:α->List Tk->Option (PV β)} {Q Q1:α->List Tk->Prop} {Q2:β->List Tk->Prop}
theorem R.bind (h1:R x Q1) (h2:∀ a r,Q1 a r->R (f a r) Q2):R (PV.bind x f) Q2:=λa r h=>by
 rcases bind_some h with ⟨i,_,he⟩ | ⟨a',r',hx,hf⟩;cases he;exact h2 a' r' (h1 a' r' hx) a r hf
theorem R.none:R (none:Option (PV α)) Q:=λ_ _ h=>by cases h
theorem R.bad {i:Int}:R (some (.bad i):Option (PV α)) Q:=λ_ _ h=>by cases h
theorem R.ok {a:α} {r:List Tk} (h:Q a r):R (some (.ok a r)) Q:=λ_ _ h'=>by cases h';exact h
theorem R.ite {c:Prop} [Decidable c] (h1:c->R x Q) (h2:¬ c->R y Q):R (if c then x else y) Q:=by
 by_cases h:c;rw [if_pos h];exact h1 h;rw [if_neg h];exact h2 h
theorem R.weak (h:R x Q1) (h2:∀ a r,Q1 a r->Q a r):R x Q:=λa r h'=>h2 a r (h a r h')
end
structure TE (b:Nat) (ts:List Tk) (n:Tree) (r:List Tk):Prop where
 Bu:C7 1 ts r
 at_:n.at_=at0 ts
 ord:D8 n
 size:sz n+b+4 * r.length<=4 * ts.length
structure LE (m:Nat) (lo:Int) (acc:List Tree) (ts:List Tk) (l:List Tree) (r:List Tk):Prop where
 Bu:C7 m ts r
 ord:F3 lo l
 size:A_ l+4 * r.length<=A_ acc+4 * ts.length
theorem F3.snoc {lo:Int} {l:List Tree} {x:Tree} (h:F3 lo l) (h1:lo<=x.at_) (h2:D8 x):F3 lo (l++[x]):=by
 rw [W4] at h ⊢;intro y hy;rcases EL.1 hy with hy | hy;exact h y hy;obtain rfl:=Fc.1 hy;exact ⟨h1,h2⟩
theorem F3.app {lo:Int} {l m:List Tree} (h:F3 lo l) (h':F3 lo m):F3 lo (l++m):=by
 rw [W4] at *;intro y hy;exact (EL.1 hy).elim (h y) (h' y)
theorem F3.weak {lo lo':Int} {l:List Tree} (h:F3 lo l) (h1:lo'<=lo):F3 lo' l:=by
 rw [W4] at *;exact λy hy=>⟨Int.le_trans h1 (h y hy).1,(h y hy).2⟩
theorem D8.mk {k:Int} {t:Ah} {n a:Int} {l:List Tree} (h:F3 a l) (hk:k≠20):D8 (.mk k t n a l):=⟨h,λe=>absurd e hk⟩
theorem one {lo:Int} {x:Tree} (h1:lo<=x.at_) (h2:D8 x):F3 lo [x]:=⟨⟨h1,h2⟩,Aj⟩
theorem Ix {w:Ah} {n:Nat} {ts s:List Tk} (h:C7 n ts s):R (FL w s) λ_ r=>C7 (n+1) ts r/\r.length+1=s.length:=by
 refine R.ite (λhc=>R.ok ⟨h.tail (AU hc),?_⟩) λ_=>R.bad;exact (h.good.tail (AU hc)).2.1
theorem RQ {k:Int} {ts:List Tk} (hk:k≠20) (hg:Good ts) (ha:Asc ts):R (Jg k ts) (TE 1 ts):=by
 refine R.ite (λhc=>R.ok ?_) λ_=>R.bad;have h6:(hd ts).1≠6:=by omega
 have:=(hg.tail h6).2.1;exact ⟨((C7.refl hg ha).tail h6).weak (by omega),rfl,D8.mk trivial hk,by simp only [sz,A_];omega⟩
theorem Acg:∀ (f:Nat) (acc:List Tree) (lo:Int) (ts:List Tk),Good ts->Asc ts->lo<=at0 ts->F3 lo acc->R (Gy f acc ts) (LE 0 lo acc ts)
 | 0,_,_,_,_,_,_,_=>R.none
 | f+1,acc,lo,ts,hg,ha,hlo,hacc=>by
  unfold Gy;refine R.ite (λhc=>?_) λ_=>R.ok ⟨C7.refl hg ha,hacc,Nat.le_refl _⟩;have ht:=(C7.refl hg ha).tail (AU hc);have:=ht.len;have:=ht.le;refine R.bind (RQ (by decide) ht.good ht.C0) λn r hn=>?_;have:=hn.at_;have:=hn.size;refine R.weak (Acg f _ lo r hn.Bu.good hn.Bu.C0 (by have:=hn.Bu.le;omega) (hacc.snoc (by omega) hn.ord)) λl s hl=>?_;have:=hl.size;rw [Eb] at this;simp only [A_] at this;exact ⟨((ht.trans hn.Bu).trans hl.Bu).weak (by omega),hl.ord,by omega⟩
theorem As1 (f:Nat) {lo:Int} {ts:List Tk} (hg:Good ts) (ha:Asc ts) (hlo:lo<=at0 ts):R (Nq f ts) (LE 1 lo [] ts):=by
 refine R.bind (RQ (by decide) hg ha) λn r hn=>?_;have:=hn.at_;have:=hn.size;refine R.weak (Acg f _ lo r hn.Bu.good hn.Bu.C0 (by have:=hn.Bu.le;omega) (one (by omega) hn.ord)) λl s hl=>?_;have:=hl.size;simp only [A_] at this ⊢;exact ⟨(hn.Bu.trans hl.Bu).weak (by omega),hl.ord,by simp only [A_];omega⟩
structure OE (f:Nat):Prop where
 exp:∀ least ts,0<=least->Good ts->Asc ts->R (D0 f least ts) (TE 1 ts)
 loop:∀ least n ts,0<=least->Good ts->Asc ts->D8 n->n.at_<=at0 ts->R (Fp f least n ts) λn' r=>C7 0 ts r/\n'.at_=n.at_/\D8 n'/\sz n'+4 * r.length<=sz n+4 * ts.length
 operand:∀ ts,Good ts->Asc ts->R (Fh f ts) (TE 1 ts)
 fields:∀ acc lo ts,Good ts->Asc ts->lo<=at0 ts->F3 lo acc->R (Fg f acc ts) (LE 1 lo acc ts)
 field:∀ ts,Good ts->Asc ts->R (F4 f ts) (TE 0 ts)
 Eg:∀ ts,Good ts->Asc ts->R (ES f ts) (TE 1 ts)
 DG:∀ at_ n ts,Good ts->Asc ts->D8 n->at_=n.at_->n.at_<=at0 ts->R (ER f at_ n ts) λn' r=>C7 0 ts r/\n'.at_=n.at_/\D8 n'/\sz n'+4 * r.length<=sz n+4 * ts.length
 CY:∀ lo ts,Good ts->Asc ts->lo<=at0 ts->R (EQ f ts) (LE 1 lo [] ts)
 Gq:∀ acc lo ts,Good ts->Asc ts->lo<=at0 ts->F3 lo acc->R (Fo f acc ts) (LE 0 lo acc ts)
theorem R4 {k:Int} {t:Ah} {n:Int} {ts:List Tk} (hk:k≠20) (hg:Good ts) (ha:Asc ts) (h6:(hd ts).1≠6):TE 1 ts (.mk k t n (hd ts).2.2.2 []) ts.tail:=by
 have:=(hg.tail h6).2.1;exact ⟨((C7.refl hg ha).tail h6).weak (by omega),rfl,D8.mk trivial hk,by simp only [sz,A_];omega⟩
theorem rE:∀ f,OE f
 | 0=>by constructor <;> intros <;> (first | unfold D0 | unfold Fp | unfold Fh | unfold Fg | unfold F4 | unfold ES | unfold ER | unfold EQ | unfold Fo) <;> exact R.none
 | f+1=>by
  have ih:=rE f;constructor;intro least ts hl hg ha;unfold D0;refine R.bind (ih.operand ts hg ha) λn r hn=>?_;have:=hn.at_;have:=hn.size;have:=hn.Bu.le;refine R.weak (ih.loop least n r hl hn.Bu.good hn.Bu.C0 hn.ord (by omega)) λn' s ⟨h1,h2,h3,h4⟩=>?_;exact ⟨(hn.Bu.trans h1).weak (by omega),by omega,h3,by omega⟩;intro least n ts hl hg ha hn hat;unfold Fp;refine R.ite (λ_=>R.ok ⟨C7.refl hg ha,rfl,hn,Nat.le_refl _⟩) λhc=>?_;have hb:=XA ts;have ht:=(C7.refl hg ha).tail (Mi (by omega));have:=ht.len;have:=ht.le;refine R.bind (ih.exp _ _ (by split <;> omega) ht.good ht.C0) λm r hm=>?_;have:=hm.at_;have:=hm.size;have:=hm.Bu.le;refine R.weak (ih.loop least _ r hl hm.Bu.good hm.Bu.C0 (D8.mk ⟨⟨Int.le_refl _,hn⟩,⟨by omega,hm.ord⟩,Aj⟩ (by decide)) (show n.at_<=_ by omega)) λn' s ⟨h1,h2,h3,h4⟩=>?_;simp only [sz,A_] at h4;exact ⟨((ht.trans hm.Bu).trans h1).weak (by omega),h2,h3,by omega⟩;intro ts hg ha;unfold Fh;refine R.ite (λh=>R.ok (R4 (by decide) hg ha (by omega))) λ_=>?_;refine R.ite (λh=>R.ok (R4 (by decide) hg ha (by omega))) λ_=>?_;refine R.ite (λh=>R.ok (R4 (by decide) hg ha (AU h))) λ_=>?_;refine R.ite (λh=>R.ok (R4 (by decide) hg ha (AU h))) λ_=>?_;refine R.ite (λh=>R.ok (R4 (by decide) hg ha (AU h))) λ_=>?_;refine R.ite (λh=>?_) λ_=>?_;have h6:(hd ts).1≠6:=by
   simp only [Bool.or_eq_true] at h;rcases h with (h | h) | h <;> exact AU h
  have ht:=(C7.refl hg ha).tail h6;have:=ht.len;have:=ht.le;refine R.bind (ih.exp _ _ (by decide) ht.good ht.C0) λm r hm=>R.ok ?_;have:=hm.at_;have:=hm.size;have:=hm.Bu.le;exact ⟨(ht.trans hm.Bu).weak (by omega),rfl,D8.mk (one (show at0 ts<=_ by omega) hm.ord) (by decide),by simp only [sz,A_];omega⟩;refine R.ite (λh=>?_) λ_=>ih.Eg ts hg ha;have ht:=(C7.refl hg ha).tail (AU h);have:=ht.len;have:=ht.le;refine R.bind (ih.fields [] (at0 ts) _ ht.good ht.C0 (by omega) Aj) λl r hl=>R.ok ?_;have h5:=hl.size;simp only [A_] at h5;exact ⟨(ht.trans hl.Bu).weak (by omega),rfl,D8.mk hl.ord (by decide),by simp only [sz];omega⟩;intro acc lo ts hg ha hlo hacc;unfold Fg;refine R.ite (λh=>?_) λ_=>?_;have ht:=(C7.refl hg ha).tail (AU h);have:=ht.len;exact R.ok ⟨ht.weak (by omega),hacc,by omega⟩;refine R.bind (ih.field ts hg ha) λx r hx=>?_;have:=hx.at_;have:=hx.size;have:=hx.Bu.le;have hacc':=hacc.snoc (x:=x) (by omega) hx.ord;refine R.ite (λh=>?_) λ_=>?_;have ht:=hx.Bu.tail (AU h);have:=ht.len;have:=ht.le;have:=(hx.Bu.good.tail (AU h)).2.1;refine R.weak (ih.fields _ lo _ ht.good ht.C0 (by omega) hacc') λl s hl=>?_;have h5:=hl.size;simp only [Eb,A_] at h5;exact ⟨(ht.trans hl.Bu).weak (by omega),hl.ord,by omega⟩;refine R.ite (λh=>?_) λ_=>?_;have ht:=hx.Bu.tail (AU h);have:=ht.len;have:=ht.le;have:=(hx.Bu.good.tail (AU h)).2.1;refine R.weak (ih.fields _ lo _ ht.good ht.C0 (by omega) hacc') λl s hl=>?_;have h5:=hl.size;simp only [Eb,A_] at h5;exact ⟨(ht.trans hl.Bu).weak (by omega),hl.ord,by omega⟩;refine R.bind (Ix hx.Bu) λ_ s ⟨hs,hs2⟩=>R.ok ?_;exact ⟨hs.weak (by omega),hacc',by simp only [Eb,A_];omega⟩;intro ts hg ha;unfold F4;refine R.ite (λh=>?_) λ_=>?_;have ht:=(C7.refl hg ha).tail (AU h);have:=ht.len;have:=ht.le;refine R.bind (ih.exp _ _ (by decide) ht.good ht.C0) λk r hk=>?_;have:=hk.at_;have:=hk.size;have:=hk.Bu.le;refine R.bind (Ix (ht.trans hk.Bu)) λ_ r2 ⟨h2,h2'⟩=>?_;refine R.bind (Ix h2) λ_ r3 ⟨h3,h3'⟩=>?_;have:=h3.le;refine R.bind (ih.exp _ _ (by decide) h3.good h3.C0) λv r4 hv=>R.ok ?_;have:=hv.at_;have:=hv.size;exact ⟨(h3.trans hv.Bu).weak (by omega),rfl,D8.mk ⟨⟨show at0 ts<=_ by omega,hk.ord⟩,⟨show at0 ts<=_ by omega,hv.ord⟩,Aj⟩ (by decide),by simp only [sz,A_];omega⟩;refine R.ite (λh=>?_) λ_=>?_;obtain ⟨h1,h2,_⟩:=h;have ht:=((C7.refl hg ha).tail (by omega)).tail (by omega);have:=ht.len;have:=ht.le;refine R.bind (ih.exp _ _ (by decide) ht.good ht.C0) λv r hv=>R.ok ?_;have:=hv.at_;have:=hv.size;exact ⟨(ht.trans hv.Bu).weak (by omega),rfl,D8.mk ⟨⟨Int.le_refl _,D8.mk trivial (by decide)⟩,⟨show at0 ts<=_ by omega,hv.ord⟩,Aj⟩ (by decide),by simp only [sz,A_];omega⟩;refine R.bind (ih.exp _ _ (by decide) hg ha) λv r hv=>R.ok ?_;have:=hv.at_;have:=hv.size;exact ⟨hv.Bu,rfl,D8.mk (one (show at0 ts<=_ by omega) hv.ord) (by decide),by simp only [sz,A_];omega⟩;intro ts hg ha;unfold ES;refine R.ite (λh=>?_) λ_=>?_;have ht:=(C7.refl hg ha).tail (AU h);have:=ht.len;have:=ht.le;refine R.bind (ih.exp _ _ (by decide) ht.good ht.C0) λe r he=>?_;have:=he.at_;have:=he.size;refine R.bind (Ix (ht.trans he.Bu)) λ_ r2 ⟨h2,h2'⟩=>?_;have:=h2.le;refine R.weak (ih.DG _ _ r2 h2.good h2.C0 (D8.mk (one (show at0 ts<=_ by omega) he.ord) (by decide)) rfl (show at0 ts<=_ by omega)) λn' s ⟨h3,h4,h5,h6⟩=>?_;simp only [sz,A_] at h6;exact ⟨(h2.trans h3).weak (by omega),h4,h5,by omega⟩;refine R.bind (RQ (by decide) hg ha) λn r hn=>?_;have:=hn.at_;have:=hn.size;have:=hn.Bu.le;refine R.weak (ih.DG _ _ r hn.Bu.good hn.Bu.C0 hn.ord hn.at_.symm (by omega)) λn' s ⟨h3,h4,h5,h6⟩=>?_;exact ⟨(hn.Bu.trans h3).weak (by omega),by omega,h5,by omega⟩;intro at_ n ts hg ha hn he hat;unfold ER;subst he;refine R.ite (λh=>?_) λ_=>?_;have ht:=(C7.refl hg ha).tail (AU h);have:=ht.len;have:=ht.le;refine R.bind (ih.exp _ _ (by decide) ht.good ht.C0) λe r he=>?_;have:=he.at_;have:=he.size;refine R.bind (Ix (ht.trans he.Bu)) λ_ r2 ⟨h2,h2'⟩=>?_;have:=h2.le;refine R.weak (ih.DG _ _ r2 h2.good h2.C0 (D8.mk ⟨⟨Int.le_refl _,hn⟩,⟨by omega,he.ord⟩,Aj⟩ (by decide)) rfl (show n.at_<=_ by omega)) λn' s ⟨h3,h4,h5,h6⟩=>?_;simp only [sz,A_] at h6;exact ⟨(h2.trans h3).weak (by omega),h4,h5,by omega⟩;refine R.ite (λh=>?_) λ_=>?_;have ht:=(C7.refl hg ha).tail (AU h);have:=ht.len;have:=ht.le;refine R.bind (RQ (by decide) ht.good ht.C0) λe r he=>?_;have:=he.at_;have:=he.size;have:=he.Bu.le;refine R.weak (ih.DG _ _ r he.Bu.good he.Bu.C0 (D8.mk ⟨⟨Int.le_refl _,hn⟩,⟨by omega,he.ord⟩,Aj⟩ (by decide)) rfl (show n.at_<=_ by omega)) λn' s ⟨h3,h4,h5,h6⟩=>?_;simp only [sz,A_] at h6;exact ⟨((ht.trans he.Bu).trans h3).weak (by omega),h4,h5,by omega⟩;refine R.ite (λh=>?_) λ_=>R.ok ⟨C7.refl hg ha,rfl,hn,Nat.le_refl _⟩;have ht:=(C7.refl hg ha).tail (AU h);have:=ht.len;have:=ht.le;refine R.bind (Q1:=LE 0 n.at_ [] ts.tail) ?_ λl r hl=>?_;refine R.ite (λ_=>R.ok ⟨C7.refl ht.good ht.C0,Aj,Nat.le_refl _⟩) λ_=>?_;exact R.weak (ih.CY n.at_ _ ht.good ht.C0 (by omega)) λl r hl=>⟨hl.Bu.weak (by omega),hl.ord,hl.size⟩;refine R.bind (Ix (ht.trans hl.Bu)) λ_ r2 ⟨h2,h2'⟩=>?_;have:=h2.le;have h7:=hl.size;simp only [A_] at h7;refine R.weak (ih.DG _ _ r2 h2.good h2.C0 (D8.mk ⟨⟨Int.le_refl _,hn⟩,hl.ord⟩ (by decide)) rfl (show n.at_<=_ by omega)) λn' s ⟨h3,h4,h5,h6⟩=>?_;simp only [sz,A_] at h6;exact ⟨(h2.trans h3).weak (by omega),h4,h5,by omega⟩;intro lo ts hg ha hlo;unfold EQ;refine R.bind (ih.exp _ _ (by decide) hg ha) λe r he=>?_;have:=he.at_;have:=he.size;have:=he.Bu.le;refine R.weak (ih.Gq _ lo r he.Bu.good he.Bu.C0 (by omega) (one (by omega) he.ord)) λl s hl=>?_;have h7:=hl.size;simp only [A_] at h7;exact ⟨(he.Bu.trans hl.Bu).weak (by omega),hl.ord,by simp only [A_];omega⟩;intro acc lo ts hg ha hlo hacc;unfold Fo;refine R.ite (λh=>?_) λ_=>R.ok ⟨C7.refl hg ha,hacc,Nat.le_refl _⟩;have ht:=(C7.refl hg ha).tail (AU h);have:=ht.len;have:=ht.le;refine R.bind (ih.exp _ _ (by decide) ht.good ht.C0) λe r he=>?_;have:=he.at_;have:=he.size;have:=he.Bu.le;refine R.weak (ih.Gq _ lo r he.Bu.good he.Bu.C0 (by omega) (hacc.snoc (by omega) he.ord)) λl s hl=>?_;have h7:=hl.size;simp only [Eb,A_] at h7;exact ⟨((ht.trans he.Bu).trans hl.Bu).weak (by omega),hl.ord,by omega⟩
structure TB (ts:List Tk) (n:Tree) (r:List Tk):Prop where
 Bu:C7 0 ts r
 at_:n.at_=at0 ts
 ord:D8 n
 size:sz n+4 * r.length<=4 * ts.length+1
 kind:n.kind=20
structure OS (f:Nat):Prop where
 block:∀ c ts,Good ts->Asc ts->R (EF f c ts) (TB ts)
 Eo:∀ c at_ acc ts,Good ts->Asc ts->at_<=at0 ts->F3 at_ acc->(acc.Pairwise λx y=>x.at_ < y.at_)->(∀ x ∈ acc,x.at_ < at0 ts)->R (EP f c at_ acc ts) λn r=>C7 0 ts r/\n.at_=at_/\D8 n/\sz n+4 * r.length<=A_ acc+4 * ts.length+1/\n.kind=20
 function:∀ ts,(hd ts).1≠6->Good ts->Asc ts->R (F6 f ts) (TE 0 ts)
 body:∀ ts,Good ts->Asc ts->R (Fa f ts) λb r=>C7 2 ts r/\at0 ts<=b.at_/\D8 b/\sz b+4 * r.length+7<=4 * ts.length
 stat:∀ ts,Good ts->Asc ts->R (F8 f ts) (TE 0 ts)
 branches:∀ acc lo ts,Good ts->Asc ts->lo<=at0 ts->F3 lo acc->R (Fm f acc ts) (LE 1 lo acc ts)
 for_:∀ at_ ts,Good ts->Asc ts->at_<=at0 ts->R (F5 f at_ ts) λn r=>C7 1 ts r/\n.at_=at_/\D8 n/\sz n+4 * r.length<=4 * ts.length
 plain:∀ ts,Good ts->Asc ts->R (F7 f ts) (TE 0 ts)
 targets:∀ acc lo e ts,Good ts->Asc ts->lo<=at0 ts->F3 lo acc->lo<=e.at_->D8 e->R (Fq f acc e ts) λl r=>C7 0 ts r/\F3 lo l/\A_ l+4 * r.length<=A_ acc+sz e+4 * ts.length
theorem Asr {acc:List Tree} {x:Tree} (h:acc.Pairwise λx y=>x.at_ < y.at_) (h2:∀ y ∈ acc,y.at_ < x.at_):(acc++[x]).Pairwise λx y=>x.at_ < y.at_:=by
 refine List.pairwise_append.2 ⟨h,List.pairwise_singleton ..,λy hy z hz=>?_⟩;obtain rfl:=Fc.1 hz;exact h2 y hy
theorem rS:∀ f,OS f
 | 0=>by constructor <;> intros <;> (first | unfold EF | unfold EP | unfold F6 | unfold Fa | unfold F8 | unfold Fm | unfold F5 | unfold F7 | unfold Fq) <;> exact R.none
 | f+1=>by
  have ih:=rS f;have ie:=rE f;constructor
  ·intro c ts hg ha;unfold EF
   refine R.weak (ih.Eo c _ [] ts hg ha (Int.le_refl _) trivial List.Pairwise.nil (λ_ h=>by cases h)) λn r ⟨h1,h2,h3,h4,h5⟩=>?_;simp only [A_] at h4;exact ⟨h1,h2,h3,by omega,h5⟩
  ·intro c at_ acc ts hg ha hat hacc hp hlt;unfold EP
   have next:∀ x r,TE 0 ts x r->R (EP f c at_ (acc++[x]) r) λn r=>C7 0 ts r/\n.at_=at_/\D8 n/\sz n+4 * r.length<=A_ acc+4 * ts.length+1/\n.kind=20:=λx r hx=>by
    have:=hx.at_;have:=hx.size;have:=hx.Bu.len;have h9:=hx.Bu.lt (by omega);refine R.weak (ih.Eo c at_ (acc++[x]) r hx.Bu.good hx.Bu.C0 (by omega) (hacc.snoc (by omega) hx.ord) (Asr hp λy hy=>by have:=hlt y hy;omega) λy hy=>?_) λn s ⟨h1,h2,h3,h4,h5⟩=>?_
    ·rcases EL.1 hy with hy | hy
     ·have:=hlt y hy;omega
     ·obtain rfl:=Fc.1 hy;omega
    ·simp only [Eb,A_] at h4
     exact ⟨(hx.Bu.trans h1).weak (by omega),h2,h3,by omega,h5⟩
   refine R.ite (λh=>?_) λ_=>?_
   ·have ht:=(C7.refl hg ha).tail (AU h)
    have:=ht.len;have:=ht.le;refine R.weak (ih.Eo c at_ acc _ ht.good ht.C0 (by omega) hacc hp λx hx=>by have:=hlt x hx;omega) λn s ⟨h1,h2,h3,h4,h5⟩=>?_;exact ⟨(ht.trans h1).weak (by omega),h2,h3,by omega,h5⟩
   refine R.ite (λh=>?_) λ_=>?_
   ·have ht:=(C7.refl hg ha).tail (AU h)
    have:=ht.len;have:=ht.le;refine R.bind (Q1:=LE 0 (at0 ts) [] ts.tail) ?_ λl r hl=>?_
    ·refine R.ite (λ_=>R.ok ⟨C7.refl ht.good ht.C0,Aj,Nat.le_refl _⟩) λ_=>?_
     exact R.weak (ie.CY (at0 ts) _ ht.good ht.C0 (by omega)) λl r hl=>⟨hl.Bu.weak (by omega),hl.ord,hl.size⟩
    have h7:=hl.size;simp only [A_] at h7;have hr:C7 0 ts (if AB Ht r=true then r.tail else r)/\(if AB Ht r=true then r.tail else r).length<=r.length:=by
     split
     ·rename_i hc
      have:=(hl.Bu.good.tail (AU hc)).2.1;exact ⟨((ht.trans hl.Bu).tail (AU hc)).weak (by omega),by omega⟩
     ·exact ⟨(ht.trans hl.Bu).weak (by omega),Nat.le_refl _⟩
    have:=hr.2;refine R.ok ⟨hr.1,rfl,⟨hacc.snoc (show at_<=at0 ts by omega) (D8.mk hl.ord (by decide)),λ_=>Asr hp λy hy=>hlt y hy⟩,?_,rfl⟩;simp only [sz,A_,Eb];omega
   refine R.ite (λh=>?_) λ_=>?_
   ·simp only [Bool.and_eq_true] at h
    exact R.bind (ih.function ts (AU h.2) hg ha) next
   refine R.ite (λh=>?_) λ_=>R.bind (ih.stat ts hg ha) next;refine R.ok ⟨C7.refl hg ha,rfl,⟨hacc,λ_=>hp⟩,?_,rfl⟩;simp only [sz];omega
  ·intro ts h6 hg ha;unfold F6
   have ht:=(C7.refl hg ha).tail h6;have:=ht.len;have:=ht.le;refine R.bind (RQ (by decide) ht.good ht.C0) λnm r hn=>?_;have:=hn.size;have hnp:1<=sz nm:=by cases nm;simp only [sz];omega
   refine R.bind (Ix (ht.trans hn.Bu)) λ_ r2 ⟨h2,h2'⟩=>?_;have:=h2.le;refine R.bind (Q1:=LE 0 (at0 ts) [] r2) ?_ λps r3 hl=>?_
   ·refine R.ite (λ_=>R.ok ⟨C7.refl h2.good h2.C0,Aj,Nat.le_refl _⟩) λ_=>?_
    exact R.weak (As1 f h2.good h2.C0 (by omega)) λl r hl=>⟨hl.Bu.weak (by omega),hl.ord,hl.size⟩
   refine R.bind (Ix (h2.trans hl.Bu)) λ_ r4 ⟨h4,h4'⟩=>?_;have h7:=hl.size;simp only [A_] at h7;have:=h4.le;refine R.bind (ih.block false r4 h4.good h4.C0) λb r5 hb=>?_;have:=hb.at_;have:=hb.size;refine R.bind (Ix (h4.trans hb.Bu)) λ_ r6 ⟨h8,h8'⟩=>R.ok ?_;refine ⟨h8.weak (by omega),rfl,D8.mk (hl.ord.snoc (show at0 ts<=_ by omega) hb.ord) (by decide),?_⟩;simp only [sz,A_,Eb];omega
  ·intro ts hg ha;unfold Fa
   refine R.bind (Ix (C7.refl hg ha)) λ_ r ⟨h1,h1'⟩=>?_;have:=h1.le;refine R.bind (ih.block false r h1.good h1.C0) λb r2 hb=>?_;have:=hb.at_;have:=hb.size;refine R.bind (Ix (h1.trans hb.Bu)) λ_ r3 ⟨h3,h3'⟩=>R.ok ?_;exact ⟨h3.weak (by omega),by omega,hb.ord,by omega⟩
  ·intro ts hg ha;unfold F8
   refine R.ite (λh=>?_) λ_=>?_
   ·refine R.bind (ih.body ts hg ha) λb r ⟨h1,h2,h3,h4⟩=>R.ok ?_
    exact ⟨h1.weak (by omega),rfl,D8.mk (one (show at0 ts<=_ by omega) h3) (by decide),by simp only [sz,A_];omega⟩
   refine R.ite (λh=>?_) λ_=>?_
   ·have ht:=(C7.refl hg ha).tail (AU h)
    have:=ht.len;have:=ht.le;refine R.bind (ie.exp _ _ (by decide) ht.good ht.C0) λe r he=>?_;have:=he.at_;have:=he.size;have:=he.Bu.le;refine R.bind (ih.body r he.Bu.good he.Bu.C0) λb r ⟨h1,h2,h3,h4⟩=>R.ok ?_;exact ⟨((ht.trans he.Bu).trans h1).weak (by omega),rfl,D8.mk ⟨⟨show at0 ts<=_ by omega,he.ord⟩,⟨show at0 ts<=_ by omega,h3⟩,Aj⟩ (by decide),by simp only [sz,A_];omega⟩
   refine R.ite (λh=>?_) λ_=>?_
   ·have ht:=(C7.refl hg ha).tail (AU h)
    have:=ht.len;have:=ht.le;refine R.bind (ih.branches [] (at0 ts) _ ht.good ht.C0 (by omega) Aj) λl r hl=>R.ok ?_;have h7:=hl.size;simp only [A_] at h7;exact ⟨(ht.trans hl.Bu).weak (by omega),rfl,D8.mk hl.ord (by decide),by simp only [sz];omega⟩
   refine R.ite (λh=>?_) λ_=>?_
   ·have ht:=(C7.refl hg ha).tail (AU h)
    have:=ht.len;have:=ht.le;refine R.weak (ih.for_ (at0 ts) _ ht.good ht.C0 (by omega)) λn r ⟨h1,h2,h3,h4⟩=>?_;exact ⟨(ht.trans h1).weak (by omega),h2,h3,by omega⟩
   refine R.ite (λh=>?_) λ_=>?_
   ·have ht:=(C7.refl hg ha).tail (AU h)
    have:=ht.len;have:=ht.le;refine R.bind (As1 f ht.good ht.C0 (lo:=at0 ts) (by omega)) λl r hl=>?_;have:=hl.Bu.le;have h7:=hl.size;simp only [A_] at h7;refine R.bind (Q1:=LE 0 (at0 ts) [] r) ?_ λes r2 he=>R.ok ?_
    ·refine R.ite (λhc=>?_) λ_=>R.ok ⟨C7.refl hl.Bu.good hl.Bu.C0,Aj,Nat.le_refl _⟩
     have ht2:=(C7.refl hl.Bu.good hl.Bu.C0).tail (AU hc);have:=ht2.len;have:=ht2.le;exact R.weak (ie.CY (at0 ts) _ ht2.good ht2.C0 (by omega)) λl r hl=>⟨(ht2.trans hl.Bu).weak (by omega),hl.ord,by have:=hl.size;omega⟩
    have h8:=he.size;simp only [A_] at h8;exact ⟨((ht.trans hl.Bu).trans he.Bu).weak (by omega),rfl,D8.mk (hl.ord.app he.ord) (by decide),by simp only [sz,Eb];omega⟩
   refine R.ite (λh=>?_) λ_=>ih.plain ts hg ha;have:=R4 (k:=29) (t:=noB) (n:=0) (by decide) hg ha (AU h);exact R.ok ⟨this.Bu,this.at_,this.ord,by have:=this.size;omega⟩
  ·intro acc lo ts hg ha hlo hacc;unfold Fm
   refine R.bind (ie.exp _ _ (by decide) hg ha) λe r he=>?_;have:=he.at_;have:=he.size;have:=he.Bu.le;refine R.bind (Ix he.Bu) λ_ r2 ⟨h2,h2'⟩=>?_;have:=h2.le;refine R.bind (ih.block false r2 h2.good h2.C0) λb r3 hb=>?_;have:=hb.at_;have:=hb.size;have:=hb.Bu.le;have h3:=h2.trans hb.Bu;have hacc':=(hacc.snoc (x:=e) (by omega) he.ord).snoc (x:=b) (by omega) hb.ord;refine R.ite (λh=>?_) λ_=>?_
   ·have ht:=h3.tail (AU h)
    have:=ht.le;have:=(h3.good.tail (AU h)).2.1;refine R.weak (ih.branches _ lo _ ht.good ht.C0 (by omega) hacc') λl s hl=>?_;have h7:=hl.size;simp only [Eb,A_] at h7;exact ⟨(ht.trans hl.Bu).weak (by omega),hl.ord,by omega⟩
   refine R.ite (λh=>?_) λ_=>?_
   ·have ht:=h3.tail (AU h)
    have:=ht.le;have:=(h3.good.tail (AU h)).2.1;refine R.bind (ih.block false _ ht.good ht.C0) λc r4 hc=>?_;have:=hc.at_;have:=hc.size;refine R.bind (Ix (ht.trans hc.Bu)) λ_ r5 ⟨h5,h5'⟩=>R.ok ?_;exact ⟨h5.weak (by omega),hacc'.snoc (by omega) hc.ord,by simp only [Eb,A_];omega⟩
   ·refine R.bind (Ix h3) λ_ r5 ⟨h5,h5'⟩=>R.ok ?_
    exact ⟨h5.weak (by omega),hacc',by simp only [Eb,A_];omega⟩
  ·intro at_ ts hg ha hat;unfold F5
   refine R.bind (RQ (by decide) hg ha) λn r hn=>?_;have:=hn.at_;have:=hn.size;have:=hn.Bu.le;refine R.ite (λh=>?_) λ_=>?_
   ·have ht:=hn.Bu.tail (AU h)
    have:=ht.le;have:=(hn.Bu.good.tail (AU h)).2.1;refine R.bind (ie.exp _ _ (by decide) ht.good ht.C0) λa r2 h2=>?_;have:=h2.at_;have:=h2.size;refine R.bind (Ix (ht.trans h2.Bu)) λ_ r3 ⟨h3,h3'⟩=>?_;have:=h3.le;refine R.bind (ie.exp _ _ (by decide) h3.good h3.C0) λb r4 h4=>?_;have:=h4.at_;have:=h4.size;have:=h4.Bu.le;refine R.bind (Q1:=LE 0 at_ [] r4) ?_ λcs r5 h5=>?_
    ·refine R.ite (λhc=>?_) λ_=>R.ok ⟨C7.refl h4.Bu.good h4.Bu.C0,Aj,Nat.le_refl _⟩
     have ht2:=(C7.refl h4.Bu.good h4.Bu.C0).tail (AU hc);have:=ht2.len;have:=ht2.le;refine R.bind (ie.exp _ _ (by decide) ht2.good ht2.C0) λc s hc=>R.ok ?_;have:=hc.at_;have:=hc.size;exact ⟨(ht2.trans hc.Bu).weak (by omega),one (by omega) hc.ord,by simp only [A_];omega⟩
    have h7:=h5.size;simp only [A_] at h7;have:=h5.Bu.le;refine R.bind (ih.body r5 h5.Bu.good h5.Bu.C0) λbd r6 ⟨h8,h9,h10,h11⟩=>R.ok ?_;refine ⟨(((h3.trans h4.Bu).trans h5.Bu).trans h8).weak (by omega),rfl,D8.mk ?_ (by decide),by simp only [sz,Eb,A_];omega⟩;exact ((((one (x:=n) (by omega) hn.ord).snoc (x:=a) (by omega) h2.ord).snoc (x:=b) (by omega) h4.ord).app h5.ord).snoc (x:=bd) (by omega) h10
   refine R.bind (Acg f [n] at_ r hn.Bu.good hn.Bu.C0 (by omega) (one (by omega) hn.ord)) λl r2 hl=>?_;have h7:=hl.size;simp only [A_] at h7;refine R.bind (Ix (hn.Bu.trans hl.Bu)) λ_ r3 ⟨h3,h3'⟩=>?_;have:=h3.le;refine R.bind (ie.CY at_ r3 h3.good h3.C0 (by omega)) λes r4 h4=>?_;have h8:=h4.size;simp only [A_] at h8;have:=h4.Bu.le;refine R.bind (ih.body r4 h4.Bu.good h4.Bu.C0) λbd r6 ⟨h9,h10,h11,h12⟩=>R.ok ?_;exact ⟨((h3.trans h4.Bu).trans h9).weak (by omega),rfl,D8.mk ((hl.ord.app h4.ord).snoc (x:=bd) (by omega) h11) (by decide),by simp only [sz,Eb,A_];omega⟩
  ·intro ts hg ha;unfold F7
   refine R.bind (ie.Eg ts hg ha) λe r he=>?_;have:=he.at_;have:=he.size;have:=he.Bu.le;refine R.ite (λh=>?_) λ_=>?_
   ·refine R.bind (ih.targets [] (at0 ts) e r he.Bu.good he.Bu.C0 (by omega) trivial (by omega) he.ord) λl r2 ⟨h1,h2,h3⟩=>?_
    simp only [A_] at h3;refine R.bind (Ix (he.Bu.trans h1)) λ_ r3 ⟨h4,h4'⟩=>?_;have:=h4.le;refine R.bind (ie.CY (at0 ts) r3 h4.good h4.C0 (by omega)) λes r4 h5=>R.ok ?_;have h6:=h5.size;simp only [A_] at h6;exact ⟨(h4.trans h5.Bu).weak (by omega),he.at_,D8.mk ((h2.app h5.ord).weak (by omega)) (by decide),by simp only [sz,Eb];omega⟩
   refine R.ite (λh=>R.ok ?_) λ_=>R.bad;exact ⟨he.Bu,he.at_,D8.mk (one (Int.le_refl _) he.ord) (by decide),by simp only [sz,A_];omega⟩
  ·intro acc lo e ts hg ha hlo hacc he0 he;unfold Fq
   refine R.ite (λh=>?_) λ_=>R.bad;have hacc':=hacc.snoc he0 he;refine R.ite (λh=>?_) λ_=>R.ok ⟨C7.refl hg ha,hacc',by simp only [Eb,A_];omega⟩;have ht:=(C7.refl hg ha).tail (AU h);have:=ht.len;have:=ht.le;refine R.bind (ie.Eg _ ht.good ht.C0) λe' r hx=>?_;have:=hx.at_;have:=hx.size;have:=hx.Bu.le;refine R.weak (ih.targets _ lo e' r hx.Bu.good hx.Bu.C0 (by omega) hacc' (by omega) hx.ord) λl s ⟨h1,h2,h3⟩=>?_;simp only [Eb,A_] at h3;exact ⟨((ht.trans hx.Bu).trans h1).weak (by omega),h2,by omega⟩
theorem Bws {c:Bool} {ts r:List Tk} {b:Tree} (hg:Good ts) (ha:Asc ts) (h:FE c ts=.ok b r):TB ts b r :=
 (rS _).block c ts hg ha b r ((Qa c hg (by unfold fu;omega:_<=fu ts)).trans (congrArg some h))
end
section
namespace Lx
theorem Acu (f:Nat) (l:Bs) (at_:Nat) (acc:List Tok):H5 (f+1) l at_ acc =
  match D9 (l.drop (B6 CE l)) with
  | .done=>.inr (acc++[⟨6,[],0,at_+B6 CE l⟩])
  | .skip n=>H5 f ((l.drop (B6 CE l)).drop n) (at_+B6 CE l+n) acc
  | .tok kind text n len=>H5 f ((l.drop (B6 CE l)).drop len) (at_+B6 CE l+len) (acc++[⟨kind,text,n,at_+B6 CE l⟩])
  | .bad c r=>.inl (c,(at_+B6 CE l+r:Nat)):=rfl
theorem OZ (b:UInt8) (t:Bs) (h:b.toNat < 128):B2 (b :: t)=(b.toNat,1):=by
 unfold B2;simp only [List.getD_cons_zero];rw [if_pos h]
end Lx
namespace Lx
theorem LZ (l:Bs):(∀ n,D9 l=.skip n->1<=n/\n<=l.length)/\(∀ k t n len,D9 l=.tok k t n len->1<=len/\len<=l.length) :=
 ⟨λn h=>Avc l n h,λk t n len h=>Avd l k t n len h⟩
theorem WV:∀ (f g:Nat) (l:Bs) (at_:Nat) (acc:List Tok),l.length < f->l.length < g->H5 f l at_ acc=H5 g l at_ acc
 | 0,_,l,_,_,h,_=>by omega
 | _,0,l,_,_,_,h=>by omega
 | f+1,g+1,l,at_,acc,h,h'=>by
  rw [Acu,Acu];have hd:(l.drop (B6 CE l)).length<=l.length:=by rw [BV];omega
  cases hst:D9 (l.drop (B6 CE l)) with
  | done=>rfl
  | bad c r=>rfl
  | skip n =>
   have:=(LZ _).1 n hst;exact WV f g _ _ _ (by rw [BV];omega) (by rw [BV];omega)
  | tok k t n len =>
   have:=(LZ _).2 k t n len hst;exact WV f g _ _ _ (by rw [BV];omega) (by rw [BV];omega)
def Jm (l:Bs) (at_:Nat) (acc:List Tok):(Int×Int) ⊕ List Tok:=H5 (l.length+1) l at_ acc
theorem RX (l:Bs) (at_:Nat) (acc:List Tok):Jm l at_ acc =
  match D9 (l.drop (B6 CE l)) with
  | .done=>.inr (acc++[⟨6,[],0,at_+B6 CE l⟩])
  | .skip n=>Jm ((l.drop (B6 CE l)).drop n) (at_+B6 CE l+n) acc
  | .tok kind text n len=>Jm ((l.drop (B6 CE l)).drop len) (at_+B6 CE l+len) (acc++[⟨kind,text,n,at_+B6 CE l⟩])
  | .bad c r=>.inl (c,(at_+B6 CE l+r:Nat)):=by
 unfold Jm;rw [Acu];have hd:(l.drop (B6 CE l)).length<=l.length:=by rw [BV];omega
 cases hst:D9 (l.drop (B6 CE l)) with
 | done=>rfl
 | bad c r=>rfl
 | skip n =>
  have:=(LZ _).1 n hst;exact WV _ _ _ _ _ (by rw [BV];omega) (by omega)
 | tok k t n len =>
  have:=(LZ _).2 k t n len hst;exact WV _ _ _ _ _ (by rw [BV];omega) (by omega)
def uF (t:Bs):Q8 :=
 if (B_ 8 t 0 0).2=0\/Utf8.valid (B_ 8 t 0 0).1=false\/(t.drop (B_ 8 t 0 0).2).head?≠some 125 then .FQ
 else .ok (bs (Utf8.encode (B_ 8 t 0 0).1)) (4+(B_ 8 t 0 0).2)
theorem A4h (c:UInt8) (t:Bs):IZ (c :: t) =
  if FY c≠0 then .ok [FY c] 2
  else if c=120 then
   if (B_ 2 t 0 0).2 < 2 then .FQ else .ok [UInt8.ofNat (B_ 2 t 0 0).1] 4
  else if c=117/\t.head? = some 123 then uF t.tail
  else if (DN 3 (c :: t) 0 0).2=0\/(DN 3 (c :: t) 0 0).1 > 255 then .FQ
   else .ok [UInt8.ofNat (DN 3 (c :: t) 0 0).1] (1+(DN 3 (c :: t) 0 0).2):=rfl
theorem A4k (t:Bs):IZ (117 :: 123 :: t)=uF t:=by
 rw [A4h,if_neg (by decide),if_neg (by decide),if_pos ⟨rfl,rfl⟩];rfl
end Lx
end
section
open Go Go.RowKit Lx
def ON:Nat->Nat->List Tok->Prop
 | _,_,[]=>False
 | lo,hi,x :: t=>lo<=x.at_/\x.at_<=hi/\((x.kind=6/\t=[])\/(x.kind≠6/\ON (x.at_+1) hi t))
theorem ON.weak:∀ {t:List Tok} {lo lo' hi:Nat},lo'<=lo->ON lo hi t->ON lo' hi t
 | [],_,_,_,_,h=>h
 | _ :: _,_,_,_,hl,⟨h1,h2,h3⟩=>⟨Nat.le_trans hl h1,h2,h3⟩
theorem Bvx (l:Bs) (k:Int) (t:Bs) (n:Int) (len:Nat) (h:D9 l=.tok k t n len):k≠6:=by
 unfold D9 at h;dsimp only at h
 repeat' split at h
 all_goals first | (cases h;done) | (simp only [Step.tok.injEq] at h;obtain ⟨rfl,_⟩:=h;(repeat' split) <;> decide)
theorem Acx:∀ (f:Nat) (l:Bs) (at_:Nat) (acc t:List Tok),l.length < f->H5 f l at_ acc=.inr t->∃ t',t=acc++t'/\ON at_ (at_+l.length) t'
 | 0,l,_,_,_,hf,_=>absurd hf (Nat.not_lt_zero _)
 | f+1,l,at_,acc,t,hf,h=>by
  unfold H5 at h;dsimp only at h;have hk:=K4 CE l;have hdl:(l.drop (B6 CE l)).length=l.length - B6 CE l:=BV;cases hst:D9 (l.drop (B6 CE l)) with
  | done =>
   rw [hst] at h;cases h;exact ⟨_,rfl,by show at_<=at_+_;omega,by show at_+_<=_;omega,.inl ⟨rfl,rfl⟩⟩
  | bad c r=>rw [hst] at h;cases h
  | skip q =>
   have hq:=(LZ _).1 q hst;rw [hst] at h;dsimp only at h;have hlen:((l.drop (B6 CE l)).drop q).length=l.length - B6 CE l - q:=by rw [BV,hdl]
   obtain ⟨t',e,hR⟩:=Acx f _ _ _ _ (by omega) h;refine ⟨t',e,?_⟩;rw [show at_+l.length=at_+B6 CE l+q+((l.drop (B6 CE l)).drop q).length by omega];exact hR.weak (by omega)
  | tok kd tx x len =>
   have hq:=(LZ _).2 _ _ _ _ hst;rw [hst] at h;dsimp only at h;have hlen:((l.drop (B6 CE l)).drop len).length=l.length - B6 CE l - len:=by rw [BV,hdl]
   obtain ⟨t',e,hR⟩:=Acx f _ _ _ _ (by omega) h;refine ⟨⟨kd,tx,x,at_+B6 CE l⟩ :: t',by rw [e,C8];rfl,by show at_<=at_+_;omega,by show at_+_<=_;omega,.inr ⟨Bvx _ _ _ _ _ hst,?_⟩⟩;rw [show at_+l.length=at_+B6 CE l+len+((l.drop (B6 CE l)).drop len).length by omega];exact hR.weak (by show at_+_+1<=_;omega)
theorem ON.good:∀ {t:List Tok} {lo hi:Nat},ON lo hi t->Good (t.map G2)/\Asc (t.map G2)/\(∀ x ∈ t.map G2,(lo:Int)<=x.2.2.2/\x.2.2.2<=hi)/\lo+t.length<=hi+1
 | [],_,_,h=>h.elim
 | x :: t,lo,hi,⟨h1,h2,h3⟩=>by
  rcases h3 with ⟨h6,rfl⟩ | ⟨h6,hR⟩;refine ⟨h6,List.pairwise_singleton ..,λy hy=>?_,by simp;omega⟩;obtain rfl:=Fc.1 hy;exact ⟨by show (lo:Int)<=x.at_;omega,by show (x.at_:Int)<=hi;omega⟩;obtain ⟨g1,g2,g3,g4⟩:=hR.good;refine ⟨?_,List.pairwise_cons.2 ⟨λy hy=>?_,g2⟩,λy hy=>?_,by simp only [AX];omega⟩;cases t with
  | nil=>exact hR.elim
  | cons u t=>exact ⟨h6,g1⟩
  have:=(g3 y hy).1;show (x.at_:Int) < _;omega;rcases List.mem_cons.1 hy with rfl | hy;exact ⟨by show (lo:Int)<=x.at_;omega,by show (x.at_:Int)<=hi;omega⟩;have:=g3 y hy;exact ⟨by omega,this.2⟩
structure Af7 (n:Nat) (ts:List Tk):Prop where
 good:Good ts
 C0:Asc ts
 at_:∀ x ∈ ts,0<=x.2.2.2/\x.2.2.2<=n
 len:ts.length<=20001
theorem WW (s:Ah) (t:List Tok) (h:G1 (bs s)=.inr t):Af7 s.size (t.map G2):=by
 unfold G1 at h;split at h;cases h;rename_i hs;have hl:(bs s).length=s.size:=BZ s;obtain ⟨t',e,hR⟩:=Acx _ _ _ _ _ (Nat.lt_succ_self _) h;rw [List.nil_append] at e;subst e;obtain ⟨g1,g2,g3,g4⟩:=hR.good;refine ⟨g1,g2,λx hx=>?_,by rw [List.length_map];omega⟩;have:=g3 x hx;omega
end
section
open Go Go.RowKit
structure Cx (n:Int) (ts:List Tk):Prop where
 good:Good ts
 C0:Asc ts
 at_:∀ x ∈ ts,0<=x.2.2.2/\x.2.2.2<=n
theorem Cx.suf {n:Int} {ts r:List Tk} (h:Cx n ts) (hg:Good r) (hs:r <:+ ts):Cx n r:=⟨hg,List.Pairwise.sublist hs.sublist h.C0,λx hx=>h.at_ x (hs.subset hx)⟩
theorem Cx.tail {n:Int} {ts:List Tk} (h:Cx n ts) (h6:(hd ts).1≠6):Cx n ts.tail:=h.suf (h.good.tail h6).1 (h.good.tail h6).2.2
theorem Cx.hd {n:Int} {ts:List Tk} (h:Cx n ts):0<=(hd ts).2.2.2/\(hd ts).2.2.2<=n:=by
 cases ts with
 | nil=>exact h.good.elim
 | cons t ts=>exact h.at_ t (DT ..)
def BB {α:Type} (n:Int) (x:Option (PV α)):Prop:=∀ i,x=some (.bad i)->0<=i/\i<=n
section
variable {α β:Type} {n:Int} {m:Nat} {ts:List Tk} {x y:Option (PV α)} {f:α->List Tk->Option (PV β)}
theorem BB.bind (hC:Cx n ts) (hs:Step m ts x) (h1:BB n x) (h2:∀ a r,x=some (.ok a r)->Cx n r->BB n (f a r)):BB n (PV.bind x f):=λi h=>by
 rcases bind_some h with ⟨j,hx,he⟩ | ⟨a,r,hx,hf⟩;cases he;exact h1 _ hx;obtain ⟨g1,_,g3⟩:=hs hC.good _ hx;exact h2 a r hx (hC.suf g1 g3) i hf
theorem BB.ok {a:α} {r:List Tk}:BB n (some (.ok a r)):=λ_ h=>by cases h
theorem BB.bad {i:Int} (h:0<=i/\i<=n):BB n (some (.bad i):Option (PV α)):=λ_ h'=>by cases h';exact h
end
variable {n:Int}
structure GvE (n:Int) (f:Nat):Prop where
 exp:∀ least ts,0<=least->Cx n ts->BB n (D0 f least ts)
 loop:∀ least t ts,0<=least->Cx n ts->BB n (Fp f least t ts)
 operand:∀ ts,Cx n ts->BB n (Fh f ts)
 fields:∀ acc ts,Cx n ts->BB n (Fg f acc ts)
 field:∀ ts,Cx n ts->BB n (F4 f ts)
 Eg:∀ ts,Cx n ts->BB n (ES f ts)
 DG:∀ at_ t ts,Cx n ts->BB n (ER f at_ t ts)
 CY:∀ ts,Cx n ts->BB n (EQ f ts)
 Gq:∀ acc ts,Cx n ts->BB n (Fo f acc ts)
structure GvS (n:Int) (f:Nat):Prop where
 block:∀ c ts,Cx n ts->BB n (EF f c ts)
 Eo:∀ c at_ acc ts,Cx n ts->BB n (EP f c at_ acc ts)
 function:∀ ts,(hd ts).1≠6->Cx n ts->BB n (F6 f ts)
 body:∀ ts,Cx n ts->BB n (Fa f ts)
 stat:∀ ts,Cx n ts->BB n (F8 f ts)
 branches:∀ acc ts,Cx n ts->BB n (Fm f acc ts)
 for_:∀ at_ ts,Cx n ts->BB n (F5 f at_ ts)
 plain:∀ ts,Cx n ts->BB n (F7 f ts)
 targets:∀ acc e ts,Cx n ts->0<=e.at_/\e.at_<=n->BB n (Fq f acc e ts)
end
section
namespace Lx
def Mj (b:UInt8):Bool:=b == 32 || b == 9 || b == 10 || b == 13
theorem A0s {b:UInt8} (h:Mj b=true):b.toNat < 128/\CE b.toNat=true:=by
 simp only [Mj,Bool.or_eq_true,beq_iff_eq] at h;rcases h with ((rfl | rfl) | rfl) | rfl <;> decide
theorem A0t {b:UInt8} (h:CE b.toNat=true):Mj b=true:=by
 simp only [CE,Bool.or_eq_true,beq_iff_eq] at h;simp only [Mj,Bool.or_eq_true,beq_iff_eq];rcases h with ((h | h) | h) | h;exact .inl (.inl (.inl (UInt8.toNat_inj.1 h)));exact .inl (.inl (.inr (UInt8.toNat_inj.1 h)));exact .inl (.inr (UInt8.toNat_inj.1 h));exact .inr (UInt8.toNat_inj.1 h)
theorem Aue (x:Bs):∀ bl:Bs,(∀ b ∈ bl,Mj b=true)->B6 CE (bl++x)=bl.length+B6 CE x
 | [],_=>by simp
 | b :: bl,h=>by
  have hb:=A0s (h b (by simp));rw [List.cons_append,N1 _ _ (by simp),OZ b _ hb.1];simp only [hb.2,if_true,List.drop_succ_cons,List.drop_zero];rw [Aue x bl (λy hy=>h y (by simp [hy]))];simp only [AX];omega
theorem A2n (l:Bs) (b:UInt8) (hb:b ∈ l.take (B2 l).2) (hlow:b.toNat < 128):(B2 l).1=b.toNat/\(B2 l).2=1:=by
 obtain ⟨i,hi⟩:=List.mem_iff_getElem?.1 hb;rw [List.getElem?_take] at hi;split at hi
 case isFalse=>exact absurd hi (by simp)
 rename_i hlt;have hg:l.getD i 0=b:=by rw [List.getD_eq_getElem?_getD,hi];rfl
 have hg2:(l.getD i 0).toNat=b.toNat:=by rw [hg]
 clear hb hi hg;unfold B2 at hlt ⊢;dsimp only at hlt ⊢;have hi4:i=0\/i=1\/i=2\/3<=i:=by omega
 by_cases h0:(l.getD 0 0).toNat < 128
 ·rw [if_pos h0] at hlt ⊢
  have:i=0:=by simpa using hlt
  subst this;exact ⟨hg2,rfl⟩
 ·rw [if_neg h0] at hlt
  have hne:i≠0:=by rintro rfl;omega
  exfalso;split at hlt
  ·rename_i h1
   simp only [Bool.and_eq_true,beq_iff_eq,decide_eq_true_eq] at h1;split at hlt <;> dsimp only at hlt
   ·rcases hi4 with rfl | rfl | rfl | hi4 <;> omega
   ·omega
  ·split at hlt
   ·rename_i h1
    simp only [Bool.and_eq_true,beq_iff_eq,decide_eq_true_eq] at h1;split at hlt <;> dsimp only at hlt
    ·rcases hi4 with rfl | rfl | rfl | hi4 <;> omega
    ·omega
   ·split at hlt
    ·rename_i h1
     simp only [Bool.and_eq_true,beq_iff_eq,decide_eq_true_eq] at h1;split at hlt <;> dsimp only at hlt
     ·have hi5:i=1\/i=2\/i=3:=by omega
      rcases hi5 with rfl | rfl | rfl <;> omega
     ·omega
    ·dsimp only at hlt;omega
theorem Buu (x:Bs) (at_:Nat) (acc:List Tok) (bl:Bs) (h:∀ b ∈ bl,Mj b=true):Jm (bl++x) at_ acc=Jm x (at_+bl.length) acc:=by
 rw [RX (bl++x),RX x,Aue x bl h];have e:(bl++x).drop (bl.length+B6 CE x)=x.drop (B6 CE x):=by
  rw [<- List.drop_drop,List.drop_left'];rfl
 rw [e,Nat.add_assoc]
def Closed' (a:Bs):Prop:=∀ i,[45,45].isPrefixOf (a.drop i)=true->10 ∈ a.drop i
theorem Closed'.drop {a:Bs} (h:Closed' a) (k:Nat):Closed' (a.drop k):=λi hi=>by
 rw [List.drop_drop] at hi ⊢;exact h _ hi
theorem Agn (l:Bs) (c:Int) (r:Nat) (h:D9 l=.bad c r):c≠0:=by
 have ht:∀ q f (l acc:Bs) i c r,Fv q f l acc i=.bad c r->c≠0:=by
  intro q f;induction f with
  | zero=>intro l acc i c r h;cases h;decide
  | succ f ih =>
   intro l acc i c r h;cases l with
   | nil=>cases h;decide
   | cons b t =>
    simp only [Fv] at h;split at h;cases h;decide;split at h;split at h;cases h;decide;cases h;split at h;split at h;cases h;decide;cases h;decide;exact ih _ _ _ _ _ h;exact ih _ _ _ _ _ h
 unfold D9 at h;by_cases h0:l=[];rw [if_pos h0] at h;cases h;rw [if_neg h0] at h;by_cases h1:[45,45].isPrefixOf l=true;rw [if_pos h1] at h;cases h;rw [if_neg h1] at h;by_cases h2:Ig (B2 l).1=true;rw [if_pos h2] at h;dsimp only at h;split at h;cases h;decide;cases h;rw [if_neg h2] at h;by_cases h3:GN (B2 l).1=true;rw [if_pos h3] at h;dsimp only at h;split at h;rename_i hp;cases h;exact hp;cases h;rw [if_neg h3] at h;split at h;split at h;rename_i c' r' hx;cases h;exact ht _ _ _ _ _ _ _ hx;cases h;split at h;cases h;decide;cases h
theorem Bu3:∀ (n:Nat) (l:Bs) (at_:Nat) (acc:List Tok) (c p:Int),l.length<=n->Jm l at_ acc=.inl (c,p)->c≠0:=by
 intro n;induction n with
 | zero =>
  intro l at_ acc c p hn h;have:l=[]:=List.eq_nil_of_length_eq_zero (by omega);subst this;rw [RX] at h;have e0:D9 (([]:Bs).drop (B6 CE []))=.done:=rfl;rw [e0] at h;cases h
 | succ n ih =>
  intro l at_ acc c p hn h;rw [RX] at h;have hk:=K4 CE l;cases hst:D9 (l.drop (B6 CE l)) with
  | done=>rw [hst] at h;cases h
  | bad c' r =>
   rw [hst] at h;simp only [Sum.inl.injEq,Prod.mk.injEq] at h;rw [<- h.1];exact Agn _ _ _ hst
  | skip q =>
   have:=(LZ _).1 q hst;rw [BV] at this;rw [hst] at h;exact ih _ _ _ _ _ (by rw [BV,BV];omega) h
  | tok kd tx x len =>
   have:=(LZ _).2 _ _ _ _ hst;rw [BV] at this;rw [hst] at h;exact ih _ _ _ _ _ (by rw [BV,BV];omega) h
theorem Bur (l:Bs) (h:l.length<=20000):G1 l=Jm l 0 []:=by
 unfold G1 Jm;rw [if_neg (by omega)]
end Lx
end
section
open Go Go.RowKit Lx
abbrev Out:=Int×Ah×Int×Int×List Tree×Int×Int
def Np (c a:Int):Out:=(0,⟨#[]⟩,0,0,[],c,a)
def Qt (n:Tree):Out:=(n.kind,n.text,n.n,n.at_,n.kids,0,0)
def JD (s:Ah):Out :=
 match G1 (bs s) with
 | .inl (c,a)=>Np c a
 | .inr t=>match Qu (t.map G2) with
  | .ok n _=>Qt n
  | .bad i=>Np 4 i
theorem WU (l:Bs) (c p:Int) (h:G1 l=.inl (c,p)):c≠0:=by
 unfold G1 at h;split at h;simp only [Sum.inl.injEq,Prod.mk.injEq] at h;omega;exact Bu3 l.length l 0 [] c p (Nat.le_refl _) h
theorem Xb {n:Nat} {ts:List Tk} (h:Af7 n ts):(∃ b r,FE true ts=.ok b r/\TB ts b r/\((hd r).1=6/\Qu ts=.ok b r\/(hd r).1≠6/\Qu ts=.bad (hd r).2.2.2))\/∃ i,FE true ts=.bad i/\Qu ts=.bad i:=by
 unfold Qu;cases hb:FE true ts with
 | bad i=>exact .inr ⟨i,rfl,rfl⟩
 | ok b r =>
  refine .inl ⟨b,r,rfl,Bws h.good h.C0 hb,?_⟩;by_cases h6:(hd r).1=6;exact .inl ⟨h6,by simp [PV.then,h6]⟩;exact .inr ⟨h6,by simp [PV.then,h6]⟩
theorem Abr {s:Ah} {c p:Int} (h:G1 (bs s)=.inl (c,p)):JD s=Np c p:=by unfold JD;rw [h]
theorem Abt {s:Ah} {t:List Tok} {b:Tree} {r:List Tk} (h:G1 (bs s)=.inr t) (hv:Qu (t.map G2)=.ok b r):JD s=Qt b:=by unfold JD;rw [h];simp only [hv]
theorem RN {s:Ah} {t:List Tok} {i:Int} (h:G1 (bs s)=.inr t) (hv:Qu (t.map G2)=.bad i):JD s=Np 4 i:=by unfold JD;rw [h];simp only [hv]
theorem Amv (l:List Tk):ix l l=0:=by unfold ix;omega
theorem Bsz (k:Nat) (hk:400000<=k) (s:Ah):Qd.f k s=some (JD s):=by
 unfold Qd.f T5.f R6 JD;simp only [Aq];cases hs:G1 (bs s) with
 | inl x =>
  obtain ⟨c,p⟩:=x;have:=WU _ _ _ hs;simp only;rw [show (c != 0)=true by rw [bne_iff_ne];exact this];rfl
 | inr t =>
  have hT:=WW s t hs;simp only [bne_self_eq_false,cond_false];have hf:=A5m (l:=t.map G2) (by have:=hT.len;omega) k true hT.good (List.suffix_refl _) (by have:=hT.len;omega);rw [Amv] at hf;rw [hf];rcases Xb hT with ⟨b,r,hb,hB,h6⟩ | ⟨i,hb,he⟩
  ·have hw:=I_ true hT.good
   rw [hb] at hw ⊢;obtain ⟨hg,_,Ti⟩:=hw;simp only [conv,PR.elim,AN];unfold DU.f;simp only [eT];rw [LB hg Ti];simp only [Aq];rcases h6 with ⟨h6,he⟩ | ⟨h6,he⟩
   ·rw [he,show ((hd r).1 != 6)=false by rw [bne_eq_false_iff_eq];exact h6]
    rfl
   ·rw [he,show ((hd r).1 != 6)=true by rw [bne_iff_ne];exact h6]
    rfl
  ·rw [hb,he]
   rfl
def shp (k n:Int) (t:Ah) (l:List Tree):Prop :=
 t.size<=30000/\k≠31/\(k=7->l.length=2)/\(k=25->l.length=2)/\(k=26->4<=l.length)/\(k=21\/k=22->∃ m:Nat,n=m/\m<=l.length)/\(k=27->∃ m:Nat,n=m/\m+1<=l.length)
mutual
def wfT:Tree->Prop
 | .mk k t n _ l=>shp k n t l/\Hl l
def Hl:List Tree->Prop
 | []=>True
 | x :: l=>wfT x/\Hl l
end
theorem Ad5:∀ {l:List Tree},Hl l ↔ ∀ x ∈ l,wfT x
 | []=>by simp [Hl]
 | x :: l=>by simp [Hl,Ad5 (l:=l)]
theorem I3 {l m:List Tree} (h:Hl l) (h':Hl m):Hl (l++m):=by
 rw [Ad5] at *;intro y hy;exact (EL.1 hy).elim (h y) (h' y)
theorem wf1 {x:Tree} (h:wfT x):Hl [x]:=⟨h,Aj⟩
def fnT:Tree->Prop
 | .mk k t n _ l=>t.size<=30000/\k=31/\(∃ m:Nat,n=m/\l.length=m+1)/\Hl l
def Bwh (x:Tree):Prop:=wfT x\/fnT x
def wfC:Tree->Prop
 | .mk k t _ _ l=>k=20/\t.size<=30000/\∀ x ∈ l,Bwh x
def TT (ts:List Tk):Prop:=∀ x ∈ ts,x.2.1.size<=30000
theorem TT.tail {ts:List Tk} (h:TT ts):TT ts.tail:=λx hx=>h x (List.mem_of_mem_tail hx)
theorem TT.hd {ts:List Tk} (h:TT ts):(hd ts).2.1.size<=30000:=by
 cases ts with
 | nil=>decide
 | cons x t=>exact h x (DT ..)
abbrev WT (n:Tree) (r:List Tk):Prop:=wfT n/\TT r
abbrev WL (l:List Tree) (r:List Tk):Prop:=Hl l/\TT r
theorem OA {k:Int} {t:Ah} {n a:Int} {l:List Tree} (h1:t.size<=30000) (h2:Hl l) (h3:k≠31) (h4:k=7->l.length=2) (h5:k=25->l.length=2) (h6:k=26->4<=l.length) (h7:k=21\/k=22->∃ m:Nat,n=m/\m<=l.length) (h8:k=27->∃ m:Nat,n=m/\m+1<=l.length):wfT (.mk k t n a l):=⟨⟨h1,h3,h4,h5,h6,h7,h8⟩,h2⟩
theorem wfe {k:Int} {t:Ah} {n a:Int} {l:List Tree} (h1:t.size<=30000) (h2:Hl l) (h3:k≠31/\k≠7/\k≠25/\k≠26/\k≠21/\k≠22/\k≠27):wfT (.mk k t n a l):=by
 refine OA h1 h2 h3.1 ?_ ?_ ?_ ?_ ?_ <;> intro h <;> exfalso;exact h3.2.1 h;exact h3.2.2.1 h;exact h3.2.2.2.1 h;exact h.elim h3.2.2.2.2.1 h3.2.2.2.2.2.1;exact h3.2.2.2.2.2.2 h
theorem nx {p q:Prop} [Decidable p] (h:decide p=false) (hp:p):q:=absurd hp (of_decide_eq_false h)
theorem F2:noB.size<=30000:=by decide
theorem I2 {w:Ah} {ts:List Tk} (h:TT ts):R (FL w ts) λ_ r=>TT r:=R.ite (λ_=>R.ok h.tail) λ_=>R.bad
theorem Se {k:Int} {ts:List Tk} (hk:k≠31/\k≠7/\k≠25/\k≠26/\k≠21/\k≠22/\k≠27) (h:TT ts):R (Jg k ts) λn r=>WT n r/\n.text.size<=30000:=R.ite (λ_=>R.ok ⟨⟨wfe h.hd trivial hk,h.tail⟩,h.hd⟩) λ_=>R.bad
theorem Adz:∀ (f:Nat) (acc:List Tree) (ts:List Tk),TT ts->Hl acc->R (Gy f acc ts) WL
 | 0,_,_,_,_=>R.none
 | f+1,acc,ts,h,ha=>by
  unfold Gy;exact R.ite (λ_=>R.bind (Se (by decide) h.tail) λn r hn=>Adz f _ r hn.1.2 (I3 ha (wf1 hn.1.1))) λ_=>R.ok ⟨ha,h⟩
theorem Aw6 (f:Nat) {ts:List Tk} (h:TT ts):R (Nq f ts) WL:=R.bind (Se (by decide) h) λn r hn=>Adz f _ r hn.1.2 (wf1 hn.1.1)
structure WE (f:Nat):Prop where
 exp:∀ least ts,TT ts->R (D0 f least ts) WT
 loop:∀ least n ts,TT ts->wfT n->R (Fp f least n ts) WT
 operand:∀ ts,TT ts->R (Fh f ts) WT
 fields:∀ acc ts,TT ts->Hl acc->R (Fg f acc ts) WL
 field:∀ ts,TT ts->R (F4 f ts) WT
 Eg:∀ ts,TT ts->R (ES f ts) WT
 DG:∀ at_ n ts,TT ts->wfT n->R (ER f at_ n ts) WT
 CY:∀ ts,TT ts->R (EQ f ts) WL
 Gq:∀ acc ts,TT ts->Hl acc->R (Fo f acc ts) WL
theorem wE:∀ f,WE f
 | 0=>by constructor <;> intros <;> (first | rw [D0] | rw [Fp] | rw [Fh] | rw [Fg] | rw [F4] | rw [ES] | rw [ER] | rw [EQ] | rw [Fo]) <;> exact R.none
 | f+1=>by
  have ih:=wE f;constructor;intro least ts h;unfold D0;exact R.bind (ih.operand ts h) λn r hn=>ih.loop _ _ _ hn.2 hn.1;intro least n ts h hw;unfold Fp;refine R.ite (λ_=>R.ok ⟨hw,h⟩) λ_=>R.bind (ih.exp _ _ h.tail) λm r hm=>ih.loop _ _ _ hm.2 ?_;exact wfe h.hd ⟨hw,hm.1,Aj⟩ (by decide);intro ts h;unfold Fh;refine R.ite (λ_=>R.ok ⟨wfe F2 trivial (by decide),h.tail⟩) λ_=>?_;refine R.ite (λ_=>R.ok ⟨wfe h.hd trivial (by decide),h.tail⟩) λ_=>?_;refine R.ite (λ_=>R.ok ⟨wfe F2 trivial (by decide),h.tail⟩) λ_=>?_;refine R.ite (λ_=>R.ok ⟨wfe F2 trivial (by decide),h.tail⟩) λ_=>?_;refine R.ite (λ_=>R.ok ⟨wfe F2 trivial (by decide),h.tail⟩) λ_=>?_;refine R.ite (λ_=>R.bind (ih.exp _ _ h.tail) λm r hm=>R.ok ⟨wfe h.hd (wf1 hm.1) (by decide),hm.2⟩) λ_=>?_;refine R.ite (λ_=>R.bind (ih.fields _ _ h.tail Aj) λl r hl=>R.ok ⟨wfe F2 hl.1 (by decide),hl.2⟩) λ_=>?_;exact ih.Eg _ h;intro acc ts h ha;unfold Fg;refine R.ite (λ_=>R.ok ⟨ha,h.tail⟩) λ_=>R.bind (ih.field ts h) λx r hx=>?_;have hs:=I3 ha (wf1 hx.1);refine R.ite (λ_=>ih.fields _ _ hx.2.tail hs) λ_=>R.ite (λ_=>ih.fields _ _ hx.2.tail hs) λ_=>?_;exact R.bind (I2 hx.2) λ_ s hr=>R.ok ⟨hs,hr⟩;intro ts h;unfold F4;refine R.ite (λ_=>?_) λ_=>R.ite (λ_=>?_) λ_=>?_;refine R.bind (ih.exp _ _ h.tail) λk r hk=>R.bind (I2 hk.2) λ_ r hr=>R.bind (I2 hr) λ_ r hr=>R.bind (ih.exp _ _ hr) λv r hv=>R.ok ⟨?_,hv.2⟩;exact wfe F2 ⟨hk.1,hv.1,Aj⟩ (by decide);refine R.bind (ih.exp _ _ h.tail.tail) λv r hv=>R.ok ⟨?_,hv.2⟩;exact wfe F2 ⟨wfe h.hd trivial (by decide),hv.1,Aj⟩ (by decide);exact R.bind (ih.exp _ _ h) λv r hv=>R.ok ⟨wfe F2 (wf1 hv.1) (by decide),hv.2⟩;intro ts h;unfold ES;refine R.ite (λ_=>?_) λ_=>?_;exact R.bind (ih.exp _ _ h.tail) λe r he=>R.bind (I2 he.2) λ_ r hr=>ih.DG _ _ _ hr (wfe F2 (wf1 he.1) (by decide));exact R.bind (Se (by decide) h) λn r hn=>ih.DG _ _ _ hn.1.2 hn.1.1;intro at_ n ts h hw;unfold ER;refine R.ite (λ_=>?_) λ_=>R.ite (λ_=>?_) λ_=>R.ite (λ_=>?_) λ_=>R.ok ⟨hw,h⟩;refine R.bind (ih.exp _ _ h.tail) λe r he=>R.bind (I2 he.2) λ_ r hr=>ih.DG _ _ _ hr ?_;exact OA F2 ⟨hw,he.1,Aj⟩ (by decide) (λ_=>rfl) (nx rfl) (nx rfl) (nx rfl) (nx rfl);refine R.bind (Se (by decide) h.tail) λe r he=>ih.DG _ _ _ he.1.2 ?_;exact OA F2 ⟨hw,he.1.1,Aj⟩ (by decide) (λ_=>rfl) (nx rfl) (nx rfl) (nx rfl) (nx rfl);refine R.bind (Q1:=WL) (R.ite (λ_=>R.ok ⟨Aj,h.tail⟩) λ_=>ih.CY _ h.tail) λl r hl=>R.bind (I2 hl.2) λ_ r hr=>ih.DG _ _ _ hr ?_;exact wfe F2 ⟨hw,hl.1⟩ (by decide);intro ts h;unfold EQ;exact R.bind (ih.exp _ _ h) λe r he=>ih.Gq _ _ he.2 (wf1 he.1);intro acc ts h ha;unfold Fo;exact R.ite (λ_=>R.bind (ih.exp _ _ h.tail) λe r he=>ih.Gq _ _ he.2 (I3 ha (wf1 he.1))) λ_=>R.ok ⟨ha,h⟩
def P7 (c:Bool) (x:Tree):Prop:=wfT x\/(c=true/\fnT x)
structure WS (f:Nat):Prop where
 block:∀ c ts,TT ts->R (EF f c ts) λn r=>(∃ a l,n=.mk 20 noB 0 a l/\∀ x ∈ l,P7 c x)/\TT r
 Eo:∀ c at_ acc ts,TT ts->(∀ x ∈ acc,P7 c x)->R (EP f c at_ acc ts) λn r=>(∃ a l,n=.mk 20 noB 0 a l/\∀ x ∈ l,P7 c x)/\TT r
 function:∀ ts,TT ts->R (F6 f ts) λn r=>fnT n/\TT r
 body:∀ ts,TT ts->R (Fa f ts) WT
 stat:∀ ts,TT ts->R (F8 f ts) WT
 branches:∀ acc ts,TT ts->Hl acc->R (Fm f acc ts) WL
 for_:∀ at_ ts,TT ts->R (F5 f at_ ts) WT
 plain:∀ ts,TT ts->R (F7 f ts) WT
 targets:∀ acc e ts,TT ts->Hl acc->wfT e->R (Fq f acc e ts) WL
theorem Bhc {a:Int} {l:List Tree} (h:∀ x ∈ l,P7 false x):wfT (.mk 20 noB 0 a l) :=
 wfe F2 (Ad5.2 λx hx=>(h x hx).elim id λh=>nomatch h.1) (by decide)
theorem Zz {c:Bool} {acc:List Tree} {x:Tree} (h:∀ y ∈ acc,P7 c y) (hx:P7 c x):∀ y ∈ acc++[x],P7 c y:=λy hy=>by
 rcases EL.1 hy with hy | hy;exact h y hy;obtain rfl:=Fc.1 hy;exact hx
theorem wS:∀ f,WS f
 | 0=>by constructor <;> intros <;> (first | unfold EF | unfold EP | unfold F6 | unfold Fa | unfold F8 | unfold Fm | unfold F5 | unfold F7 | unfold Fq) <;> exact R.none
 | f+1=>by
  have ih:=wS f;have ie:=wE f;have blk:∀ ts,TT ts->R (EF f false ts) WT:=λts h=>R.weak (ih.block false ts h) λn r ⟨⟨a,l,e,hl⟩,hr⟩=>⟨by rw [e];exact Bhc hl,hr⟩;constructor;intro c ts h;unfold EF;exact ih.Eo _ _ _ _ h (λ_ hx=>nomatch hx)
  intro c at_ acc ts h ha;unfold EP;refine R.ite (λ_=>ih.Eo _ _ _ _ h.tail ha) λ_=>R.ite (λ_=>?_) λ_=>R.ite (λhc=>?_) λ_=>R.ite (λ_=>R.ok ⟨⟨_,_,rfl,ha⟩,h⟩) λ_=>?_;refine R.bind (Q1:=WL) (R.ite (λ_=>R.ok ⟨Aj,h.tail⟩) λ_=>ie.CY _ h.tail) λl r hl=>R.ok ⟨⟨_,_,rfl,?_⟩,?_⟩;exact Zz ha (.inl (wfe F2 hl.1 (by decide)));split;exact hl.2.tail;exact hl.2;have hc':c=true:=by simp only [Bool.and_eq_true] at hc;exact hc.1
  exact R.bind (ih.function ts h) λx r hx=>ih.Eo _ _ _ _ hx.2 (Zz ha (.inr ⟨hc',hx.1⟩));exact R.bind (ih.stat ts h) λx r hx=>ih.Eo _ _ _ _ hx.2 (Zz ha (.inl hx.1));intro ts h;unfold F6;refine R.bind (Se (by decide) h.tail) λnm r hn=>R.bind (I2 hn.1.2) λ_ r hr=>R.bind (Q1:=WL) (R.ite (λ_=>R.ok ⟨Aj,hr⟩) λ_=>Aw6 f hr) λps r hp=>R.bind (I2 hp.2) λ_ r hr=>R.bind (blk _ hr) λb r hb=>R.bind (I2 hb.2) λ_ r hr=>R.ok ⟨?_,hr⟩;exact ⟨hn.2,rfl,⟨ps.length,rfl,by simp⟩,I3 hp.1 (wf1 hb.1)⟩;intro ts h;unfold Fa;exact R.bind (I2 h) λ_ r hr=>R.bind (blk _ hr) λb r hb=>R.bind (I2 hb.2) λ_ r hr=>R.ok ⟨hb.1,hr⟩;intro ts h;unfold F8;refine R.ite (λ_=>?_) λ_=>R.ite (λ_=>?_) λ_=>R.ite (λ_=>?_) λ_=>R.ite (λ_=>ih.for_ _ _ h.tail) λ_=>R.ite (λ_=>?_) λ_=>R.ite (λ_=>R.ok ⟨wfe F2 trivial (by decide),h.tail⟩) λ_=>ih.plain _ h;exact R.bind (ih.body ts h) λb r hb=>R.ok ⟨wfe F2 (wf1 hb.1) (by decide),hb.2⟩;refine R.bind (ie.exp _ _ h.tail) λe r he=>R.bind (ih.body _ he.2) λb r hb=>R.ok ⟨?_,hb.2⟩;exact OA F2 ⟨he.1,hb.1,Aj⟩ (by decide) (nx rfl) (λ_=>rfl) (nx rfl) (nx rfl) (nx rfl);exact R.bind (ih.branches _ _ h.tail Aj) λl r hl=>R.ok ⟨wfe F2 hl.1 (by decide),hl.2⟩;refine R.bind (Aw6 f h.tail) λl r hl=>R.bind (Q1:=WL) (R.ite (λ_=>ie.CY _ hl.2.tail) λ_=>R.ok ⟨Aj,hl.2⟩) λes r he=>R.ok ⟨?_,he.2⟩;exact OA F2 (I3 hl.1 he.1) (by decide) (nx rfl) (nx rfl) (nx rfl) (λ_=>⟨l.length,rfl,by simp⟩) (nx rfl);intro acc ts h ha;unfold Fm;refine R.bind (ie.exp _ _ h) λe r he=>R.bind (I2 he.2) λ_ r hr=>R.bind (blk _ hr) λb r hb=>?_;have h2:=I3 (I3 ha (wf1 he.1)) (wf1 hb.1);refine R.ite (λ_=>ih.branches _ _ hb.2.tail h2) λ_=>R.ite (λ_=>?_) λ_=>?_;exact R.bind (blk _ hb.2.tail) λc r hc=>R.bind (I2 hc.2) λ_ r hr=>R.ok ⟨I3 h2 (wf1 hc.1),hr⟩;exact R.bind (I2 hb.2) λ_ r hr=>R.ok ⟨h2,hr⟩;intro at_ ts h;unfold F5;refine R.bind (Se (by decide) h) λn r hn=>R.ite (λ_=>?_) λ_=>?_;refine R.bind (ie.exp _ _ hn.1.2.tail) λa r ha=>R.bind (I2 ha.2) λ_ r hr=>R.bind (ie.exp _ _ hr) λb r hb=>R.bind (Q1:=WL) (R.ite (λ_=>R.bind (ie.exp _ _ hb.2.tail) λc r hc=>R.ok ⟨wf1 hc.1,hc.2⟩) λ_=>R.ok ⟨Aj,hb.2⟩) λcs r hcs=>R.bind (ih.body _ hcs.2) λbd r hbd=>R.ok ⟨?_,hbd.2⟩;exact OA F2 (I3 (I3 (I3 (I3 (wf1 hn.1.1) (wf1 ha.1)) (wf1 hb.1)) hcs.1) (wf1 hbd.1)) (by decide) (nx rfl) (nx rfl) (λ_=>by simp) (nx rfl) (nx rfl);refine R.bind (Adz f _ _ hn.1.2 (wf1 hn.1.1)) λl r hl=>R.bind (I2 hl.2) λ_ r hr=>R.bind (ie.CY _ hr) λes r he=>R.bind (ih.body _ he.2) λbd r hbd=>R.ok ⟨?_,hbd.2⟩;exact OA F2 (I3 (I3 hl.1 he.1) (wf1 hbd.1)) (by decide) (nx rfl) (nx rfl) (nx rfl) (nx rfl) (λ_=>⟨l.length,rfl,by simp⟩);intro ts h;unfold F7;refine R.bind (ie.Eg ts h) λe r he=>R.ite (λ_=>?_) λ_=>R.ite (λ_=>R.ok ⟨wfe F2 (wf1 he.1) (by decide),he.2⟩) λ_=>R.bad;refine R.bind (ih.targets _ _ _ he.2 trivial he.1) λl r hl=>R.bind (I2 hl.2) λ_ r hr=>R.bind (ie.CY _ hr) λes r hes=>R.ok ⟨?_,hes.2⟩;exact OA F2 (I3 hl.1 hes.1) (by decide) (nx rfl) (nx rfl) (nx rfl) (λ_=>⟨l.length,rfl,by simp⟩) (nx rfl);intro acc e ts h ha hw;unfold Fq;refine R.ite (λ_=>?_) λ_=>R.bad;exact R.ite (λ_=>R.bind (ie.Eg _ h.tail) λe' r he=>ih.targets _ _ _ he.2 (I3 ha (wf1 hw)) he.1) λ_=>R.ok ⟨I3 ha (wf1 hw),h⟩
theorem Adj (q:UInt8):∀ (f:Nat) (l acc:Bs) (i:Nat) (v:Bs) (k:Nat),Fv q f l acc i=.ok v k->v.length<=10000
 | 0,_,_,_,_,_,h=>by unfold Fv at h;cases h
 | f+1,[],_,_,_,_,h=>by unfold Fv at h;cases h
 | f+1,b :: t,acc,i,v,k,h=>by
  unfold Fv at h;split at h;cases h;split at h;split at h;cases h;cases h;omega;split at h;split at h;cases h;cases h;exact Adj q f _ _ _ _ _ h;exact Adj q f _ _ _ _ _ h
theorem Bu9:∀ s ∈ H6,s.length<=20000:=by decide
theorem Bvz (l:Bs) (hl:l.length<=20000) (k:Int) (t:Bs) (n:Int) (len:Nat) (h:D9 l=.tok k t n len):t.length<=20000:=by
 unfold D9 at h;dsimp only at h
 repeat' split at h
 all_goals first
  | (cases h;done)
  | (simp only [Step.tok.injEq] at h;obtain ⟨_,rfl,_⟩:=h;rw [List.length_take];omega)
  | (rename_i hx;simp only [Step.tok.injEq] at h;obtain ⟨_,rfl,_⟩:=h;first | exact Nat.le_trans (Adj _ _ _ _ _ _ _ hx) (by decide) | exact Bu9 _ (List.mem_of_find?_eq_some hx))
theorem Acz:∀ (f:Nat) (l:Bs) (at_:Nat) (acc t:List Tok),l.length<=20000->(∀ x ∈ acc,x.text.length<=20000)->H5 f l at_ acc=.inr t->∀ x ∈ t,x.text.length<=20000
 | 0,l,at_,acc,t,hl,ha,h=>by
  unfold H5 at h;cases h;intro x hx;rcases EL.1 hx with hx | hx;exact ha x hx;obtain rfl:=Fc.1 hx;exact Nat.zero_le _
 | f+1,l,at_,acc,t,hl,ha,h=>by
  unfold H5 at h;dsimp only at h;have hdl:(l.drop (B6 CE l)).length<=20000:=by rw [BV];omega
  cases hst:D9 (l.drop (B6 CE l)) with
  | done =>
   rw [hst] at h;cases h;intro x hx;rcases EL.1 hx with hx | hx;exact ha x hx;obtain rfl:=Fc.1 hx;exact Nat.zero_le _
  | bad c r=>rw [hst] at h;cases h
  | skip q =>
   rw [hst] at h;exact Acz f _ _ _ _ (by rw [BV];omega) ha h
  | tok kd tx x len =>
   rw [hst] at h;refine Acz f _ _ _ _ (by rw [BV];omega) (λy hy=>?_) h;rcases EL.1 hy with hy | hy;exact ha y hy;obtain rfl:=Fc.1 hy;exact Bvz _ hdl _ _ _ _ hst
theorem Aup {s:Ah} {t:List Tok} (h:G1 (bs s)=.inr t):TT (t.map G2):=by
 unfold G1 at h;split at h;cases h;intro x hx;obtain ⟨y,hy,rfl⟩:=List.mem_map.1 hx;have:=Acz _ _ _ [] _ (by omega) (λ_ hx=>absurd hx (List.not_mem_nil)) h y hy;show (str y.text).size<=30000;rw [N5];omega
theorem val_ok {α:Type} {x:Option (PV α)} {a:α} {r:List Tk} (h:val x=.ok a r):x=some (.ok a r):=by
 cases x with
 | none=>cases h
 | some v=>exact congrArg some h
theorem Bse (s:Ah):(∃ c a,c≠0/\JD s=Np c a)\/∃ n,JD s=Qt n/\wfC n/\sz n<=80010:=by
 cases hs:G1 (bs s) with
 | inl x =>
  obtain ⟨c,p⟩:=x;exact .inl ⟨c,p,WU _ _ _ hs,Abr hs⟩
 | inr t =>
  have hT:=WW s t hs;rcases Xb hT with ⟨b,r,hb,hB,⟨_,he⟩ | ⟨_,he⟩⟩ | ⟨j,hb,he⟩;refine .inr ⟨b,Abt hs he,?_,?_⟩;obtain ⟨⟨a,l,rfl,hl⟩,_⟩:=(wS (fu _)).block true _ (Aup hs) _ _ (val_ok hb);exact ⟨rfl,F2,λx hx=>Or.elim (hl x hx) .inl (λh=>.inr h.2)⟩;have:=hB.size;have:=hT.len;omega;exact .inl ⟨4,_,by decide,RN hs he⟩;exact .inl ⟨4,_,by decide,RN hs he⟩
theorem wiC (x:Int) (h0:-9223372036854775808<=x) (h1:x<=9223372036854775807):Au x=x:=by unfold Au IntKind.wrap;simp [IntKind.bits,IntKind.signed];omega
theorem Wj {α:Type} {l:List α} {i:Nat} (h:i < l.length):B5 l (i:Int)=some l[i]:=by
 unfold B5;rw [if_pos (by omega),Int.toNat_natCast,List.getElem?_eq_getElem h]
def Sg (X:Bs):List Bs->Int->Int
 | [],_=>-1
 | y :: l,i=>if X == y then i else Sg X l (i+1)
theorem Aml (L:List Ah) (hL:L.length<=1000) (s:Ah):∀ (d i k:Nat),L.length - i<=d->i<=L.length->d < k ->
  Gm.l0 k L s (λ_=>some (-1)) (i:Int)=some (Sg s.toList ((L.drop i).map (·.toList)) i)
 | d,i,k,hd,hi,hk=>by
  obtain ⟨k,rfl⟩:∃ m,k=m+1:=⟨k - 1,by omega⟩;simp only [Gm.l0];rcases Nat.lt_or_ge i L.length with h | h;obtain ⟨d,rfl⟩:∃ m,d=m+1:=⟨d - 1,by omega⟩;rw [decide_eq_true (p:=(i:Int) < L.length) (by omega),Wj h,wiC ((i:Int)+1) (by omega) (by omega),show (i:Int)+1=((i+1:Nat):Int) by omega,List.drop_eq_getElem_cons h,List.map_cons];simp only [cond_true,Aq];unfold Sg;cases hq:s.toList == L[i].toList with
  | true=>rfl
  | false =>
   rw [cond_false,Aml L hL s d (i+1) k (by omega) (by omega) (by omega)];rfl
  rw [decide_eq_false (p:=(i:Int) < L.length) (by omega),List.drop_of_length_le h];rfl
def N0:Av:=[(⟨#[112,114,105,110,116]⟩:Ah),(⟨#[116,121,112,101]⟩:Ah),(⟨#[116,111,115,116,114,105,110,103]⟩:Ah),(⟨#[116,111,110,117,109,98,101,114]⟩:Ah),(⟨#[110,101,120,116]⟩:Ah),(⟨#[112,97,105,114,115]⟩:Ah),(⟨#[105,112,97,105,114,115]⟩:Ah),(⟨#[114,97,119,108,101,110]⟩:Ah),(⟨#[115,116,97,116,115]⟩:Ah),(⟨#[112,114,111,98,101,115]⟩:Ah),(⟨#[]⟩:Ah),(⟨#[116,97,98,108,101,46,105,110,115,101,114,116]⟩:Ah),(⟨#[116,97,98,108,101,46,114,101,109,111,118,101]⟩:Ah),(⟨#[116,97,98,108,101,46,99,111,110,99,97,116]⟩:Ah),(⟨#[116,97,98,108,101,46,117,110,112,97,99,107]⟩:Ah),(⟨#[116,97,98,108,101,46,109,111,118,101]⟩:Ah),(⟨#[116,97,98,108,101,46,115,111,114,116]⟩:Ah),(⟨#[117,116,102,56,46,108,101,110]⟩:Ah),(⟨#[117,116,102,56,46,99,104,97,114]⟩:Ah),(⟨#[117,116,102,56,46,99,111,100,101,112,111,105,110,116]⟩:Ah),(⟨#[117,116,102,56,46,111,102,102,115,101,116]⟩:Ah),(⟨#[117,116,102,56,46,99,111,100,101,115]⟩:Ah)]
def WG:List Bs:=Lib.fields (⟨#[112,114,105,110,116,32,116,121,112,101,32,116,111,115,116,114,105,110,103,32,116,111,110,117,109,98,101,114,32,110,101,120,116,32,112,97,105,114,115,32,105,112,97,105,114,115,32,114,97,119,108,101,110,32,115,116,97,116,115,32,112,114,111,98,101,115,32,45,32,116,97,98,108,101,46,105,110,115,101,114,116,32,116,97,98,108,101,46,114,101,109,111,118,101,32,116,97,98,108,101,46,99,111,110,99,97,116,32,116,97,98,108,101,46,117,110,112,97,99,107,32,116,97,98,108,101,46,109,111,118,101,32,116,97,98,108,101,46,115,111,114,116,32,117,116,102,56,46,108,101,110,32,117,116,102,56,46,99,104,97,114,32,117,116,102,56,46,99,111,100,101,112,111,105,110,116,32,117,116,102,56,46,111,102,102,115,101,116,32,117,116,102,56,46,99,111,100,101,115,32,45]⟩:Ah).data.toList
def Qz (X:Bs):List Bs->Int->Int
 | [],_=>0
 | y :: l,i=>if (!(X == [])) && y == X then i+1 else Qz X l (i+1)
theorem Buc (k:Nat) (a0:Ah) (J:Unit->Option Int) (x:Int):IP.l0 (k+1) a0 J x=cond (decide (x < (22:Int))) ((cond (!(a0.toList == (⟨#[]⟩:Ah).toList)) ((B5 N0 x).bind λx9=>some (x9.toList == a0.toList)) (some false):Option Bool).bind λq6=>cond q6 (some (Au (x+(1:Int)))) (IP.l0 k a0 J (Au (x+(1:Int))))) (J ()):=rfl
theorem Atd (s:Ah):∀ (d i k:Nat),22 - i<=d->i<=22->d < k->IP.l0 k s (λ_=>some 0) (i:Int)=some (Qz s.toList ((N0.drop i).map (·.toList)) i)
 | d,i,k,hd,hi,hk=>by
  obtain ⟨k,rfl⟩:∃ m,k=m+1:=⟨k - 1,by omega⟩;have hlen:N0.length=22:=rfl;rw [Buc];rcases Nat.lt_or_ge i 22 with h | h;obtain ⟨d,rfl⟩:∃ m,d=m+1:=⟨d - 1,by omega⟩;have h':i < N0.length:=by omega
  have he:(⟨#[]⟩:Ah).toList=[]:=by kernel_rfl
  rw [decide_eq_true (p:=(i:Int) < 22) (by omega),Wj h',wiC ((i:Int)+1) (by omega) (by omega),List.drop_eq_getElem_cons h',List.map_cons,he];simp only [cond_true,Aq];unfold Qz;have ih:=Atd s d (i+1) k (by omega) (by omega) (by omega);rw [show ((i+1:Nat):Int)=(i:Int)+1 by omega] at ih;cases hn:s.toList == [] with
  | true=>simp only [Bool.not_true,cond_false,Aq,Bool.false_and,Bool.false_eq_true,if_false];exact ih
  | false =>
   simp only [Bool.not_false,cond_true,Aq,Bool.true_and];cases hq:N0[i].toList == s.toList with
   | true=>rfl
   | false=>simp only [cond_false,Bool.false_eq_true,if_false];exact ih
  rw [decide_eq_false (p:=(i:Int) < 22) (by omega),List.drop_of_length_le (by omega)];rfl
theorem Axl (X:Bs):∀ (l:List Bs) (i:Int),X ∉ l->Sg X l i=-1
 | [],_,_=>rfl
 | y :: l,i,h=>by
  unfold Sg;rw [if_neg (by simp only [beq_iff_eq];rintro rfl;exact h (DT ..))];exact Axl X l _ λh'=>h (EM _ h')
theorem Axm (X:Bs):∀ (l:List Bs) (i:Int),X ∉ l->Qz X l i=0
 | [],_,_=>rfl
 | y :: l,i,h=>by
  unfold Qz;rw [if_neg (by simp only [Bool.and_eq_true,beq_iff_eq];rintro ⟨_,rfl⟩;exact h (DT ..))];exact Axm X l _ λh'=>h (EM _ h')
def JA (X:Bs):Int:=if X == [45] then 0 else Sg X WG 0+1
theorem Apz (X:Bs):JA X=Qz X (N0.map (·.toList)) 0/\0<=JA X/\JA X<=22:=by
 by_cases h:X ∈ [45] :: (WG++N0.map (·.toList));revert h;have key:∀ x ∈ [45] :: (WG++N0.map (·.toList)),JA x=Qz x (N0.map (·.toList)) 0/\0<=JA x/\JA x<=22:=by decide +kernel
 exact key X;simp only [List.mem_cons,EL,not_or] at h;obtain ⟨h1,h2,h3⟩:=h;have e:JA X=0:=by
  unfold JA;rw [if_neg (by simpa using h1),Axl X _ _ h2];rfl
 rw [e,Axm X _ _ h3];decide
def WF:Av:=(Lib.fields (⟨#[112,114,105,110,116,32,116,121,112,101,32,116,111,115,116,114,105,110,103,32,116,111,110,117,109,98,101,114,32,110,101,120,116,32,112,97,105,114,115,32,105,112,97,105,114,115,32,114,97,119,108,101,110,32,115,116,97,116,115,32,112,114,111,98,101,115,32,45,32,116,97,98,108,101,46,105,110,115,101,114,116,32,116,97,98,108,101,46,114,101,109,111,118,101,32,116,97,98,108,101,46,99,111,110,99,97,116,32,116,97,98,108,101,46,117,110,112,97,99,107,32,116,97,98,108,101,46,109,111,118,101,32,116,97,98,108,101,46,115,111,114,116,32,117,116,102,56,46,108,101,110,32,117,116,102,56,46,99,104,97,114,32,117,116,102,56,46,99,111,100,101,112,111,105,110,116,32,117,116,102,56,46,111,102,102,115,101,116,32,117,116,102,56,46,99,111,100,101,115,32,45]⟩:Ah).data.toList).map λl=>⟨l.toArray⟩
theorem A5z (k:Nat):strings_Fields.f k (⟨#[112,114,105,110,116,32,116,121,112,101,32,116,111,115,116,114,105,110,103,32,116,111,110,117,109,98,101,114,32,110,101,120,116,32,112,97,105,114,115,32,105,112,97,105,114,115,32,114,97,119,108,101,110,32,115,116,97,116,115,32,112,114,111,98,101,115,32,45,32,116,97,98,108,101,46,105,110,115,101,114,116,32,116,97,98,108,101,46,114,101,109,111,118,101,32,116,97,98,108,101,46,99,111,110,99,97,116,32,116,97,98,108,101,46,117,110,112,97,99,107,32,116,97,98,108,101,46,109,111,118,101,32,116,97,98,108,101,46,115,111,114,116,32,117,116,102,56,46,108,101,110,32,117,116,102,56,46,99,104,97,114,32,117,116,102,56,46,99,111,100,101,112,111,105,110,116,32,117,116,102,56,46,111,102,102,115,101,116,32,117,116,102,56,46,99,111,100,101,115,32,45]⟩:Ah)=some WF:=by
 have h:(decide ((⟨#[112,114,105,110,116,32,116,121,112,101,32,116,111,115,116,114,105,110,103,32,116,111,110,117,109,98,101,114,32,110,101,120,116,32,112,97,105,114,115,32,105,112,97,105,114,115,32,114,97,119,108,101,110,32,115,116,97,116,115,32,112,114,111,98,101,115,32,45,32,116,97,98,108,101,46,105,110,115,101,114,116,32,116,97,98,108,101,46,114,101,109,111,118,101,32,116,97,98,108,101,46,99,111,110,99,97,116,32,116,97,98,108,101,46,117,110,112,97,99,107,32,116,97,98,108,101,46,109,111,118,101,32,116,97,98,108,101,46,115,111,114,116,32,117,116,102,56,46,108,101,110,32,117,116,102,56,46,99,104,97,114,32,117,116,102,56,46,99,111,100,101,112,111,105,110,116,32,117,116,102,56,46,111,102,102,115,101,116,32,117,116,102,56,46,99,111,100,101,115,32,45]⟩:Ah).size < 4294967281/\(Lib.fields (⟨#[112,114,105,110,116,32,116,121,112,101,32,116,111,115,116,114,105,110,103,32,116,111,110,117,109,98,101,114,32,110,101,120,116,32,112,97,105,114,115,32,105,112,97,105,114,115,32,114,97,119,108,101,110,32,115,116,97,116,115,32,112,114,111,98,101,115,32,45,32,116,97,98,108,101,46,105,110,115,101,114,116,32,116,97,98,108,101,46,114,101,109,111,118,101,32,116,97,98,108,101,46,99,111,110,99,97,116,32,116,97,98,108,101,46,117,110,112,97,99,107,32,116,97,98,108,101,46,109,111,118,101,32,116,97,98,108,101,46,115,111,114,116,32,117,116,102,56,46,108,101,110,32,117,116,102,56,46,99,104,97,114,32,117,116,102,56,46,99,111,100,101,112,111,105,110,116,32,117,116,102,56,46,111,102,102,115,101,116,32,117,116,102,56,46,99,111,100,101,115,32,45]⟩:Ah).data.toList).length<=1000000) && (⟨#[112,114,105,110,116,32,116,121,112,101,32,116,111,115,116,114,105,110,103,32,116,111,110,117,109,98,101,114,32,110,101,120,116,32,112,97,105,114,115,32,105,112,97,105,114,115,32,114,97,119,108,101,110,32,115,116,97,116,115,32,112,114,111,98,101,115,32,45,32,116,97,98,108,101,46,105,110,115,101,114,116,32,116,97,98,108,101,46,114,101,109,111,118,101,32,116,97,98,108,101,46,99,111,110,99,97,116,32,116,97,98,108,101,46,117,110,112,97,99,107,32,116,97,98,108,101,46,109,111,118,101,32,116,97,98,108,101,46,115,111,114,116,32,117,116,102,56,46,108,101,110,32,117,116,102,56,46,99,104,97,114,32,117,116,102,56,46,99,111,100,101,112,111,105,110,116,32,117,116,102,56,46,111,102,102,115,101,116,32,117,116,102,56,46,99,111,100,101,115,32,45]⟩:Ah).data.toList.all λb=>decide (b.toNat < 128))=true:=by decide +kernel
 unfold strings_Fields.f;rw [h];rfl
theorem Bs5:WF.length=23:=by decide +kernel
theorem Bs6:WF.map (·.toList)=WG:=by decide +kernel
theorem Bky (k:Nat) (hk:30<=k) (a0:Ah):MI.f k a0=some (JA a0.toList):=by
 have h1:=A5z k;obtain ⟨L,hL⟩:∃ L,L=WF:=⟨_,rfl⟩;have h2:=Bs5;have h3:=Bs6;rw [<- hL] at h1 h2 h3;have hd:(⟨#[45]⟩:Ah).toList=[45]:=by kernel_rfl
 unfold MI.f;rw [hd,h1];unfold JA;cases hq:a0.toList == [45] with
 | true=>rfl
 | false =>
  simp only [cond_false,Aq,Bool.false_eq_true,if_false];unfold Gm.f AN;have hl:=Aml L (by omega) a0 L.length 0 k (by omega) (by omega) (by omega);rw [List.drop_zero,h3,Int.ofNat_zero] at hl;change ((Gm.l0 k L a0 (λ_=>some (-1)) 0).bind _)=_;rw [hl];have hb:=(Apz a0.toList).2;unfold JA at hb;rw [hq] at hb;simp only [Bool.false_eq_true,if_false] at hb;simp only [Aq];rw [wiC _ (by omega) (by omega)]
theorem Bt9 (k:Nat) (hk:30<=k) (a0:Ah):IP.f k a0=some (JA a0.toList):=by
 unfold IP.f AN;have hl:=Atd a0 22 0 k (by omega) (by omega) (by omega);rw [List.drop_zero,Int.ofNat_zero,<- (Apz a0.toList).1] at hl;exact hl
theorem Ih {α:Type} (pre:List α) (x:α) (t:List α):B5 (pre++x :: t) (pre.length:Int)=some x:=by
 unfold B5;rw [if_pos (by omega)];simp
theorem Gv {a b:Int} (h:a < b):decide (a < b)=true:=decide_eq_true h
theorem ltF {a b:Int} (h:¬ a < b):decide (a < b)=false:=decide_eq_false h
abbrev V3:=Int×Int×Ah
abbrev DB:=Ah×Int×Int×Int×List V3
abbrev CT:=List DB×List Ah×Int×List V3×List Ah×Int
structure Bo where
 fs:List DB
 gl:List Ah
 sl:Int
 cs:List V3
 lo:List Ah
 lp:Int
def Bo.Iz (s:Bo):CT:=(s.fs,s.gl,s.sl,s.cs,s.lo,s.lp)
abbrev PC (α:Type):=PR α (Int×Int)
def PR.th {α β ε:Type} (x:PR α ε) (f:α->PR β ε):PR β ε:=match x with | .ok a=>f a | .bad e=>.bad e
def PR.mp {α β ε:Type} (f:α->β) (x:PR α ε):PR β ε:=match x with | .ok a=>.ok (f a) | .bad e=>.bad e
def G8 (l:List Ah) (a:Ah):Bool:=l.any λx=>a.toList == x.toList
def MP (l:List V3) (v:V3):Bool:=l.any λx=>(v.1 == x.1) && ((v.2.1 == x.2.1) && ((v.2.2.toList == x.2.2.toList) && true))
abbrev X7:Ah:=⟨#[116,97,98,108,101]⟩
abbrev A0f:Ah:=⟨#[117,116,102,56]⟩
abbrev Agi:Ah:=⟨#[46]⟩
def Ej (t:Ah):Bool:=t.toList == X7.toList || t.toList == A0f.toList
def Dv (a:Int) (count most:Int):PC Unit:=if count > most then .bad (6,a) else .ok ()
def EY (gl:List Ah) (t:Ah):List Ah:=if G8 gl t then gl else gl++[t]
def KI (a:Int) (cs:List V3) (v:V3):PC (List V3):=if MP cs v then .ok cs else (Dv a (cs.length+1:Nat) 250).th λ_=>.ok (cs++[v])
def Ol (a:Int) (t:Ah) (gl lo ab:List Ah):PC (List Ah) :=
 if Ej t then .bad (5,a) else if G8 lo t then .ok gl else if G8 ab t then .bad (5,a) else .ok (EY gl t)
def KY:List Ah->List Tree->PC (List Ah)
 | lo,[]=>.ok lo
 | lo,x :: l=>if Ej x.text then .bad (5,x.at_) else KY (lo++[x.text]) l
def Fy (a:Int) (sl:Int) (lo:List Ah) (l:List Tree):PC (Int×List Ah) :=
 (KY lo l).th λlo=>(Dv a (lo.length:Nat) 60).th λ_=>.ok (if ((lo.length:Nat):Int) > sl then ((lo.length:Nat):Int) else sl,lo)
def CZ (f:Bo->Tree->PC Bo):Bo->List Tree->PC Bo
 | s,[]=>.ok s
 | s,x :: l=>(f s x).th λs=>CZ f s l
def KF (f:Bo->Tree->Bool->PC Bo) (n:Int):Nat->Bo->List Tree->PC Bo
 | _,s,[]=>.ok s
 | i,s,x :: l=>(f s x (decide ((i:Int) < n))).th λs=>KF f n (i+1) s l
def tNo:Tree:=.mk 0 ⟨#[]⟩ 0 0 []
def Cc (l:List Tree) (i:Nat):Tree:=(l[i]?).getD tNo
def Gu (f:Bo->Tree->PC Bo) (a:Int) (s:Bo) (names:List Tree) (b:Tree) (more:Nat):PC Bo :=
 (if more > 0 then Fy a s.sl (s.lo++List.replicate more ⟨#[]⟩) names else .ok (s.sl,s.lo)).th λr =>
  (f { s with sl:=r.1,lo:=r.2,lp:=s.lp+1 } b).th λs'=>.ok { s' with lo:=s'.lo.take s.lo.length,lp:=s'.lp - 1 }
def Vk (tg:Bool) (x y:Tree):Bool:=tg || (y.kind != 5 || JA (x.text++Agi++y.text).toList == 0)
def NR (f:Bo->List Tree->PC Bo) (ab:List Ah) (s:Bo) (k:Int) (t:Ah) (n a:Int) (l:List Tree) (tg:Bool):PC Bo :=
 if k=8 then (Dv a ((l.length:Nat) - 1:Int) 50).th λ_=>f s l
 else if k=30 then (Dv a (l.length:Nat) 50).th λ_=>f s l
 else if k=12 then (Dv a (l.length:Nat) 200).th λ_=>f s l
 else if k=4 then (KI a s.cs (2,n,⟨#[]⟩)).th λcs=>f { s with cs:=cs } l
 else if k=5 then (KI a s.cs (3,0,t)).th λcs=>f { s with cs:=cs } l
 else if k=6 then (Ol a t s.gl s.lo ab).th λgl=>f { s with gl:=gl } l
 else if k=7/\(Cc l 0).kind=6/\Ej (Cc l 0).text=true then
  if Vk tg (Cc l 0) (Cc l 1) then .bad (5,a) else .ok s
 else f s l
def Bq:Nat->List Ah->Bo->Tree->Bool->PC Bo
 | 0,_,_,_,_=>.bad (0,0)
 | d+1,ab,s,.mk k t n a l,tg =>
  if k=20 then (CZ (λs x=>Bq d ab s x false) s l).th λs'=>.ok { s' with lo:=s'.lo.take s.lo.length }
  else if k=31 then
   (Dv a (s.fs.length:Nat) 100).th λ_=>if Ej t then .bad (5,a) else
    (Dv a n 50).th λ_=>(Fy a 0 [] (l.take n.toNat)).th λr =>
     (Bq d s.lo ⟨s.fs,EY s.gl t,r.1,[],r.2,0⟩ (Cc l n.toNat) false).th λs' =>
      .ok { s with fs:=s'.fs++[(t,a,n,s'.sl,s'.cs)],gl:=s'.gl }
  else if k=21 then
   (Dv a n 50).th λ_=>(Dv a (l.length - n) 50).th λ_=>(CZ (λs x=>Bq d ab s x false) s (l.drop n.toNat)).th λs =>
    (Fy a s.sl s.lo (l.take n.toNat)).th λr=>.ok { s with sl:=r.1,lo:=r.2 }
  else if k=22 then
   (Dv a n 50).th λ_=>(Dv a (l.length - n) 50).th λ_=>KF (λs x b=>Bq d ab s x b) n 0 s l
  else if k=25 then (Bq d ab s (Cc l 0) false).th λs=>Gu (λs x=>Bq d ab s x false) a s [] (Cc l 1) 0
  else if k=26 then (CZ (λs x=>Bq d ab s x false) s ((l.drop 1).take (l.length - 2))).th λs=>Gu (λs x=>Bq d ab s x false) a s (l.take 1) (Cc l (l.length - 1)) 3
  else if k=27 then
   (Dv a n 50).th λ_=>(Dv a (l.length - 1 - n) 50).th λ_=>(CZ (λs x=>Bq d ab s x false) s ((l.drop n.toNat).take (l.length - 1 - n.toNat))).th λs =>
    Gu (λs x=>Bq d ab s x false) a s (l.take n.toNat) (Cc l (l.length - 1)) 3
  else if k=29 then if s.lp=0 then .bad (5,a) else .ok s
  else NR (λs l=>CZ (λs x=>Bq d ab s x false) s l) ab s k t n a l tg
theorem Ags {α β ε:Type} (x:PR α ε) (f:α->PR β ε) (F:α->Option (PR β ε)) (h:∀ a,x=.ok a->F a=some (f a)):PR.bind (some x) F=some (x.th f):=by
 cases x with
 | ok a=>exact h a rfl
 | bad e=>rfl
theorem QN (k:Nat) (a0:Int) (a1:Ah) (a2 a3:Int) (a4:List Tree) (c m:Int):Ex.f k a0 a1 a2 a3 a4 c m=some (Dv a3 c m):=by
 unfold Ex.f Dv;by_cases h:c > m;rw [decide_eq_true h,if_pos h];rfl;rw [decide_eq_false h,if_neg h];rfl
theorem VW (k:Nat) (t:Ah):JW.f k t=some (Ej t):=by
 unfold JW.f Ej;cases t.toList == X7.toList <;> rfl
theorem Ami:∀ (t pre:List Ah) (a:Ah) (m:Nat),pre.length+t.length<=1000000->t.length+1<=m ->
  ∃ v,Gm.l0 m (pre++t) a (λ_=>some (-1)) (pre.length:Int)=some v/\decide (v >= 0)=G8 t a
 | [],pre,a,m,hl,hm=>by
  obtain ⟨m,rfl⟩:∃ m',m=m'+1:=⟨m - 1,by omega⟩;simp only [Gm.l0];rw [ltF (by simp)];exact ⟨-1,rfl,rfl⟩
 | x :: t,pre,a,m,hl,hm=>by
  obtain ⟨m,rfl⟩:∃ m',m=m'+1:=⟨m - 1,by omega⟩;simp only [AX] at hl hm;simp only [Gm.l0];rw [Gv (by simp;omega),Ih];simp only [cond_true,Aq];unfold G8;rw [List.any_cons];cases hq:a.toList == x.toList with
  | true=>exact ⟨_,rfl,decide_eq_true (by omega)⟩
  | false =>
   rw [cond_false,Bool.false_or,wiC _ (by omega) (by omega)];have ih:=Ami t (pre++[x]) a m (by simp;omega) (by omega);rw [C8,BT] at ih;exact ih
theorem containsS (k:Nat) (l:List Ah) (a:Ah) (hl:l.length<=1000000) (hk:l.length+1<=k):LY.f k l a=some (G8 l a):=by
 unfold LY.f Gm.f AN;obtain ⟨v,hv,hd⟩:=Ami l [] a k (by simpa using hl) hk;have hv:Gm.l0 k l a (λ_=>some (-1)) (0:Int)=some v:=hv;simp only [hv,Aq,hd]
theorem Amj:∀ (t pre:List V3) (a0 a1:Int) (a2:Ah) (m:Nat),pre.length+t.length<=1000000->t.length+1<=m ->
  ∃ v,IR.l0 m (pre++t) a0 a1 a2 (λ_=>some (-1)) (pre.length:Int)=some v/\decide (v >= 0)=MP t (a0,a1,a2)
 | [],pre,a0,a1,a2,m,hl,hm=>by
  obtain ⟨m,rfl⟩:∃ m',m=m'+1:=⟨m - 1,by omega⟩;simp only [IR.l0];rw [ltF (by simp)];exact ⟨-1,rfl,rfl⟩
 | x :: t,pre,a0,a1,a2,m,hl,hm=>by
  obtain ⟨m,rfl⟩:∃ m',m=m'+1:=⟨m - 1,by omega⟩;simp only [AX] at hl hm;simp only [IR.l0];rw [Gv (by simp;omega),Ih];simp only [cond_true,Aq];unfold MP;rw [List.any_cons];simp only;cases hq:(a0 == x.1) && ((a1 == x.2.1) && ((a2.toList == x.2.2.toList) && true)) with
  | true=>exact ⟨_,rfl,decide_eq_true (by omega)⟩
  | false =>
   rw [cond_false,Bool.false_or,wiC _ (by omega) (by omega)];have ih:=Amj t (pre++[x]) a0 a1 a2 m (by simp;omega) (by omega);rw [C8,BT] at ih;exact ih
theorem A2j (k:Nat) (l:List V3) (a0 a1:Int) (a2:Ah) (hl:l.length<=1000000) (hk:l.length+1<=k):Qr.f k l a0 a1 a2=some (MP l (a0,a1,a2)):=by
 unfold Qr.f IR.f AN;obtain ⟨v,hv,hd⟩:=Amj l [] a0 a1 a2 k (by simpa using hl) hk;have hv:IR.l0 k l a0 a1 a2 (λ_=>some (-1)) (0:Int)=some v:=hv;simp only [hv,Aq,hd]
theorem Lu {α:Type} {b:Nat} {l ys:List α} (h:(l.length+ys.length) * b<=140737488355328):apd b l ys=some (l++ys):=by
 unfold apd;rw [decide_eq_true h];rfl
section
variable {k:Nat} {f0:List DB} {gl:List Ah} {nm:Ah} {at_ pc sl:Int} {cs:List V3} {lo:List Ah} {lp:Int} {ab:List Ah}
theorem Ajv (t:Ah) (hg:gl.length<=400000) (hk:500000<=k):MK.f k f0 gl nm at_ pc sl cs lo lp ab t=some (EY gl t):=by
 unfold MK.f EY;rw [containsS k gl t (by omega) (by omega)];simp only [Aq];cases G8 gl t with
 | true=>rfl
 | false =>
  rw [Lu (by simp;omega)];rfl
theorem Bk7 (x0:Int) (t:Ah) (x2 a:Int) (x4:List Tree) (hg:gl.length<=400000) (ho:lo.length<=400000) (ha:ab.length<=400000) (hk:500000<=k) :
  OY.f k f0 gl nm at_ pc sl cs lo lp ab x0 t x2 a x4=some (Ol a t gl lo ab):=by
 unfold OY.f Ol;rw [VW,containsS k lo t (by omega) (by omega),containsS k ab t (by omega) (by omega),Ajv t hg hk];simp only [Aq];cases Ej t with
 | true=>rfl
 | false =>
  cases G8 lo t with
  | true=>rfl
  | false=>cases G8 ab t <;> rfl
theorem const_eq (x0:Int) (x1:Ah) (x2 a:Int) (x4:List Tree) (v0 v1:Int) (v2:Ah) (hc:cs.length<=400000) (hk:500000<=k) :
  MJ.f k f0 gl nm at_ pc sl cs lo lp ab x0 x1 x2 a x4 v0 v1 v2=some (KI a cs (v0,v1,v2)):=by
 unfold MJ.f KI;rw [A2j k cs v0 v1 v2 (by omega) (by omega)];simp only [Aq];cases MP cs (v0,v1,v2) with
 | true=>rfl
 | false =>
  simp only [Bool.not_false,cond_true,Bool.false_eq_true,if_false];rw [QN,wiC _ (by omega) (by omega)];refine Ags _ _ _ λu _=>?_;rw [Lu (by simp;omega)];rfl
theorem Ahb:∀ (t pre:List Tree) (lo:Av) (m:Nat) (J:Av->Option (PC (Int×Av))) (j:Av->PC (Int×Av)),pre.length+t.length<=400000->lo.length+t.length<=900000->t.length+1<=m ->
  (∀ lo',KY lo t=.ok lo'->J lo'=some (j lo'))->G6.l0 m (pre++t) J (pre.length:Int) lo=some ((KY lo t).th j)
 | [],pre,lo,m,J,j,hl,ho,hm,hJ=>by
  obtain ⟨m,rfl⟩:∃ m',m=m'+1:=⟨m - 1,by omega⟩;simp only [G6.l0];rw [ltF (by simp)];exact hJ lo rfl
 | x :: t,pre,lo,m,J,j,hl,ho,hm,hJ=>by
  obtain ⟨m,rfl⟩:∃ m',m=m'+1:=⟨m - 1,by omega⟩;simp only [AX] at hl ho hm;simp only [G6.l0];rw [Gv (by simp;omega),Ih];simp only [cond_true,Aq,AN,VW];unfold KY;cases hq:Ej x.text with
  | true=>rfl
  | false =>
   simp only [cond_false,Bool.false_eq_true,if_false];rw [Lu (by simp;omega),wiC _ (by omega) (by omega)];have ih:=Ahb t (pre++[x]) (lo++[x.text]) m J j (by simp;omega) (by simp;omega) (by omega) λlo' h=>hJ lo' (by unfold KY;rw [hq];exact h);rw [C8,BT] at ih;exact ih
theorem XG (x0:Int) (x1:Ah) (x2 a:Int) (x4:List Tree) (l:List Tree) (hl:l.length<=400000) (ho:lo.length<=400000) (hk:500000<=k) :
  G6.f k f0 gl nm at_ pc sl cs lo lp ab x0 x1 x2 a x4 l=some (Fy a sl lo l):=by
 unfold G6.f AN Fy;refine Ahb l [] lo k _ _ (by simpa using hl) (by omega) (by omega) λlo' _=>?_;rw [QN];exact Ags _ _ _ λ_ _=>rfl
end
def A7f (k n:Int) (t:Ah) (l:List Tree):Prop :=
 t.size<=30000/\(k=7->l.length=2)/\(k=25->l.length=2)/\(k=26->4<=l.length)/\(k=21\/k=22->∃ m:Nat,n=m/\m<=l.length)/\(k=27->∃ m:Nat,n=m/\m+1<=l.length)/\(k=31->∃ m:Nat,n=m/\l.length=m+1)
mutual
def gw:Tree->Prop
 | .mk k t n _ l=>A7f k n t l/\MN l
def MN:List Tree->Prop
 | []=>True
 | x :: l=>gw x/\MN l
end
theorem Ka:∀ {l:List Tree},MN l ↔ ∀ x ∈ l,gw x
 | []=>by simp [MN]
 | x :: l=>by simp [MN,Ka (l:=l)]
mutual
theorem Axj:∀ {t:Tree},wfT t->gw t
 | .mk k t n a l,⟨⟨h1,h2,h3,h4,h5,h6,h7⟩,hl⟩=>⟨⟨h1,h3,h4,h5,h6,h7,λh=>absurd h h2⟩,Ad4 hl⟩
theorem Ad4:∀ {l:List Tree},Hl l->MN l
 | [],_=>trivial
 | _ :: _,h=>⟨Axj h.1,Ad4 h.2⟩
end
theorem A6e {t:Tree} (h:fnT t):gw t:=by
 cases t with
 | mk k t n a l =>
  obtain ⟨h1,h2,h3,h4⟩:=h;subst h2;exact ⟨⟨h1,nx rfl,nx rfl,nx rfl,nx rfl,nx rfl,λ_=>h3⟩,Ad4 h4⟩
theorem M4 (t:Tree):1<=sz t:=by cases t;simp only [sz];omega
theorem IS {x:Tree}:∀ {l:List Tree},x ∈ l->sz x<=A_ l
 | y :: l,h=>by
  simp only [A_];rcases List.mem_cons.1 h with rfl | h;omega;have:=IS h;omega
theorem N6 (l:List Tree) (i:Nat):A_ (l.take i)+A_ (l.drop i)=A_ l:=by rw [<- Eb,List.take_append_drop]
theorem IB {l:List Tree} {i:Nat} (h:i < l.length):Cc l i=l[i]/\Cc l i ∈ l:=by
 unfold Cc;rw [List.getElem?_eq_getElem h];exact ⟨rfl,List.getElem_mem h⟩
theorem A3a {l:List Tree} {i:Nat} (h:i < l.length):l.drop i=Cc l i :: l.drop (i+1):=by
 rw [(IB h).1];exact List.drop_eq_getElem_cons h
theorem M5 {l:List Tree} {i:Nat} (h:i < l.length):A_ (l.take i)+sz (Cc l i)+A_ (l.drop (i+1))=A_ l:=by
 have:=N6 l i;rw [A3a h] at this;simp only [A_] at this;omega
def pot (s:Bo):Nat:=s.fs.length+s.gl.length+s.cs.length+s.lo.length
structure Post (s s':Bo) (n:Nat):Prop where
 pre:s.lo <+: s'.lo
 lp:s'.lp=s.lp
 pot:pot s'<=pot s+n
theorem Post.refl (s:Bo):Post s s 0:=⟨List.prefix_refl _,rfl,Nat.le_refl _⟩
theorem Post.trans {s s1 s2:Bo} {n m:Nat} (h:Post s s1 n) (h':Post s1 s2 m):Post s s2 (n+m):=⟨h.pre.trans h'.pre,h'.lp.trans h.lp,by have:=h.pot;have:=h'.pot;omega⟩
theorem Post.weak {s s':Bo} {n m:Nat} (h:Post s s' n) (hm:n<=m):Post s s' m:=⟨h.pre,h.lp,by have:=h.pot;omega⟩
theorem Ade {α:Type} {a b:List α} (h:a <+: b):b.take a.length=a:=by obtain ⟨t,rfl⟩:=h;simp
theorem Asl {α:Type} {a b:List α} (h:a <+: b):a.length<=b.length:=by obtain ⟨t,rfl⟩:=h;simp
theorem Cv {α β ε:Type} {x:PR α ε} {f:α->PR β ε} {b:β} (h:x.th f=.ok b):∃ a,x=.ok a/\f a=.ok b:=by
 cases x with
 | ok a=>exact ⟨a,rfl,h⟩
 | bad e=>cases h
theorem Aag:∀ {l:List Tree} {lo lo':List Ah},KY lo l=.ok lo'->lo'=lo++l.map Tree.text
 | [],lo,lo',h=>by cases h;simp
 | x :: l,lo,lo',h=>by
  unfold KY at h;split at h;cases h;rw [Aag h];simp
theorem QI {a sl:Int} {lo:List Ah} {l:List Tree} {r:Int×List Ah} (h:Fy a sl lo l=.ok r):r.2=lo++l.map Tree.text/\r.2.length<=60/\r.1=max sl (r.2.length:Int):=by
 unfold Fy at h;obtain ⟨lo',h1,h⟩:=Cv h;obtain ⟨_,h2,h⟩:=Cv h;unfold Dv at h2;split at h2;cases h2;cases h;refine ⟨Aag h1,by show lo'.length<=60;omega,?_⟩;show (if ((lo'.length:Nat):Int) > sl then ((lo'.length:Nat):Int) else sl)=max sl (lo'.length:Int);split <;> omega
theorem QF (gl:List Ah) (t:Ah):(EY gl t).length<=gl.length+1:=by unfold EY;split <;> simp
theorem XJ {a:Int} {cs cs':List V3} {v:V3} (h:KI a cs v=.ok cs'):cs'.length<=cs.length+1:=by
 unfold KI at h;split at h;cases h;omega;obtain ⟨_,_,h⟩:=Cv h;cases h;simp
theorem Aqc {a:Int} {t:Ah} {gl lo ab gl':List Ah} (h:Ol a t gl lo ab=.ok gl'):gl'.length<=gl.length+1:=by
 unfold Ol at h;split at h;cases h;split at h;cases h;omega;split at h;cases h;cases h;exact QF _ _
theorem Wo {f:Bo->Tree->PC Bo}:∀ {l:List Tree} {s s':Bo},(∀ s x s',x ∈ l->f s x=.ok s'->Post s s' (4 * sz x))->CZ f s l=.ok s'->Post s s' (4 * A_ l)
 | [],s,s',_,h=>by cases h;exact Post.refl _
 | x :: l,s,s',hf,h=>by
  unfold CZ at h;obtain ⟨s1,h1,h⟩:=Cv h;have:=(hf _ _ _ (DT ..) h1).trans (Wo (λs y s' hy=>hf s y s' (EM _ hy)) h);exact this.weak (by simp only [A_];omega)
theorem Agg {f:Bo->Tree->Bool->PC Bo} {n:Int}:∀ {l:List Tree} {i:Nat} {s s':Bo},(∀ s x b s',x ∈ l->f s x b=.ok s'->Post s s' (4 * sz x))->KF f n i s l=.ok s'->Post s s' (4 * A_ l)
 | [],_,s,s',_,h=>by cases h;exact Post.refl _
 | x :: l,i,s,s',hf,h=>by
  unfold KF at h;obtain ⟨s1,h1,h⟩:=Cv h;have:=(hf _ _ _ _ (DT ..) h1).trans (Agg (λs y b s' hy=>hf s y b s' (EM _ hy)) h);exact this.weak (by simp only [A_];omega)
theorem Aac {f:Bo->Tree->PC Bo} {a:Int} {s s':Bo} {names:List Tree} {b:Tree} {more:Nat} (hm:more=0\/more=3) (hf:∀ s s',f s b=.ok s'->Post s s' (4 * sz b)) (h:Gu f a s names b more=.ok s'):Post s s' (4 * sz b+names.length+3)/\s'.lo=s.lo:=by
 unfold Gu at h;obtain ⟨r,h1,h⟩:=Cv h;obtain ⟨s1,h2,h⟩:=Cv h;cases h;have hp:=hf _ _ h2;have hr:s.lo <+: r.2/\r.2.length<=s.lo.length+names.length+3:=by
  split at h1;have:=(QI h1).1;rw [this];refine ⟨⟨_,by rw [C8]⟩,?_⟩;simp;omega;cases h1;exact ⟨List.prefix_refl _,by show s.lo.length<=_;omega⟩
 have h3:=Ade (hr.1.trans hp.pre);refine ⟨⟨by show s.lo <+: s1.lo.take s.lo.length;rw [h3];exact List.prefix_refl _,by show s1.lp - 1=s.lp;have:=hp.lp;simp only at this;omega,?_⟩,h3⟩;have hq:=hp.pot;have:=Asl hp.pre;simp only [pot] at hq this ⊢;rw [List.length_take];omega
theorem A5c {f:Bo->List Tree->PC Bo} {ab:Av} {s s':Bo} {k n a:Int} {t:Ah} {l:List Tree} {tg:Bool} (hf:∀ s s',f s l=.ok s'->Post s s' (4 * A_ l)) (h:NR f ab s k t n a l tg=.ok s'):Post s s' (4 * A_ l+1):=by
 unfold NR at h;split at h;obtain ⟨_,_,h⟩:=Cv h;exact (hf _ _ h).weak (by omega);split at h;obtain ⟨_,_,h⟩:=Cv h;exact (hf _ _ h).weak (by omega);split at h;obtain ⟨_,_,h⟩:=Cv h;exact (hf _ _ h).weak (by omega);split at h;obtain ⟨cs,h1,h⟩:=Cv h;have hp:=hf _ _ h;have:=XJ h1;exact ⟨hp.pre,hp.lp,by have:=hp.pot;simp only [pot] at this ⊢;omega⟩;split at h;obtain ⟨cs,h1,h⟩:=Cv h;have hp:=hf _ _ h;have:=XJ h1;exact ⟨hp.pre,hp.lp,by have:=hp.pot;simp only [pot] at this ⊢;omega⟩;split at h;obtain ⟨gl,h1,h⟩:=Cv h;have hp:=hf _ _ h;have:=Aqc h1;exact ⟨hp.pre,hp.lp,by have:=hp.pot;simp only [pot] at this ⊢;omega⟩;split at h;split at h;cases h;cases h;exact (Post.refl _).weak (by omega);exact (hf _ _ h).weak (by omega)
theorem JB:∀ {d:Nat} {ab:List Ah} {s s':Bo} {t:Tree} {tg:Bool},gw t->Bq d ab s t tg=.ok s'->Post s s' (4 * sz t)
 | 0,_,_,_,_,_,_,h=>by unfold Bq at h;cases h
 | d+1,ab,s,s',.mk k t n a l,tg,hw,h=>by
  obtain ⟨⟨hs1,hs7,Zp,Zq,VH,Zr,Zs⟩,hw⟩:=hw;rw [Ka] at hw;have hN:∀ (m:List Tree),(∀ x ∈ m,x ∈ l)->∀ ab s s',CZ (λs x=>Bq d ab s x false) s m=.ok s'->Post s s' (4 * A_ m):=λm hm ab s s' h=>Wo (λs x s' hx h=>JB (hw x (hm x hx)) h) h;have hlen:=Fu l;simp only [sz];unfold Bq at h;split at h;obtain ⟨s1,h1,h⟩:=Cv h;cases h;have hp:=hN l (λ_ h=>h) _ _ _ h1;refine ⟨by rw [Ade hp.pre];exact List.prefix_refl _,hp.lp,?_⟩;have:=hp.pot;simp only [pot] at this ⊢;rw [List.length_take];omega;split at h;rename_i hk;obtain ⟨m,rfl,hm⟩:=Zs hk;obtain ⟨_,_,h⟩:=Cv h;split at h;cases h;obtain ⟨_,_,h⟩:=Cv h;obtain ⟨r,h1,h⟩:=Cv h;obtain ⟨s1,h2,h⟩:=Cv h;cases h;simp only [Int.toNat_natCast] at h1 h2;have hk:=IB (l:=l) (i:=m) (by omega);have hp:=JB (hw _ hk.2) h2;have hb:=QI h1;have:=M5 (l:=l) (i:=m) (by omega);have h3:=hp.pot;have h4:=QF s.gl t;have h5:r.2.length<=m:=by rw [hb.1];simp;omega
  refine ⟨List.prefix_refl _,rfl,?_⟩;have:=Fu (l.take m);rw [List.length_take] at this;simp only [pot,BT,AX,Bp] at h3 ⊢;omega;split at h;rename_i hk;obtain ⟨m,rfl,hm⟩:=VH (.inl hk);obtain ⟨_,_,h⟩:=Cv h;obtain ⟨_,_,h⟩:=Cv h;obtain ⟨s1,h1,h⟩:=Cv h;obtain ⟨r,h2,h⟩:=Cv h;cases h;simp only [Int.toNat_natCast] at h1 h2;have hp:=hN _ (λx hx=>List.mem_of_mem_drop hx) _ _ _ h1;have hb:=QI h2;have:=N6 l m;have:=Fu (l.take m);refine ⟨hp.pre.trans ⟨_,hb.1.symm⟩,hp.lp,?_⟩;have h3:=hp.pot;simp only [pot] at h3 ⊢;rw [hb.1];simp only [BT,List.length_map];omega;split at h;obtain ⟨_,_,h⟩:=Cv h;obtain ⟨_,_,h⟩:=Cv h;exact (Agg (λs x b s' hx h=>JB (hw x hx) h) h).weak (by omega);split at h;rename_i hk;have h2:=Zp hk;obtain ⟨s1,h1,h⟩:=Cv h;have k0:=IB (l:=l) (i:=0) (by omega);have k1:=IB (l:=l) (i:=1) (by omega);have hp:=JB (hw _ k0.2) h1;have hq:=(Aac (.inl rfl) (λs s' h=>JB (hw _ k1.2) h) h).1;have e1:=M5 (l:=l) (i:=1) (by omega);have e2:A_ (l.take 1)=sz (Cc l 0):=by
   have:=M5 (l:=l) (i:=0) (by omega);have:=N6 l 1;simp only [List.take_zero,A_,Nat.zero_add] at *;omega
  exact (hp.trans hq).weak (by simp only [Bp];omega);split at h;rename_i hk;have h2:=Zq hk;obtain ⟨s1,h1,h⟩:=Cv h;have kl:=IB (l:=l) (i:=l.length - 1) (by omega);have hp:=hN _ (λx hx=>List.mem_of_mem_drop (List.mem_of_mem_take hx)) _ _ _ h1;have hq:=(Aac (.inr rfl) (λs s' h=>JB (hw _ kl.2) h) h).1;have e1:=M5 (l:=l) (i:=l.length - 1) (by omega);have e2:A_ ((l.drop 1).take (l.length - 2))+A_ (l.take 1)<=A_ (l.take (l.length - 1)):=by
   have:=N6 (l.take (l.length - 1)) 1;rw [List.drop_take,List.take_take,Nat.min_eq_left (by omega),show l.length - 1 - 1=l.length - 2 by omega] at this;omega
  have e3:=Fu (l.take 1);exact (hp.trans hq).weak (by omega);split at h;rename_i hk;obtain ⟨m,rfl,hm⟩:=Zr hk;obtain ⟨_,_,h⟩:=Cv h;obtain ⟨_,_,h⟩:=Cv h;obtain ⟨s1,h1,h⟩:=Cv h;simp only [Int.toNat_natCast] at h1 h;have kl:=IB (l:=l) (i:=l.length - 1) (by omega);have hp:=hN _ (λx hx=>List.mem_of_mem_drop (List.mem_of_mem_take hx)) _ _ _ h1;have hq:=(Aac (.inr rfl) (λs s' h=>JB (hw _ kl.2) h) h).1;have e1:=M5 (l:=l) (i:=l.length - 1) (by omega);have e2:A_ ((l.drop m).take (l.length - 1 - m))+A_ (l.take m)<=A_ (l.take (l.length - 1)):=by
   have:=N6 (l.take (l.length - 1)) m;rw [List.drop_take,List.take_take,Nat.min_eq_left (by omega)] at this;omega
  have e3:=Fu (l.take m);exact (hp.trans hq).weak (by omega);split at h;split at h;cases h;cases h;exact (Post.refl _).weak (by omega);exact (A5c (λs s' h=>hN l (λ_ h=>h) _ _ _ h) h).weak (by omega)
structure BdC (s:Bo) (ab:List Ah) (n:Nat):Prop where
 pot:pot s+4 * n<=400000
 ab:ab.length<=400000
 lp0:0<=s.lp
 lp:s.lp+n<=400000
theorem BdC.weak {s:Bo} {ab:List Ah} {n m:Nat} (h:BdC s ab n) (hm:m<=n):BdC s ab m:=⟨by have:=h.pot;omega,h.ab,h.lp0,by have:=h.lp;omega⟩
theorem BdC.step {s s':Bo} {ab:List Ah} {n m:Nat} (h:BdC s ab (n+m)) (hp:Post s s' (4 * n)):BdC s' ab m:=⟨by have:=h.pot;have:=hp.pot;omega,h.ab,by rw [hp.lp];exact h.lp0,by rw [hp.lp];have:=h.lp;omega⟩
section
variable {α β γ δ ε:Type}
theorem bindM {x:PR α ε} {g:α->β} {F:β->Option (PR γ ε)} {f:α->PR δ ε} {h:δ->γ} (H:∀ a,x=.ok a->F (g a)=some (PR.mp h (f a))):PR.bind (some (PR.mp g x)) F=some (PR.mp h (x.th f)):=by
 cases x with
 | ok a=>exact H a rfl
 | bad e=>rfl
theorem H7 {x:PR α ε} {F:α->Option (PR γ ε)} {f:α->PR δ ε} {h:δ->γ} (H:∀ a,x=.ok a->F a=some (PR.mp h (f a))):PR.bind (some x) F=some (PR.mp h (x.th f)):=by
 cases x with
 | ok a=>exact H a rfl
 | bad e=>rfl
end
theorem eqC {a b:Int} (h:a=b):(a == b)=true:=beq_iff_eq.2 h
theorem Cg {a b:Int} (h:a≠b):(a == b)=false:=beq_eq_false_iff_ne.2 h
theorem Jn {α:Type} {l:List α} {lo hi:Int} (a b:Nat) (ha:lo=a) (hb:hi=b) (h1:a<=b) (h2:b<=l.length):Fl l lo hi=some ((l.drop a).take (b - a)):=by
 subst ha hb;unfold Fl;rw [decide_eq_true (by omega)];rfl
theorem Avi {α:Type} {l m:List α} (h:m <+: l):Fl l (0:Int) ((m.length:Nat):Int)=some (l.take m.length):=by
 rw [Jn 0 m.length (by omega) (by omega) (Nat.zero_le _) (Asl h)];rfl
theorem KP {l:List Tree} {i:Int} (m:Nat) (h:i=m) (hm:m < l.length):B5 l i=some (Cc l m):=by
 rw [h,Wj hm,(IB hm).1]
theorem Vq {a b:Ah} (h:a.size+b.size<=9223372036854775807):O1 a b=some (a++b):=by
 unfold O1;rw [decide_eq_true h];rfl
def RcN (R:CK) (d:Nat):Prop:=∀ (nm:Ah) (at_ pc:Int) (ab:List Ah) (s:Bo) (t:Tree) (tg:Bool),sz t<=d->gw t->BdC s ab (sz t) ->
 R.Dq s.fs s.gl nm at_ pc s.sl s.cs s.lo s.lp ab t.kind t.text t.n t.at_ t.kids tg=some (PR.mp Bo.Iz (Bq d ab s t tg))
abbrev nsC (d:Nat) (ab:List Ah) (s:Bo) (l:List Tree):PC Bo:=CZ (λs x=>Bq d ab s x false) s l
def RcL (R:CK) (d:Nat):Prop:=∀ (nm:Ah) (at_ pc:Int) (ab:List Ah) (s:Bo) (l:List Tree),(∀ x ∈ l,sz x<=d/\gw x)->BdC s ab (A_ l) ->
 R.Ei s.fs s.gl nm at_ pc s.sl s.cs s.lo s.lp ab l=some (PR.mp Bo.Iz (nsC d ab s l))
def RcX (R:CK) (d:Nat):Prop:=∀ (nm:Ah) (at_ pc:Int) (ab:List Ah) (s:Bo) (k:Int) (t:Ah) (n a:Int) (l:List Tree) (tg:Bool),(∀ x ∈ l,sz x<=d/\gw x)->(k=7->l.length=2)->BdC s ab (A_ l+1) ->
 R.HJ s.fs s.gl nm at_ pc s.sl s.cs s.lo s.lp ab k t n a l tg=some (PR.mp Bo.Iz (NR (λs l=>nsC d ab s l) ab s k t n a l tg))
def RcP (R:CK) (d:Nat):Prop:=∀ (nm:Ah) (at_ pc:Int) (ab:Av) (s:Bo) (k:Int) (t:Ah) (n a:Int) (l names:List Tree) (b:Tree) (more:Nat),more=0\/more=3->sz b<=d->gw b->BdC s ab (sz b+names.length+1) ->
 R.FV s.fs s.gl nm at_ pc s.sl s.cs s.lo s.lp ab k t n a l names b.kind b.text b.n b.at_ b.kids (more:Int)=some (PR.mp Bo.Iz (Gu (λs x=>Bq d ab s x false) a s names b more))
def RcF (R:CK) (d:Nat):Prop:=∀ (nm:Ah) (at_ pc:Int) (ab:List Ah) (s:Bo) (t:Ah) (m:Nat) (a:Int) (l:List Tree),(∀ x ∈ l,sz x<=d/\gw x)->l.length=m+1->BdC s ab (A_ l+1) ->
 R.HU s.fs s.gl nm at_ pc s.sl s.cs s.lo s.lp ab 31 t (m:Int) a l=some (PR.mp Bo.Iz (Bq (d+1) ab s (.mk 31 t (m:Int) a l) false))
theorem Aqw {R:CK} {d:Nat} (hR:RcN R d) (nm:Ah) (at_ pc:Int) (ab:Av):∀ (t pre:List Tree) (s:Bo) (m:Nat),pre.length+t.length<=400000->t.length+1<=m->(∀ x ∈ t,sz x<=d/\gw x)->BdC s ab (A_ t) ->
  Ei.l0 m R nm at_ pc ab (pre++t) (pre.length:Int) s.fs s.gl s.sl s.cs s.lo s.lp=some (PR.mp Bo.Iz (nsC d ab s t))
 | [],pre,s,m,hl,hm,hw,hb=>by
  obtain ⟨m,rfl⟩:∃ m',m=m'+1:=⟨m - 1,by omega⟩;simp only [Ei.l0];rw [ltF (by simp)];rfl
 | x :: t,pre,s,m,hl,hm,hw,hb=>by
  obtain ⟨m,rfl⟩:∃ m',m=m'+1:=⟨m - 1,by omega⟩;simp only [AX] at hl hm;simp only [A_] at hb;simp only [Ei.l0];rw [Gv (by simp;omega),Ih];simp only [cond_true,Aq];have hx:=hw x (DT ..);rw [hR nm at_ pc ab s x false hx.1 hx.2 (hb.weak (by omega))];unfold nsC CZ;refine bindM λs' hs'=>?_;have ih:=Aqw hR nm at_ pc ab t (pre++[x]) s' m (by simp;omega) (by omega) (λy hy=>hw y (EM _ hy)) (hb.step (JB hx.2 hs'));rw [wiC _ (by omega) (by omega)];rw [C8,BT] at ih;exact ih
theorem Agc {R:CK} {d:Nat} (hR:RcN R d) (nm:Ah) (at_ pc:Int) (ab:Av) (n:Int):∀ (t pre:List Tree) (s:Bo) (m:Nat),pre.length+t.length<=400000->t.length+1<=m->(∀ x ∈ t,sz x<=d/\gw x)->BdC s ab (A_ t) ->
  Dq.l0 m R nm at_ pc ab n (pre++t) (pre.length:Int) s.fs s.gl s.sl s.cs s.lo s.lp=some (PR.mp Bo.Iz (KF (λs x b=>Bq d ab s x b) n pre.length s t))
 | [],pre,s,m,hl,hm,hw,hb=>by
  obtain ⟨m,rfl⟩:∃ m',m=m'+1:=⟨m - 1,by omega⟩;simp only [Dq.l0];rw [ltF (by simp)];rfl
 | x :: t,pre,s,m,hl,hm,hw,hb=>by
  obtain ⟨m,rfl⟩:∃ m',m=m'+1:=⟨m - 1,by omega⟩;simp only [AX] at hl hm;simp only [A_] at hb;simp only [Dq.l0];rw [Gv (by simp;omega),Ih];simp only [cond_true,Aq];have hx:=hw x (DT ..);rw [hR nm at_ pc ab s x _ hx.1 hx.2 (hb.weak (by omega))];unfold KF;refine bindM λs' hs'=>?_;have ih:=Agc hR nm at_ pc ab n t (pre++[x]) s' m (by simp;omega) (by omega) (λy hy=>hw y (EM _ hy)) (hb.step (JB hx.2 hs'));rw [wiC _ (by omega) (by omega)];rw [C8,BT] at ih;exact ih
theorem Aqx {k d:Nat} (hk:500000<=k) (hR:RcN (CK.at k) d):RcL (CK.at (k+1)) d:=λnm at_ pc ab s l hw hb=>by
 have:=Fu l;have:=hb.pot;exact Aqw hR nm at_ pc ab l [] s k (by simp only [Bp];omega) (by omega) hw hb
theorem A5a {k d:Nat} (hk:500000<=k) (hR:RcL (CK.at k) d):RcX (CK.at (k+1)) d:=λnm at_ pc ab s k0 t n a l tg hw h7 hb=>by
 have hp:=hb.pot;have hlen:=Fu l;have hL:∀ s',BdC s' ab (A_ l)->PR.bind ((CK.at k).Ei s'.fs s'.gl nm at_ pc s'.sl s'.cs s'.lo s'.lp ab l) (λr13=>some (PR.ok (r13.1,r13.2.1,r13.2.2.1,r13.2.2.2.1,r13.2.2.2.2.1,r13.2.2.2.2.2)))=some (PR.mp Bo.Iz (nsC d ab s' l)):=λs' hb=>by
  rw [hR nm at_ pc ab s' l hw hb];cases nsC d ab s' l <;> rfl
 have hcs:∀ v cs,KI a s.cs v=.ok cs->BdC { s with cs:=cs } ab (A_ l):=λv cs h=>⟨by have:=XJ h;simp only [pot] at hp ⊢;omega,hb.ab,hb.lp0,by have:=hb.lp;show s.lp+_<=_;omega⟩;show HJ.g (CK.at k) k s.fs s.gl nm at_ pc s.sl s.cs s.lo s.lp ab k0 t n a l tg=_;unfold HJ.g NR AN;simp only [QN];have WC:s.gl.length<=400000/\s.lo.length<=400000/\s.cs.length<=400000:=by simp only [pot] at hp;omega
 by_cases h:k0=8;rw [eqC h,if_pos h,cond_true,wiC _ (by omega) (by omega)];exact H7 λ_ _=>hL s (hb.weak (by omega));rw [Cg h,if_neg h,cond_false];by_cases h:k0=30;rw [eqC h,if_pos h,cond_true];exact H7 λ_ _=>hL s (hb.weak (by omega));rw [Cg h,if_neg h,cond_false];by_cases h:k0=12;rw [eqC h,if_pos h,cond_true];exact H7 λ_ _=>hL s (hb.weak (by omega));rw [Cg h,if_neg h,cond_false];by_cases h:k0=4;rw [eqC h,if_pos h,cond_true,const_eq _ _ _ _ _ _ _ _ WC.2.2 hk];exact H7 λcs hcs'=>hL { s with cs:=cs } (hcs _ _ hcs');rw [Cg h,if_neg h,cond_false];by_cases h:k0=5;rw [eqC h,if_pos h,cond_true,const_eq _ _ _ _ _ _ _ _ WC.2.2 hk];exact H7 λcs hcs'=>hL { s with cs:=cs } (hcs _ _ hcs');rw [Cg h,if_neg h,cond_false];by_cases h:k0=6;rw [eqC h,if_pos h,cond_true,Bk7 _ _ _ _ _ WC.1 WC.2.1 hb.ab hk];exact H7 λgl hgl=>hL { s with gl:=gl } ⟨by have:=Aqc hgl;simp only [pot] at hp ⊢;omega,hb.ab,hb.lp0,by have:=hb.lp;show s.lp+_<=_;omega⟩;rw [Cg h,if_neg h,cond_false];by_cases h:k0=7;rw [eqC h,cond_true];have h2:=h7 h;rw [KP 0 (by omega) (by omega)];simp only [Aq];by_cases h6:(Cc l 0).kind=6;rw [eqC h6,cond_true,VW];simp only [Aq];cases hq:Ej (Cc l 0).text with
 | false =>
  rw [cond_false,if_neg (λe=>by cases e.2.2)];exact hL s (hb.weak (by omega))
 | true =>
  rw [cond_true,if_pos ⟨h,h6,rfl⟩,KP 1 (by omega) (by omega)];simp only [Aq];unfold Vk;cases tg with
  | true=>rfl
  | false =>
   simp only [cond_false,Bool.false_or];by_cases h5:(Cc l 1).kind=5;have e5:((Cc l 1).kind != 5)=false:=by simp [h5]
   have w0:=(hw _ (IB (l:=l) (i:=0) (by omega)).2).2;have w1:=(hw _ (IB (l:=l) (i:=1) (by omega)).2).2;have z0:(Cc l 0).text.size<=30000:=by
    cases hx:Cc l 0 with
    | mk k1 t1 n1 a1 l1=>rw [hx] at w0;exact w0.1.1
   have z1:(Cc l 1).text.size<=30000:=by
    cases hx:Cc l 1 with
    | mk k1 t1 n1 a1 l1=>rw [hx] at w1;exact w1.1.1
   have zd:(⟨#[46]⟩:Ah).size=1:=rfl;rw [e5,Vq (by omega)];simp only [cond_false,Bool.false_or,Aq];rw [Vq (by rw [ByteArray.size_append];omega)];simp only [Aq];rw [Bky k (by omega)];simp only [Aq];cases JA (((Cc l 0).text++Agi++(Cc l 1).text).toList) == 0 <;> rfl;have e5:((Cc l 1).kind != 5)=true:=by simp [h5]
   rw [e5];rfl
 rw [Cg h6,if_neg (λe=>h6 e.2.1)];exact hL s (hb.weak (by omega));rw [Cg h,if_neg (λe=>h e.1),cond_false];exact hL s (hb.weak (by omega))
theorem Bk3 {k d:Nat} (hk:500000<=k) (hR:RcN (CK.at k) d):RcP (CK.at (k+1)) d:=λnm at_ pc ab s k0 t n a l names b more hm hd hw hb=>by
 have hp:=hb.pot;have hlp:=hb.lp;have B0t:=hb.lp0;show FV.g (CK.at k) k s.fs s.gl nm at_ pc s.sl s.cs s.lo s.lp ab k0 t n a l names b.kind b.text b.n b.at_ b.kids (more:Int)=_;unfold FV.g Gu AN X2;have hlo:s.lo.length+4<=400000:=by simp only [pot] at hp;omega
 rw [decide_eq_true (by rw [Int.toNat_natCast];omega)];simp only [cond_true,Aq,Int.toNat_natCast];have tail:∀ r:Int×List Ah,s.lo <+: r.2->r.2.length<=s.lo.length+names.length+3 ->
   PR.bind ((CK.at k).Dq s.fs s.gl nm at_ pc r.1 s.cs r.2 (Au (s.lp+1)) ab b.kind b.text b.n b.at_ b.kids false) (λCb=>(Fl Cb.2.2.2.2.1 (0:Int) ((s.lo.length:Nat):Int)).bind λFf=>some (PR.ok (Cb.1,Cb.2.1,Cb.2.2.1,Cb.2.2.2.1,Ff,Au (Cb.2.2.2.2.2 - 1))))
   =some (PR.mp Bo.Iz ((Bq d ab { s with sl:=r.1,lo:=r.2,lp:=s.lp+1 } b false).th λs'=>.ok { s' with lo:=s'.lo.take s.lo.length,lp:=s'.lp - 1 })):=λr h1 h2=>by
  rw [wiC _ (by omega) (by omega)];have hb':BdC { s with sl:=r.1,lo:=r.2,lp:=s.lp+1 } ab (sz b):=⟨by simp only [pot] at hp ⊢;omega,hb.ab,by show 0<=s.lp+1;omega,by show s.lp+1+_<=_;omega⟩;have:=hR nm at_ pc ab { s with sl:=r.1,lo:=r.2,lp:=s.lp+1 } b false hd hw hb';simp only at this;rw [this];refine bindM λs' hs'=>?_;have hq:=JB hw hs';have hl':s'.lp=s.lp+1:=hq.lp;show (Fl s'.lo (0:Int) ((s.lo.length:Nat):Int)).bind _=_;rw [Avi (h1.trans hq.pre),Aq,show s'.Iz.2.2.2.2.2=s'.lp from rfl,wiC _ (by omega) (by omega)];rfl
 rcases hm with rfl | rfl;simp only [List.replicate_zero,List.append_nil];rw [decide_eq_false (p:=((0:Nat):Int) > 0) (by omega),cond_false,if_neg (by omega)];have:=tail (s.sl,s.lo) (List.prefix_refl _) (by show s.lo.length<=_;omega);exact this;rw [decide_eq_true (p:=((3:Nat):Int) > 0) (by omega),cond_true];rw [XG _ _ _ _ _ _ (by omega) (by simp;omega) hk,if_pos (by omega)];refine H7 λr hr=>?_;have hr':=QI hr;refine tail r ?_ ?_;rw [hr'.1];exact ⟨_,by rw [C8]⟩;rw [hr'.1];simp;omega
theorem A6f {k d:Nat} (hk:500000<=k) (hR:RcN (CK.at k) d):RcF (CK.at (k+1)) d:=λnm at_ pc ab s t m a l hw hm hb=>by
 have hp:=hb.pot;have hlen:=Fu l;have Y0:=IB (l:=l) (i:=m) (by omega);have hks:=M5 (l:=l) (i:=m) (by omega);have hts:=Fu (l.take m);rw [List.length_take] at hts;have B0r:=QF s.gl t;have hpp:s.fs.length<=400000/\s.gl.length<=399999/\s.lo.length<=400000:=by simp only [pot] at hp;omega
 show HU.g (CK.at k) k s.fs s.gl nm at_ pc s.sl s.cs s.lo s.lp ab 31 t (m:Int) a l=_;unfold HU.g AN Bq;rw [if_neg (by decide),if_pos rfl,QN];refine H7 λ_ _=>?_;rw [VW];simp only [Aq];cases hq:Ej t with
 | true=>rfl
 | false =>
  simp only [cond_false,Bool.false_eq_true,if_false];rw [QN];refine H7 λ_ _=>?_;rw [Ajv t (by omega) hk,Aq,Jn 0 m (by omega) (by omega) (Nat.zero_le _) (by omega),Aq];simp only [List.drop_zero,Nat.sub_zero,Int.toNat_natCast];rw [XG _ _ _ _ _ _ (by rw [List.length_take];omega) (by simp) hk];refine H7 λr hr=>?_;have hr':=QI hr;have hrl:r.2.length<=m:=by rw [hr'.1];simp;omega
  rw [KP m (by omega) (by omega),Aq];have hw':=hw _ Y0.2;have hb':BdC ⟨s.fs,EY s.gl t,r.1,[],r.2,0⟩ s.lo (sz (Cc l m)):=⟨by simp only [pot,Bp] at hp ⊢;omega,hpp.2.2,Int.le_refl _,by show (0:Int)+_<=_;omega⟩;have:=hR t a m s.lo ⟨s.fs,EY s.gl t,r.1,[],r.2,0⟩ (Cc l m) false hw'.1 hw'.2 hb';simp only at this;rw [this];refine bindM λs' hs'=>?_;have hq':=(JB hw'.2 hs').pot;show (apd 64 s'.fs [(t,a,(m:Int),s'.sl,s'.cs)]).bind _=_;rw [Lu (by simp only [pot,Bp] at hp hq';simp;omega)];rfl
theorem Bl4 {k d:Nat} (hk:500000<=k) (hR:RcN (CK.at k) d) (hL:RcL (CK.at k) d) (hX:RcX (CK.at k) d) (hP:RcP (CK.at k) d) (hF:RcF (CK.at k) d):RcN (CK.at (k+1)) (d+1):=λnm at_ pc ab s x tg hd hw hb=>by
 cases x with
 | mk k0 t n a l =>
  obtain ⟨⟨hs1,hs7,Zp,Zq,VH,Zr,Zs⟩,hw⟩:=hw;rw [Ka] at hw;simp only [sz] at hd hb;have hlen:=Fu l;have hp:=hb.pot;have hwd:∀ x ∈ l,sz x<=d/\gw x:=λx hx=>⟨by have:=IS hx;omega,hw x hx⟩;have id':∀ (x:PC Bo) ,PR.bind (some (PR.mp Bo.Iz x)) (λr=>some (PR.ok (r.1,r.2.1,r.2.2.1,r.2.2.2.1,r.2.2.2.2.1,r.2.2.2.2.2)))=some (PR.mp Bo.Iz x):=λx=>by cases x <;> rfl
  have nP:∀ {m:List Tree},(∀ x ∈ m,x ∈ l)->∀ {s s'},nsC d ab s m=.ok s'->Post s s' (4 * A_ m):=λhm _ _ h=>Wo (λs x s' hx h=>JB (hw x (hm x hx)) h) h;show Dq.g (CK.at k) k s.fs s.gl nm at_ pc s.sl s.cs s.lo s.lp ab k0 t n a l tg=some (PR.mp Bo.Iz (Bq (d+1) ab s (.mk k0 t n a l) tg));unfold Dq.g;by_cases h31:k0=31;obtain ⟨m,rfl,hm⟩:=Zs h31;subst h31;rw [Cg (by decide),cond_false,eqC rfl,cond_true,hF nm at_ pc ab s t m a l hwd hm (hb.weak (by omega)),id'];rfl;unfold Bq;by_cases h:k0=20;rw [eqC h,if_pos h,cond_true,hL nm at_ pc ab s l hwd (hb.weak (by omega))];refine bindM λs' hs'=>?_;show (Fl s'.lo (0:Int) ((s.lo.length:Nat):Int)).bind _=_;rw [Avi (nP (λ_ h=>h) hs').pre];rfl;rw [Cg h,if_neg h,cond_false,Cg h31,if_neg h31,cond_false];simp only [QN];by_cases h:k0=21;obtain ⟨m,rfl,hm⟩:=VH (.inl h);rw [eqC h,if_pos h,cond_true,wiC _ (by omega) (by omega)];refine H7 λ_ _=>H7 λ_ _=>?_;have hsp:=N6 l m;have hlt:=Fu (l.take m);rw [Jn m l.length (by omega) (by omega) hm (Nat.le_refl _),Aq,List.take_of_length_le (by rw [BV];omega)];rw [hL nm at_ pc ab s _ (λx hx=>hwd x (List.mem_of_mem_drop hx)) (hb.weak (by omega))];simp only [Int.toNat_natCast];refine bindM λs' hs'=>?_;have hq:=(nP (λ_ h=>List.mem_of_mem_drop h) hs').pot;rw [Jn 0 m (by omega) (by omega) (Nat.zero_le _) hm,Aq];simp only [List.drop_zero,Nat.sub_zero,Bo.Iz];rw [XG _ _ _ _ _ _ (by rw [List.length_take];omega) (by simp only [pot] at hp hq;omega) hk];exact H7 λr hr=>rfl;rw [Cg h,if_neg h,cond_false];by_cases h:k0=22;obtain ⟨m,rfl,hm⟩:=VH (.inr h);rw [eqC h,if_pos h,cond_true,wiC _ (by omega) (by omega)];refine H7 λ_ _=>H7 λ_ _=>?_;exact Agc hR nm at_ pc ab _ l [] s k (by simp only [Bp];omega) (by omega) hwd (hb.weak (by omega));rw [Cg h,if_neg h,cond_false];by_cases h:k0=25;have h2:=Zp h;have k0:=IB (l:=l) (i:=0) (by omega);have k1:=IB (l:=l) (i:=1) (by omega);have e1:=M5 (l:=l) (i:=1) (by omega);have e2:A_ (l.take 1)=sz (Cc l 0):=by
   have:=M5 (l:=l) (i:=0) (by omega);have:=N6 l 1;simp only [List.take_zero,A_,Nat.zero_add] at *;omega
  rw [eqC h,if_pos h,cond_true,KP 0 (by omega) (by omega),Aq,hR nm at_ pc ab s (Cc l 0) false (hwd _ k0.2).1 (hwd _ k0.2).2 (hb.weak (by omega))];refine bindM λs' hs'=>?_;have hb':BdC s' ab (sz (Cc l 1)+0+1):=(hb.weak (m:=sz (Cc l 0)+(sz (Cc l 1)+0+1)) (by omega)).step (JB (hwd _ k0.2).2 hs');rw [KP 1 (by omega) (by omega),Aq];have:=hP nm at_ pc ab s' 25 t n a l [] (Cc l 1) 0 (.inl rfl) (hwd _ k1.2).1 (hwd _ k1.2).2 hb';simp only [Bo.Iz];rw [h];have this:=this;simp only [Int.ofNat_zero,Int.natCast_zero] at this;rw [this];exact id' _;rw [Cg h,if_neg h,cond_false];by_cases h:k0=26;have h2:=Zq h;have kl:=IB (l:=l) (i:=l.length - 1) (by omega);have e1:=M5 (l:=l) (i:=l.length - 1) (by omega);have e2:A_ ((l.drop 1).take (l.length - 2))+A_ (l.take 1)<=A_ (l.take (l.length - 1)):=by
   have:=N6 (l.take (l.length - 1)) 1;rw [List.drop_take,List.take_take,Nat.min_eq_left (by omega),show l.length - 1 - 1=l.length - 2 by omega] at this;omega
  have e3:=Fu (l.take 1);rw [eqC h,if_pos h,cond_true,wiC _ (by omega) (by omega),Jn 1 (l.length - 1) (by omega) (by omega) (by omega) (by omega),Aq,show l.length - 1 - 1=l.length - 2 by omega];rw [hL nm at_ pc ab s _ (λx hx=>hwd x (List.mem_of_mem_drop (List.mem_of_mem_take hx))) (hb.weak (by omega))];refine bindM λs' hs'=>?_;have hb':=(hb.weak (m:=A_ ((l.drop 1).take (l.length - 2))+(sz (Cc l (l.length - 1))+(l.take 1).length+1)) (by omega)).step (nP (λx hx=>List.mem_of_mem_drop (List.mem_of_mem_take hx)) hs');rw [Jn 0 1 (by omega) (by omega) (Nat.zero_le _) (by omega),Aq,KP (l.length - 1) (by omega) (by omega),Aq];simp only [List.drop_zero,Nat.sub_zero,Bo.Iz];have:=hP nm at_ pc ab s' k0 t n a l (l.take 1) (Cc l (l.length - 1)) 3 (.inr rfl) (hwd _ kl.2).1 (hwd _ kl.2).2 hb';have this:(CK.at k).FV s'.fs s'.gl nm at_ pc s'.sl s'.cs s'.lo s'.lp ab k0 t n a l (l.take 1) (Cc l (l.length - 1)).kind (Cc l (l.length - 1)).text (Cc l (l.length - 1)).n (Cc l (l.length - 1)).at_ (Cc l (l.length - 1)).kids (3:Int)=_:=this;rw [this];exact id' _;rw [Cg h,if_neg h,cond_false];by_cases h:k0=27;obtain ⟨m,rfl,hm⟩:=Zr h;have kl:=IB (l:=l) (i:=l.length - 1) (by omega);have e1:=M5 (l:=l) (i:=l.length - 1) (by omega);have e2:A_ ((l.drop m).take (l.length - 1 - m))+A_ (l.take m)<=A_ (l.take (l.length - 1)):=by
   have:=N6 (l.take (l.length - 1)) m;rw [List.drop_take,List.take_take,Nat.min_eq_left (by omega)] at this;omega
  have e3:=Fu (l.take m);rw [eqC h,if_pos h,cond_true,wiC ((l.length:Int) - 1) (by omega) (by omega),wiC _ (by omega) (by omega)];refine H7 λ_ _=>H7 λ_ _=>?_;rw [Jn m (l.length - 1) (by omega) (by omega) (by omega) (by omega),Aq];rw [hL nm at_ pc ab s _ (λx hx=>hwd x (List.mem_of_mem_drop (List.mem_of_mem_take hx))) (hb.weak (by omega))];simp only [Int.toNat_natCast];refine bindM λs' hs'=>?_;have hb':=(hb.weak (m:=A_ ((l.drop m).take (l.length - 1 - m))+(sz (Cc l (l.length - 1))+(l.take m).length+1)) (by omega)).step (nP (λx hx=>List.mem_of_mem_drop (List.mem_of_mem_take hx)) hs');rw [Jn 0 m (by omega) (by omega) (Nat.zero_le _) (by omega),Aq,KP (l.length - 1) (by omega) (by omega),Aq];simp only [List.drop_zero,Nat.sub_zero,Bo.Iz];have:=hP nm at_ pc ab s' k0 t m a l (l.take m) (Cc l (l.length - 1)) 3 (.inr rfl) (hwd _ kl.2).1 (hwd _ kl.2).2 hb';have this:(CK.at k).FV s'.fs s'.gl nm at_ pc s'.sl s'.cs s'.lo s'.lp ab k0 t m a l (l.take m) (Cc l (l.length - 1)).kind (Cc l (l.length - 1)).text (Cc l (l.length - 1)).n (Cc l (l.length - 1)).at_ (Cc l (l.length - 1)).kids (3:Int)=_:=this;rw [this];exact id' _;rw [Cg h,if_neg h,cond_false];by_cases h:k0=29;rw [eqC h,if_pos h,cond_true];by_cases h0:s.lp=0;rw [eqC h0,if_pos h0];rfl;rw [Cg h0,if_neg h0];rfl;rw [Cg h,if_neg h,cond_false,hX nm at_ pc ab s k0 t n a l tg hwd hs7 (hb.weak (by omega)),id']
theorem Wn:∀ (d k:Nat),500003+3 * d<=k->RcN (CK.at k) d
 | 0,k,_=>λnm at_ pc ab s t tg h=>by have:=M4 t;omega
 | d+1,k,hk=>by
  obtain ⟨k,rfl⟩:∃ m,k=m+3:=⟨k - 3,by omega⟩;have h0:=Wn d k (by omega);have h1:=Wn d (k+1) (by omega);have h2:=Wn d (k+2) (by omega);exact Bl4 (by omega) h2 (Aqx (by omega) h1) (A5a (by omega) (Aqx (by omega) h0)) (Bk3 (by omega) h1) (A6f (by omega) h1)
mutual
def htT:Tree->Nat
 | .mk _ _ _ _ l=>KO l+1
def KO:List Tree->Nat
 | []=>0
 | x :: l=>max (htT x) (KO l)
end
mutual
theorem Bf4:∀ t:Tree,htT t<=sz t
 | .mk _ _ _ _ l=>by simp only [htT,sz];have:=VI l;omega
theorem VI:∀ l:List Tree,KO l<=A_ l
 | []=>by simp [KO,A_]
 | x :: l=>by simp only [KO,A_];have:=Bf4 x;have:=VI l;omega
end
theorem Alz (J:Int->Option Int) (R:H1):∀ (t pre:List Tree) (m a:Nat),pre.length+t.length<=10000000->t.length+1<=m ->
  (∀ x ∈ t,R.DX x.kind x.text x.n x.at_ x.kids=some (htT x:Int))->DX.l0 m R (pre++t) J (a:Int) (pre.length:Int)=J ((max a (KO t):Nat):Int)
 | [],pre,m,a,hl,hm,_=>by
  obtain ⟨m,rfl⟩:∃ m',m=m'+1:=⟨m - 1,by omega⟩;simp only [DX.l0];rw [ltF (by simp)];simp [KO]
 | x :: t,pre,m,a,hl,hm,hR=>by
  obtain ⟨m,rfl⟩:∃ m',m=m'+1:=⟨m - 1,by omega⟩;simp only [AX] at hl hm;have ih:=Alz J R t (pre++[x]) m (max a (htT x)) (by simp;omega) (by omega) (λy hy=>hR y (EM _ hy));simp only [DX.l0];rw [Gv (by simp;omega),Ih];simp only [cond_true,Aq];rw [hR x (DT ..)];simp only [Aq];rw [wiC _ (by omega) (by omega)];rw [C8,BT] at ih;have e1:(if (htT x:Int) > (a:Int) then (htT x:Int) else (a:Int))=((max a (htT x):Nat):Int):=by split <;> omega
  rw [e1];refine ih.trans (congrArg J ?_);simp only [KO];omega
theorem Alv:∀ (k:Nat) (t:Tree),sz t<=k->sz t<=1000000->DX.g (H1.at k) k t.kind t.text t.n t.at_ t.kids=some (htT t:Int)
 | 0,t,h,_=>by have:=M4 t;omega
 | k+1,.mk kd tx n a l,h,h9=>by
  simp only [sz] at h h9;have hl:=Fu l;have hh:=VI l;unfold DX.g AN;have:=Alz (λx2=>some (Au (x2+(1:Int)))) (H1.at (k+1)) l [] (k+1) 0 (by simp only [Bp];omega) (by omega) λx hx=>by
   have:=IS hx;exact Alv k x (by omega) (by omega)
  refine this.trans ?_;rw [wiC _ (by omega) (by omega)];simp [htT]
def st0:Bo:=⟨[(⟨#[]⟩,0,0,0,[])],[],0,[],[],0⟩
def Xa (d:Nat) (n:Tree):PC Bo:=if htT n > 100 then .bad (6,n.at_) else Bq d [] st0 n false
abbrev Rep:=List DB×List Ah×Int×Int
def Ath (a:Int):PC Bo->Rep
 | .bad e=>([],[],e.1,e.2)
 | .ok s=>((⟨#[]⟩,a,0,s.sl,s.cs) :: s.fs.tail,s.gl,0,0)
theorem Bl2:∀ {d:Nat} {ab:List Ah} {s s':Bo} {t:Tree} {tg:Bool},Bq d ab s t tg=.ok s'->s.fs <+: s'.fs:=by
 intro d;induction d with
 | zero=>intro ab s s' t tg h;unfold Bq at h;cases h
 | succ d ih =>
  have hN:∀ {m:List Tree} {ab s s'},CZ (λs x=>Bq d ab s x false) s m=.ok s'->s.fs <+: s'.fs:=by
   intro m;induction m with
   | nil=>intro ab s s' h;cases h;exact List.prefix_refl _
   | cons x m ihm =>
    intro ab s s' h;unfold CZ at h;obtain ⟨s1,h1,h⟩:=Cv h;exact (ih h1).trans (ihm h)
  have hA:∀ {m:List Tree} {n i ab s s'},KF (λs x b=>Bq d ab s x b) n i s m=.ok s'->s.fs <+: s'.fs:=by
   intro m;induction m with
   | nil=>intro n i ab s s' h;cases h;exact List.prefix_refl _
   | cons x m ihm =>
    intro n i ab s s' h;unfold KF at h;obtain ⟨s1,h1,h⟩:=Cv h;exact (ih h1).trans (ihm h)
  have hP:∀ {a:Int} {names:List Tree} {b:Tree} {more:Nat} {ab s s'},Gu (λs x=>Bq d ab s x false) a s names b more=.ok s'->s.fs <+: s'.fs:=by
   intro a names b more ab s s' h;unfold Gu at h;obtain ⟨r,_,h⟩:=Cv h;obtain ⟨s1,h1,h⟩:=Cv h;cases h;have h2:=ih (show Bq d ab _ b false=_ from h1);exact h2
  intro ab s s' t tg h;cases t with
  | mk k t n a l =>
   unfold Bq at h;split at h
   ·obtain ⟨s1,h1,h⟩:=Cv h;cases h;have h2:=hN h1;exact h2
   split at h
   ·obtain ⟨_,_,h⟩:=Cv h
    split at h
    ·cases h
    obtain ⟨_,_,h⟩:=Cv h;obtain ⟨r,_,h⟩:=Cv h;obtain ⟨s1,h1,h⟩:=Cv h;cases h;exact (ih h1).trans (List.prefix_append _ _)
   split at h
   ·obtain ⟨_,_,h⟩:=Cv h
    obtain ⟨_,_,h⟩:=Cv h;obtain ⟨s1,h1,h⟩:=Cv h;obtain ⟨r,_,h⟩:=Cv h;cases h;have h2:=hN h1;exact h2
   split at h
   ·obtain ⟨_,_,h⟩:=Cv h
    obtain ⟨_,_,h⟩:=Cv h;exact hA h
   split at h
   ·obtain ⟨s1,h1,h⟩:=Cv h;exact (ih h1).trans (hP h)
   split at h
   ·obtain ⟨s1,h1,h⟩:=Cv h;exact (hN h1).trans (hP h)
   split at h
   ·obtain ⟨_,_,h⟩:=Cv h
    obtain ⟨_,_,h⟩:=Cv h;obtain ⟨s1,h1,h⟩:=Cv h;exact (hN h1).trans (hP h)
   split at h
   ·split at h
    ·cases h
    ·cases h;exact List.prefix_refl _
   ·unfold NR at h
    (repeat' split at h) <;> first
     | (cases h;done)
     | (cases h;exact List.prefix_refl _)
     | exact hN h
     | (obtain ⟨_,_,h⟩:=Cv h;have h2:=hN (show CZ (λs x=>Bq d ab s x false) _ l=_ from h);exact h2)
theorem Ad2 {n:Tree} (h:wfC n):gw n/\n.kind=20:=by
 cases n with
 | mk k t n a l =>
  obtain ⟨h1,h0,h2⟩:=h;subst h1;exact ⟨⟨⟨h0,nx rfl,nx rfl,nx rfl,nx rfl,nx rfl,nx rfl⟩,Ka.2 λx hx=>(h2 x hx).elim Axj A6e⟩,rfl⟩
theorem check_eq (k:Nat) (hk:900000<=k) (s:Ah):HI.f k s=some (match JD s with | (kd,tx,n,a,l,c,p)=>if c≠0 then ([],[],c,p) else Ath a (Xa 100000 (.mk kd tx n a l))):=by
 unfold HI.f;rw [Bsz k (by omega),Aq];rcases Bse s with ⟨c,p,hc,he⟩ | ⟨n,he,hw,hz⟩;rw [he];unfold Np;simp only;rw [show (c != 0)=true by rw [bne_iff_ne];exact hc,cond_true,if_pos hc];rw [he];unfold Qt;obtain ⟨hg,_⟩:=Ad2 hw;simp only [bne_self_eq_false,cond_false,AN,ne_eq,not_true_eq_false,if_false];have e:Tree.mk n.kind n.text n.n n.at_ n.kids=n:=by cases n;rfl
 rw [e,show DX.f k n.kind n.text n.n n.at_ n.kids=some (htT n:Int) from Alv k n (by omega) (by omega)];simp only [Aq];unfold Xa;by_cases hh:htT n > 100;rw [decide_eq_true (by omega),if_pos hh];rfl;rw [decide_eq_false (by omega),if_neg hh,cond_false];have hb:BdC st0 [] (sz n):=⟨by simp only [pot,st0,AX,Bp];omega,by simp,Int.le_refl _,by show (0:Int)+_<=_;omega⟩;have hk':=Wn 100000 (k+1) (by omega) ⟨#[]⟩ n.at_ 0 [] st0 n false (by omega) hg hb;have hk':Dq.f k [(⟨#[]⟩,0,0,0,[])] [] ⟨#[]⟩ n.at_ 0 0 [] [] 0 [] n.kind n.text n.n n.at_ n.kids false=_:=hk';rw [hk'];cases hn:Bq 100000 [] st0 n false with
 | bad e=>rfl
 | ok s' =>
  obtain ⟨t,ht⟩:=Bl2 hn;cases s' with
  | mk fs gl sl cs lo lp =>
   have ht:(⟨#[]⟩,0,0,0,[]) :: t=fs:=ht;subst ht;rfl
mutual
inductive IsE:Tree->Prop
 | atom {k n a:Int} {t:Ah}:1<=k->k<=6->IsE (.mk k t n a [])
 | index {n a:Int} {t:Ah} {x y:Tree}:IsE x->IsE y->IsE (.mk 7 t n a [x,y])
 | call {n a:Int} {t:Ah} {x:Tree} {l:List Tree}:IsE x->(∀ y ∈ l,IsE y)->IsE (.mk 8 t n a (x :: l))
 | paren {n a:Int} {t:Ah} {x:Tree}:IsE x->IsE (.mk 9 t n a [x])
 | unary {n a:Int} {t:Ah} {x:Tree}:IsE x->IsE (.mk 10 t n a [x])
 | binary {n a:Int} {t:Ah} {x y:Tree}:IsE x->IsE y->IsE (.mk 11 t n a [x,y])
 | table {n a:Int} {t:Ah} {l:List Tree}:(∀ y ∈ l,NI y)->IsE (.mk 12 t n a l)
inductive NI:Tree->Prop
 | item {n a:Int} {t:Ah} {x:Tree}:IsE x->NI (.mk 13 t n a [x])
 | field {n a:Int} {t:Ah} {x y:Tree}:IsE x->IsE y->NI (.mk 14 t n a [x,y])
end
mutual
inductive FH:Tree->Prop
 | block {n a:Int} {t:Ah} {l:List Tree}:(∀ x ∈ l,IsS x)->FH (.mk 20 t n a l)
inductive IsS:Tree->Prop
 | loc {a:Int} {t:Ah} {l m:List Tree}:l≠[]->(∀ x ∈ m,IsE x)->IsS (.mk 21 t (l.length:Nat) a (l++m))
 | asg {a:Int} {t:Ah} {l m:List Tree}:l≠[]->(∀ x ∈ l,IsE x/\(x.kind=6\/x.kind=7))->m≠[]->(∀ x ∈ m,IsE x)->IsS (.mk 22 t (l.length:Nat) a (l++m))
 | run {n a:Int} {t:Ah} {x:Tree}:IsE x->x.kind=8->IsS (.mk 23 t n a [x])
 | if_ {n a:Int} {t:Ah} {l:List Tree}:IsR l->IsS (.mk 24 t n a l)
 | while_ {n a:Int} {t:Ah} {x b:Tree}:IsE x->FH b->IsS (.mk 25 t n a [x,b])
 | for_ {n a:Int} {t:Ah} {x b:Tree} {l:List Tree}:l.length=2\/l.length=3->(∀ y ∈ l,IsE y)->FH b->IsS (.mk 26 t n a (x :: l++[b]))
 | forIn {a:Int} {t:Ah} {b:Tree} {l m:List Tree}:l≠[]->m≠[]->(∀ y ∈ m,IsE y)->FH b->IsS (.mk 27 t (l.length:Nat) a (l++m++[b]))
 | do_ {n a:Int} {t:Ah} {b:Tree}:FH b->IsS (.mk 28 t n a [b])
 | break_ {n a:Int} {t:Ah}:IsS (.mk 29 t n a [])
 | ret {n a:Int} {t:Ah} {l:List Tree}:(∀ y ∈ l,IsE y)->IsS (.mk 30 t n a l)
/-- The branches of an if. -/
inductive IsR:List Tree->Prop
 | nil:IsR []
 | last {b:Tree}:FH b->IsR [b]
 | more {e b:Tree} {l:List Tree}:IsE e->FH b->IsR l->IsR (e :: b :: l)
end
inductive OJ:Tree->Prop
 | fn {a:Int} {t:Ah} {l:List Tree} {b:Tree}:FH b->OJ (.mk 31 t (l.length:Nat) a (l++[b]))
inductive IsC:Tree->Prop
 | chunk {n a:Int} {t:Ah} {l:List Tree}:(∀ x ∈ l,IsS x\/OJ x)->IsC (.mk 20 t n a l)
abbrev KE (l:List Tree):Prop:=∀ x ∈ l,IsE x
theorem ZY {l:List Tree} {x:Tree} (h:KE l) (hx:IsE x):KE (l++[x]):=λy hy=>by
 rcases EL.1 hy with hy | hy;exact h y hy;obtain rfl:=Fc.1 hy;exact hx
theorem le_nil:KE []:=λ_ h=>nomatch h
structure XE (f:Nat):Prop where
 exp:∀ least ts,R (D0 f least ts) λn _=>IsE n
 loop:∀ least n ts,IsE n->R (Fp f least n ts) λn _=>IsE n
 operand:∀ ts,R (Fh f ts) λn _=>IsE n
 fields:∀ acc ts,(∀ x ∈ acc,NI x)->R (Fg f acc ts) λl _=>∀ x ∈ l,NI x
 field:∀ ts,R (F4 f ts) λn _=>NI n
 Eg:∀ ts,R (ES f ts) λn _=>IsE n
 DG:∀ at_ n ts,IsE n->R (ER f at_ n ts) λn _=>IsE n
 CY:∀ ts,R (EQ f ts) λl _=>KE l/\l≠[]
 Gq:∀ acc ts,KE acc->acc≠[]->R (Fo f acc ts) λl _=>KE l/\l≠[]
theorem UI (ts:List Tk):R (Jg 6 ts) λn _=>IsE n/\n.kind=6:=R.ite (λ_=>R.ok ⟨.atom (by decide) (by decide),rfl⟩) λ_=>R.bad
theorem Bw5 (ts:List Tk):R (Jg 5 ts) λn _=>IsE n:=R.ite (λ_=>R.ok (.atom (by decide) (by decide))) λ_=>R.bad
theorem I4 (w:Ah) (ts:List Tk):R (FL w ts) λ_ _=>True:=R.ite (λ_=>R.ok Aj) λ_=>R.bad
theorem Aek:∀ (f:Nat) (acc:List Tree) (ts:List Tk),acc≠[]->R (Gy f acc ts) λl _=>l≠[]
 | 0,_,_,_=>R.none
 | f+1,acc,ts,h=>by
  unfold Gy;exact R.ite (λ_=>R.bind (UI ts.tail) λn r _=>Aek f _ r (by simp)) λ_=>R.ok h
theorem Axt (f:Nat) (ts:List Tk):R (Nq f ts) λl _=>l≠[]:=R.bind (UI ts) λn r _=>Aek f _ r (by simp)
theorem xE:∀ f,XE f
 | 0=>by constructor <;> intros <;> (first | rw [D0] | rw [Fp] | rw [Fh] | rw [Fg] | rw [F4] | rw [ES] | rw [ER] | rw [EQ] | rw [Fo]) <;> exact R.none
 | f+1=>by
  have ih:=xE f;constructor;intro least ts;unfold D0;exact R.bind (ih.operand ts) λn r hn=>ih.loop _ _ _ hn;intro least n ts hw;unfold Fp;refine R.ite (λ_=>R.ok hw) λ_=>R.bind (ih.exp _ _) λm r hm=>ih.loop _ _ _ (.binary hw hm);intro ts;unfold Fh;refine R.ite (λ_=>R.ok (.atom (by decide) (by decide))) λ_=>?_;refine R.ite (λ_=>R.ok (.atom (by decide) (by decide))) λ_=>?_;refine R.ite (λ_=>R.ok (.atom (by decide) (by decide))) λ_=>?_;refine R.ite (λ_=>R.ok (.atom (by decide) (by decide))) λ_=>?_;refine R.ite (λ_=>R.ok (.atom (by decide) (by decide))) λ_=>?_;refine R.ite (λ_=>R.bind (ih.exp _ _) λm r hm=>R.ok (.unary hm)) λ_=>?_;refine R.ite (λ_=>R.bind (ih.fields _ _ (λ_ h=>nomatch h)) λl r hl=>R.ok (.table hl)) λ_=>?_
  exact ih.Eg _;intro acc ts ha;unfold Fg;refine R.ite (λ_=>R.ok ha) λ_=>R.bind (ih.field ts) λx r hx=>?_;have hs:∀ y ∈ acc++[x],NI y:=λy hy=>by
   rcases EL.1 hy with hy | hy;exact ha y hy;obtain rfl:=Fc.1 hy;exact hx
  refine R.ite (λ_=>ih.fields _ _ hs) λ_=>R.ite (λ_=>ih.fields _ _ hs) λ_=>?_;exact R.bind (I4 _ _) λ_ s hr=>R.ok hs;intro ts;unfold F4;refine R.ite (λ_=>?_) λ_=>R.ite (λ_=>?_) λ_=>?_;exact R.bind (ih.exp _ _) λk r hk=>R.bind (I4 _ _) λ_ r hr=>R.bind (I4 _ _) λ_ r hr=>R.bind (ih.exp _ _) λv r hv=>R.ok (.field hk hv);exact R.bind (ih.exp _ _) λv r hv=>R.ok (.field (.atom (by decide) (by decide)) hv);exact R.bind (ih.exp _ _) λv r hv=>R.ok (.item hv);intro ts;unfold ES;refine R.ite (λ_=>?_) λ_=>?_;exact R.bind (ih.exp _ _) λe r he=>R.bind (I4 _ _) λ_ r hr=>ih.DG _ _ _ (.paren he);exact R.bind (UI _) λn r hn=>ih.DG _ _ _ hn.1;intro at_ n ts hw;unfold ER;refine R.ite (λ_=>?_) λ_=>R.ite (λ_=>?_) λ_=>R.ite (λ_=>?_) λ_=>R.ok hw;exact R.bind (ih.exp _ _) λe r he=>R.bind (I4 _ _) λ_ r hr=>ih.DG _ _ _ (.index hw he);exact R.bind (Bw5 _) λe r he=>ih.DG _ _ _ (.index hw he);exact R.bind (Q1:=λl _=>KE l) (R.ite (λ_=>R.ok le_nil) λ_=>R.weak (ih.CY _) λl _ h=>h.1) λl r hl=>R.bind (I4 _ _) λ_ r hr=>ih.DG _ _ _ (.call hw hl);intro ts;unfold EQ;exact R.bind (ih.exp _ _) λe r he=>ih.Gq _ _ (ZY le_nil he) (by simp);intro acc ts ha hn;unfold Fo;exact R.ite (λ_=>R.bind (ih.exp _ _) λe r he=>ih.Gq _ _ (ZY ha he) (by simp)) λ_=>R.ok ⟨ha,hn⟩
def Q_ (c:Bool) (x:Tree):Prop:=IsS x\/(c=true/\OJ x)
theorem Z0 {c:Bool} {acc:List Tree} {x:Tree} (h:∀ y ∈ acc,Q_ c y) (hx:Q_ c x):∀ y ∈ acc++[x],Q_ c y:=λy hy=>by
 rcases EL.1 hy with hy | hy;exact h y hy;obtain rfl:=Fc.1 hy;exact hx
theorem IsR.Agb:∀ {acc:List Tree} {e b:Tree},IsR acc->(∃ m,acc.length=2 * m)->IsE e->FH b->IsR (acc++[e]++[b])/\(∃ m,(acc++[e]++[b]).length=2 * m)
 | [],e,b,_,_,he,hb=>⟨.more he hb .nil,1,rfl⟩
 | [_],e,b,_,⟨m,hm⟩,_,_=>by simp at hm;omega
 | x :: y :: l,e,b,h,⟨m,hm⟩,he,hb=>by
  cases h with
  | more h1 h2 h3 =>
   obtain ⟨h4,m',h5⟩:=IsR.Agb h3 ⟨m - 1,by simp at hm;omega⟩ he hb;exact ⟨.more h1 h2 h4,m'+1,by simp at h5 ⊢;omega⟩
theorem IsR.app1:∀ {acc:List Tree} {b:Tree},IsR acc->(∃ m,acc.length=2 * m)->FH b->IsR (acc++[b])
 | [],b,_,_,hb=>.last hb
 | [_],b,_,⟨m,hm⟩,_=>by simp at hm;omega
 | x :: y :: l,b,h,⟨m,hm⟩,hb=>by
  cases h with
  | more h1 h2 h3=>exact .more h1 h2 (IsR.app1 h3 ⟨m - 1,by simp at hm;omega⟩ hb)
structure XS (f:Nat):Prop where
 block:∀ c ts,R (EF f c ts) λn _=>∃ a l,n=.mk 20 noB 0 a l/\∀ x ∈ l,Q_ c x
 Eo:∀ c at_ acc ts,(∀ x ∈ acc,Q_ c x)->R (EP f c at_ acc ts) λn _=>∃ a l,n=.mk 20 noB 0 a l/\∀ x ∈ l,Q_ c x
 function:∀ ts,R (F6 f ts) λn _=>OJ n
 body:∀ ts,R (Fa f ts) λn _=>FH n
 stat:∀ ts,R (F8 f ts) λn _=>IsS n
 branches:∀ acc ts,IsR acc->(∃ m,acc.length=2 * m)->R (Fm f acc ts) λl _=>IsR l
 for_:∀ at_ ts,R (F5 f at_ ts) λn _=>IsS n
 plain:∀ ts,R (F7 f ts) λn _=>IsS n
 targets:∀ acc e ts,(∀ x ∈ acc,IsE x/\(x.kind=6\/x.kind=7))->IsE e->R (Fq f acc e ts) λl _=>l≠[]/\∀ x ∈ l,IsE x/\(x.kind=6\/x.kind=7)
theorem xS:∀ f,XS f
 | 0=>by constructor <;> intros <;> (first | unfold EF | unfold EP | unfold F6 | unfold Fa | unfold F8 | unfold Fm | unfold F5 | unfold F7 | unfold Fq) <;> exact R.none
 | f+1=>by
  have ih:=xS f;have ie:=xE f;have blk:∀ ts,R (EF f false ts) λn _=>FH n:=λts=>R.weak (ih.block false ts) λn r ⟨a,l,e,hl⟩=>by
   rw [e];exact .block λx hx=>(hl x hx).elim id λh=>nomatch h.1
  constructor;intro c ts;unfold EF;exact ih.Eo _ _ _ _ (λ_ hx=>nomatch hx)
  intro c at_ acc ts ha;unfold EP;refine R.ite (λ_=>ih.Eo _ _ _ _ ha) λ_=>R.ite (λ_=>?_) λ_=>R.ite (λhc=>?_) λ_=>R.ite (λ_=>R.ok ⟨_,_,rfl,ha⟩) λ_=>?_;exact R.bind (Q1:=λl _=>KE l) (R.ite (λ_=>R.ok le_nil) λ_=>R.weak (ie.CY _) λl _ h=>h.1) λl r hl=>R.ok ⟨_,_,rfl,Z0 ha (.inl (.ret hl))⟩;have hc':c=true:=by simp only [Bool.and_eq_true] at hc;exact hc.1
  exact R.bind (ih.function ts) λx r hx=>ih.Eo _ _ _ _ (Z0 ha (.inr ⟨hc',hx⟩));exact R.bind (ih.stat ts) λx r hx=>ih.Eo _ _ _ _ (Z0 ha (.inl hx));intro ts;unfold F6;exact R.bind (UI _) λnm r hn=>R.bind (I4 _ _) λ_ r hr=>R.bind (Q1:=λ_ _=>True) (R.ite (λ_=>R.ok Aj) λ_=>R.weak (Axt f _) λ_ _ _=>Aj) λps r hp=>R.bind (I4 _ _) λ_ r hr=>R.bind (blk _) λb r hb=>R.bind (I4 _ _) λ_ r hr=>R.ok (.fn hb);intro ts;unfold Fa;exact R.bind (I4 _ _) λ_ r hr=>R.bind (blk _) λb r hb=>R.bind (I4 _ _) λ_ r hr=>R.ok hb;intro ts;unfold F8;refine R.ite (λ_=>?_) λ_=>R.ite (λ_=>?_) λ_=>R.ite (λ_=>?_) λ_=>R.ite (λ_=>ih.for_ _ _) λ_=>R.ite (λ_=>?_) λ_=>R.ite (λ_=>R.ok .break_) λ_=>ih.plain _;exact R.bind (ih.body ts) λb r hb=>R.ok (.do_ hb);exact R.bind (ie.exp _ _) λe r he=>R.bind (ih.body _) λb r hb=>R.ok (.while_ he hb);exact R.bind (ih.branches _ _ .nil ⟨0,rfl⟩) λl r hl=>R.ok (.if_ hl);exact R.bind (Axt f _) λl r hl=>R.bind (Q1:=λl _=>KE l) (R.ite (λ_=>R.weak (ie.CY _) λl _ h=>h.1) λ_=>R.ok le_nil) λes r he=>R.ok (.loc hl he);intro acc ts ha hm;unfold Fm;refine R.bind (ie.exp _ _) λe r he=>R.bind (I4 _ _) λ_ r hr=>R.bind (blk _) λb r hb=>?_;obtain ⟨h2,h3⟩:=IsR.Agb ha hm he hb;refine R.ite (λ_=>ih.branches _ _ h2 h3) λ_=>R.ite (λ_=>?_) λ_=>?_;exact R.bind (blk _) λc r hc=>R.bind (I4 _ _) λ_ r hr=>R.ok (IsR.app1 h2 h3 hc);exact R.bind (I4 _ _) λ_ r hr=>R.ok h2;intro at_ ts;unfold F5;refine R.bind (UI _) λn r hn=>R.ite (λ_=>?_) λ_=>?_;refine R.bind (ie.exp _ _) λa r ha=>R.bind (I4 _ _) λ_ r hr=>R.bind (ie.exp _ _) λb r hb=>R.bind (Q1:=λl _=>KE l/\l.length<=1) (R.ite (λ_=>R.bind (ie.exp _ _) λc r hc=>R.ok ⟨ZY le_nil hc,Nat.le_refl _⟩) λ_=>R.ok ⟨le_nil,Nat.zero_le _⟩) λcs r hcs=>R.bind (ih.body _) λbd r hbd=>R.ok ?_;have hl:KE ([a]++[b]++cs):=λy hy=>by
   simp only [EL,Fc] at hy;rcases hy with (rfl | rfl) | hy;exact ha;exact hb;exact hcs.1 y hy
  exact IsS.for_ (x:=n) (l:=[a]++[b]++cs) (by have:=hcs.2;simp only [BT,AX,Bp];omega) hl hbd;exact R.bind (Aek f _ _ (by simp)) λl r hl=>R.bind (I4 _ _) λ_ r hr=>R.bind (ie.CY _) λes r he=>R.bind (ih.body _) λbd r hbd=>R.ok (.forIn hl he.2 he.1 hbd);intro ts;unfold F7;refine R.bind (ie.Eg ts) λe r he=>R.ite (λ_=>?_) λ_=>R.ite (λhk=>R.ok (.run he hk)) λ_=>R.bad;exact R.bind (ih.targets _ _ _ (λ_ h=>nomatch h) he) λl r hl=>R.bind (I4 _ _) λ_ r hr=>R.bind (ie.CY _) λes r hes=>R.ok (.asg hl.1 hl.2 hes.2 hes.1)
  intro acc e ts ha hw;unfold Fq;refine R.ite (λhk=>?_) λ_=>R.bad;have h2:∀ x ∈ acc++[e],IsE x/\(x.kind=6\/x.kind=7):=λy hy=>by
   rcases EL.1 hy with hy | hy;exact ha y hy;obtain rfl:=Fc.1 hy;exact ⟨hw,hk⟩
  exact R.ite (λ_=>R.bind (ie.Eg _) λe' r he=>ih.targets _ _ _ h2 he) λ_=>R.ok ⟨by simp,h2⟩
theorem Bwr {ts:List Tk} {n:Tree} {r:List Tk} (h:FE true ts=.ok n r):IsC n:=by
 obtain ⟨a,l,rfl,hl⟩:=(xS (fu _)).block true ts n r (val_ok h);exact .chunk λx hx=>(hl x hx).elim .inl λh=>.inr h.2
structure RW where
 fs:List DB
 gl:List Ah
 F:Nat
 ab:List Ah
 er:Int×Int
def RW.bad (w:RW) (e a:Int):RW:=if w.er.1=0 then { w with er:=(e,a) } else w
def RW.few (w:RW) (a count most:Int):RW:=if count > most then w.bad 6 a else w
def RW.EZ (w:RW) (t:Ah):RW:={ w with gl:=EY w.gl t }
def RW.mod (w:RW) (f:Int×List V3->Int×List V3):RW:={ w with fs:=w.fs.modify w.F λr=>(r.1,r.2.1,r.2.2.1,f r.2.2.2) }
def RW.slots (p:Int×List V3) (n:Int):Int×List V3:=(if n > p.1 then n else p.1,p.2)
def RW.there (w:RW) (a n:Int):RW:=(w.few a n 60).mod λp=>RW.slots p n
def Gh:RW->List Tree->RW
 | w,[]=>w
 | w,x :: r=>Gh (if Ej x.text then w.bad 5 x.at_ else w) r
def RW.brings (w:RW) (a:Int) (lo:List Ah) (names:List Tree) (h:Nat):RW×List Ah :=
 let l:=lo++List.replicate h noB++names.map Tree.text
 ((Gh w names).there a (l.length:Nat),l)
def RW.cs (w:RW):List V3:=match w.fs[w.F]? with | some r=>r.2.2.2.2 | none=>[]
def RW.const (w:RW) (a:Int) (v:V3):RW:=if MP w.cs v then w else (w.mod λp=>(p.1,p.2++[v])).few a (w.cs.length+1:Nat) 250
def RW.name (w:RW) (a:Int) (t:Ah) (lo:List Ah):RW:=if Ej t || !G8 lo t && G8 w.ab t then w.bad 5 a else if !G8 lo t then w.EZ t else w
def Co:Nat->List Ah->RW->Tree->Bool->RW
 | 0,_,w,_,_=>w
 | d+1,lo,w,.mk k t n a l,tg =>
  let all:=λw:RW=>l.foldl (λw x=>Co d lo w x false) w
  if w.er.1≠0 then w
  else if k=8 then all (w.few a ((l.length:Nat) - 1:Int) 50)
  else if k=12 then all (w.few a (l.length:Nat) 200)
  else if k=4 then all (w.const a (2,n,noB))
  else if k=5 then all (w.const a (3,0,t))
  else if k=6 then all (w.name a t lo)
  else if k=7/\(Cc l 0).kind=6/\Ej (Cc l 0).text=true then if Vk tg (Cc l 0) (Cc l 1) then w.bad 5 a else w
  else all w
def IQ (f:RW->Tree->Bool->RW) (n:Int):Nat->RW->List Tree->RW
 | _,w,[]=>w
 | i,w,x :: l=>IQ f n (i+1) (f w x (decide ((i:Int) < n))) l
def Hz (f:RW->List Ah->Tree->RW×List Ah):RW->List Ah->List Tree->RW
 | w,_,[]=>w
 | w,lo,x :: l=>if w.er.1≠0 then w else Hz f (f w lo x).1 (f w lo x).2 l
mutual
def rB:Nat->RW->List Ah->Tree->Bool->RW
 | 0,w,_,_,_=>w
 | d+1,w,lo,b,lp=>Hz (λw lo x=>CA d w lo x lp) w lo b.kids
def CA:Nat->RW->List Ah->Tree->Bool->RW×List Ah
 | 0,w,lo,_,_=>(w,lo)
 | d+1,w,lo,.mk k t n a l,lp =>
  let CY:=λ(w:RW) (l:List Tree)=>l.foldl (λw x=>Co d lo w x false) w
  if k=31 then
   let w:=w.few a (w.fs.length:Nat) 100;let w:=if Ej t then w.bad 5 a else w
   let w:=(w.few a n 50).EZ t;let w:RW:={ w with ab:=lo,F:=w.fs.length,fs:=w.fs++[(t,a,n,0,[])] };let r:=w.brings a [] (l.take n.toNat) 0
   ({ rB d r.1 r.2 (Cc l n.toNat) false with F:=0,ab:=[] },lo)
  else if k=21 then (CY ((w.few a n 50).few a (l.length - n) 50) (l.drop n.toNat)).brings a lo (l.take n.toNat) 0
  else if k=22 then (IQ (λw x b=>Co d lo w x b) n 0 ((w.few a n 50).few a (l.length - n) 50) l,lo)
  else if k=23 then (CY w l,lo)
  else if k=24 then (l.foldl (λw x=>if x.kind=20 then rB d w lo x lp else Co d lo w x false) w,lo)
  else if k=25 then (rB d (Co d lo w (Cc l 0) false) lo (Cc l 1) true,lo)
  else if k=26 then
   let r:=(CY w ((l.drop 1).take (l.length - 2))).brings a lo (l.take 1) 3
   (rB d r.1 r.2 (Cc l (l.length - 1)) true,lo)
  else if k=27 then
   let r:=(CY ((w.few a n 50).few a (l.length - 1 - n) 50) ((l.drop n.toNat).take (l.length - 1 - n.toNat))).brings a lo (l.take n.toNat) 3
   (rB d r.1 r.2 (Cc l (l.length - 1)) true,lo)
  else if k=28 then (rB d w lo (Cc l 0) lp,lo)
  else if k=29 then (if lp then w else w.bad 5 a,lo)
  else if k=30 then (CY (w.few a (l.length:Nat) 50) l,lo)
  else (w,lo)
end
def Ur (d:Nat) (n:Tree):List DB×List Ah×Int×Int :=
 if htT n > 100 then ([],[],6,n.at_) else
  let w:=rB d ⟨[(noB,n.at_,0,0,[])],[],0,[],(0,0)⟩ [] n false
  if w.er.1≠0 then ([],[],w.er.1,w.er.2) else (w.fs,w.gl,0,0)
theorem RW.Vl {w:RW} {e a:Int} (h:w.er.1≠0):(w.bad e a).er=w.er:=by unfold RW.bad;rw [if_neg h]
theorem RW.SJ {w:RW} {a c m:Int} (h:w.er.1≠0):(w.few a c m).er=w.er:=by unfold RW.few;split;exact RW.Vl h;rfl
theorem RW.A5o {w:RW} {a c m:Int} (h:w.er.1≠0):(w.few a c m).er.1≠0:=by rw [RW.SJ h];exact h
theorem TG:∀ {l:List Tree} {w:RW},w.er.1≠0->(Gh w l).er=w.er
 | [],_,_=>rfl
 | x :: l,w,h=>by
  unfold Gh;split;rw [TG (by rw [RW.Vl h];exact h),RW.Vl h];exact TG h
theorem RW.OW {w:RW} {a:Int} {lo:List Ah} {l:List Tree} {n:Nat} (h:w.er.1≠0):(w.brings a lo l n).1.er=w.er:=by
 show ((Gh w l).few a _ 60).er=w.er;rw [RW.SJ (by rw [TG h];exact h),TG h]
theorem Acf {d:Nat} {lo:List Ah} {w:RW} {x:Tree} {tg:Bool} (h:w.er.1≠0):Co d lo w x tg=w:=by
 cases d with
 | zero=>rfl
 | succ d=>cases x;unfold Co;rw [if_pos h]
theorem Mn {d:Nat} {lo:List Ah}:∀ {l:List Tree} {w:RW},w.er.1≠0->l.foldl (λw x=>Co d lo w x false) w=w
 | [],_,_=>rfl
 | x :: l,w,h=>by rw [List.foldl_cons,Acf h];exact Mn h
theorem Ab5 {d:Nat} {lo:List Ah} {n:Int}:∀ {l:List Tree} {i:Nat} {w:RW},w.er.1≠0->IQ (λw x b=>Co d lo w x b) n i w l=w
 | [],_,_,_=>rfl
 | x :: l,i,w,h=>by unfold IQ;rw [Acf h];exact Ab5 h
theorem Ab6 {f:RW->List Ah->Tree->RW×List Ah} {l:List Tree} {lo:List Ah} {w:RW} (h:w.er.1≠0):Hz f w lo l=w:=by
 cases l with
 | nil=>rfl
 | cons x l=>unfold Hz;rw [if_pos h]
def RW.put (w:RW) (s:Bo):RW:={ w.mod (λ_=>(s.sl,s.cs)) with gl:=s.gl }
theorem RW.Btb {w:RW} {s:Bo}:(w.put s).er=w.er:=rfl
theorem RW.Bs9 {w:RW} {s:Bo}:(w.put s).ab=w.ab:=rfl
theorem RW.Asm {w:RW} {s:Bo} {f:Int×List V3->Int×List V3}:(w.put s).mod f=w.put { s with sl:=(f (s.sl,s.cs)).1,cs:=(f (s.sl,s.cs)).2 }:=by
 unfold RW.put RW.mod;simp only [List.modify_modify_eq];rfl
theorem RW.Bta {w:RW} {s:Bo} (h:w.F < w.fs.length):(w.put s).cs=s.cs:=by
 unfold RW.cs RW.put RW.mod;simp [h]
def Rs (w:RW) (x:PC Bo) (w':RW):Prop:=match x with | .ok s=>w'=w.put s | .bad e=>w'.er=e/\e.1≠0
theorem Rs.th {w w1 w2:RW} {x:PC Bo} {f:Bo->PC Bo} (h:Rs w x w1) (h1:∀ s,x=.ok s->w1=w.put s->Rs w (f s) w2) (h2:w1.er.1≠0->w2.er=w1.er):Rs w (x.th f) w2:=by
 cases x with
 | ok s=>exact h1 s rfl h
 | bad e =>
  obtain ⟨ha,hb⟩:=h;exact ⟨(h2 (by rw [ha];exact hb)).trans ha,hb⟩
theorem ne5:(5:Int)≠0:=by decide
theorem Nf:(6:Int)≠0:=by decide
theorem OV {w:RW} {s:Bo} {e a:Int} (h:w.er.1=0) (he:e≠0):((w.put s).bad e a).er=(e,a):=by
 unfold RW.bad;rw [if_pos (show (w.put s).er.1=0 from h)]
theorem Ai4 {w:RW} {s:Bo} {a c m:Int} (h:w.er.1=0):Rs w ((Dv a c m).th λ_=>.ok s) ((w.put s).few a c m):=by
 unfold Dv RW.few;split;exact ⟨OV h (by decide),Nf⟩;rfl
theorem Ai6 {w w2:RW} {s:Bo} {a c m:Int} {f:PC Bo} (h:w.er.1=0) (h1:(w.put s).few a c m=w.put s->Rs w f w2) (h2:((w.put s).few a c m).er.1≠0->w2.er=((w.put s).few a c m).er):Rs w ((Dv a c m).th λ_=>f) w2:=by
 have:=Ai4 (s:=s) (a:=a) (c:=c) (m:=m) h;unfold Dv at this ⊢;split;rename_i hc;rw [if_pos hc] at this;obtain ⟨ha,hb⟩:=this;exact ⟨(h2 (by rw [ha];exact hb)).trans ha,hb⟩;rename_i hc;exact h1 (by unfold RW.few;rw [if_neg hc])
theorem A2f {w:RW} {s:Bo} {a:Int} {v:V3} (h:w.er.1=0) (hF:w.F < w.fs.length):Rs w ((KI a s.cs v).th λcs=>.ok { s with cs:=cs }) ((w.put s).const a v):=by
 unfold KI RW.const;rw [RW.Bta hF];split;rfl;rw [RW.Asm];have:=Ai4 (s:={ s with cs:=s.cs++[v] }) (a:=a) (c:=(s.cs.length+1:Nat)) (m:=250) h;unfold Dv at this ⊢;split at this;rename_i hc;rw [if_pos hc];exact this;rename_i hc;rw [if_neg hc];exact this
theorem Bk8 {w:RW} {s:Bo} {a:Int} {t:Ah} (h:w.er.1=0):Rs w ((Ol a t s.gl s.lo w.ab).th λgl=>.ok { s with gl:=gl }) ((w.put s).name a t s.lo):=by
 unfold Ol RW.name;rw [RW.Bs9];cases Ej t with
 | true=>exact ⟨OV h (by decide),ne5⟩
 | false =>
  cases G8 s.lo t with
  | true=>rfl
  | false =>
   cases G8 w.ab t with
   | true=>exact ⟨OV h (by decide),ne5⟩
   | false=>rfl
theorem Aqs {w:RW} {s:Bo} (h:w.er.1=0):∀ {l:List Tree} {lo:List Ah},(∀ lo',KY lo l=.ok lo'->Gh (w.put s) l=w.put s)/\(∀ e,KY lo l=.bad e->(Gh (w.put s) l).er=e/\e.1≠0)
 | [],lo=>⟨λ_ _=>rfl,λe he=>(by cases he)⟩
 | x :: l,lo=>by
  unfold KY Gh;cases Ej x.text with
  | true =>
   refine ⟨λ_ he=>(by cases he),λe he=>?_⟩;cases he;have hb:((w.put s).bad 5 x.at_).er=(5,x.at_):=OV h (by decide);simp only [if_true];exact ⟨by rw [TG (by rw [hb];exact ne5),hb],ne5⟩
  | false=>simp only [Bool.false_eq_true,if_false];exact Aqs h
theorem Ai1 {a c m:Int}:(c > m->Dv a c m=.bad (6,a))/\(¬ c > m->Dv a c m=.ok ()):=by unfold Dv;exact ⟨λh=>if_pos h,λh=>if_neg h⟩
theorem A5r {w:RW} {a c m:Int} (h:¬ c > m):w.few a c m=w:=by unfold RW.few;rw [if_neg h]
theorem Ahc {w:RW} {s:Bo} {a:Int} {l:List Tree} {n:Nat} (h:w.er.1=0) :
  (∀ r,Fy a s.sl (s.lo++List.replicate n noB) l=.ok r->(w.put s).brings a s.lo l n=(w.put { s with sl:=r.1 },r.2)) /\
   (∀ e,Fy a s.sl (s.lo++List.replicate n noB) l=.bad e->((w.put s).brings a s.lo l n).1.er=e/\e.1≠0):=by
 have hn:=Aqs (s:=s) h (l:=l) (lo:=s.lo++List.replicate n noB);cases hq:KY (s.lo++List.replicate n noB) l with
 | bad e =>
  have eb:Fy a s.sl (s.lo++List.replicate n noB) l=.bad e:=by unfold Fy;rw [hq];rfl
  rw [eb];refine ⟨λ_ he=>(by cases he),λe' he=>?_⟩;cases he;obtain ⟨h1,h2⟩:=hn.2 _ hq;refine ⟨?_,h2⟩;show ((Gh (w.put s) l).few a _ 60).er=e;rw [RW.SJ (by rw [h1];exact h2),h1]
 | ok lo' =>
  have h1:=hn.1 _ hq;have h2:=Aag hq;have e1:(w.put s).brings a s.lo l n=((((w.put s)).few a (lo'.length:Nat) 60).mod λp=>RW.slots p (lo'.length:Nat),lo'):=by
   unfold RW.brings RW.there;simp only;rw [h1,<- h2]
  rw [e1];by_cases hc:((lo'.length:Nat):Int) > 60;have eb:Fy a s.sl (s.lo++List.replicate n noB) l=.bad (6,a):=by unfold Fy;rw [hq];show PR.th (Dv a (lo'.length:Nat) 60) _=_;rw [Ai1.1 hc];rfl
  rw [eb];refine ⟨λ_ he=>(by cases he),λe' he=>?_⟩;cases he;refine ⟨?_,Nf⟩;show ((w.put s).few a (lo'.length:Nat) 60).er=_;unfold RW.few;rw [if_pos hc];exact OV h Nf;have eb:Fy a s.sl (s.lo++List.replicate n noB) l=.ok (if ((lo'.length:Nat):Int) > s.sl then ((lo'.length:Nat):Int) else s.sl,lo'):=by unfold Fy;rw [hq];show PR.th (Dv a (lo'.length:Nat) 60) _=_;rw [Ai1.2 hc];rfl
  rw [eb];refine ⟨λr he=>?_,λe' he=>(by cases he)⟩;cases he;rw [A5r hc,RW.Asm];rfl
def IsX (x:Tree):Prop:=IsE x\/NI x
theorem IsX.kids {k n a:Int} {t:Ah} {l:List Tree} (h:IsX (.mk k t n a l)):1<=k/\k<=14/\∀ x ∈ l,IsX x:=by
 rcases h with h | h;cases h with
 | atom h1 h2=>exact ⟨h1,by omega,λ_ hx=>nomatch hx⟩
 | index h1 h2=>exact ⟨by decide,by decide,λx hx=>by simp only [List.mem_cons,List.not_mem_nil,or_false] at hx;rcases hx with rfl | rfl;exact .inl h1;exact .inl h2⟩
 | call h1 h2=>exact ⟨by decide,by decide,λx hx=>by rcases List.mem_cons.1 hx with rfl | hx;exact .inl h1;exact .inl (h2 x hx)⟩
 | paren h1=>exact ⟨by decide,by decide,λx hx=>by obtain rfl:=Fc.1 hx;exact .inl h1⟩
 | unary h1=>exact ⟨by decide,by decide,λx hx=>by obtain rfl:=Fc.1 hx;exact .inl h1⟩
 | binary h1 h2=>exact ⟨by decide,by decide,λx hx=>by simp only [List.mem_cons,List.not_mem_nil,or_false] at hx;rcases hx with rfl | rfl;exact .inl h1;exact .inl h2⟩
 | table h1=>exact ⟨by decide,by decide,λx hx=>.inr (h1 x hx)⟩
 cases h with
 | item h1=>exact ⟨by decide,by decide,λx hx=>by obtain rfl:=Fc.1 hx;exact .inl h1⟩
 | field h1 h2=>exact ⟨by decide,by decide,λx hx=>by simp only [List.mem_cons,List.not_mem_nil,or_false] at hx;rcases hx with rfl | rfl;exact .inl h1;exact .inl h2⟩
def Kp (s:Bo) (lo:List Ah) (s':Bo):Prop:=s'.lo=lo/\s'.fs=s.fs/\s'.lp=s.lp
theorem Kp.trans {s s1 s2:Bo} {lo:List Ah} (h:Kp s lo s1) (h':Kp s1 lo s2):Kp s lo s2:=⟨h'.1,h'.2.1.trans h.2.1,h'.2.2.trans h.2.2⟩
theorem XW {d:Nat} {ab:List Ah} {w:RW} {lo:List Ah} (h:w.er.1=0):∀ {l:List Tree} {s:Bo},s.lo=lo ->
  (∀ x ∈ l,∀ s:Bo,s.lo=lo->Rs w (Bq d ab s x false) (Co d lo (w.put s) x false)/\∀ s',Bq d ab s x false=.ok s'->Kp s lo s') ->
  Rs w (CZ (λs x=>Bq d ab s x false) s l) (l.foldl (λw x=>Co d lo w x false) (w.put s))/\∀ s',CZ (λs x=>Bq d ab s x false) s l=.ok s'->Kp s lo s'
 | [],s,hs,_=>⟨rfl,λs' e=>by cases e;exact ⟨hs,rfl,rfl⟩⟩
 | x :: l,s,hs,hx=>by
  have hd:=hx x (DT ..) s hs;have ht:=λ(s':Bo) (hs':s'.lo=lo)=>XW (d:=d) (ab:=ab) h (l:=l) hs' λy hy=>hx y (EM _ hy);unfold CZ;rw [List.foldl_cons];refine ⟨hd.1.th (λs' e e'=>?_) λhe=>by rw [Mn he],λs' e=>?_⟩;rw [e'];exact (ht s' (hd.2 _ e).1).1;obtain ⟨s1,e1,e2⟩:=Cv e;exact (hd.2 _ e1).trans ((ht s1 (hd.2 _ e1).1).2 _ e2)
theorem Agh {d:Nat} {ab:List Ah} {w:RW} {lo:List Ah} {n:Int} (h:w.er.1=0):∀ {l:List Tree} {i:Nat} {s:Bo},s.lo=lo ->
  (∀ x ∈ l,∀ (s:Bo) (b:Bool),s.lo=lo->Rs w (Bq d ab s x b) (Co d lo (w.put s) x b)/\∀ s',Bq d ab s x b=.ok s'->Kp s lo s') ->
  Rs w (KF (λs x b=>Bq d ab s x b) n i s l) (IQ (λw x b=>Co d lo w x b) n i (w.put s) l)/\∀ s',KF (λs x b=>Bq d ab s x b) n i s l=.ok s'->Kp s lo s'
 | [],i,s,hs,_=>⟨rfl,λs' e=>by cases e;exact ⟨hs,rfl,rfl⟩⟩
 | x :: l,i,s,hs,hx=>by
  have hd:=hx x (DT ..) s (decide ((i:Int) < n)) hs;have ht:=λ(s':Bo) (hs':s'.lo=lo)=>Agh (d:=d) (ab:=ab) (n:=n) h (l:=l) (i:=i+1) hs' λy hy=>hx y (EM _ hy);unfold KF IQ;refine ⟨hd.1.th (λs' e e'=>?_) λhe=>by rw [Ab5 he],λs' e=>?_⟩;rw [e'];exact (ht s' (hd.2 _ e).1).1;obtain ⟨s1,e1,e2⟩:=Cv e;exact (hd.2 _ e1).trans ((ht s1 (hd.2 _ e1).1).2 _ e2)
theorem Bl0 {d:Nat} {ab:List Ah} {s:Bo} {k n a:Int} {t:Ah} {l:List Tree} {tg:Bool} (h:k<=14\/k=23\/k=24\/k=28\/k=30) :
  Bq (d+1) ab s (.mk k t n a l) tg=NR (λs l=>CZ (λs x=>Bq d ab s x false) s l) ab s k t n a l tg:=by
 conv=>lhs;unfold Bq
 rw [if_neg (by omega),if_neg (by omega),if_neg (by omega),if_neg (by omega),if_neg (by omega),if_neg (by omega),if_neg (by omega),if_neg (by omega)]
theorem Aim {ab:List Ah} {w:RW} (h:w.er.1=0) (hF:w.F < w.fs.length) (hab:w.ab=ab):∀ (d:Nat) {lo:List Ah} {x:Tree} {s:Bo} {tg:Bool},s.lo=lo->IsX x->sz x<=d ->
  Rs w (Bq d ab s x tg) (Co d lo (w.put s) x tg)/\∀ s',Bq d ab s x tg=.ok s'->Kp s lo s'
 | 0,_,x,_,_,_,_,hd=>by have:=M4 x;omega
 | d+1,lo,.mk k t n a l,s,tg,hs,hx,hd=>by
  obtain ⟨h1,h2,h3⟩:=hx.kids;simp only [sz] at hd;have all:∀ s:Bo,s.lo=lo->Rs w (CZ (λs x=>Bq d ab s x false) s l) (l.foldl (λw x=>Co d lo w x false) (w.put s))/\∀ s',CZ (λs x=>Bq d ab s x false) s l=.ok s'->Kp s lo s':=λs hs =>
   XW h hs λy hy s hs=>Aim h hF hab d hs (h3 y hy) (by have:=IS hy;omega)
  rw [Bl0 (.inl h2)];unfold NR Co;dsimp only;rw [if_neg (show ¬ (w.put s).er.1≠0 from λe=>e h)];have few:∀ c m,Rs w ((Dv a c m).th λ_=>CZ (λs x=>Bq d ab s x false) s l) (l.foldl (λw x=>Co d lo w x false) ((w.put s).few a c m))/\∀ s',((Dv a c m).th λ_=>CZ (λs x=>Bq d ab s x false) s l)=.ok s'->Kp s lo s':=λc m =>
   ⟨Ai6 (s:=s) h (λe=>by rw [e];exact (all s hs).1) (λe=>by rw [Mn e]),λs' e=>by obtain ⟨_,_,e2⟩:=Cv e;exact (all s hs).2 _ e2⟩
  have Ahw:∀ v,Rs w ((KI a s.cs v).th λcs=>CZ (λs x=>Bq d ab s x false) { s with cs:=cs } l) (l.foldl (λw x=>Co d lo w x false) ((w.put s).const a v))/\∀ s',((KI a s.cs v).th λcs=>CZ (λs x=>Bq d ab s x false) { s with cs:=cs } l)=.ok s'->Kp s lo s':=λv=>by
   refine ⟨?_,λs' e=>by obtain ⟨cs,_,e2⟩:=Cv e;exact (all { s with cs:=cs } hs).2 _ e2⟩;have hq:=A2f (s:=s) (a:=a) (v:=v) h hF;cases hc:KI a s.cs v with
   | bad e =>
    rw [hc] at hq;obtain ⟨ha,hb⟩:=hq;exact ⟨by rw [Mn (by rw [ha];exact hb),ha],hb⟩
   | ok cs =>
    rw [hc] at hq;have hq:(w.put s).const a v=w.put { s with cs:=cs }:=hq;rw [hq];exact (all { s with cs:=cs } hs).1
  by_cases h8:k=8;rw [if_pos h8,if_pos h8];exact few _ _;rw [if_neg h8,if_neg h8,if_neg (by omega)];by_cases h12:k=12;rw [if_pos h12,if_pos h12];exact few _ _;rw [if_neg h12,if_neg h12];by_cases h4:k=4;rw [if_pos h4,if_pos h4];exact Ahw _;rw [if_neg h4,if_neg h4];by_cases h5:k=5;rw [if_pos h5,if_pos h5];exact Ahw _;rw [if_neg h5,if_neg h5];by_cases h6:k=6;rw [if_pos h6,if_pos h6];refine ⟨?_,λs' e=>by obtain ⟨gl,_,e2⟩:=Cv e;exact (all { s with gl:=gl } hs).2 _ e2⟩;have hq:=Bk8 (s:=s) (a:=a) (t:=t) h;rw [hab] at hq;subst hs;cases hc:Ol a t s.gl s.lo ab with
  | bad e =>
   rw [hc] at hq;obtain ⟨ha,hb⟩:=hq;exact ⟨by rw [Mn (by rw [ha];exact hb),ha],hb⟩
  | ok gl =>
   rw [hc] at hq;have hq:(w.put s).name a t s.lo=w.put { s with gl:=gl }:=hq;rw [hq];exact (all { s with gl:=gl } rfl).1
  rw [if_neg h6,if_neg h6];by_cases h7:k=7/\(Cc l 0).kind=6/\Ej (Cc l 0).text=true;rw [if_pos h7,if_pos h7];split;exact ⟨⟨OV h (by decide),ne5⟩,λs' e=>(by cases e)⟩;exact ⟨rfl,λs' e=>by cases e;exact ⟨hs,rfl,rfl⟩⟩;rw [if_neg h7,if_neg h7];exact all s hs
end
end Go.Proofs.YteccladehmaglaaGreatDoor
