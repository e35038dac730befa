/- Texts of mine for parseTexts_card, part 6. -/
import Derived.Lib.OthersKept
import Derived.Lib.UnsafeStr
import Derived.Test.YtaifddambjmiiaaGreatDoorProg
import Derived.Lib.AppendIntMem
import Derived.Test.YtaifddambjmiiaaGreatDoorTxE
set_option linter.unusedSimpArgs false
set_option linter.unusedVariables false
set_option linter.unusedSectionVars false
namespace Go.Proofs.YtaifddambjmiiaaGreatDoor
set_option maxRecDepth 100000
section
open Go Go.RowKit
section
variable {l:List Tk}
theorem Aka (a b:List UInt8):(a == b)=decide (a=b):=by
 by_cases h:a=b;rw [decide_eq_true h,beq_iff_eq];exact h;rw [decide_eq_false h,beq_eq_false_iff_ne];exact h
theorem B3d {ts:List Tk}:FZ 5 ts=(FZ 6 ts).then λn r=>.ok (.mk 5 n.text n.n n.at_ n.kids) r:=by
 unfold FZ;split <;> rfl
theorem BQ {α:Type} {b:Nat} {xs ys:List α} (h:(xs.length+ys.length) * b<=140737488355328):apd b xs ys=some (xs++ys):=by
 unfold apd;rw [decide_eq_true h];rfl
variable (hl:l.length<=1000000)
include hl
theorem Akz (J:List Tree->Int->Option (PR (List Tree×Int))) (hJ:∀ a i,J a i=some (.ok (a,i))):∀ (m:Nat) (acc:List Tree) (ts:List Tk),Good ts->ts <:+ l->ts.length < m->acc.length+ts.length<=1000000 ->
  Gq.l0 m l J acc (ix l ts)=some (conv l eL (Jj acc ts))
 | 0,_,_,_,_,h,_=>by omega
 | m+1,acc,ts,hg,hs,hm,ha=>by
  rw [Gq.l0,got_eq m hl hg hs,MZ acc hg];simp only [Al];refine Eu (Dc _) (λhc=>?_) λhc=>?_;simp only [hc,if_true];obtain ⟨g1,g2,g3⟩:=hg.tail (AQ hc);rw [name_eq m hl g1 (g3.trans hs)];refine C4 (fName 6 g1) λn r hr hrs hn=>?_;simp only [eT,BG];rw [BQ (by simp only [AH,AX];omega)];simp only [Al];exact Akz J hJ m _ r hr (hrs.trans (g3.trans hs)) (by omega) (by simp only [Bv,AH,AX];omega);simp only [if_neg hc,hJ];rfl
theorem XT (k:Nat) {ts:List Tk} (hg:Good ts) (hs:ts <:+ l) (hk:ts.length<=k):Gq.f k l (ix l ts)=some (conv l eL (IE ts)):=by
 unfold Gq.f IE;rw [name_eq k hl hg hs];refine C4 (fName 6 hg) λn r hr hrs hn=>?_;simp only [A2,eT,BG];have:=hrs.length_le;have:=hs.length_le;exact Akz hl _ (λ_ _=>rfl) k _ r hr (hrs.trans hs) (by omega) (by simp only [AH,AX];omega)
end
structure AE (l:List Tk) (k:Nat):Prop where
 exp:∀ least ts,0<=least->Good ts->ts <:+ l->16 * ts.length+5<=k->(PE.at k).Cr l (ix l ts) least=some (conv l eT (DM least ts))
 operand:∀ ts,Good ts->ts <:+ l->16 * ts.length+4<=k->(PE.at k).Hg l (ix l ts)=some (conv l eT (Jk ts))
 DY:∀ ts,Good ts->ts <:+ l->16 * ts.length+3<=k->(PE.at k).Dy l (ix l ts)=some (conv l eT (Iw ts))
 fields:∀ ts,Good ts->ts <:+ l->16 * ts.length+7<=k->(PE.at k).E8 l (ix l ts)=some (conv l eL (JL [] ts))
 field:∀ ts,Good ts->ts <:+ l->16 * ts.length+6<=k->(PE.at k).Hd l (ix l ts)=some (conv l eT (MY ts))
 Di:∀ ts,Good ts->ts <:+ l->16 * ts.length+6<=k->(PE.at k).Dp l (ix l ts)=some (conv l eL (Fz ts))
section
variable {l:List Tk} (hl:l.length<=1000000) {k:Nat} (ih:AE l k)
include hl ih
theorem Aku (least:Int) (h0:0<=least) (r2:Int×Ah×Int×Int×List Tree×Int):∀ (m:Nat) (n:Tree) (ts:List Tk),n.at_=r2.2.2.2.1->Good ts->ts <:+ l->ts.length < m->16 * ts.length<=k ->
  Cr.l0 m (PE.at k) l least r2 n.kind n.text n.n n.kids (ix l ts)=some (conv l eT (ID least n ts))
 | 0,_,_,_,_,_,h,_=>by omega
 | m+1,n,ts,hn,hg,hs,hm,hk=>by
  rw [Cr.l0,Ja m hg hs,Qa n h0 hg];simp only [Al,Azu];refine Eu rfl (λhc=>?_) λhc=>?_;rw [<- hn];rfl;obtain ⟨g1,g2,g3⟩:=hg.tail (KY (by omega));have hb:=Vu ts;simp only [A2];rw [H3 hl hg hs (KY (by omega)),wrapM (Cv ts - 1) (by omega) (by omega)];have hq:(0:Int)<=(if Cv ts=4 then 3 else Cv ts):=by split <;> omega
  have key:∀ q:Int,q=(if Cv ts=4 then 3 else Cv ts)->PR.bind ((PE.at k).Cr l (ix l ts.tail) q) (λr25=>Cr.l0 m (PE.at k) l least r2 (11:Int) (hd ts).2.1 (0:Int) ([(Tree.mk n.kind n.text n.n r2.2.2.2.1 n.kids),(Tree.mk r25.1 r25.2.1 r25.2.2.1 r25.2.2.2.1 r25.2.2.2.2.1)]) r25.2.2.2.2.2)=some (conv l eT ((DM (if Cv ts=4 then 3 else Cv ts) ts.tail).then λm r=>ID least (.mk 11 (hd ts).2.1 0 n.at_ [n,m]) r)):=by
   intro q hqe;subst hqe;rw [ih.exp _ _ hq g1 (g3.trans hs) (by omega)];refine C4 (CE hq g1) λx r hr hrs hrn=>?_;simp only [eT,BG];rw [<- hn,BG];exact Aku least h0 r2 m (.mk 11 (hd ts).2.1 0 n.at_ [n,x]) r hn hr (hrs.trans (g3.trans hs)) (by omega) (by omega)
  by_cases h4:Cv ts=4;rw [show (Cv ts == (4:Int))=true by rw [beq_iff_eq];exact h4];exact key _ (by rw [if_pos h4,h4];rfl);rw [show (Cv ts == (4:Int))=false by rw [beq_eq_false_iff_ne];exact h4];exact key _ (by rw [if_neg h4])
theorem exp_eq (least:Int) (h0:0<=least) {ts:List Tk} (hg:Good ts) (hs:ts <:+ l) (hk:16 * ts.length+4<=k):Cr.g (PE.at k) k l (ix l ts) least=some (conv l eT (DM least ts)):=by
 unfold Cr.g;rw [ih.operand ts hg hs hk,SC h0 hg];refine C4 (QM hg) λn r hr hrs hn=>?_;exact Aku hl ih least h0 (eT n (ix l r)) k n r rfl hr (hrs.trans hs) (by omega) (by omega)
theorem operand_eq {ts:List Tk} (hg:Good ts) (hs:ts <:+ l) (hk:16 * ts.length+3<=k):Hg.g (PE.at k) k l (ix l ts)=some (conv l eT (Jk ts)):=by
 unfold Hg.g;rw [Ja k hg hs,Ase hg];simp only [Al,A2,LN k hg hs,got_eq k hl hg hs];refine Eu (Mz _ _) (λhc=>?_) λh3=>?_;rw [H3 hl hg hs (by omega)];rfl;refine Eu (Mz _ _) (λhc=>?_) λh4=>?_;rw [H3 hl hg hs (by omega)];rfl;refine Eu (Dc _) (λhc=>?_) λh5=>?_;rw [H3 hl hg hs (AQ hc)];rfl;refine Eu (Dc _) (λhc=>?_) λh6=>?_;rw [H3 hl hg hs (AQ hc)];rfl;refine Eu (Dc _) (λhc=>?_) λh7=>?_;rw [H3 hl hg hs (AQ hc)];rfl;have hun:∀ (h8:(Az M6 ts || Az M5 ts || Az IX ts)=true),PR.bind ((PE.at k).Cr l (ix l ts.tail) (7:Int)) (λr21=>some (PR.ok ((10:Int),(hd ts).2.1,(0:Int),(hd ts).2.2.2,[(Tree.mk r21.1 r21.2.1 r21.2.2.1 r21.2.2.2.1 r21.2.2.2.2.1)],r21.2.2.2.2.2)))=some (conv l eT ((DM 7 ts.tail).then λm r=>.ok (.mk 10 (hd ts).2.1 0 (hd ts).2.2.2 [m]) r)):=λh8=>by
  obtain ⟨g1,g2,g3⟩:=hg.tail (or3 rfl rfl rfl h8);rw [ih.exp 7 _ (by omega) g1 (g3.trans hs) (by omega)];refine C4 (CE (by omega) g1) λx r hr hrs hn=>?_;simp only [eT,BG];rfl
 cases hA:Az M6 ts with
 | true =>
  have h8:(Az M6 ts || Az M5 ts || Az IX ts)=true:=by rw [hA];rfl
  rw [hA] at h8;simp only [cond_true,if_true,h8];exact hun (by rw [hA];rfl)
 | false =>
 simp only [Bool.false_eq_true,if_false,cond_false,Bool.false_or,got_eq k hl hg hs,Al];cases hB:Az M5 ts with
 | true =>
  simp only [cond_true,if_true,Bool.true_or];exact hun (by rw [hB];simp)
 | false =>
 simp only [Bool.false_eq_true,if_false,cond_false,Bool.false_or,got_eq k hl hg hs,Al];cases hC:Az IX ts with
 | true =>
  simp only [cond_true,if_true];exact hun (by rw [hC];simp)
 | false =>
 simp only [Bool.false_eq_true,if_false,cond_false,got_eq k hl hg hs,Al];refine Eu (Dc _) (λhc=>?_) λh9=>?_;simp only [hc,if_true];obtain ⟨g1,g2,g3⟩:=hg.tail (AQ hc);rw [ih.fields _ g1 (g3.trans hs) (by omega)];refine C4 (Adq _ g1) λx r hr hrs hn=>?_;rfl;simp only [if_neg h9];rw [ih.DY _ hg hs (by omega)];have:=C4 (e':=eT) (F:=λr38:Int×Ah×Int×Int×List Tree×Int=>some (PR.ok (r38.1,r38.2.1,r38.2.2.1,r38.2.2.2.1,r38.2.2.2.2.1,r38.2.2.2.2.2))) (g:=λn r=>.ok n r) (l:=l) (Nu hg) (e:=eT) (λn r _ _ _=>rfl);rw [this];cases Iw ts <;> rfl
theorem Adm (J:List Tree->Int->Option (PR (List Tree×Int))) (hJ:∀ a i,J a i=some (.ok (a,i))):∀ (m:Nat) (acc:List Tree) (ts:List Tk),Good ts->ts <:+ l->ts.length < m->acc.length+ts.length<=1000000->16 * ts.length<=k ->
  Dp.l0 m (PE.at k) l J acc (ix l ts)=some (conv l eL (O6 acc ts))
 | 0,_,_,_,_,h,_,_=>by omega
 | m+1,acc,ts,hg,hs,hm,ha,hk=>by
  rw [Dp.l0,got_eq m hl hg hs,ZH acc hg];simp only [Al];refine Eu (Dc _) (λhc=>?_) λhc=>?_;simp only [hc,if_true];obtain ⟨g1,g2,g3⟩:=hg.tail (AQ hc);rw [ih.exp 0 _ (by omega) g1 (g3.trans hs) (by omega)];refine C4 (CE (by omega) g1) λn r hr hrs hn=>?_;simp only [eT,BG];rw [BQ (by simp only [AH,AX];omega)];simp only [Al];exact Adm J hJ m _ r hr (hrs.trans (g3.trans hs)) (by omega) (by simp only [Bv,AH,AX];omega) (by omega);simp only [if_neg hc,hJ];rfl
theorem Ado {ts:List Tk} (hg:Good ts) (hs:ts <:+ l) (hk:16 * ts.length+5<=k):Dp.g (PE.at k) k l (ix l ts)=some (conv l eL (Fz ts)):=by
 unfold Dp.g;rw [ih.exp 0 ts (by omega) hg hs hk,ZI hg];refine C4 (CE (by omega) hg) λn r hr hrs hn=>?_;simp only [A2,eT,BG];have:=hs.length_le;exact Adm hl ih _ (λ_ _=>rfl) k _ r hr (hrs.trans hs) (by omega) (by simp only [AH,AX];omega) (by omega)
theorem Adx (J:List Tree->Int->Option (PR (List Tree×Int))) (hJ:∀ a r,Good r->r <:+ l->J a (ix l r)=some (conv l eL ((CK G_ r).then λ_ r=>.ok a r))):∀ (m:Nat) (acc:List Tree) (ts:List Tk),Good ts->ts <:+ l->ts.length < m->acc.length+ts.length<=1000000->16 * ts.length+6<=k ->
  E8.l0 m (PE.at k) l J acc (ix l ts)=some (conv l eL (JL acc ts))
 | 0,_,_,_,_,h,_,_=>by omega
 | m+1,acc,ts,hg,hs,hm,ha,hk=>by
  rw [E8.l0,LN m hg hs,Ar5 acc hg];simp only [Al];by_cases hR:Az G_ ts=true;rw [if_pos hR,show Az (⟨#[125]⟩:Ah) ts=true from hR];simp only [Bool.not_true,cond_false];rw [hJ acc ts hg hs];unfold CK;rw [if_pos hR];rfl;rw [if_neg hR,show Az (⟨#[125]⟩:Ah) ts=false from by simpa using hR];simp only [Bool.not_false,cond_true];rw [ih.field ts hg hs hk];refine C4 (VG hg) λx r hr hrs hn=>?_;simp only [eT,BG];rw [BQ (by simp only [AH,AX];omega)];have hrl:=hrs.trans hs;simp only [Al,A2,got_eq m hl hr hrl];have more:∀ {w:Ah},Az w r=true->E8.l0 m (PE.at k) l J (acc++[x]) (ix l r.tail)=some (conv l eL (JL (acc++[x]) r.tail)):=λhc=>by
   obtain ⟨g1,g2,g3⟩:=hr.tail (AQ hc);exact Adx J hJ m _ _ g1 (g3.trans hrl) (by omega) (by simp only [Bv,AH,AX];omega) (by omega)
  by_cases hc:Az D0 r=true;rw [if_pos hc,show Az (⟨#[44]⟩:Ah) r=true from hc];simp only [Bool.not_true,cond_false,if_true];exact more hc;rw [if_neg hc,show Az (⟨#[44]⟩:Ah) r=false from by simpa using hc];simp only [Bool.not_false,cond_true,Bool.false_eq_true,if_false,got_eq m hl hr hrl,Al];by_cases hd:Az EN r=true;rw [if_pos hd,show Az (⟨#[59]⟩:Ah) r=true from hd];simp only [Bool.not_true,cond_false,if_true];exact more hd;rw [if_neg hd,show Az (⟨#[59]⟩:Ah) r=false from by simpa using hd];simp only [Bool.not_false,cond_true,Bool.false_eq_true,if_false];exact hJ _ _ hr hrl
theorem fields_eq {ts:List Tk} (hg:Good ts) (hs:ts <:+ l) (hk:16 * ts.length+6<=k):E8.g (PE.at k) k l (ix l ts)=some (conv l eL (JL [] ts)):=by
 unfold E8.g;simp only [A2];have:=hs.length_le;refine Adx hl ih _ (λa r hr hrs=>?_) k [] ts hg hs (by omega) (by simp only [AX];omega) hk;rw [Ga k hl hr hrs];exact C4 (C3 _ hr) λ_ r2 hr2 _ _=>rfl
theorem A4x {ts:List Tk} (hg:Good ts) (hs:ts <:+ l) (hk:16 * ts.length+5<=k):Hd.g (PE.at k) k l (ix l ts)=some (conv l eT (MY ts)):=by
 unfold Hd.g;rw [Ja k hg hs,Ar2 hg];simp only [Al,A2,got_eq k hl hg hs];refine Eu (Dc _) (λhc=>?_) λh1=>?_
 ·simp only [hc,if_true]
  obtain ⟨g1,g2,g3⟩:=hg.tail (AQ hc);rw [ih.exp 0 _ (by omega) g1 (g3.trans hs) (by omega)];refine C4 (CE (by omega) g1) λx r hr hrs hn=>?_;simp only [eT,BG];have h1:=hrs.trans (g3.trans hs);rw [Ga k hl hr h1];refine C4 (C3 _ hr) λ_ r2 hr2 DW hn2=>?_;simp only [eU];rw [Ga k hl hr2 (DW.trans h1)];refine C4 (C3 _ hr2) λ_ r3 hr3 Gk hn3=>?_;simp only [eU];rw [ih.exp 0 _ (by omega) hr3 (Gk.trans (DW.trans h1)) (by omega)];refine C4 (CE (by omega) hr3) λy r4 hr4 Pb hn4=>?_;simp only [eT,BG];rw [BQ (by simp)];rfl
 simp only [if_neg h1];have hq:((cond ((hd ts).1 == (1:Int)) ((Bm l (Ar (ix l ts+(1:Int)))).bind λx57=>cond (x57.1 == (5:Int)) ((Bm l (Ar (ix l ts+(1:Int)))).bind λx65=>some (x65.2.1.toList == (⟨#[61]⟩:Ah).toList)) (some false)) (some false)):Option Bool)=some (decide ((hd ts).1=1/\(hd ts.tail).1=5/\(hd ts.tail).2.1.toList=Cb.toList)):=by
  by_cases h:(hd ts).1=1
  ·obtain ⟨g1,g2,g3⟩:=hg.tail (by omega)
   rw [H3 hl hg hs (by omega),Kd g1 (g3.trans hs),h];simp only [beq_self_eq_true,cond_true,Al,true_and];by_cases h5:(hd ts.tail).1=5
   ·rw [h5]
    simp only [beq_self_eq_true,cond_true,true_and];exact congrArg some (Aka _ _)
   ·rw [show ((hd ts.tail).1 == (5:Int))=false by rw [beq_eq_false_iff_ne];exact h5]
    simp [h5]
  ·rw [show ((hd ts).1 == (1:Int))=false by rw [beq_eq_false_iff_ne];exact h]
   simp [h]
 rw [hq];simp only [Al];refine Eu rfl (λhc=>?_) λh2=>?_
 ·obtain ⟨h1,h5,he⟩:=hc
  obtain ⟨g1,g2,g3⟩:=hg.tail (by omega);obtain ⟨g4,g5,g6⟩:=g1.tail (by omega);rw [name_eq k hl hg hs];unfold FZ;rw [if_pos h1];simp only [conv,PR.bind,eT,Tree.kind,Tree.text,Tree.n,Tree.at_,Tree.kids];have hE:Az Cb ts.tail=true:=by unfold Az isT;rw [h5,he];simp
  rw [Ga k hl g1 (g3.trans hs)];unfold CK;rw [if_pos hE];simp only [conv,eU];rw [ih.exp 0 _ (by omega) g4 (g6.trans (g3.trans hs)) (by omega)];have:=C4 (l:=l) (e:=eT) (e':=eT) (x:=DM 0 ts.tail.tail) (F:=λr13=>(apd 64 [Tree.mk 5 (hd ts).2.1 0 (hd ts).2.2.2 []] [(Tree.mk r13.1 r13.2.1 r13.2.2.1 r13.2.2.2.1 r13.2.2.2.2.1)]).bind λPq=>some (PR.ok ((14:Int),(⟨#[]⟩:Ah),(0:Int),(hd ts).2.2.2,Pq,r13.2.2.2.2.2))) (g:=λv r=>.ok (.mk 14 noB 0 (hd ts).2.2.2 [.mk 5 (hd ts).2.1 0 (hd ts).2.2.2 [],v]) r) (CE (by omega) g4) (λy r4 hr4 Pb hn4=>by
   simp only [eT,BG];rw [BQ (by simp)];rfl)
  exact this
 ·rw [ih.exp 0 _ (by omega) hg hs (by omega)]
  refine C4 (CE (by omega) hg) λy r4 hr4 Pb hn4=>?_;simp only [eT,BG];rw [BQ (by simp)];rfl
theorem S7 (r2:Tk):∀ (m:Nat) (n:Tree) (ts:List Tk),Good ts->ts <:+ l->ts.length < m->16 * ts.length<=k ->
  Dy.l0 m (PE.at k) l r2 n.kind n.text n.n n.at_ n.kids (ix l ts)=some (conv l eT (Jl r2.2.2.2 n ts))
 | 0,_,_,_,_,h,_=>by omega
 | m+1,n,ts,hg,hs,hm,hk=>by
  rw [Dy.l0,got_eq m hl hg hs,ZJ _ n hg];simp only [Al,BG];refine Eu (Dc _) (λhc=>?_) λh1=>?_;simp only [hc,if_true];obtain ⟨g1,g2,g3⟩:=hg.tail (AQ hc);rw [ih.exp 0 _ (by omega) g1 (g3.trans hs) (by omega)];refine C4 (CE (by omega) g1) λx r hr hrs hn=>?_;simp only [eT,BG];have hrl:=hrs.trans (g3.trans hs);rw [Ga m hl hr hrl];refine C4 (C3 _ hr) λ_ r2' hr2 DW hn2=>?_;exact S7 r2 m (.mk 7 noB 0 r2.2.2.2 [n,x]) r2' hr2 (DW.trans hrl) (by omega) (by omega);simp only [if_neg h1,got_eq m hl hg hs,Al];refine Eu (Dc _) (λhc=>?_) λh2=>?_;simp only [hc,if_true];obtain ⟨g1,g2,g3⟩:=hg.tail (AQ hc);rw [name_eq m hl g1 (g3.trans hs),B3d,then_assoc];refine C4 (fName 6 g1) λx r hr hrs hn=>?_;exact S7 r2 m (.mk 7 noB 0 r2.2.2.2 [n,.mk 5 x.text x.n x.at_ x.kids]) r hr (hrs.trans (g3.trans hs)) (by omega) (by omega);simp only [if_neg h2,got_eq m hl hg hs,Al];refine Eu (Dc _) (λhc=>?_) λh3=>?_;simp only [hc,if_true];obtain ⟨g1,g2,g3⟩:=hg.tail (AQ hc);have gs:=g3.trans hs;have hlen:=hs.length_le;simp only [A2,LN m g1 gs,Al];unfold UM;have tl:∀ (xs:List Tree) (r:List Tk),Good r->r <:+ l->r.length<=ts.tail.length->PR.bind (Cy.f m l (ix l r) (⟨#[41]⟩:Ah)) (λCF=>Dy.l0 m (PE.at k) l r2 (8:Int) (⟨#[]⟩:Ah) (0:Int) r2.2.2.2 (n :: xs) CF)=some (conv l eT ((CK CV r).then λ_ r=>Jl r2.2.2.2 (.mk 8 noB 0 r2.2.2.2 (n :: xs)) r)):=λxs r hr hrl hn=>by
   rw [Ga m hl hr hrl];refine C4 (C3 _ hr) λ_ r2' hr2 DW hn2=>?_;exact S7 r2 m (.mk 8 noB 0 r2.2.2.2 (n :: xs)) r2' hr2 (DW.trans hrl) (by omega) (by omega)
  by_cases hR:Az CV ts.tail=true;rw [if_pos hR,show Az (⟨#[41]⟩:Ah) ts.tail=true from hR];exact tl [] _ g1 gs (Nat.le_refl _);rw [if_neg hR,show Az (⟨#[41]⟩:Ah) ts.tail=false from by simpa using hR];simp only [Bool.not_false,cond_true];rw [ih.Di _ g1 gs (by omega)];cases hv:Fz ts.tail with
  | bad i=>rfl
  | ok xs r =>
   have hf:=IR g1;rw [hv] at hf;have hxl:=ME g1 hv;show (apd 64 [n] xs).bind _=_;rw [BQ (by simp only [AH,AX];omega)];exact tl xs r hf.1 (hf.2.2.trans gs) (by have:=hf.2.1;omega)
  simp only [if_neg h3];rfl
theorem Aqk {ts:List Tk} (hg:Good ts) (hs:ts <:+ l) (hk:16 * ts.length+2<=k):Dy.g (PE.at k) k l (ix l ts)=some (conv l eT (Iw ts)):=by
 unfold Dy.g;rw [Ja k hg hs,ZK hg];simp only [Al,A2,got_eq k hl hg hs];refine Eu (Dc _) (λhc=>?_) λh1=>?_;simp only [hc,if_true];obtain ⟨g1,g2,g3⟩:=hg.tail (AQ hc);rw [ih.exp 0 _ (by omega) g1 (g3.trans hs) (by omega)];refine C4 (CE (by omega) g1) λx r hr hrs hn=>?_;simp only [eT,BG];have hrl:=hrs.trans (g3.trans hs);rw [Ga k hl hr hrl];refine C4 (C3 _ hr) λ_ r2' hr2 DW hn2=>?_;exact S7 hl ih (hd ts) k (.mk 9 noB 0 (hd ts).2.2.2 [x]) r2' hr2 (DW.trans hrl) (by omega) (by omega);simp only [if_neg h1];rw [name_eq k hl hg hs];refine C4 (fName 6 hg) λn r hr hrs hn=>?_;exact S7 hl ih (hd ts) k n r hr (hrs.trans hs) (by omega) (by omega)
end
theorem aE {l:List Tk} (hl:l.length<=1000000):∀ k,AE l k
 | 0=>by constructor <;> intros <;> omega
 | k+1=>by
  have ih:=aE hl k;exact ⟨λleast ts h0 hg hs h=>exp_eq hl ih least h0 hg hs (by omega),λts hg hs h=>operand_eq hl ih hg hs (by omega),λts hg hs h=>Aqk hl ih hg hs (by omega),λts hg hs h=>fields_eq hl ih hg hs (by omega),λts hg hs h=>A4x hl ih hg hs (by omega),λts hg hs h=>Ado hl ih hg hs (by omega)⟩
theorem Asb (pre:List Tree):∀ (n:Nat) (acc:List Tree) (ts:List Tk),ts.length<=n->Good ts->Jj (pre++acc) ts=(Jj acc ts).then λxs r=>.ok (pre++xs) r
 | 0,_,[],_,hg=>hg.elim
 | n+1,acc,ts,hn,hg=>by
  rw [MZ _ hg,MZ acc hg];by_cases hc:Az D0 ts=true;rw [if_pos hc,if_pos hc,then_assoc];obtain ⟨g1,g2,g3⟩:=hg.tail (AQ hc);refine SA (fName 6 g1) λx r hr hl=>?_;rw [Bx];exact Asb pre n _ r (by omega) hr;rw [if_neg hc,if_neg hc];rfl
structure AS (l:List Tk) (k:Nat):Prop where
 block:∀ c ts,Good ts->ts <:+ l->16 * ts.length+9<=k->(PS.at k).CA l (ix l ts) c=some (conv l eT (Fi c ts))
 function:∀ ts,Az Gm ts=true->Good ts->ts <:+ l->16 * ts.length+7<=k->(PS.at k).He l (ix l ts)=some (conv l eT (P_ ts))
 stat:∀ ts,Good ts->ts <:+ l->16 * ts.length+7<=k->(PS.at k).Hh l (ix l ts)=some (conv l eT (Mk ts))
 branches:∀ ts,Good ts->ts <:+ l->16 * ts.length+6<=k->(PS.at k).ER l (ix l ts)=some (conv l eL (Mj [] ts))
 loop:∀ at_ ts,Good ts->ts <:+ l->16 * ts.length+8<=k->(PS.at k).Hf l (ix l ts) at_=some (conv l eT (O7 at_ ts))
 plain:∀ ts,Good ts->ts <:+ l->16 * ts.length+6<=k->(PS.at k).ES l (ix l ts)=some (conv l eT (O8 ts))
section
variable {l:List Tk} (hl:l.length<=1000000)
include hl
theorem QO (k:Nat) {ts:List Tk} (hg:Good ts) (hs:ts <:+ l) (hk:16 * ts.length+4<=k):Cr.f k l (ix l ts) 0=some (conv l eT (DM 0 ts)):=exp_eq hl (aE hl k) 0 (by omega) hg hs hk
theorem T8 (k:Nat) {ts:List Tk} (hg:Good ts) (hs:ts <:+ l) (hk:16 * ts.length+5<=k):Dp.f k l (ix l ts)=some (conv l eL (Fz ts)):=Ado hl (aE hl k) hg hs hk
theorem Aec (k:Nat) {ts:List Tk} (hg:Good ts) (hs:ts <:+ l) (hk:16 * ts.length+2<=k):Dy.f k l (ix l ts)=some (conv l eT (Iw ts)):=Aqk hl (aE hl k) hg hs hk
omit hl in
theorem Az8 {ts:List Tk} (h:Az Dt ts=true) (hg:Good ts):Iv ts=(Fi false ts.tail).then λb r=>(CK BM r).then λ_ r=>.ok b r:=by
 rw [ZF hg];unfold CK;rw [if_pos h];rfl
variable {k:Nat} (ih:AS l k)
include ih
theorem As5 (F:Tree->Option (List Tree)) (Af:List Tree->Int->Option (PR (Int×Ah×Int×Int×List Tree×Int))) (g:Tree->Tree) {ts:List Tk} (hg:Good ts) (hs:ts <:+ l) (hk:16 * ts.length+9<=k+16)
  (hG:∀ b r,Good r->r <:+ l->∃ xs,F b=some xs/\Af xs (ix l r)=some (conv l eT (.ok (g b) r))) :
  PR.bind (Cy.f k l (ix l ts) (⟨#[100,111]⟩:Ah)) (λr36=>PR.bind ((PS.at k).CA l r36 false) λr38=>(F (Tree.mk r38.1 r38.2.1 r38.2.2.1 r38.2.2.2.1 r38.2.2.2.2.1)).bind λl49=>PR.bind (Cy.f k l r38.2.2.2.2.2 (⟨#[101,110,100]⟩:Ah)) λGs=>Af l49 Gs) =
   some (conv l eT ((Iv ts).then λb r=>.ok (g b) r)):=by
 rw [Ga k hl hg hs,ZF hg,then_assoc];refine C4 (C3 _ hg) λ_ r hr hrs hn=>?_;simp only [eU];have h1:=hrs.trans hs;rw [ih.block false r hr h1 (by omega),then_assoc];refine C4 (Ih false hr) λb r2 hr2 DW hn2=>?_;simp only [eT,BG];have h2:=DW.trans h1;obtain ⟨xs,hF,_⟩:=hG b r2 hr2 h2;rw [hF,then_assoc];simp only [Al];rw [Ga k hl hr2 h2];refine C4 (C3 _ hr2) λ_ r3 hr3 Gk hn3=>?_;obtain ⟨xs',hF',hG'⟩:=hG b r3 hr3 (Gk.trans h2);rw [hF] at hF';cases hF';exact hG'
theorem Vz (chunk:Bool) (r2:Tk):∀ (m:Nat) (acc:List Tree) (ts:List Tk),Good ts->ts <:+ l->16 * ts.length+6 < m->acc.length+ts.length<=1000000->16 * ts.length+8<=k ->
  CA.l0 m (PS.at k) l chunk r2 acc (ix l ts)=some (conv l eT (Ji chunk r2.2.2.2 acc ts))
 | 0,_,_,_,_,h,_,_=>by omega
 | m+1,acc,ts,hg,hs,hm,ha,hk=>by
  rw [CA.l0,Ja m hg hs,Ary chunk _ acc hg];simp only [Al,got_eq m hl hg hs];refine Eu (Dc _) (λhc=>?_) λh1=>?_;simp only [hc,if_true];obtain ⟨g1,g2,g3⟩:=hg.tail (AQ hc);exact Vz chunk r2 m acc _ g1 (g3.trans hs) (by omega) (by omega) (by omega);simp only [if_neg h1,got_eq m hl hg hs,Al];refine Eu (Dc _) (λhc=>?_) λh2=>?_;simp only [hc,if_true];obtain ⟨g1,g2,g3⟩:=hg.tail (AQ hc);have gs:=g3.trans hs;have hend:∀ (xs:List Tree) (r:List Tk),Good r->r <:+ l->(Ca.f m l (ix l r) (⟨#[59]⟩:Ah)).bind (λr25=>(apd 64 acc [(Tree.mk (30:Int) (⟨#[]⟩:Ah) (0:Int) (hd ts).2.2.2 xs)]).bind λl29=>some (PR.ok ((20:Int),(⟨#[]⟩:Ah),(0:Int),r2.2.2.2,l29,r25.2)))=some (conv l eT (.ok (.mk 20 noB 0 r2.2.2.2 (acc++[.mk 30 noB 0 (hd ts).2.2.2 xs])) (if Az EN r then r.tail else r))):=λxs r hr hrl=>by
   rw [got_eq m hl hr hrl,BQ (by simp only [AH,AX];omega)];rfl
  simp only [A2,Adf m g1 gs,LN m g1 gs,Al];unfold UN;cases hE:IQ ts.tail with
  | true =>
   simp only [Bool.not_true,cond_false,Al,Bool.true_or,if_true];exact hend [] _ g1 gs
  | false =>
   simp only [Bool.not_false,cond_true,Al,Bool.false_or];by_cases hS:Az EN ts.tail=true;rw [if_pos hS,show Az (⟨#[59]⟩:Ah) ts.tail=true from hS];exact hend [] _ g1 gs;rw [if_neg hS,show Az (⟨#[59]⟩:Ah) ts.tail=false from by simpa using hS];simp only [Bool.not_false,cond_true];rw [T8 hl m g1 gs (by omega)];refine C4 (IR g1) λxs r hr hrs hn=>?_;exact hend xs r hr (hrs.trans gs)
  simp only [if_neg h2,LN m hg hs,Adf m hg hs,Al];have hq:(cond chunk (some (Az (⟨#[102,117,110,99,116,105,111,110]⟩:Ah) ts)) (some false):Option Bool)=some (chunk && Az Gm ts):=by cases chunk <;> rfl
  rw [hq];simp only [Al];have more:∀ (x:Tree) (r:List Tk),Good r->r <:+ ts->r.length+1<=ts.length->((apd 64 acc [x]).bind λl56=>CA.l0 m (PS.at k) l chunk r2 l56 (ix l r))=some (conv l eT (Ji chunk r2.2.2.2 (acc++[x]) r)):=λx r hr hrs hn=>by
   rw [BQ (by simp only [AH,AX];omega)];exact Vz chunk r2 m _ r hr (hrs.trans hs) (by omega) (by simp only [Bv,AH,AX];omega) (by omega)
  refine Eu (Dc _) (λhc=>?_) λh3=>?_;simp only [Bool.and_eq_true] at hc;rw [ih.function ts hc.2 hg hs (by omega)];refine C4 (Ads (AQ hc.2) hg) λx r hr hrs hn=>?_;simp only [eT,BG];exact more x r hr hrs hn;refine Eu (Dc _) (λhc=>rfl) λh4=>?_;rw [ih.stat ts hg hs (by omega)];refine C4 (VH hg) λx r hr hrs hn=>?_;simp only [eT,BG];exact more x r hr hrs hn
theorem Ab5 (c:Bool) {ts:List Tk} (hg:Good ts) (hs:ts <:+ l) (hk:16 * ts.length+8<=k):CA.g (PS.at k) k l (ix l ts) c=some (conv l eT (Fi c ts)):=by
 unfold CA.g;rw [Ja k hg hs,Arz c hg];simp only [Al];have:=hs.length_le;exact Vz hl ih c (hd ts) k [] ts hg hs (by omega) (by simp only [AX];omega) hk
theorem A5h {ts:List Tk} (hf:Az Gm ts=true) (hg:Good ts) (hs:ts <:+ l) (hk:16 * ts.length+6<=k):He.g (PS.at k) k l (ix l ts)=some (conv l eT (P_ ts)):=by
 unfold He.g;rw [Ja k hg hs,Ar8 (AQ hf) hg];simp only [Al];rw [Ga k hl hg hs];unfold CK;rw [if_pos hf];obtain ⟨g1,g2,g3⟩:=hg.tail (AQ hf);have gs:=g3.trans hs;have hle:=hs.length_le;show PR.bind (FU.f k l (ix l ts.tail)) _=_;rw [name_eq k hl g1 gs];refine C4 (fName 6 g1) λnm r hr hrs hn=>?_;simp only [eT];have h1:=hrs.trans gs;rw [Ga k hl hr h1];refine C4 (C3 _ hr) λ_ r2 hr2 DW hn2=>?_;simp only [eU,A2];have h2:=DW.trans h1;have tl:∀ (ps:List Tree) (r:List Tk),Good r->r <:+ l->r.length+1<=ts.length->ps.length<=1000000->PR.bind (Cy.f k l (ix l r) (⟨#[41]⟩:Ah)) (λr21=>PR.bind ((PS.at k).CA l r21 false) λBY=>(apd 64 ps [(Tree.mk BY.1 BY.2.1 BY.2.2.1 BY.2.2.2.1 BY.2.2.2.2.1)]).bind λl32=>PR.bind (Cy.f k l BY.2.2.2.2.2 (⟨#[101,110,100]⟩:Ah)) λEC=>some (PR.ok ((31:Int),nm.text,((ps.length:Nat):Int),(hd ts).2.2.2,l32,EC))) =
   some (conv l eT ((CK CV r).then λ_ r=>(Fi false r).then λb r=>(CK BM r).then λ_ r=>.ok (.mk 31 nm.text ps.length (hd ts).2.2.2 (ps++[b])) r)):=λps r hr hrl hn hps=>by
  rw [Ga k hl hr hrl];refine C4 (C3 _ hr) λ_ s hs1 hss hn'=>?_;simp only [eU];have h3:=hss.trans hrl;rw [ih.block false s hs1 h3 (by omega)];refine C4 (Ih false hs1) λb s2 hs2 IW Ber=>?_;simp only [eT,BG];rw [BQ (by simp only [AH,AX];omega)];simp only [Al];rw [Ga k hl hs2 (IW.trans h3)];exact C4 (C3 _ hs2) λ_ s3 _ _ _=>rfl
 rw [LN k hr2 h2];simp only [Al];unfold SE;by_cases hR:Az CV r2=true;rw [if_pos hR,show Az (⟨#[41]⟩:Ah) r2=true from hR];exact tl [] r2 hr2 h2 (by omega) (by simp);rw [if_neg hR,show Az (⟨#[41]⟩:Ah) r2=false from by simpa using hR];simp only [Bool.not_false,cond_true];rw [XT hl k hr2 h2 (by omega)];cases hv:IE r2 with
 | bad i=>rfl
 | ok ps s =>
  have hf:=Nt hr2;rw [hv] at hf;have hln:=RJ hr2 hv;exact tl ps s hf.1 (hf.2.2.trans h2) (by have:=hf.2.1;omega) (by omega)
theorem Ack (J:List Tree->Int->Option (PR (List Tree×Int))) (hJ:∀ a r,Good r->r <:+ l->16 * r.length+9<=k->a.length<=1000000->J a (ix l r)=some (conv l eL (if Az Ik r then (Fi false r.tail).then λc r=>(CK BM r).then λ_ r=>.ok (a++[c]) r else (CK BM r).then λ_ r=>.ok a r))) :
  ∀ (m:Nat) (acc:List Tree) (ts:List Tk),Good ts->ts <:+ l->16 * ts.length+4 < m->acc.length+2 * ts.length<=1000000->16 * ts.length<=k->ER.l0 m (PS.at k) l J acc (ix l ts)=some (conv l eL (Mj acc ts))
 | 0,_,_,_,_,h,_,_=>by omega
 | m+1,acc,ts,hg,hs,hm,ha,hk=>by
  rw [ER.l0,QO hl m hg hs (by omega),Ar0 acc hg];refine C4 (CE (by omega) hg) λe r hr hrs hn=>?_;simp only [eT,BG];have h1:=hrs.trans hs;rw [BQ (by simp only [AH,AX];omega)];simp only [Al];rw [Ga m hl hr h1];refine C4 (C3 _ hr) λ_ r2 hr2 DW hn2=>?_;simp only [eU];have h2:=DW.trans h1;rw [ih.block false r2 hr2 h2 (by omega)];refine C4 (Ih false hr2) λb r3 hr3 Gk hn3=>?_;simp only [eT,BG];have h3:=Gk.trans h2;rw [BQ (by simp only [Bv,AH,AX];omega)];simp only [Al,got_eq m hl hr3 h3];by_cases hc:Az FP r3=true;rw [if_pos hc,show Az (⟨#[101,108,115,101,105,102]⟩:Ah) r3=true from hc];simp only [Bool.not_true,cond_false,if_true];obtain ⟨g1,g2,g3⟩:=hr3.tail (AQ hc);exact Ack J hJ m _ _ g1 (g3.trans h3) (by omega) (by simp only [Bv,AH,AX];omega) (by omega);rw [if_neg hc,show Az (⟨#[101,108,115,101,105,102]⟩:Ah) r3=false from by simpa using hc];simp only [Bool.not_false,cond_true,Bool.false_eq_true,if_false];exact hJ _ r3 hr3 h3 (by omega) (by simp only [Bv,AH,AX];omega)
theorem A0e {ts:List Tk} (hg:Good ts) (hs:ts <:+ l) (hk:16 * ts.length+5<=k) (hl2:l.length<=400000):ER.g (PS.at k) k l (ix l ts)=some (conv l eL (Mj [] ts)):=by
 unfold ER.g;simp only [A2];have hle:=hs.length_le;refine Ack hl ih _ (λa r hr hrl hk2 ha=>?_) k [] ts hg hs (by omega) (by simp only [AX];omega) (by omega);rw [got_eq k hl hr hrl];simp only [Al];refine Eu (Dc _) (λhc=>?_) λh1=>?_;simp only [hc,if_true];obtain ⟨g1,g2,g3⟩:=hr.tail (AQ hc);have gs:=g3.trans hrl;rw [ih.block false _ g1 gs (by omega)];refine C4 (Ih false g1) λc r3 hr3 Gk hn3=>?_;simp only [eT,BG];rw [BQ (by simp only [AH,AX];omega)];simp only [Al];rw [Ga k hl hr3 (Gk.trans gs)];exact C4 (C3 _ hr3) λ_ _ _ _ _=>rfl;simp only [if_neg h1];rw [Ga k hl hr hrl];exact C4 (C3 _ hr) λ_ _ _ _ _=>rfl
theorem A5f (at_:Int) {ts:List Tk} (hg:Good ts) (hs:ts <:+ l) (hk:16 * ts.length+7<=k):Hf.g (PS.at k) k l (ix l ts) at_=some (conv l eT (O7 at_ ts)):=by
 unfold Hf.g;rw [name_eq k hl hg hs,Ar7 at_ hg];refine C4 (fName 6 hg) λn r hr hrs hn=>?_;simp only [eT,BG,A2];have h1:=hrs.trans hs;have hle:=hs.length_le;have tl:∀ (kd nn:Int) (xs:List Tree) (r:List Tk),Good r->r <:+ l->r.length+1<=ts.length->xs.length<=1000000->PR.bind (Cy.f k l (ix l r) (⟨#[100,111]⟩:Ah)) (λr19=>PR.bind ((PS.at k).CA l r19 false) λr21=>(apd 64 xs [(Tree.mk r21.1 r21.2.1 r21.2.2.1 r21.2.2.2.1 r21.2.2.2.2.1)]).bind λLh=>PR.bind (Cy.f k l r21.2.2.2.2.2 (⟨#[101,110,100]⟩:Ah)) λEB=>some (PR.ok (kd,(⟨#[]⟩:Ah),nn,at_,Lh,EB))) =
   some (conv l eT ((Iv r).then λbd r=>.ok (.mk kd noB nn at_ (xs++[bd])) r)):=λkd nn xs r hr hrl hn hxs =>
  As5 hl ih (λb=>apd 64 xs [b]) (λLh EB=>some (PR.ok (kd,(⟨#[]⟩:Ah),nn,at_,Lh,EB))) (λbd=>.mk kd noB nn at_ (xs++[bd])) hr hrl (by omega) λb s hs1 hsl=>⟨_,BQ (by simp only [AH,AX];omega),rfl⟩
 rw [got_eq k hl hr h1];simp only [Al];refine Eu (Dc _) (λhc=>?_) λhne=>?_;simp only [hc,if_true];obtain ⟨g1,g2,g3⟩:=hr.tail (AQ hc);have gs:=g3.trans h1;rw [QO hl k g1 gs (by omega)];refine C4 (CE (by omega) g1) λa r2 hr2 DW hn2=>?_;simp only [eT,BG];have h2:=DW.trans gs;rw [BQ (by simp)];simp only [Al];rw [Ga k hl hr2 h2];refine C4 (C3 _ hr2) λ_ r3 hr3 Gk hn3=>?_;simp only [eU];have h3:=Gk.trans h2;rw [QO hl k hr3 h3 (by omega)];refine C4 (CE (by omega) hr3) λb r4 hr4 Pb hn4=>?_;simp only [eT,BG];have h4:=Pb.trans h3;rw [BQ (by simp)];simp only [Al,got_eq k hl hr4 h4];unfold SF;by_cases hC:Az D0 r4=true;rw [if_pos hC,show Az (⟨#[44]⟩:Ah) r4=true from hC];simp only [cond_true,if_true];obtain ⟨g5,g6,g7⟩:=hr4.tail (AQ hC);have gs5:=g7.trans h4;rw [QO hl k g5 gs5 (by omega),then_assoc];refine C4 (CE (by omega) g5) λc r5 hr5 Xc hn5=>?_;simp only [eT,BG];rw [BQ (by simp)];exact tl 26 0 _ r5 hr5 (Xc.trans gs5) (by omega) (by simp);rw [if_neg hC,show Az (⟨#[44]⟩:Ah) r4=false from by simpa using hC];simp only [cond_false,Bool.false_eq_true,if_false];have:=tl 26 0 ([n]++[a]++[b]) r4 hr4 h4 (by omega) (by simp);simp only [PV.then,List.append_nil];exact this;simp only [if_neg hne,got_eq k hl hr h1,Al];have tl2:∀ (xs:List Tree) (r:List Tk),Good r->r <:+ l->r.length+1<=ts.length->xs.length+r.length<=ts.length+1->PR.bind (Cy.f k l (ix l r) (⟨#[105,110]⟩:Ah)) (λU9=>PR.bind (Dp.f k l U9) λLp=>(apd 64 xs Lp.1).bind λPo=>PR.bind (Cy.f k l Lp.2 (⟨#[100,111]⟩:Ah)) λr19=>PR.bind ((PS.at k).CA l r19 false) λr21=>(apd 64 Po [(Tree.mk r21.1 r21.2.1 r21.2.2.1 r21.2.2.2.1 r21.2.2.2.2.1)]).bind λLh=>PR.bind (Cy.f k l r21.2.2.2.2.2 (⟨#[101,110,100]⟩:Ah)) λEB=>some (PR.ok ((27:Int),(⟨#[]⟩:Ah),((xs.length:Nat):Int),at_,Lh,EB))) =
   some (conv l eT ((CK Il r).then λ_ r=>(Fz r).then λes r=>(Iv r).then λbd r=>.ok (.mk 27 noB xs.length at_ (xs++es++[bd])) r)):=λxs r hr hrl hn hx=>by
  rw [Ga k hl hr hrl];refine C4 (C3 _ hr) λ_ r3 hr3 Gk hn3=>?_;simp only [eU];have h3:=Gk.trans hrl;rw [T8 hl k hr3 h3 (by omega)];cases hv:Fz r3 with
  | bad i=>rfl
  | ok es s =>
   have hf:=IR hr3;rw [hv] at hf;have hln:=ME hr3 hv;show (apd 64 xs es).bind _=_;rw [BQ (by omega)];exact tl 27 xs.length (xs++es) s hf.1 (hf.2.2.trans h3) (by have:=hf.2.1;omega) (by simp only [Bv];omega)
 by_cases hC:Az D0 r=true;rw [show Az (⟨#[44]⟩:Ah) r=true from hC];simp only [cond_true,if_true];obtain ⟨g1,g2,g3⟩:=hr.tail (AQ hC);have gs:=g3.trans h1;rw [XT hl k g1 gs (by omega)];have e:Jj [n] r=(IE r.tail).then λxs r=>.ok ([n]++xs) r:=by
  rw [MZ _ hr,if_pos hC];unfold IE;rw [then_assoc];exact SA (fName 6 g1) λx s hs1 _=>Asb [n] _ [x] s (Nat.le_refl _) hs1
 rw [e,then_assoc];cases hv:IE r.tail with
 | bad i=>rfl
 | ok xs s =>
  have hf:=Nt g1;rw [hv] at hf;have hln:=RJ g1 hv;show (apd 64 [n] xs).bind _=_;rw [BQ (by simp only [AH,AX];omega)];exact tl2 ([n]++xs) s hf.1 (hf.2.2.trans gs) (by have:=hf.2.1;omega) (by simp only [Bv,AH,AX];omega)
 rw [show Az (⟨#[44]⟩:Ah) r=false from by simpa using hC];simp only [cond_false,Bool.false_eq_true,if_false];rw [MZ _ hr,if_neg hC];exact tl2 [n] r hr h1 (by omega) (by simp only [AH,AX];omega)
theorem B13 {ts:List Tk} (hg:Good ts) (hs:ts <:+ l) (hk:16 * ts.length+6<=k):Hh.g (PS.at k) k l (ix l ts)=some (conv l eT (Mk ts)):=by
 unfold Hh.g;rw [Ja k hg hs,Asl hg];simp only [Al,A2,got_eq k hl hg hs];have hle:=hs.length_le;refine Eu (Dc _) (λhc=>?_) λh1=>?_;simp only [hc,if_true];obtain ⟨g1,g2,g3⟩:=hg.tail (AQ hc);have gs:=g3.trans hs;rw [Az8 hc hg,then_assoc,ih.block false _ g1 gs (by omega)];refine C4 (Ih false g1) λb r hr hrs hn=>?_;simp only [eT,BG];rw [Ga k hl hr (hrs.trans gs),then_assoc];exact C4 (C3 _ hr) λ_ _ _ _ _=>rfl;simp only [if_neg h1,got_eq k hl hg hs,Al];refine Eu (Dc _) (λhc=>?_) λh2=>?_;simp only [hc,if_true];obtain ⟨g1,g2,g3⟩:=hg.tail (AQ hc);have gs:=g3.trans hs;rw [QO hl k g1 gs (by omega)];refine C4 (CE (by omega) g1) λe r hr hrs hn=>?_;simp only [eT,BG];exact As5 hl ih (λb=>apd 64 [e] [b]) (λl49 Gs=>some (PR.ok ((25:Int),(⟨#[]⟩:Ah),(0:Int),(hd ts).2.2.2,l49,Gs))) (λb=>.mk 25 noB 0 (hd ts).2.2.2 [e,b]) hr (hrs.trans gs) (by omega) λb s _ _=>⟨_,BQ (by simp),rfl⟩;simp only [if_neg h2,got_eq k hl hg hs,Al];refine Eu (Dc _) (λhc=>?_) λh3=>?_;simp only [hc,if_true];obtain ⟨g1,g2,g3⟩:=hg.tail (AQ hc);rw [ih.branches _ g1 (g3.trans hs) (by omega)];exact C4 (Adp _ g1) λ_ _ _ _ _=>rfl;simp only [if_neg h3,got_eq k hl hg hs,Al];have same:∀ {x:PV Tree},(PR.bind (some (conv l eT x)) λCS=>some (PR.ok (CS.1,CS.2.1,CS.2.2.1,CS.2.2.2.1,CS.2.2.2.2.1,CS.2.2.2.2.2)))=some (conv l eT x):=λ{x}=>by cases x <;> rfl
 refine Eu (Dc _) (λhc=>?_) λh4=>?_;simp only [hc,if_true];obtain ⟨g1,g2,g3⟩:=hg.tail (AQ hc);rw [ih.loop _ _ g1 (g3.trans hs) (by omega)];exact same;simp only [if_neg h4,got_eq k hl hg hs,Al];refine Eu (Dc _) (λhc=>?_) λh5=>?_;simp only [hc,if_true];obtain ⟨g1,g2,g3⟩:=hg.tail (AQ hc);have gs:=g3.trans hs;rw [XT hl k g1 gs (by omega)];cases hv:IE ts.tail with
 | bad i=>rfl
 | ok xs r =>
  have hf:=Nt g1;rw [hv] at hf;have hln:=RJ g1 hv;have hrl:=hf.2.2.trans gs;show (Ca.f k l (ix l r) _).bind _=some (conv l eT ((SD r).then _));rw [got_eq k hl hf.1 hrl];unfold SD;simp only [Al,eL];by_cases hE:Az Cb r=true;rw [if_pos hE,show Az (⟨#[61]⟩:Ah) r=true from hE];simp only [cond_true,if_true];obtain ⟨g4,g5,g6⟩:=hf.1.tail (AQ hE);have h6:=hf.2.1;rw [T8 hl k g4 (g6.trans hrl) (by omega)];cases hv2:Fz r.tail with
  | bad i=>rfl
  | ok es s =>
   have Beq:=ME g4 hv2;show (apd 64 xs es).bind _=_;rw [BQ (by omega)];rfl
  rw [if_neg hE,show Az (⟨#[61]⟩:Ah) r=false from by simpa using hE];simp only [cond_false,Bool.false_eq_true,if_false,PV.then,List.append_nil];rfl
 simp only [if_neg h5,got_eq k hl hg hs,Al];refine Eu (Dc _) (λhc=>?_) λh6=>?_;simp only [hc,if_true];rfl;simp only [if_neg h6];rw [ih.plain _ hg hs (by omega)];exact same
omit ih in
theorem targets_eq (J:List Tree->Int->Option (PR (Int×Ah×Int×Int×List Tree×Int))) (g:List Tree->List Tk->PV Tree) (Ag:Nat) (hJ:∀ a r,Good r->r <:+ l->r.length<=Ag->a.length+r.length<=1000000->J a (ix l r)=some (conv l eT (g a r))) :
  ∀ (m:Nat) (acc:List Tree) (e:Tree) (ts:List Tk),Good ts->ts <:+ l->16 * ts.length+2 < m->ts.length<=Ag->acc.length+ts.length+1<=1000000->ES.l0 m l J e.kind e.text e.n e.at_ e.kids acc (ix l ts)=some (conv l eT ((O9 acc e ts).then g))
 | 0,_,_,_,_,_,h,_,_=>by omega
 | m+1,acc,e,ts,hg,hs,hm,hN,ha=>by
  rw [ES.l0,Asm acc e hg];simp only [A2,BG];have ht:Ot.f m e.kind e.text e.n e.at_ e.kids=some (decide (e.kind=6\/e.kind=7)):=by
   unfold Ot.f;rw [Mz,Mz];by_cases h6:e.kind=6;simp [h6];simp [h6]
  rw [ht];simp only [Al];by_cases hk:e.kind=6\/e.kind=7;rw [if_pos hk,decide_eq_true hk];simp only [Bool.not_true,cond_false];rw [BQ (by simp only [AH,AX];omega)];simp only [Al,got_eq m hl hg hs];by_cases hc:Az D0 ts=true;rw [show Az (⟨#[44]⟩:Ah) ts=true from hc];simp only [Bool.not_true,cond_false,if_true];rw [then_assoc];obtain ⟨g1,g2,g3⟩:=hg.tail (AQ hc);have gs:=g3.trans hs;rw [Aec hl m g1 gs (by omega)];refine C4 (Nu g1) λx r hr hrs hn=>?_;exact targets_eq J g Ag hJ m _ x r hr (hrs.trans gs) (by omega) (by omega) (by simp only [Bv,AH,AX];omega);rw [show Az (⟨#[44]⟩:Ah) ts=false from by simpa using hc];simp only [Bool.not_false,cond_true,Bool.false_eq_true,if_false];exact hJ _ ts hg hs (by omega) (by simp only [Bv,AH,AX];omega);rw [if_neg hk,decide_eq_false hk];rfl
omit ih in
theorem Bxr (k:Nat) {ts:List Tk} (hg:Good ts) (hs:ts <:+ l) (hk:16 * ts.length+5<=k):ES.g (PS.at k) k l (ix l ts)=some (conv l eT (O8 ts)):=by
 unfold ES.g;rw [Aec hl k hg hs (by omega),Asj hg];have hle:=hs.length_le;refine C4 (Nu hg) λe r hr hrs hn=>?_;have h1:=hrs.trans hs;simp only [eT,BG,LN k hr h1,Al,A2];have hq:(cond (!Az (⟨#[61]⟩:Ah) r) (some (!Az (⟨#[44]⟩:Ah) r)) (some false):Option Bool)=some (!(Az Cb r || Az D0 r)):=by
  show (cond (!Az Cb r) (some (!Az D0 r)) (some false):Option Bool)=_;cases Az Cb r <;> cases Az D0 r <;> rfl
 rw [hq];simp only [Al];cases hb:(Az Cb r || Az D0 r) with
 | true =>
  simp only [Bool.not_true,cond_false,if_true];refine targets_eq hl _ (λl r=>(CK Cb r).then λ_ r=>(Fz r).then λes r=>.ok (.mk 22 noB l.length e.at_ (l++es)) r) r.length (λa s hs1 hsl hsn ha=>?_) k [] e r hr h1 (by omega) (Nat.le_refl _) (by simp only [AX];omega);rw [Ga k hl hs1 hsl];refine C4 (C3 _ hs1) λ_ s2 hs2 IW hn2=>?_;simp only [eU];have h2:=IW.trans hsl;have hkey:16 * s2.length+5<=k:=by have:=hs2;omega
  rw [T8 hl k hs2 h2 hkey];cases hv:Fz s2 with
  | bad i=>rfl
  | ok es s3 =>
   have hln:=ME hs2 hv;show (apd 64 a es).bind _=_;rw [BQ (by omega)];rfl
 | false =>
  simp only [Bool.not_false,cond_true,Bool.false_eq_true,if_false];by_cases h8:e.kind=8;rw [if_pos h8,h8];rfl;rw [if_neg h8,show (e.kind != 8)=true by rw [bne_iff_ne];exact h8];simp only [cond_true,Ja k hr h1,Al];rfl
end
theorem aS {l:List Tk} (hl:l.length<=400000):∀ k,AS l k
 | 0=>by constructor <;> intros <;> omega
 | k+1=>by
  have ih:=aS hl k;have h1:l.length<=1000000:=by omega
  exact ⟨λc ts hg hs h=>Ab5 h1 ih c hg hs (by omega),λts hf hg hs h=>A5h h1 ih hf hg hs (by omega),λts hg hs h=>B13 h1 ih hg hs (by omega),λts hg hs h=>A0e h1 ih hg hs (by omega) hl,λat_ ts hg hs h=>A5f h1 ih at_ hg hs (by omega),λts hg hs h=>Bxr h1 k hg hs (by omega)⟩
theorem A4v {l:List Tk} (hl:l.length<=400000) (k:Nat) (c:Bool) {ts:List Tk} (hg:Good ts) (hs:ts <:+ l) (hk:16 * ts.length+8<=k):CA.f k l (ix l ts) c=some (conv l eT (Fi c ts)):=Ab5 (by omega) (aS hl k) c hg hs hk
mutual
def sz:Tree->Nat
 | .mk _ _ _ _ l=>AN l+1
def AN:List Tree->Nat
 | []=>0
 | x :: l=>sz x+AN l
end
mutual
/-- Nodes begin in order. -/
def Du:Tree->Prop
 | .mk k _ _ a l=>EO a l/\(k=20->l.Pairwise λx y=>x.at_ < y.at_)
def EO (a:Int):List Tree->Prop
 | []=>True
 | x :: l=>(a<=x.at_/\Du x)/\EO a l
end
theorem Uw {a:Int}:∀ {l:List Tree},EO a l ↔ ∀ x ∈ l,a<=x.at_/\Du x
 | []=>by simp [EO]
 | x :: l=>by simp [EO,Uw (l:=l)]
theorem Bu:∀ (l m:List Tree),AN (l++m)=AN l+AN m
 | [],m=>by simp [AN]
 | x :: l,m=>by simp only [List.cons_append,AN,Bu l m];omega
theorem Et:∀ (l:List Tree),l.length<=AN l
 | []=>Nat.zero_le _
 | .mk _ _ _ _ _ :: l=>by
  have:=Et l;simp only [AH,AN,sz];omega
def Asc (ts:List Tk):Prop:=ts.Pairwise λa b=>a.2.2.2 < b.2.2.2
def at0 (ts:List Tk):Int:=(hd ts).2.2.2
structure Cl (n:Nat) (ts r:List Tk):Prop where
 good:Good r
 BX:Asc r
 len:r.length+n<=ts.length
 le:at0 ts<=at0 r
 lt:r.length < ts.length->at0 ts < at0 r
theorem Cl.refl {ts:List Tk} (hg:Good ts) (ha:Asc ts):Cl 0 ts ts:=⟨hg,ha,Nat.le_refl _,Int.le_refl _,λh=>absurd h (Nat.lt_irrefl _)⟩
theorem Cl.trans {n m:Nat} {ts r s:List Tk} (h:Cl n ts r) (h':Cl m r s):Cl (n+m) ts s:=by
 refine ⟨h'.good,h'.BX,?_,?_,λhl=>?_⟩;have:=h.len;have:=h'.len;omega;have:=h.le;have:=h'.le;omega;by_cases hr:r.length < ts.length;have:=h.lt hr;have:=h'.le;omega;have:=h'.lt (by omega);have:=h.le;omega
theorem Cl.weak {n m:Nat} {ts r:List Tk} (h:Cl n ts r) (hm:m<=n):Cl m ts r:=⟨h.good,h.BX,by have:=h.len;omega,h.le,h.lt⟩
theorem Cl.tail {n:Nat} {ts r:List Tk} (h:Cl n ts r) (h6:(hd r).1≠6):Cl (n+1) ts r.tail:=by
 obtain ⟨g1,g2,_⟩:=h.good.tail h6;refine h.trans (m:=1) ⟨g1,?_,by omega,?_,?_⟩
 ·cases r with
  | nil=>exact h.BX
  | cons t r=>exact (List.pairwise_cons.1 h.BX).2
 all_goals
  cases r with
  | nil=>exact h.good.elim
  | cons t r =>
   cases r with
   | nil=>exact g1.elim
   | cons u r =>
    have:=(List.pairwise_cons.1 h.BX).1 u (Db ..);simp only [at0,hd,List.tail_cons,List.headD_cons];omega
def R {α:Type} (x:Option (PV α)) (Q:α->List Tk->Prop):Prop:=∀ a r,x=some (.ok a r)->Q a r
section
variable {α β:Type} {x y:Option (PV α)} {f:α->List Tk->Option (PV β)} {Q Q1:α->List Tk->Prop} {Q2:β->List Tk->Prop}
theorem R.bind (h1:R x Q1) (h2:∀ a r,Q1 a r->R (f a r) Q2):R (PV.bind x f) Q2:=λa r h=>by
 rcases bind_some h with ⟨i,_,he⟩ | ⟨a',r',hx,hf⟩;cases he;exact h2 a' r' (h1 a' r' hx) a r hf
theorem R.none:R (none:Option (PV α)) Q:=λ_ _ h=>by cases h
theorem R.bad {i:Int}:R (some (.bad i):Option (PV α)) Q:=λ_ _ h=>by cases h
theorem R.ok {a:α} {r:List Tk} (h:Q a r):R (some (.ok a r)) Q:=λ_ _ h'=>by cases h';exact h
theorem R.ite {c:Prop} [Decidable c] (h1:c->R x Q) (h2:¬ c->R y Q):R (if c then x else y) Q:=by
 by_cases h:c;rw [if_pos h];exact h1 h;rw [if_neg h];exact h2 h
theorem R.weak (h:R x Q1) (h2:∀ a r,Q1 a r->Q a r):R x Q:=λa r h'=>h2 a r (h a r h')
end
structure TE (b:Nat) (ts:List Tk) (n:Tree) (r:List Tk):Prop where
 Bo:Cl 1 ts r
 at_:n.at_=at0 ts
 ord:Du n
 size:sz n+b+4 * r.length<=4 * ts.length
structure LE (m:Nat) (lo:Int) (acc:List Tree) (ts:List Tk) (l:List Tree) (r:List Tk):Prop where
 Bo:Cl m ts r
 ord:EO lo l
 size:AN l+4 * r.length<=AN acc+4 * ts.length
theorem EO.snoc {lo:Int} {l:List Tree} {x:Tree} (h:EO lo l) (h1:lo<=x.at_) (h2:Du x):EO lo (l++[x]):=by
 rw [Uw] at h ⊢;intro y hy;rcases GO.1 hy with hy | hy;exact h y hy;obtain rfl:=GN.1 hy;exact ⟨h1,h2⟩
theorem EO.app {lo:Int} {l m:List Tree} (h:EO lo l) (h':EO lo m):EO lo (l++m):=by
 rw [Uw] at *;intro y hy;exact (GO.1 hy).elim (h y) (h' y)
theorem EO.weak {lo lo':Int} {l:List Tree} (h:EO lo l) (h1:lo'<=lo):EO lo' l:=by
 rw [Uw] at *;exact λy hy=>⟨Int.le_trans h1 (h y hy).1,(h y hy).2⟩
theorem Du.mk {k:Int} {t:Ah} {n a:Int} {l:List Tree} (h:EO a l) (hk:k≠20):Du (.mk k t n a l):=⟨h,λe=>absurd e hk⟩
theorem one {lo:Int} {x:Tree} (h1:lo<=x.at_) (h2:Du x):EO lo [x]:=⟨⟨h1,h2⟩,Aj⟩
theorem Hp {w:Ah} {n:Nat} {ts s:List Tk} (h:Cl n ts s):R (Fw w s) λ_ r=>Cl (n+1) ts r/\r.length+1=s.length:=by
 refine R.ite (λhc=>R.ok ⟨h.tail (AQ hc),?_⟩) λ_=>R.bad;exact (h.good.tail (AQ hc)).2.1
theorem PI {k:Int} {ts:List Tk} (hk:k≠20) (hg:Good ts) (ha:Asc ts):R (I8 k ts) (TE 1 ts):=by
 refine R.ite (λhc=>R.ok ?_) λ_=>R.bad;have h6:(hd ts).1≠6:=by omega
 have:=(hg.tail h6).2.1;exact ⟨((Cl.refl hg ha).tail h6).weak (by omega),rfl,Du.mk trivial hk,by simp only [sz,AN];omega⟩
theorem Zo:∀ (f:Nat) (acc:List Tree) (lo:Int) (ts:List Tk),Good ts->Asc ts->lo<=at0 ts->EO lo acc->R (Gp f acc ts) (LE 0 lo acc ts)
 | 0,_,_,_,_,_,_,_=>R.none
 | f+1,acc,lo,ts,hg,ha,hlo,hacc=>by
  unfold Gp;refine R.ite (λhc=>?_) λ_=>R.ok ⟨Cl.refl hg ha,hacc,Nat.le_refl _⟩;have ht:=(Cl.refl hg ha).tail (AQ hc);have:=ht.len;have:=ht.le;refine R.bind (PI (by decide) ht.good ht.BX) λn r hn=>?_;have:=hn.at_;have:=hn.size;refine R.weak (Zo f _ lo r hn.Bo.good hn.Bo.BX (by have:=hn.Bo.le;omega) (hacc.snoc (by omega) hn.ord)) λl s hl=>?_;have:=hl.size;rw [Bu] at this;simp only [AN] at this;exact ⟨((ht.trans hn.Bo).trans hl.Bo).weak (by omega),hl.ord,by omega⟩
theorem Aov (f:Nat) {lo:Int} {ts:List Tk} (hg:Good ts) (ha:Asc ts) (hlo:lo<=at0 ts):R (ML f ts) (LE 1 lo [] ts):=by
 refine R.bind (PI (by decide) hg ha) λn r hn=>?_;have:=hn.at_;have:=hn.size;refine R.weak (Zo f _ lo r hn.Bo.good hn.Bo.BX (by have:=hn.Bo.le;omega) (one (by omega) hn.ord)) λl s hl=>?_;have:=hl.size;simp only [AN] at this ⊢;exact ⟨(hn.Bo.trans hl.Bo).weak (by omega),hl.ord,by simp only [AN];omega⟩
structure OE (f:Nat):Prop where
 exp:∀ least ts,0<=least->Good ts->Asc ts->R (Dv f least ts) (TE 1 ts)
 loop:∀ least n ts,0<=least->Good ts->Asc ts->Du n->n.at_<=at0 ts->R (Fc f least n ts) λn' r=>Cl 0 ts r/\n'.at_=n.at_/\Du n'/\sz n'+4 * r.length<=sz n+4 * ts.length
 operand:∀ ts,Good ts->Asc ts->R (EQ f ts) (TE 1 ts)
 fields:∀ acc lo ts,Good ts->Asc ts->lo<=at0 ts->EO lo acc->R (EP f acc ts) (LE 1 lo acc ts)
 field:∀ ts,Good ts->Asc ts->R (Fr f ts) (TE 0 ts)
 DY:∀ ts,Good ts->Asc ts->R (E1 f ts) (TE 1 ts)
 DP:∀ at_ n ts,Good ts->Asc ts->Du n->at_=n.at_->n.at_<=at0 ts->R (E0 f at_ n ts) λn' r=>Cl 0 ts r/\n'.at_=n.at_/\Du n'/\sz n'+4 * r.length<=sz n+4 * ts.length
 Di:∀ lo ts,Good ts->Asc ts->lo<=at0 ts->R (Ez f ts) (LE 1 lo [] ts)
 Gh:∀ acc lo ts,Good ts->Asc ts->lo<=at0 ts->EO lo acc->R (Fb f acc ts) (LE 0 lo acc ts)
theorem Py {k:Int} {t:Ah} {n:Int} {ts:List Tk} (hk:k≠20) (hg:Good ts) (ha:Asc ts) (h6:(hd ts).1≠6):TE 1 ts (.mk k t n (hd ts).2.2.2 []) ts.tail:=by
 have:=(hg.tail h6).2.1;exact ⟨((Cl.refl hg ha).tail h6).weak (by omega),rfl,Du.mk trivial hk,by simp only [sz,AN];omega⟩
theorem rE:∀ f,OE f
 | 0=>by constructor <;> intros <;> (first | unfold Dv | unfold Fc | unfold EQ | unfold EP | unfold Fr | unfold E1 | unfold E0 | unfold Ez | unfold Fb) <;> exact R.none
 | f+1=>by
  have ih:=rE f;constructor;intro least ts hl hg ha;unfold Dv;refine R.bind (ih.operand ts hg ha) λn r hn=>?_;have:=hn.at_;have:=hn.size;have:=hn.Bo.le;refine R.weak (ih.loop least n r hl hn.Bo.good hn.Bo.BX hn.ord (by omega)) λn' s ⟨h1,h2,h3,h4⟩=>?_;exact ⟨(hn.Bo.trans h1).weak (by omega),by omega,h3,by omega⟩;intro least n ts hl hg ha hn hat;unfold Fc;refine R.ite (λ_=>R.ok ⟨Cl.refl hg ha,rfl,hn,Nat.le_refl _⟩) λhc=>?_;have hb:=Vu ts;have ht:=(Cl.refl hg ha).tail (KY (by omega));have:=ht.len;have:=ht.le;refine R.bind (ih.exp _ _ (by split <;> omega) ht.good ht.BX) λm r hm=>?_;have:=hm.at_;have:=hm.size;have:=hm.Bo.le;refine R.weak (ih.loop least _ r hl hm.Bo.good hm.Bo.BX (Du.mk ⟨⟨Int.le_refl _,hn⟩,⟨by omega,hm.ord⟩,Aj⟩ (by decide)) (show n.at_<=_ by omega)) λn' s ⟨h1,h2,h3,h4⟩=>?_;simp only [sz,AN] at h4;exact ⟨((ht.trans hm.Bo).trans h1).weak (by omega),h2,h3,by omega⟩;intro ts hg ha;unfold EQ;refine R.ite (λh=>R.ok (Py (by decide) hg ha (by omega))) λ_=>?_;refine R.ite (λh=>R.ok (Py (by decide) hg ha (by omega))) λ_=>?_;refine R.ite (λh=>R.ok (Py (by decide) hg ha (AQ h))) λ_=>?_;refine R.ite (λh=>R.ok (Py (by decide) hg ha (AQ h))) λ_=>?_;refine R.ite (λh=>R.ok (Py (by decide) hg ha (AQ h))) λ_=>?_;refine R.ite (λh=>?_) λ_=>?_;have h6:(hd ts).1≠6:=by
   simp only [Bool.or_eq_true] at h;rcases h with (h | h) | h <;> exact AQ h
  have ht:=(Cl.refl hg ha).tail h6;have:=ht.len;have:=ht.le;refine R.bind (ih.exp _ _ (by decide) ht.good ht.BX) λm r hm=>R.ok ?_;have:=hm.at_;have:=hm.size;have:=hm.Bo.le;exact ⟨(ht.trans hm.Bo).weak (by omega),rfl,Du.mk (one (show at0 ts<=_ by omega) hm.ord) (by decide),by simp only [sz,AN];omega⟩;refine R.ite (λh=>?_) λ_=>ih.DY ts hg ha;have ht:=(Cl.refl hg ha).tail (AQ h);have:=ht.len;have:=ht.le;refine R.bind (ih.fields [] (at0 ts) _ ht.good ht.BX (by omega) Aj) λl r hl=>R.ok ?_;have h5:=hl.size;simp only [AN] at h5;exact ⟨(ht.trans hl.Bo).weak (by omega),rfl,Du.mk hl.ord (by decide),by simp only [sz];omega⟩;intro acc lo ts hg ha hlo hacc;unfold EP;refine R.ite (λh=>?_) λ_=>?_;have ht:=(Cl.refl hg ha).tail (AQ h);have:=ht.len;exact R.ok ⟨ht.weak (by omega),hacc,by omega⟩;refine R.bind (ih.field ts hg ha) λx r hx=>?_;have:=hx.at_;have:=hx.size;have:=hx.Bo.le;have hacc':=hacc.snoc (x:=x) (by omega) hx.ord;refine R.ite (λh=>?_) λ_=>?_;have ht:=hx.Bo.tail (AQ h);have:=ht.len;have:=ht.le;have:=(hx.Bo.good.tail (AQ h)).2.1;refine R.weak (ih.fields _ lo _ ht.good ht.BX (by omega) hacc') λl s hl=>?_;have h5:=hl.size;simp only [Bu,AN] at h5;exact ⟨(ht.trans hl.Bo).weak (by omega),hl.ord,by omega⟩;refine R.ite (λh=>?_) λ_=>?_;have ht:=hx.Bo.tail (AQ h);have:=ht.len;have:=ht.le;have:=(hx.Bo.good.tail (AQ h)).2.1;refine R.weak (ih.fields _ lo _ ht.good ht.BX (by omega) hacc') λl s hl=>?_;have h5:=hl.size;simp only [Bu,AN] at h5;exact ⟨(ht.trans hl.Bo).weak (by omega),hl.ord,by omega⟩;refine R.bind (Hp hx.Bo) λ_ s ⟨hs,hs2⟩=>R.ok ?_;exact ⟨hs.weak (by omega),hacc',by simp only [Bu,AN];omega⟩;intro ts hg ha;unfold Fr;refine R.ite (λh=>?_) λ_=>?_;have ht:=(Cl.refl hg ha).tail (AQ h);have:=ht.len;have:=ht.le;refine R.bind (ih.exp _ _ (by decide) ht.good ht.BX) λk r hk=>?_;have:=hk.at_;have:=hk.size;have:=hk.Bo.le;refine R.bind (Hp (ht.trans hk.Bo)) λ_ r2 ⟨h2,h2'⟩=>?_;refine R.bind (Hp h2) λ_ r3 ⟨h3,h3'⟩=>?_;have:=h3.le;refine R.bind (ih.exp _ _ (by decide) h3.good h3.BX) λv r4 hv=>R.ok ?_;have:=hv.at_;have:=hv.size;exact ⟨(h3.trans hv.Bo).weak (by omega),rfl,Du.mk ⟨⟨show at0 ts<=_ by omega,hk.ord⟩,⟨show at0 ts<=_ by omega,hv.ord⟩,Aj⟩ (by decide),by simp only [sz,AN];omega⟩;refine R.ite (λh=>?_) λ_=>?_;obtain ⟨h1,h2,_⟩:=h;have ht:=((Cl.refl hg ha).tail (by omega)).tail (by omega);have:=ht.len;have:=ht.le;refine R.bind (ih.exp _ _ (by decide) ht.good ht.BX) λv r hv=>R.ok ?_;have:=hv.at_;have:=hv.size;exact ⟨(ht.trans hv.Bo).weak (by omega),rfl,Du.mk ⟨⟨Int.le_refl _,Du.mk trivial (by decide)⟩,⟨show at0 ts<=_ by omega,hv.ord⟩,Aj⟩ (by decide),by simp only [sz,AN];omega⟩;refine R.bind (ih.exp _ _ (by decide) hg ha) λv r hv=>R.ok ?_;have:=hv.at_;have:=hv.size;exact ⟨hv.Bo,rfl,Du.mk (one (show at0 ts<=_ by omega) hv.ord) (by decide),by simp only [sz,AN];omega⟩;intro ts hg ha;unfold E1;refine R.ite (λh=>?_) λ_=>?_;have ht:=(Cl.refl hg ha).tail (AQ h);have:=ht.len;have:=ht.le;refine R.bind (ih.exp _ _ (by decide) ht.good ht.BX) λe r he=>?_;have:=he.at_;have:=he.size;refine R.bind (Hp (ht.trans he.Bo)) λ_ r2 ⟨h2,h2'⟩=>?_;have:=h2.le;refine R.weak (ih.DP _ _ r2 h2.good h2.BX (Du.mk (one (show at0 ts<=_ by omega) he.ord) (by decide)) rfl (show at0 ts<=_ by omega)) λn' s ⟨h3,h4,h5,h6⟩=>?_;simp only [sz,AN] at h6;exact ⟨(h2.trans h3).weak (by omega),h4,h5,by omega⟩;refine R.bind (PI (by decide) hg ha) λn r hn=>?_;have:=hn.at_;have:=hn.size;have:=hn.Bo.le;refine R.weak (ih.DP _ _ r hn.Bo.good hn.Bo.BX hn.ord hn.at_.symm (by omega)) λn' s ⟨h3,h4,h5,h6⟩=>?_;exact ⟨(hn.Bo.trans h3).weak (by omega),by omega,h5,by omega⟩;intro at_ n ts hg ha hn he hat;unfold E0;subst he;refine R.ite (λh=>?_) λ_=>?_;have ht:=(Cl.refl hg ha).tail (AQ h);have:=ht.len;have:=ht.le;refine R.bind (ih.exp _ _ (by decide) ht.good ht.BX) λe r he=>?_;have:=he.at_;have:=he.size;refine R.bind (Hp (ht.trans he.Bo)) λ_ r2 ⟨h2,h2'⟩=>?_;have:=h2.le;refine R.weak (ih.DP _ _ r2 h2.good h2.BX (Du.mk ⟨⟨Int.le_refl _,hn⟩,⟨by omega,he.ord⟩,Aj⟩ (by decide)) rfl (show n.at_<=_ by omega)) λn' s ⟨h3,h4,h5,h6⟩=>?_;simp only [sz,AN] at h6;exact ⟨(h2.trans h3).weak (by omega),h4,h5,by omega⟩;refine R.ite (λh=>?_) λ_=>?_;have ht:=(Cl.refl hg ha).tail (AQ h);have:=ht.len;have:=ht.le;refine R.bind (PI (by decide) ht.good ht.BX) λe r he=>?_;have:=he.at_;have:=he.size;have:=he.Bo.le;refine R.weak (ih.DP _ _ r he.Bo.good he.Bo.BX (Du.mk ⟨⟨Int.le_refl _,hn⟩,⟨by omega,he.ord⟩,Aj⟩ (by decide)) rfl (show n.at_<=_ by omega)) λn' s ⟨h3,h4,h5,h6⟩=>?_;simp only [sz,AN] at h6;exact ⟨((ht.trans he.Bo).trans h3).weak (by omega),h4,h5,by omega⟩;refine R.ite (λh=>?_) λ_=>R.ok ⟨Cl.refl hg ha,rfl,hn,Nat.le_refl _⟩;have ht:=(Cl.refl hg ha).tail (AQ h);have:=ht.len;have:=ht.le;refine R.bind (Q1:=LE 0 n.at_ [] ts.tail) ?_ λl r hl=>?_;refine R.ite (λ_=>R.ok ⟨Cl.refl ht.good ht.BX,Aj,Nat.le_refl _⟩) λ_=>?_;exact R.weak (ih.Di n.at_ _ ht.good ht.BX (by omega)) λl r hl=>⟨hl.Bo.weak (by omega),hl.ord,hl.size⟩;refine R.bind (Hp (ht.trans hl.Bo)) λ_ r2 ⟨h2,h2'⟩=>?_;have:=h2.le;have h7:=hl.size;simp only [AN] at h7;refine R.weak (ih.DP _ _ r2 h2.good h2.BX (Du.mk ⟨⟨Int.le_refl _,hn⟩,hl.ord⟩ (by decide)) rfl (show n.at_<=_ by omega)) λn' s ⟨h3,h4,h5,h6⟩=>?_;simp only [sz,AN] at h6;exact ⟨(h2.trans h3).weak (by omega),h4,h5,by omega⟩;intro lo ts hg ha hlo;unfold Ez;refine R.bind (ih.exp _ _ (by decide) hg ha) λe r he=>?_;have:=he.at_;have:=he.size;have:=he.Bo.le;refine R.weak (ih.Gh _ lo r he.Bo.good he.Bo.BX (by omega) (one (by omega) he.ord)) λl s hl=>?_;have h7:=hl.size;simp only [AN] at h7;exact ⟨(he.Bo.trans hl.Bo).weak (by omega),hl.ord,by simp only [AN];omega⟩;intro acc lo ts hg ha hlo hacc;unfold Fb;refine R.ite (λh=>?_) λ_=>R.ok ⟨Cl.refl hg ha,hacc,Nat.le_refl _⟩;have ht:=(Cl.refl hg ha).tail (AQ h);have:=ht.len;have:=ht.le;refine R.bind (ih.exp _ _ (by decide) ht.good ht.BX) λe r he=>?_;have:=he.at_;have:=he.size;have:=he.Bo.le;refine R.weak (ih.Gh _ lo r he.Bo.good he.Bo.BX (by omega) (hacc.snoc (by omega) he.ord)) λl s hl=>?_;have h7:=hl.size;simp only [Bu,AN] at h7;exact ⟨((ht.trans he.Bo).trans hl.Bo).weak (by omega),hl.ord,by omega⟩
structure TB (ts:List Tk) (n:Tree) (r:List Tk):Prop where
 Bo:Cl 0 ts r
 at_:n.at_=at0 ts
 ord:Du n
 size:sz n+4 * r.length<=4 * ts.length+1
 kind:n.kind=20
structure OS (f:Nat):Prop where
 block:∀ c ts,Good ts->Asc ts->R (E6 f c ts) (TB ts)
 Ep:∀ c at_ acc ts,Good ts->Asc ts->at_<=at0 ts->EO at_ acc->(acc.Pairwise λx y=>x.at_ < y.at_)->(∀ x ∈ acc,x.at_ < at0 ts)->R (Ey f c at_ acc ts) λn r=>Cl 0 ts r/\n.at_=at_/\Du n/\sz n+4 * r.length<=AN acc+4 * ts.length+1/\n.kind=20
 function:∀ ts,(hd ts).1≠6->Good ts->Asc ts->R (Ft f ts) (TE 0 ts)
 body:∀ ts,Good ts->Asc ts->R (E7 f ts) λb r=>Cl 2 ts r/\at0 ts<=b.at_/\Du b/\sz b+4 * r.length+7<=4 * ts.length
 stat:∀ ts,Good ts->Asc ts->R (Fv f ts) (TE 0 ts)
 branches:∀ acc lo ts,Good ts->Asc ts->lo<=at0 ts->EO lo acc->R (Fa f acc ts) (LE 1 lo acc ts)
 for_:∀ at_ ts,Good ts->Asc ts->at_<=at0 ts->R (Fs f at_ ts) λn r=>Cl 1 ts r/\n.at_=at_/\Du n/\sz n+4 * r.length<=4 * ts.length
 plain:∀ ts,Good ts->Asc ts->R (Fu f ts) (TE 0 ts)
 targets:∀ acc lo e ts,Good ts->Asc ts->lo<=at0 ts->EO lo acc->lo<=e.at_->Du e->R (Fe f acc e ts) λl r=>Cl 0 ts r/\EO lo l/\AN l+4 * r.length<=AN acc+sz e+4 * ts.length
theorem Amc {acc:List Tree} {x:Tree} (h:acc.Pairwise λx y=>x.at_ < y.at_) (h2:∀ y ∈ acc,y.at_ < x.at_):(acc++[x]).Pairwise λx y=>x.at_ < y.at_:=by
 refine List.pairwise_append.2 ⟨h,List.pairwise_singleton ..,λy hy z hz=>?_⟩;obtain rfl:=GN.1 hz;exact h2 y hy
theorem rS:∀ f,OS f
 | 0=>by constructor <;> intros <;> (first | unfold E6 | unfold Ey | unfold Ft | unfold E7 | unfold Fv | unfold Fa | unfold Fs | unfold Fu | unfold Fe) <;> exact R.none
 | f+1=>by
  have ih:=rS f;have ie:=rE f;constructor
  ·intro c ts hg ha;unfold E6
   refine R.weak (ih.Ep c _ [] ts hg ha (Int.le_refl _) trivial List.Pairwise.nil (λ_ h=>by cases h)) λn r ⟨h1,h2,h3,h4,h5⟩=>?_;simp only [AN] at h4;exact ⟨h1,h2,h3,by omega,h5⟩
  ·intro c at_ acc ts hg ha hat hacc hp hlt;unfold Ey
   have next:∀ x r,TE 0 ts x r->R (Ey f c at_ (acc++[x]) r) λn r=>Cl 0 ts r/\n.at_=at_/\Du n/\sz n+4 * r.length<=AN acc+4 * ts.length+1/\n.kind=20:=λx r hx=>by
    have:=hx.at_;have:=hx.size;have:=hx.Bo.len;have h9:=hx.Bo.lt (by omega);refine R.weak (ih.Ep c at_ (acc++[x]) r hx.Bo.good hx.Bo.BX (by omega) (hacc.snoc (by omega) hx.ord) (Amc hp λy hy=>by have:=hlt y hy;omega) λy hy=>?_) λn s ⟨h1,h2,h3,h4,h5⟩=>?_
    ·rcases GO.1 hy with hy | hy
     ·have:=hlt y hy;omega
     ·obtain rfl:=GN.1 hy;omega
    ·simp only [Bu,AN] at h4
     exact ⟨(hx.Bo.trans h1).weak (by omega),h2,h3,by omega,h5⟩
   refine R.ite (λh=>?_) λ_=>?_
   ·have ht:=(Cl.refl hg ha).tail (AQ h)
    have:=ht.len;have:=ht.le;refine R.weak (ih.Ep c at_ acc _ ht.good ht.BX (by omega) hacc hp λx hx=>by have:=hlt x hx;omega) λn s ⟨h1,h2,h3,h4,h5⟩=>?_;exact ⟨(ht.trans h1).weak (by omega),h2,h3,by omega,h5⟩
   refine R.ite (λh=>?_) λ_=>?_
   ·have ht:=(Cl.refl hg ha).tail (AQ h)
    have:=ht.len;have:=ht.le;refine R.bind (Q1:=LE 0 (at0 ts) [] ts.tail) ?_ λl r hl=>?_
    ·refine R.ite (λ_=>R.ok ⟨Cl.refl ht.good ht.BX,Aj,Nat.le_refl _⟩) λ_=>?_
     exact R.weak (ie.Di (at0 ts) _ ht.good ht.BX (by omega)) λl r hl=>⟨hl.Bo.weak (by omega),hl.ord,hl.size⟩
    have h7:=hl.size;simp only [AN] at h7;have hr:Cl 0 ts (if Az EN r=true then r.tail else r)/\(if Az EN r=true then r.tail else r).length<=r.length:=by
     split
     ·rename_i hc
      have:=(hl.Bo.good.tail (AQ hc)).2.1;exact ⟨((ht.trans hl.Bo).tail (AQ hc)).weak (by omega),by omega⟩
     ·exact ⟨(ht.trans hl.Bo).weak (by omega),Nat.le_refl _⟩
    have:=hr.2;refine R.ok ⟨hr.1,rfl,⟨hacc.snoc (show at_<=at0 ts by omega) (Du.mk hl.ord (by decide)),λ_=>Amc hp λy hy=>hlt y hy⟩,?_,rfl⟩;simp only [sz,AN,Bu];omega
   refine R.ite (λh=>?_) λ_=>?_
   ·simp only [Bool.and_eq_true] at h
    exact R.bind (ih.function ts (AQ h.2) hg ha) next
   refine R.ite (λh=>?_) λ_=>R.bind (ih.stat ts hg ha) next;refine R.ok ⟨Cl.refl hg ha,rfl,⟨hacc,λ_=>hp⟩,?_,rfl⟩;simp only [sz];omega
  ·intro ts h6 hg ha;unfold Ft
   have ht:=(Cl.refl hg ha).tail h6;have:=ht.len;have:=ht.le;refine R.bind (PI (by decide) ht.good ht.BX) λnm r hn=>?_;have:=hn.size;have hnp:1<=sz nm:=by cases nm;simp only [sz];omega
   refine R.bind (Hp (ht.trans hn.Bo)) λ_ r2 ⟨h2,h2'⟩=>?_;have:=h2.le;refine R.bind (Q1:=LE 0 (at0 ts) [] r2) ?_ λps r3 hl=>?_
   ·refine R.ite (λ_=>R.ok ⟨Cl.refl h2.good h2.BX,Aj,Nat.le_refl _⟩) λ_=>?_
    exact R.weak (Aov f h2.good h2.BX (by omega)) λl r hl=>⟨hl.Bo.weak (by omega),hl.ord,hl.size⟩
   refine R.bind (Hp (h2.trans hl.Bo)) λ_ r4 ⟨h4,h4'⟩=>?_;have h7:=hl.size;simp only [AN] at h7;have:=h4.le;refine R.bind (ih.block false r4 h4.good h4.BX) λb r5 hb=>?_;have:=hb.at_;have:=hb.size;refine R.bind (Hp (h4.trans hb.Bo)) λ_ r6 ⟨h8,h8'⟩=>R.ok ?_;refine ⟨h8.weak (by omega),rfl,Du.mk (hl.ord.snoc (show at0 ts<=_ by omega) hb.ord) (by decide),?_⟩;simp only [sz,AN,Bu];omega
  ·intro ts hg ha;unfold E7
   refine R.bind (Hp (Cl.refl hg ha)) λ_ r ⟨h1,h1'⟩=>?_;have:=h1.le;refine R.bind (ih.block false r h1.good h1.BX) λb r2 hb=>?_;have:=hb.at_;have:=hb.size;refine R.bind (Hp (h1.trans hb.Bo)) λ_ r3 ⟨h3,h3'⟩=>R.ok ?_;exact ⟨h3.weak (by omega),by omega,hb.ord,by omega⟩
  ·intro ts hg ha;unfold Fv
   refine R.ite (λh=>?_) λ_=>?_
   ·refine R.bind (ih.body ts hg ha) λb r ⟨h1,h2,h3,h4⟩=>R.ok ?_
    exact ⟨h1.weak (by omega),rfl,Du.mk (one (show at0 ts<=_ by omega) h3) (by decide),by simp only [sz,AN];omega⟩
   refine R.ite (λh=>?_) λ_=>?_
   ·have ht:=(Cl.refl hg ha).tail (AQ h)
    have:=ht.len;have:=ht.le;refine R.bind (ie.exp _ _ (by decide) ht.good ht.BX) λe r he=>?_;have:=he.at_;have:=he.size;have:=he.Bo.le;refine R.bind (ih.body r he.Bo.good he.Bo.BX) λb r ⟨h1,h2,h3,h4⟩=>R.ok ?_;exact ⟨((ht.trans he.Bo).trans h1).weak (by omega),rfl,Du.mk ⟨⟨show at0 ts<=_ by omega,he.ord⟩,⟨show at0 ts<=_ by omega,h3⟩,Aj⟩ (by decide),by simp only [sz,AN];omega⟩
   refine R.ite (λh=>?_) λ_=>?_
   ·have ht:=(Cl.refl hg ha).tail (AQ h)
    have:=ht.len;have:=ht.le;refine R.bind (ih.branches [] (at0 ts) _ ht.good ht.BX (by omega) Aj) λl r hl=>R.ok ?_;have h7:=hl.size;simp only [AN] at h7;exact ⟨(ht.trans hl.Bo).weak (by omega),rfl,Du.mk hl.ord (by decide),by simp only [sz];omega⟩
   refine R.ite (λh=>?_) λ_=>?_
   ·have ht:=(Cl.refl hg ha).tail (AQ h)
    have:=ht.len;have:=ht.le;refine R.weak (ih.for_ (at0 ts) _ ht.good ht.BX (by omega)) λn r ⟨h1,h2,h3,h4⟩=>?_;exact ⟨(ht.trans h1).weak (by omega),h2,h3,by omega⟩
   refine R.ite (λh=>?_) λ_=>?_
   ·have ht:=(Cl.refl hg ha).tail (AQ h)
    have:=ht.len;have:=ht.le;refine R.bind (Aov f ht.good ht.BX (lo:=at0 ts) (by omega)) λl r hl=>?_;have:=hl.Bo.le;have h7:=hl.size;simp only [AN] at h7;refine R.bind (Q1:=LE 0 (at0 ts) [] r) ?_ λes r2 he=>R.ok ?_
    ·refine R.ite (λhc=>?_) λ_=>R.ok ⟨Cl.refl hl.Bo.good hl.Bo.BX,Aj,Nat.le_refl _⟩
     have ht2:=(Cl.refl hl.Bo.good hl.Bo.BX).tail (AQ hc);have:=ht2.len;have:=ht2.le;exact R.weak (ie.Di (at0 ts) _ ht2.good ht2.BX (by omega)) λl r hl=>⟨(ht2.trans hl.Bo).weak (by omega),hl.ord,by have:=hl.size;omega⟩
    have h8:=he.size;simp only [AN] at h8;exact ⟨((ht.trans hl.Bo).trans he.Bo).weak (by omega),rfl,Du.mk (hl.ord.app he.ord) (by decide),by simp only [sz,Bu];omega⟩
   refine R.ite (λh=>?_) λ_=>ih.plain ts hg ha;have:=Py (k:=29) (t:=noB) (n:=0) (by decide) hg ha (AQ h);exact R.ok ⟨this.Bo,this.at_,this.ord,by have:=this.size;omega⟩
  ·intro acc lo ts hg ha hlo hacc;unfold Fa
   refine R.bind (ie.exp _ _ (by decide) hg ha) λe r he=>?_;have:=he.at_;have:=he.size;have:=he.Bo.le;refine R.bind (Hp he.Bo) λ_ r2 ⟨h2,h2'⟩=>?_;have:=h2.le;refine R.bind (ih.block false r2 h2.good h2.BX) λb r3 hb=>?_;have:=hb.at_;have:=hb.size;have:=hb.Bo.le;have h3:=h2.trans hb.Bo;have hacc':=(hacc.snoc (x:=e) (by omega) he.ord).snoc (x:=b) (by omega) hb.ord;refine R.ite (λh=>?_) λ_=>?_
   ·have ht:=h3.tail (AQ h)
    have:=ht.le;have:=(h3.good.tail (AQ h)).2.1;refine R.weak (ih.branches _ lo _ ht.good ht.BX (by omega) hacc') λl s hl=>?_;have h7:=hl.size;simp only [Bu,AN] at h7;exact ⟨(ht.trans hl.Bo).weak (by omega),hl.ord,by omega⟩
   refine R.ite (λh=>?_) λ_=>?_
   ·have ht:=h3.tail (AQ h)
    have:=ht.le;have:=(h3.good.tail (AQ h)).2.1;refine R.bind (ih.block false _ ht.good ht.BX) λc r4 hc=>?_;have:=hc.at_;have:=hc.size;refine R.bind (Hp (ht.trans hc.Bo)) λ_ r5 ⟨h5,h5'⟩=>R.ok ?_;exact ⟨h5.weak (by omega),hacc'.snoc (by omega) hc.ord,by simp only [Bu,AN];omega⟩
   ·refine R.bind (Hp h3) λ_ r5 ⟨h5,h5'⟩=>R.ok ?_
    exact ⟨h5.weak (by omega),hacc',by simp only [Bu,AN];omega⟩
  ·intro at_ ts hg ha hat;unfold Fs
   refine R.bind (PI (by decide) hg ha) λn r hn=>?_;have:=hn.at_;have:=hn.size;have:=hn.Bo.le;refine R.ite (λh=>?_) λ_=>?_
   ·have ht:=hn.Bo.tail (AQ h)
    have:=ht.le;have:=(hn.Bo.good.tail (AQ h)).2.1;refine R.bind (ie.exp _ _ (by decide) ht.good ht.BX) λa r2 h2=>?_;have:=h2.at_;have:=h2.size;refine R.bind (Hp (ht.trans h2.Bo)) λ_ r3 ⟨h3,h3'⟩=>?_;have:=h3.le;refine R.bind (ie.exp _ _ (by decide) h3.good h3.BX) λb r4 h4=>?_;have:=h4.at_;have:=h4.size;have:=h4.Bo.le;refine R.bind (Q1:=LE 0 at_ [] r4) ?_ λcs r5 h5=>?_
    ·refine R.ite (λhc=>?_) λ_=>R.ok ⟨Cl.refl h4.Bo.good h4.Bo.BX,Aj,Nat.le_refl _⟩
     have ht2:=(Cl.refl h4.Bo.good h4.Bo.BX).tail (AQ hc);have:=ht2.len;have:=ht2.le;refine R.bind (ie.exp _ _ (by decide) ht2.good ht2.BX) λc s hc=>R.ok ?_;have:=hc.at_;have:=hc.size;exact ⟨(ht2.trans hc.Bo).weak (by omega),one (by omega) hc.ord,by simp only [AN];omega⟩
    have h7:=h5.size;simp only [AN] at h7;have:=h5.Bo.le;refine R.bind (ih.body r5 h5.Bo.good h5.Bo.BX) λbd r6 ⟨h8,h9,h10,h11⟩=>R.ok ?_;refine ⟨(((h3.trans h4.Bo).trans h5.Bo).trans h8).weak (by omega),rfl,Du.mk ?_ (by decide),by simp only [sz,Bu,AN];omega⟩;exact ((((one (x:=n) (by omega) hn.ord).snoc (x:=a) (by omega) h2.ord).snoc (x:=b) (by omega) h4.ord).app h5.ord).snoc (x:=bd) (by omega) h10
   refine R.bind (Zo f [n] at_ r hn.Bo.good hn.Bo.BX (by omega) (one (by omega) hn.ord)) λl r2 hl=>?_;have h7:=hl.size;simp only [AN] at h7;refine R.bind (Hp (hn.Bo.trans hl.Bo)) λ_ r3 ⟨h3,h3'⟩=>?_;have:=h3.le;refine R.bind (ie.Di at_ r3 h3.good h3.BX (by omega)) λes r4 h4=>?_;have h8:=h4.size;simp only [AN] at h8;have:=h4.Bo.le;refine R.bind (ih.body r4 h4.Bo.good h4.Bo.BX) λbd r6 ⟨h9,h10,h11,h12⟩=>R.ok ?_;exact ⟨((h3.trans h4.Bo).trans h9).weak (by omega),rfl,Du.mk ((hl.ord.app h4.ord).snoc (x:=bd) (by omega) h11) (by decide),by simp only [sz,Bu,AN];omega⟩
  ·intro ts hg ha;unfold Fu
   refine R.bind (ie.DY ts hg ha) λe r he=>?_;have:=he.at_;have:=he.size;have:=he.Bo.le;refine R.ite (λh=>?_) λ_=>?_
   ·refine R.bind (ih.targets [] (at0 ts) e r he.Bo.good he.Bo.BX (by omega) trivial (by omega) he.ord) λl r2 ⟨h1,h2,h3⟩=>?_
    simp only [AN] at h3;refine R.bind (Hp (he.Bo.trans h1)) λ_ r3 ⟨h4,h4'⟩=>?_;have:=h4.le;refine R.bind (ie.Di (at0 ts) r3 h4.good h4.BX (by omega)) λes r4 h5=>R.ok ?_;have h6:=h5.size;simp only [AN] at h6;exact ⟨(h4.trans h5.Bo).weak (by omega),he.at_,Du.mk ((h2.app h5.ord).weak (by omega)) (by decide),by simp only [sz,Bu];omega⟩
   refine R.ite (λh=>R.ok ?_) λ_=>R.bad;exact ⟨he.Bo,he.at_,Du.mk (one (Int.le_refl _) he.ord) (by decide),by simp only [sz,AN];omega⟩
  ·intro acc lo e ts hg ha hlo hacc he0 he;unfold Fe
   refine R.ite (λh=>?_) λ_=>R.bad;have hacc':=hacc.snoc he0 he;refine R.ite (λh=>?_) λ_=>R.ok ⟨Cl.refl hg ha,hacc',by simp only [Bu,AN];omega⟩;have ht:=(Cl.refl hg ha).tail (AQ h);have:=ht.len;have:=ht.le;refine R.bind (ie.DY _ ht.good ht.BX) λe' r hx=>?_;have:=hx.at_;have:=hx.size;have:=hx.Bo.le;refine R.weak (ih.targets _ lo e' r hx.Bo.good hx.Bo.BX (by omega) hacc' (by omega) hx.ord) λl s ⟨h1,h2,h3⟩=>?_;simp only [Bu,AN] at h3;exact ⟨((ht.trans hx.Bo).trans h1).weak (by omega),h2,by omega⟩
theorem B3a {c:Bool} {ts r:List Tk} {b:Tree} (hg:Good ts) (ha:Asc ts) (h:Fi c ts=.ok b r):TB ts b r :=
 (rS _).block c ts hg ha b r ((Ol c hg (by unfold fu;omega:_<=fu ts)).trans (congrArg some h))
end
section
namespace Lx
theorem Zt (f:Nat) (l:Bs) (at_:Nat) (acc:List Tok):FN (f+1) l at_ acc =
  match De (l.drop (Bp Cn l)) with
  | .done=>.inr (acc++[⟨6,[],0,at_+Bp Cn l⟩])
  | .skip n=>FN f ((l.drop (Bp Cn l)).drop n) (at_+Bp Cn l+n) acc
  | .tok kind text n len=>FN f ((l.drop (Bp Cn l)).drop len) (at_+Bp Cn l+len) (acc++[⟨kind,text,n,at_+Bp Cn l⟩])
  | .bad c r=>.inl (c,(at_+Bp Cn l+r:Nat)):=rfl
theorem Nr (b:UInt8) (t:Bs) (h:b.toNat < 128):Ba (b :: t)=(b.toNat,1):=by
 unfold Ba;simp only [List.getD_cons_zero];rw [if_pos h]
end Lx
namespace Lx
theorem K9 (l:Bs):(∀ n,De l=.skip n->1<=n/\n<=l.length)/\(∀ k t n len,De l=.tok k t n len->1<=len/\len<=l.length) :=
 ⟨λn h=>Ap9 l n h,λk t n len h=>Aqa l k t n len h⟩
theorem UG:∀ (f g:Nat) (l:Bs) (at_:Nat) (acc:List Tok),l.length < f->l.length < g->FN f l at_ acc=FN g l at_ acc
 | 0,_,l,_,_,h,_=>by omega
 | _,0,l,_,_,_,h=>by omega
 | f+1,g+1,l,at_,acc,h,h'=>by
  rw [Zt,Zt];have hd:(l.drop (Bp Cn l)).length<=l.length:=by rw [BA];omega
  cases hst:De (l.drop (Bp Cn l)) with
  | done=>rfl
  | bad c r=>rfl
  | skip n =>
   have:=(K9 _).1 n hst;exact UG f g _ _ _ (by rw [BA];omega) (by rw [BA];omega)
  | tok k t n len =>
   have:=(K9 _).2 k t n len hst;exact UG f g _ _ _ (by rw [BA];omega) (by rw [BA];omega)
def Iu (l:Bs) (at_:Nat) (acc:List Tok):(Int×Int) ⊕ List Tok:=FN (l.length+1) l at_ acc
theorem PQ (l:Bs) (at_:Nat) (acc:List Tok):Iu l at_ acc =
  match De (l.drop (Bp Cn l)) with
  | .done=>.inr (acc++[⟨6,[],0,at_+Bp Cn l⟩])
  | .skip n=>Iu ((l.drop (Bp Cn l)).drop n) (at_+Bp Cn l+n) acc
  | .tok kind text n len=>Iu ((l.drop (Bp Cn l)).drop len) (at_+Bp Cn l+len) (acc++[⟨kind,text,n,at_+Bp Cn l⟩])
  | .bad c r=>.inl (c,(at_+Bp Cn l+r:Nat)):=by
 unfold Iu;rw [Zt];have hd:(l.drop (Bp Cn l)).length<=l.length:=by rw [BA];omega
 cases hst:De (l.drop (Bp Cn l)) with
 | done=>rfl
 | bad c r=>rfl
 | skip n =>
  have:=(K9 _).1 n hst;exact UG _ _ _ _ _ (by rw [BA];omega) (by omega)
 | tok k t n len =>
  have:=(K9 _).2 k t n len hst;exact UG _ _ _ _ _ (by rw [BA];omega) (by omega)
def uF (t:Bs):OD :=
 if (BD 8 t 0 0).2=0\/Utf8.valid (BD 8 t 0 0).1=false\/(t.drop (BD 8 t 0 0).2).head?≠some 125 then .Fh
 else .ok (bs (Utf8.encode (BD 8 t 0 0).1)) (4+(BD 8 t 0 0).2)
theorem A3w (c:UInt8) (t:Bs):Ig (c :: t) =
  if Fy c≠0 then .ok [Fy c] 2
  else if c=120 then
   if (BD 2 t 0 0).2 < 2 then .Fh else .ok [UInt8.ofNat (BD 2 t 0 0).1] 4
  else if c=117/\t.head? = some 123 then uF t.tail
  else if (D6 3 (c :: t) 0 0).2=0\/(D6 3 (c :: t) 0 0).1 > 255 then .Fh
   else .ok [UInt8.ofNat (D6 3 (c :: t) 0 0).1] (1+(D6 3 (c :: t) 0 0).2):=rfl
theorem A3y (t:Bs):Ig (117 :: 123 :: t)=uF t:=by
 rw [A3w,if_neg (by decide),if_neg (by decide),if_pos ⟨rfl,rfl⟩];rfl
end Lx
end
section
open Go Go.RowKit Lx
def Nj:Nat->Nat->List Tok->Prop
 | _,_,[]=>False
 | lo,hi,x :: t=>lo<=x.at_/\x.at_<=hi/\((x.kind=6/\t=[])\/(x.kind≠6/\Nj (x.at_+1) hi t))
theorem Nj.weak:∀ {t:List Tok} {lo lo' hi:Nat},lo'<=lo->Nj lo hi t->Nj lo' hi t
 | [],_,_,_,_,h=>h
 | _ :: _,_,_,_,hl,⟨h1,h2,h3⟩=>⟨Nat.le_trans hl h1,h2,h3⟩
theorem B16 (l:Bs) (k:Int) (t:Bs) (n:Int) (len:Nat) (h:De l=.tok k t n len):k≠6:=by
 unfold De at h;dsimp only at h
 repeat' split at h
 all_goals first | (cases h;done) | (simp only [Step.tok.injEq] at h;obtain ⟨rfl,_⟩:=h;(repeat' split) <;> decide)
theorem Zv:∀ (f:Nat) (l:Bs) (at_:Nat) (acc t:List Tok),l.length < f->FN f l at_ acc=.inr t->∃ t',t=acc++t'/\Nj at_ (at_+l.length) t'
 | 0,l,_,_,_,hf,_=>absurd hf (Nat.not_lt_zero _)
 | f+1,l,at_,acc,t,hf,h=>by
  unfold FN at h;dsimp only at h;have hk:=Jh Cn l;have hdl:(l.drop (Bp Cn l)).length=l.length - Bp Cn l:=BA;cases hst:De (l.drop (Bp Cn l)) with
  | done =>
   rw [hst] at h;cases h;exact ⟨_,rfl,by show at_<=at_+_;omega,by show at_+_<=_;omega,.inl ⟨rfl,rfl⟩⟩
  | bad c r=>rw [hst] at h;cases h
  | skip q =>
   have hq:=(K9 _).1 q hst;rw [hst] at h;dsimp only at h;have hlen:((l.drop (Bp Cn l)).drop q).length=l.length - Bp Cn l - q:=by rw [BA,hdl]
   obtain ⟨t',e,hR⟩:=Zv f _ _ _ _ (by omega) h;refine ⟨t',e,?_⟩;rw [show at_+l.length=at_+Bp Cn l+q+((l.drop (Bp Cn l)).drop q).length by omega];exact hR.weak (by omega)
  | tok kd tx x len =>
   have hq:=(K9 _).2 _ _ _ _ hst;rw [hst] at h;dsimp only at h;have hlen:((l.drop (Bp Cn l)).drop len).length=l.length - Bp Cn l - len:=by rw [BA,hdl]
   obtain ⟨t',e,hR⟩:=Zv f _ _ _ _ (by omega) h;refine ⟨⟨kd,tx,x,at_+Bp Cn l⟩ :: t',by rw [e,Bx];rfl,by show at_<=at_+_;omega,by show at_+_<=_;omega,.inr ⟨B16 _ _ _ _ _ hst,?_⟩⟩;rw [show at_+l.length=at_+Bp Cn l+len+((l.drop (Bp Cn l)).drop len).length by omega];exact hR.weak (by show at_+_+1<=_;omega)
theorem Nj.good:∀ {t:List Tok} {lo hi:Nat},Nj lo hi t->Good (t.map FH)/\Asc (t.map FH)/\(∀ x ∈ t.map FH,(lo:Int)<=x.2.2.2/\x.2.2.2<=hi)/\lo+t.length<=hi+1
 | [],_,_,h=>h.elim
 | x :: t,lo,hi,⟨h1,h2,h3⟩=>by
  rcases h3 with ⟨h6,rfl⟩ | ⟨h6,hR⟩;refine ⟨h6,List.pairwise_singleton ..,λy hy=>?_,by simp;omega⟩;obtain rfl:=GN.1 hy;exact ⟨by show (lo:Int)<=x.at_;omega,by show (x.at_:Int)<=hi;omega⟩;obtain ⟨g1,g2,g3,g4⟩:=hR.good;refine ⟨?_,List.pairwise_cons.2 ⟨λy hy=>?_,g2⟩,λy hy=>?_,by simp only [AH];omega⟩;cases t with
  | nil=>exact hR.elim
  | cons u t=>exact ⟨h6,g1⟩
  have:=(g3 y hy).1;show (x.at_:Int) < _;omega;rcases List.mem_cons.1 hy with rfl | hy;exact ⟨by show (lo:Int)<=x.at_;omega,by show (x.at_:Int)<=hi;omega⟩;have:=g3 y hy;exact ⟨by omega,this.2⟩
structure Abf (n:Nat) (ts:List Tk):Prop where
 good:Good ts
 BX:Asc ts
 at_:∀ x ∈ ts,0<=x.2.2.2/\x.2.2.2<=n
 len:ts.length<=20001
theorem Zx (s:Ah) (t:List Tok) (h:FF (bs s)=.inr t):Abf s.size (t.map FH):=by
 unfold FF at h;split at h;cases h;rename_i hs;have hl:(bs s).length=s.size:=B0 s;obtain ⟨t',e,hR⟩:=Zv _ _ _ _ _ (Nat.lt_succ_self _) h;rw [List.nil_append] at e;subst e;obtain ⟨g1,g2,g3,g4⟩:=hR.good;refine ⟨g1,g2,λx hx=>?_,by rw [List.length_map];omega⟩;have:=g3 x hx;omega
end
section
open Go Go.RowKit
structure Cx (n:Int) (ts:List Tk):Prop where
 good:Good ts
 BX:Asc ts
 at_:∀ x ∈ ts,0<=x.2.2.2/\x.2.2.2<=n
theorem Cx.suf {n:Int} {ts r:List Tk} (h:Cx n ts) (hg:Good r) (hs:r <:+ ts):Cx n r:=⟨hg,List.Pairwise.sublist hs.sublist h.BX,λx hx=>h.at_ x (hs.subset hx)⟩
theorem Cx.tail {n:Int} {ts:List Tk} (h:Cx n ts) (h6:(hd ts).1≠6):Cx n ts.tail:=h.suf (h.good.tail h6).1 (h.good.tail h6).2.2
theorem Cx.hd {n:Int} {ts:List Tk} (h:Cx n ts):0<=(hd ts).2.2.2/\(hd ts).2.2.2<=n:=by
 cases ts with
 | nil=>exact h.good.elim
 | cons t ts=>exact h.at_ t (Db ..)
def BB {α:Type} (n:Int) (x:Option (PV α)):Prop:=∀ i,x=some (.bad i)->0<=i/\i<=n
section
variable {α β:Type} {n:Int} {m:Nat} {ts:List Tk} {x y:Option (PV α)} {f:α->List Tk->Option (PV β)}
theorem BB.bind (hC:Cx n ts) (hs:Step m ts x) (h1:BB n x) (h2:∀ a r,x=some (.ok a r)->Cx n r->BB n (f a r)):BB n (PV.bind x f):=λi h=>by
 rcases bind_some h with ⟨j,hx,he⟩ | ⟨a,r,hx,hf⟩;cases he;exact h1 _ hx;obtain ⟨g1,_,g3⟩:=hs hC.good _ hx;exact h2 a r hx (hC.suf g1 g3) i hf
theorem BB.ok {a:α} {r:List Tk}:BB n (some (.ok a r)):=λ_ h=>by cases h
theorem BB.bad {i:Int} (h:0<=i/\i<=n):BB n (some (.bad i):Option (PV α)):=λ_ h'=>by cases h';exact h
end
variable {n:Int}
structure GvE (n:Int) (f:Nat):Prop where
 exp:∀ least ts,0<=least->Cx n ts->BB n (Dv f least ts)
 loop:∀ least t ts,0<=least->Cx n ts->BB n (Fc f least t ts)
 operand:∀ ts,Cx n ts->BB n (EQ f ts)
 fields:∀ acc ts,Cx n ts->BB n (EP f acc ts)
 field:∀ ts,Cx n ts->BB n (Fr f ts)
 DY:∀ ts,Cx n ts->BB n (E1 f ts)
 DP:∀ at_ t ts,Cx n ts->BB n (E0 f at_ t ts)
 Di:∀ ts,Cx n ts->BB n (Ez f ts)
 Gh:∀ acc ts,Cx n ts->BB n (Fb f acc ts)
structure GvS (n:Int) (f:Nat):Prop where
 block:∀ c ts,Cx n ts->BB n (E6 f c ts)
 Ep:∀ c at_ acc ts,Cx n ts->BB n (Ey f c at_ acc ts)
 function:∀ ts,(hd ts).1≠6->Cx n ts->BB n (Ft f ts)
 body:∀ ts,Cx n ts->BB n (E7 f ts)
 stat:∀ ts,Cx n ts->BB n (Fv f ts)
 branches:∀ acc ts,Cx n ts->BB n (Fa f acc ts)
 for_:∀ at_ ts,Cx n ts->BB n (Fs f at_ ts)
 plain:∀ ts,Cx n ts->BB n (Fu f ts)
 targets:∀ acc e ts,Cx n ts->0<=e.at_/\e.at_<=n->BB n (Fe f acc e ts)
end
section
namespace Lx
def KZ (b:UInt8):Bool:=b == 32 || b == 9 || b == 10 || b == 13
theorem Azz {b:UInt8} (h:KZ b=true):b.toNat < 128/\Cn b.toNat=true:=by
 simp only [KZ,Bool.or_eq_true,beq_iff_eq] at h;rcases h with ((rfl | rfl) | rfl) | rfl <;> decide
theorem Az0 {b:UInt8} (h:Cn b.toNat=true):KZ b=true:=by
 simp only [Cn,Bool.or_eq_true,beq_iff_eq] at h;simp only [KZ,Bool.or_eq_true,beq_iff_eq];rcases h with ((h | h) | h) | h;exact .inl (.inl (.inl (UInt8.toNat_inj.1 h)));exact .inl (.inl (.inr (UInt8.toNat_inj.1 h)));exact .inl (.inr (UInt8.toNat_inj.1 h));exact .inr (UInt8.toNat_inj.1 h)
theorem Apo (x:Bs):∀ bl:Bs,(∀ b ∈ bl,KZ b=true)->Bp Cn (bl++x)=bl.length+Bp Cn x
 | [],_=>by simp
 | b :: bl,h=>by
  have hb:=Azz (h b (by simp));rw [List.cons_append,Mf _ _ (by simp),Nr b _ hb.1];simp only [hb.2,if_true,List.drop_succ_cons,List.drop_zero];rw [Apo x bl (λy hy=>h y (by simp [hy]))];simp only [AH];omega
theorem A01 (l:Bs) (b:UInt8) (hb:b ∈ l.take (Ba l).2) (hlow:b.toNat < 128):(Ba l).1=b.toNat/\(Ba l).2=1:=by
 obtain ⟨i,hi⟩:=List.mem_iff_getElem?.1 hb;rw [List.getElem?_take] at hi;split at hi
 case isFalse=>exact absurd hi (by simp)
 rename_i hlt;have hg:l.getD i 0=b:=by rw [List.getD_eq_getElem?_getD,hi];rfl
 have hg2:(l.getD i 0).toNat=b.toNat:=by rw [hg]
 clear hb hi hg;unfold Ba at hlt ⊢;dsimp only at hlt ⊢;have hi4:i=0\/i=1\/i=2\/3<=i:=by omega
 by_cases h0:(l.getD 0 0).toNat < 128
 ·rw [if_pos h0] at hlt ⊢
  have:i=0:=by simpa using hlt
  subst this;exact ⟨hg2,rfl⟩
 ·rw [if_neg h0] at hlt
  have hne:i≠0:=by rintro rfl;omega
  exfalso;split at hlt
  ·rename_i h1
   simp only [Bool.and_eq_true,beq_iff_eq,decide_eq_true_eq] at h1;split at hlt <;> dsimp only at hlt
   ·rcases hi4 with rfl | rfl | rfl | hi4 <;> omega
   ·omega
  ·split at hlt
   ·rename_i h1
    simp only [Bool.and_eq_true,beq_iff_eq,decide_eq_true_eq] at h1;split at hlt <;> dsimp only at hlt
    ·rcases hi4 with rfl | rfl | rfl | hi4 <;> omega
    ·omega
   ·split at hlt
    ·rename_i h1
     simp only [Bool.and_eq_true,beq_iff_eq,decide_eq_true_eq] at h1;split at hlt <;> dsimp only at hlt
     ·have hi5:i=1\/i=2\/i=3:=by omega
      rcases hi5 with rfl | rfl | rfl <;> omega
     ·omega
    ·dsimp only at hlt;omega
theorem B0f (x:Bs) (at_:Nat) (acc:List Tok) (bl:Bs) (h:∀ b ∈ bl,KZ b=true):Iu (bl++x) at_ acc=Iu x (at_+bl.length) acc:=by
 rw [PQ (bl++x),PQ x,Apo x bl h];have e:(bl++x).drop (bl.length+Bp Cn x)=x.drop (Bp Cn x):=by
  rw [<- List.drop_drop,List.drop_left'];rfl
 rw [e,Nat.add_assoc]
def Closed' (a:Bs):Prop:=∀ i,[45,45].isPrefixOf (a.drop i)=true->10 ∈ a.drop i
theorem Closed'.drop {a:Bs} (h:Closed' a) (k:Nat):Closed' (a.drop k):=λi hi=>by
 rw [List.drop_drop] at hi ⊢;exact h _ hi
def shift (d:Nat) (t:Tok):Tok:={ t with at_:=t.at_+d }
theorem Abt (l:Bs) (c:Int) (r:Nat) (h:De l=.bad c r):c≠0:=by
 have ht:∀ q f (l acc:Bs) i c r,ED q f l acc i=.bad c r->c≠0:=by
  intro q f;induction f with
  | zero=>intro l acc i c r h;cases h;decide
  | succ f ih =>
   intro l acc i c r h;cases l with
   | nil=>cases h;decide
   | cons b t =>
    simp only [ED] at h;split at h;cases h;decide;split at h;split at h;cases h;decide;cases h;split at h;split at h;cases h;decide;cases h;decide;exact ih _ _ _ _ _ h;exact ih _ _ _ _ _ h
 unfold De at h;by_cases h0:l=[];rw [if_pos h0] at h;cases h;rw [if_neg h0] at h;by_cases h1:[45,45].isPrefixOf l=true;rw [if_pos h1] at h;cases h;rw [if_neg h1] at h;by_cases h2:G5 (Ba l).1=true;rw [if_pos h2] at h;dsimp only at h;split at h;cases h;decide;cases h;rw [if_neg h2] at h;by_cases h3:FO (Ba l).1=true;rw [if_pos h3] at h;dsimp only at h;split at h;rename_i hp;cases h;exact hp;cases h;rw [if_neg h3] at h;split at h;split at h;rename_i c' r' hx;cases h;exact ht _ _ _ _ _ _ _ hx;cases h;split at h;cases h;decide;cases h
theorem B0t:∀ (n:Nat) (l:Bs) (at_:Nat) (acc:List Tok) (c p:Int),l.length<=n->Iu l at_ acc=.inl (c,p)->c≠0:=by
 intro n;induction n with
 | zero =>
  intro l at_ acc c p hn h;have:l=[]:=List.eq_nil_of_length_eq_zero (by omega);subst this;rw [PQ] at h;have e0:De (([]:Bs).drop (Bp Cn []))=.done:=rfl;rw [e0] at h;cases h
 | succ n ih =>
  intro l at_ acc c p hn h;rw [PQ] at h;have hk:=Jh Cn l;cases hst:De (l.drop (Bp Cn l)) with
  | done=>rw [hst] at h;cases h
  | bad c' r =>
   rw [hst] at h;simp only [Sum.inl.injEq,Prod.mk.injEq] at h;rw [<- h.1];exact Abt _ _ _ hst
  | skip q =>
   have:=(K9 _).1 q hst;rw [BA] at this;rw [hst] at h;exact ih _ _ _ _ _ (by rw [BA,BA];omega) h
  | tok kd tx x len =>
   have:=(K9 _).2 _ _ _ _ hst;rw [BA] at this;rw [hst] at h;exact ih _ _ _ _ _ (by rw [BA,BA];omega) h
theorem B0e (l:Bs) (h:l.length<=20000):FF l=Iu l 0 []:=by
 unfold FF Iu;rw [if_neg (by omega)]
end Lx
end
section
open Go Go.RowKit Lx
abbrev Out:=Int×Ah×Int×Int×List Tree×Int×Int
def MK (c a:Int):Out:=(0,⟨#[]⟩,0,0,[],c,a)
def MX (n:Tree):Out:=(n.kind,n.text,n.n,n.at_,n.kids,0,0)
def I9 (s:Ah):Out :=
 match FF (bs s) with
 | .inl (c,a)=>MK c a
 | .inr t=>match O5 (t.map FH) with
  | .ok n _=>MX n
  | .bad i=>MK 4 i
theorem Zs (l:Bs) (c p:Int) (h:FF l=.inl (c,p)):c≠0:=by
 unfold FF at h;split at h;simp only [Sum.inl.injEq,Prod.mk.injEq] at h;omega;exact B0t l.length l 0 [] c p (Nat.le_refl _) h
theorem ZE {n:Nat} {ts:List Tk} (h:Abf n ts):(∃ b r,Fi true ts=.ok b r/\TB ts b r/\((hd r).1=6/\O5 ts=.ok b r\/(hd r).1≠6/\O5 ts=.bad (hd r).2.2.2))\/∃ i,Fi true ts=.bad i/\O5 ts=.bad i:=by
 unfold O5;cases hb:Fi true ts with
 | bad i=>exact .inr ⟨i,rfl,rfl⟩
 | ok b r =>
  refine .inl ⟨b,r,rfl,B3a h.good h.BX hb,?_⟩;by_cases h6:(hd r).1=6;exact .inl ⟨h6,by simp [PV.then,h6]⟩;exact .inr ⟨h6,by simp [PV.then,h6]⟩
theorem Alu {s:Ah} {c p:Int} (h:FF (bs s)=.inl (c,p)):I9 s=MK c p:=by unfold I9;rw [h]
theorem Alv {s:Ah} {t:List Tok} {b:Tree} {r:List Tk} (h:FF (bs s)=.inr t) (hv:O5 (t.map FH)=.ok b r):I9 s=MX b:=by unfold I9;rw [h];simp only [hv]
theorem U0 {s:Ah} {t:List Tok} {i:Int} (h:FF (bs s)=.inr t) (hv:O5 (t.map FH)=.bad i):I9 s=MK 4 i:=by unfold I9;rw [h];simp only [hv]
theorem Ag6 (l:List Tk):ix l l=0:=by unfold ix;omega
theorem U5 (k:Nat) (hk:400000<=k) (s:Ah):Jd.f k s=some (I9 s):=by
 unfold Jd.f RL.f P0 I9;simp only [Al];cases hs:FF (bs s) with
 | inl x =>
  obtain ⟨c,p⟩:=x;have:=Zs _ _ _ hs;simp only;rw [show (c != 0)=true by rw [bne_iff_ne];exact this];rfl
 | inr t =>
  have hT:=Zx s t hs;simp only [bne_self_eq_false,cond_false];have hf:=A4v (l:=t.map FH) (by have:=hT.len;omega) k true hT.good (List.suffix_refl _) (by have:=hT.len;omega);rw [Ag6] at hf;rw [hf];rcases ZE hT with ⟨b,r,hb,hB,h6⟩ | ⟨i,hb,he⟩
  ·have hw:=Ih true hT.good
   rw [hb] at hw ⊢;obtain ⟨hg,_,Rr⟩:=hw;simp only [conv,PR.elim,A2];unfold DC.f;simp only [eT];rw [Kd hg Rr];simp only [Al];rcases h6 with ⟨h6,he⟩ | ⟨h6,he⟩
   ·rw [he,show ((hd r).1 != 6)=false by rw [bne_eq_false_iff_eq];exact h6]
    rfl
   ·rw [he,show ((hd r).1 != 6)=true by rw [bne_iff_ne];exact h6]
    rfl
  ·rw [hb,he]
   rfl
def shp (k n:Int) (t:Ah) (l:List Tree):Prop :=
 t.size<=30000/\k≠31/\(k=7->l.length=2)/\(k=25->l.length=2)/\(k=26->4<=l.length)/\(k=21\/k=22->∃ m:Nat,n=m/\m<=l.length)/\(k=27->∃ m:Nat,n=m/\m+1<=l.length)
mutual
def wfT:Tree->Prop
 | .mk k t n _ l=>shp k n t l/\M_ l
def M_:List Tree->Prop
 | []=>True
 | x :: l=>wfT x/\M_ l
end
def fnT:Tree->Prop
 | .mk k t n _ l=>t.size<=30000/\k=31/\(∃ m:Nat,n=m/\l.length=m+1)/\M_ l
def TT (ts:List Tk):Prop:=∀ x ∈ ts,x.2.1.size<=30000
theorem TT.tail {ts:List Tk} (h:TT ts):TT ts.tail:=λx hx=>h x (List.mem_of_mem_tail hx)
theorem TT.hd {ts:List Tk} (h:TT ts):(hd ts).2.1.size<=30000:=by
 cases ts with
 | nil=>decide
 | cons x t=>exact h x (Db ..)
abbrev WT (n:Tree) (r:List Tk):Prop:=wfT n/\TT r
abbrev WL (l:List Tree) (r:List Tk):Prop:=M_ l/\TT r
structure WE (f:Nat):Prop where
 exp:∀ least ts,TT ts->R (Dv f least ts) WT
 loop:∀ least n ts,TT ts->wfT n->R (Fc f least n ts) WT
 operand:∀ ts,TT ts->R (EQ f ts) WT
 fields:∀ acc ts,TT ts->M_ acc->R (EP f acc ts) WL
 field:∀ ts,TT ts->R (Fr f ts) WT
 DY:∀ ts,TT ts->R (E1 f ts) WT
 DP:∀ at_ n ts,TT ts->wfT n->R (E0 f at_ n ts) WT
 Di:∀ ts,TT ts->R (Ez f ts) WL
 Gh:∀ acc ts,TT ts->M_ acc->R (Fb f acc ts) WL
def Xk (c:Bool) (x:Tree):Prop:=wfT x\/(c=true/\fnT x)
structure WS (f:Nat):Prop where
 block:∀ c ts,TT ts->R (E6 f c ts) λn r=>(∃ a l,n=.mk 20 noB 0 a l/\∀ x ∈ l,Xk c x)/\TT r
 Ep:∀ c at_ acc ts,TT ts->(∀ x ∈ acc,Xk c x)->R (Ey f c at_ acc ts) λn r=>(∃ a l,n=.mk 20 noB 0 a l/\∀ x ∈ l,Xk c x)/\TT r
 function:∀ ts,TT ts->R (Ft f ts) λn r=>fnT n/\TT r
 body:∀ ts,TT ts->R (E7 f ts) WT
 stat:∀ ts,TT ts->R (Fv f ts) WT
 branches:∀ acc ts,TT ts->M_ acc->R (Fa f acc ts) WL
 for_:∀ at_ ts,TT ts->R (Fs f at_ ts) WT
 plain:∀ ts,TT ts->R (Fu f ts) WT
 targets:∀ acc e ts,TT ts->M_ acc->wfT e->R (Fe f acc e ts) WL
theorem Z8 (q:UInt8):∀ (f:Nat) (l acc:Bs) (i:Nat) (v:Bs) (k:Nat),ED q f l acc i=.ok v k->v.length<=10000
 | 0,_,_,_,_,_,h=>by unfold ED at h;cases h
 | f+1,[],_,_,_,_,h=>by unfold ED at h;cases h
 | f+1,b :: t,acc,i,v,k,h=>by
  unfold ED at h;split at h;cases h;split at h;split at h;cases h;cases h;omega;split at h;split at h;cases h;cases h;exact Z8 q f _ _ _ _ _ h;exact Z8 q f _ _ _ _ _ h
theorem B1b:∀ s ∈ Gu,s.length<=20000:=by decide
theorem B2a (l:Bs) (hl:l.length<=20000) (k:Int) (t:Bs) (n:Int) (len:Nat) (h:De l=.tok k t n len):t.length<=20000:=by
 unfold De at h;dsimp only at h
 repeat' split at h
 all_goals first
  | (cases h;done)
  | (simp only [Step.tok.injEq] at h;obtain ⟨_,rfl,_⟩:=h;rw [List.length_take];omega)
  | (rename_i hx;simp only [Step.tok.injEq] at h;obtain ⟨_,rfl,_⟩:=h;first | exact Nat.le_trans (Z8 _ _ _ _ _ _ _ hx) (by decide) | exact B1b _ (List.mem_of_find?_eq_some hx))
theorem Zw:∀ (f:Nat) (l:Bs) (at_:Nat) (acc t:List Tok),l.length<=20000->(∀ x ∈ acc,x.text.length<=20000)->FN f l at_ acc=.inr t->∀ x ∈ t,x.text.length<=20000
 | 0,l,at_,acc,t,hl,ha,h=>by
  unfold FN at h;cases h;intro x hx;rcases GO.1 hx with hx | hx;exact ha x hx;obtain rfl:=GN.1 hx;exact Nat.zero_le _
 | f+1,l,at_,acc,t,hl,ha,h=>by
  unfold FN at h;dsimp only at h;have hdl:(l.drop (Bp Cn l)).length<=20000:=by rw [BA];omega
  cases hst:De (l.drop (Bp Cn l)) with
  | done =>
   rw [hst] at h;cases h;intro x hx;rcases GO.1 hx with hx | hx;exact ha x hx;obtain rfl:=GN.1 hx;exact Nat.zero_le _
  | bad c r=>rw [hst] at h;cases h
  | skip q =>
   rw [hst] at h;exact Zw f _ _ _ _ (by rw [BA];omega) ha h
  | tok kd tx x len =>
   rw [hst] at h;refine Zw f _ _ _ _ (by rw [BA];omega) (λy hy=>?_) h;rcases GO.1 hy with hy | hy;exact ha y hy;obtain rfl:=GN.1 hy;exact B2a _ hdl _ _ _ _ hst
theorem B0i {s:Ah} {t:List Tok} (h:FF (bs s)=.inr t):TT (t.map FH):=by
 unfold FF at h;split at h;cases h;intro x hx;obtain ⟨y,hy,rfl⟩:=List.mem_map.1 hx;have:=Zw _ _ _ [] _ (by omega) (λ_ hx=>absurd hx (List.not_mem_nil)) h y hy;show (str y.text).size<=30000;rw [Gv];omega
theorem val_ok {α:Type} {x:Option (PV α)} {a:α} {r:List Tk} (h:val x=.ok a r):x=some (.ok a r):=by
 cases x with
 | none=>cases h
 | some v=>exact congrArg some h
inductive Pr:Tree->Prop
 | atom {k n a:Int} {t:Ah}:k=1\/k=2\/k=3->Pr (.mk k t n a [])
 | int {n a:Int} {t:Ah}:-9223372036854775808<=n->n<=9223372036854775807->Pr (.mk 4 t n a [])
 | str {n a:Int} {t:Ah}:t.size<=30000->Pr (.mk 5 t n a [])
 | name {n a:Int} {t:Ah}:t.size<=30000->t.size≠0->Pr (.mk 6 t n a [])
 | index {n a:Int} {t:Ah} {x y:Tree}:Pr x->Pr y->Pr (.mk 7 t n a [x,y])
 | call {n a:Int} {t:Ah} {x:Tree} {l:List Tree}:Pr x->(∀ y ∈ l,Pr y)->Pr (.mk 8 t n a (x :: l))
 | paren {n a:Int} {t:Ah} {x:Tree}:Pr x->Pr (.mk 9 t n a [x])
 | unary {n a:Int} {t:Ah} {x:Tree}:t.size<=30000->t.size≠0->Pr x->Pr (.mk 10 t n a [x])
 | binary {n a:Int} {t:Ah} {x y:Tree}:t.size<=30000->t.size≠0->Pr x->Pr y->Pr (.mk 11 t n a [x,y])
 | table {n a:Int} {t:Ah} {l:List Tree}:(∀ y ∈ l,Pr y)->Pr (.mk 12 t n a l)
 | item {n a:Int} {t:Ah} {x:Tree}:Pr x->Pr (.mk 13 t n a [x])
 | field {n a:Int} {t:Ah} {x y:Tree}:Pr x->Pr y->Pr (.mk 14 t n a [x,y])
 | block {n a:Int} {t:Ah} {l:List Tree}:(∀ x ∈ l,Pr x)->Pr (.mk 20 t n a l)
 | loc {a:Int} {t:Ah} {l m:List Tree}:(∀ x ∈ l,Pr x)->(∀ x ∈ m,Pr x)->Pr (.mk 21 t (l.length:Nat) a (l++m))
 | asg {a:Int} {t:Ah} {l m:List Tree}:(∀ x ∈ l,Pr x)->(∀ x ∈ m,Pr x)->Pr (.mk 22 t (l.length:Nat) a (l++m))
 | run {n a:Int} {t:Ah} {x:Tree}:Pr x->Pr (.mk 23 t n a [x])
 | if_ {n a:Int} {t:Ah} {l:List Tree}:(∀ x ∈ l,Pr x)->Pr (.mk 24 t n a l)
 | while_ {n a:Int} {t:Ah} {x b:Tree}:Pr x->Pr b->Pr (.mk 25 t n a [x,b])
 | for_ {n a:Int} {t:Ah} {x b:Tree} {l:List Tree}:Pr x->(∀ y ∈ l,Pr y)->Pr b->Pr (.mk 26 t n a (x :: l++[b]))
 | forIn {a:Int} {t:Ah} {b:Tree} {l m:List Tree}:(∀ y ∈ l,Pr y)->(∀ y ∈ m,Pr y)->Pr b->Pr (.mk 27 t (l.length:Nat) a (l++m++[b]))
 | do_ {n a:Int} {t:Ah} {b:Tree}:Pr b->Pr (.mk 28 t n a [b])
 | break_ {n a:Int} {t:Ah}:Pr (.mk 29 t n a [])
 | ret {n a:Int} {t:Ah} {l:List Tree}:(∀ y ∈ l,Pr y)->Pr (.mk 30 t n a l)
 | fn {a:Int} {t:Ah} {l:List Tree} {b:Tree}:t.size<=30000->t.size≠0->(∀ y ∈ l,Pr y)->Pr b->Pr (.mk 31 t (l.length:Nat) a (l++[b]))
abbrev Prs (l:List Tree):Prop:=∀ x ∈ l,Pr x
theorem L_:Prs []:=λ_ h=>nomatch h
theorem HJ {x:Tree} (h:Pr x):Prs [x]:=λy hy=>by obtain rfl:=GN.1 hy;exact h
theorem JD {l m:List Tree} (h:Prs l) (h':Prs m):Prs (l++m):=λy hy=>(GO.1 hy).elim (h y) (h' y)
structure Gd1 (x:Tk):Prop where
 size:x.2.1.size<=30000
 ne:x.1≠4->x.1≠6->x.2.1.size≠0
 lo:-9223372036854775808<=x.2.2.1
 hi:x.2.2.1<=9223372036854775807
def Gd (ts:List Tk):Prop:=∀ x ∈ ts,Gd1 x
theorem Gd.tail {ts:List Tk} (h:Gd ts):Gd ts.tail:=λx hx=>h x (List.mem_of_mem_tail hx)
theorem Gd.hd {ts:List Tk} (h:Gd ts):Gd1 (hd ts):=by
 cases ts with
 | nil=>exact ⟨by decide,λ_ h=>absurd rfl h,by decide,by decide⟩
 | cons x t=>exact h x (Db ..)
theorem Ag2 {w:Ah} {ts:List Tk} (h:Az w ts=true):(hd ts).1=2\/(hd ts).1=5:=by
 unfold Az isT at h;simp only [Bool.and_eq_true,Bool.or_eq_true,beq_iff_eq] at h;exact h.1
theorem Azv {ts:List Tk} (h:Cv ts≠0):(hd ts).1=2\/(hd ts).1=5:=by
 refine Classical.byContradiction λhn=>h ?_;have hw:∀ w,Az w ts=false:=λw=>by
  cases hh:Az w ts with
  | false=>rfl
  | true=>exact absurd (Ag2 hh) hn
 unfold Cv;simp [hw]
theorem Gd.sign {ts:List Tk} (h:Gd ts) (hk:(Go.Proofs.YtaifddambjmiiaaGreatDoor.hd ts).1=2\/(Go.Proofs.YtaifddambjmiiaaGreatDoor.hd ts).1=5):(Go.Proofs.YtaifddambjmiiaaGreatDoor.hd ts).2.1.size<=30000/\(Go.Proofs.YtaifddambjmiiaaGreatDoor.hd ts).2.1.size≠0 :=
 ⟨h.hd.size,h.hd.ne (by rcases hk with e | e <;> rw [e] <;> decide) (by rcases hk with e | e <;> rw [e] <;> decide)⟩
theorem Azy (ts:List Tk):0<=Cv ts:=by
 unfold Cv
 repeat' split
 all_goals decide
abbrev PW (n:Tree) (r:List Tk):Prop:=Pr n/\Gd r
abbrev PWs (l:List Tree) (r:List Tk):Prop:=Prs l/\Gd r
theorem GY {w:Ah} {ts:List Tk} (h:Gd ts):R (Fw w ts) λ_ r=>Gd r:=R.ite (λ_=>R.ok h.tail) λ_=>R.bad
theorem QR {ts:List Tk} (h:Gd ts):R (I8 6 ts) λn r=>PW n r/\n.text.size<=30000/\n.text.size≠0:=R.ite (λhk=>by
 have h1:=h.hd.ne (by rw [hk];decide) (by rw [hk];decide);exact R.ok ⟨⟨.name h.hd.size h1,h.tail⟩,h.hd.size,h1⟩) λ_=>R.bad
theorem A5i {ts:List Tk} (h:Gd ts):R (I8 5 ts) PW:=R.ite (λ_=>R.ok ⟨.str h.hd.size,h.tail⟩) λ_=>R.bad
theorem VK:∀ (f:Nat) (acc:List Tree) (ts:List Tk),Gd ts->Prs acc->R (Gp f acc ts) PWs
 | 0,_,_,_,_=>R.none
 | f+1,acc,ts,h,ha=>by
  unfold Gp;exact R.ite (λ_=>R.bind (QR h.tail) λn r hn=>VK f _ r hn.1.2 (JD ha (HJ hn.1.1))) λ_=>R.ok ⟨ha,h⟩
theorem Ael (f:Nat) {ts:List Tk} (h:Gd ts):R (ML f ts) PWs:=R.bind (QR h) λn r hn=>VK f _ r hn.1.2 (HJ hn.1.1)
structure GE (f:Nat):Prop where
 exp:∀ least ts,0<=least->Gd ts->R (Dv f least ts) PW
 loop:∀ least n ts,0<=least->Gd ts->Pr n->R (Fc f least n ts) PW
 operand:∀ ts,Gd ts->R (EQ f ts) PW
 fields:∀ acc ts,Gd ts->Prs acc->R (EP f acc ts) PWs
 field:∀ ts,Gd ts->R (Fr f ts) PW
 DY:∀ ts,Gd ts->R (E1 f ts) PW
 DP:∀ at_ n ts,Gd ts->Pr n->R (E0 f at_ n ts) PW
 Di:∀ ts,Gd ts->R (Ez f ts) PWs
 Gh:∀ acc ts,Gd ts->Prs acc->R (Fb f acc ts) PWs
theorem gE:∀ f,GE f
 | 0=>by constructor <;> intros <;> (first | rw [Dv] | rw [Fc] | rw [EQ] | rw [EP] | rw [Fr] | rw [E1] | rw [E0] | rw [Ez] | rw [Fb]) <;> exact R.none
 | f+1=>by
  have ih:=gE f;constructor;intro least ts h0 h;unfold Dv;exact R.bind (ih.operand ts h) λn r hn=>ih.loop _ _ _ h0 hn.2 hn.1;intro least n ts h0 h hw;unfold Fc;refine R.ite (λ_=>R.ok ⟨hw,h⟩) λhb=>?_;have hk:=h.sign (Azv λe=>hb (by rw [e];exact h0));have h1:=Azy ts;exact R.bind (ih.exp _ _ (by split <;> omega) h.tail) λm r hm=>ih.loop _ _ _ h0 hm.2 (.binary hk.1 hk.2 hw hm.1);intro ts h;unfold EQ;refine R.ite (λ_=>R.ok ⟨.int h.hd.lo h.hd.hi,h.tail⟩) λ_=>?_;refine R.ite (λ_=>R.ok ⟨.str h.hd.size,h.tail⟩) λ_=>?_;refine R.ite (λ_=>R.ok ⟨.atom (.inl rfl),h.tail⟩) λ_=>?_;refine R.ite (λ_=>R.ok ⟨.atom (.inr (.inl rfl)),h.tail⟩) λ_=>?_;refine R.ite (λ_=>R.ok ⟨.atom (.inr (.inr rfl)),h.tail⟩) λ_=>?_;refine R.ite (λhc=>?_) λ_=>?_;have hk:=h.sign (by simp only [Bool.or_eq_true] at hc;rcases hc with (hc | hc) | hc <;> exact Ag2 hc);exact R.bind (ih.exp _ _ (by decide) h.tail) λm r hm=>R.ok ⟨.unary hk.1 hk.2 hm.1,hm.2⟩;refine R.ite (λ_=>R.bind (ih.fields _ _ h.tail L_) λl r hl=>R.ok ⟨.table hl.1,hl.2⟩) λ_=>?_;exact ih.DY _ h;intro acc ts h ha;unfold EP;refine R.ite (λ_=>R.ok ⟨ha,h.tail⟩) λ_=>R.bind (ih.field ts h) λx r hx=>?_;have hs:=JD ha (HJ hx.1);refine R.ite (λ_=>ih.fields _ _ hx.2.tail hs) λ_=>R.ite (λ_=>ih.fields _ _ hx.2.tail hs) λ_=>?_;exact R.bind (GY hx.2) λ_ s hr=>R.ok ⟨hs,hr⟩;intro ts h;unfold Fr;refine R.ite (λ_=>?_) λ_=>R.ite (λ_=>?_) λ_=>?_;exact R.bind (ih.exp _ _ (by decide) h.tail) λk r hk=>R.bind (GY hk.2) λ_ r hr=>R.bind (GY hr) λ_ r hr=>R.bind (ih.exp _ _ (by decide) hr) λv r hv=>R.ok ⟨.field hk.1 hv.1,hv.2⟩;exact R.bind (ih.exp _ _ (by decide) h.tail.tail) λv r hv=>R.ok ⟨.field (.str h.hd.size) hv.1,hv.2⟩;exact R.bind (ih.exp _ _ (by decide) h) λv r hv=>R.ok ⟨.item hv.1,hv.2⟩;intro ts h;unfold E1;refine R.ite (λ_=>?_) λ_=>?_;exact R.bind (ih.exp _ _ (by decide) h.tail) λe r he=>R.bind (GY he.2) λ_ r hr=>ih.DP _ _ _ hr (.paren he.1);exact R.bind (QR h) λn r hn=>ih.DP _ _ _ hn.1.2 hn.1.1;intro at_ n ts h hw;unfold E0;refine R.ite (λ_=>?_) λ_=>R.ite (λ_=>?_) λ_=>R.ite (λ_=>?_) λ_=>R.ok ⟨hw,h⟩;exact R.bind (ih.exp _ _ (by decide) h.tail) λe r he=>R.bind (GY he.2) λ_ r hr=>ih.DP _ _ _ hr (.index hw he.1);exact R.bind (A5i h.tail) λe r he=>ih.DP _ _ _ he.2 (.index hw he.1);exact R.bind (Q1:=PWs) (R.ite (λ_=>R.ok ⟨L_,h.tail⟩) λ_=>ih.Di _ h.tail) λl r hl=>R.bind (GY hl.2) λ_ r hr=>ih.DP _ _ _ hr (.call hw hl.1);intro ts h;unfold Ez;exact R.bind (ih.exp _ _ (by decide) h) λe r he=>ih.Gh _ _ he.2 (HJ he.1);intro acc ts h ha;unfold Fb;exact R.ite (λ_=>R.bind (ih.exp _ _ (by decide) h.tail) λe r he=>ih.Gh _ _ he.2 (JD ha (HJ he.1))) λ_=>R.ok ⟨ha,h⟩
structure GS (f:Nat):Prop where
 block:∀ c ts,Gd ts->R (E6 f c ts) PW
 Ep:∀ c at_ acc ts,Gd ts->Prs acc->R (Ey f c at_ acc ts) PW
 function:∀ ts,Gd ts->R (Ft f ts) PW
 body:∀ ts,Gd ts->R (E7 f ts) PW
 stat:∀ ts,Gd ts->R (Fv f ts) PW
 branches:∀ acc ts,Gd ts->Prs acc->R (Fa f acc ts) PWs
 for_:∀ at_ ts,Gd ts->R (Fs f at_ ts) PW
 plain:∀ ts,Gd ts->R (Fu f ts) PW
 targets:∀ acc e ts,Gd ts->Prs acc->Pr e->R (Fe f acc e ts) PWs
theorem gS:∀ f,GS f
 | 0=>by constructor <;> intros <;> (first | unfold E6 | unfold Ey | unfold Ft | unfold E7 | unfold Fv | unfold Fa | unfold Fs | unfold Fu | unfold Fe) <;> exact R.none
 | f+1=>by
  have ih:=gS f;have ie:=gE f;constructor;intro c ts h;unfold E6;exact ih.Ep _ _ _ _ h L_;intro c at_ acc ts h ha;unfold Ey;refine R.ite (λ_=>ih.Ep _ _ _ _ h.tail ha) λ_=>R.ite (λ_=>?_) λ_=>R.ite (λhc=>?_) λ_=>R.ite (λ_=>R.ok ⟨.block ha,h⟩) λ_=>?_;refine R.bind (Q1:=PWs) (R.ite (λ_=>R.ok ⟨L_,h.tail⟩) λ_=>ie.Di _ h.tail) λl r hl=>R.ok ⟨.block (JD ha (HJ (.ret hl.1))),?_⟩;split;exact hl.2.tail;exact hl.2;exact R.bind (ih.function ts h) λx r hx=>ih.Ep _ _ _ _ hx.2 (JD ha (HJ hx.1));exact R.bind (ih.stat ts h) λx r hx=>ih.Ep _ _ _ _ hx.2 (JD ha (HJ hx.1));intro ts h;unfold Ft;exact R.bind (QR h.tail) λnm r hn=>R.bind (GY hn.1.2) λ_ r hr=>R.bind (Q1:=PWs) (R.ite (λ_=>R.ok ⟨L_,hr⟩) λ_=>Ael f hr) λps r hp=>R.bind (GY hp.2) λ_ r hr=>R.bind (ih.block _ _ hr) λb r hb=>R.bind (GY hb.2) λ_ r hr=>R.ok ⟨.fn hn.2.1 hn.2.2 hp.1 hb.1,hr⟩;intro ts h;unfold E7;exact R.bind (GY h) λ_ r hr=>R.bind (ih.block _ _ hr) λb r hb=>R.bind (GY hb.2) λ_ r hr=>R.ok ⟨hb.1,hr⟩;intro ts h;unfold Fv;refine R.ite (λ_=>?_) λ_=>R.ite (λ_=>?_) λ_=>R.ite (λ_=>?_) λ_=>R.ite (λ_=>ih.for_ _ _ h.tail) λ_=>R.ite (λ_=>?_) λ_=>R.ite (λ_=>R.ok ⟨.break_,h.tail⟩) λ_=>ih.plain _ h;exact R.bind (ih.body ts h) λb r hb=>R.ok ⟨.do_ hb.1,hb.2⟩;exact R.bind (ie.exp _ _ (by decide) h.tail) λe r he=>R.bind (ih.body _ he.2) λb r hb=>R.ok ⟨.while_ he.1 hb.1,hb.2⟩;exact R.bind (ih.branches _ _ h.tail L_) λl r hl=>R.ok ⟨.if_ hl.1,hl.2⟩;exact R.bind (Ael f h.tail) λl r hl=>R.bind (Q1:=PWs) (R.ite (λ_=>ie.Di _ hl.2.tail) λ_=>R.ok ⟨L_,hl.2⟩) λes r he=>R.ok ⟨.loc hl.1 he.1,he.2⟩;intro acc ts h ha;unfold Fa;refine R.bind (ie.exp _ _ (by decide) h) λe r he=>R.bind (GY he.2) λ_ r hr=>R.bind (ih.block _ _ hr) λb r hb=>?_;have h2:=JD (JD ha (HJ he.1)) (HJ hb.1);refine R.ite (λ_=>ih.branches _ _ hb.2.tail h2) λ_=>R.ite (λ_=>?_) λ_=>?_;exact R.bind (ih.block _ _ hb.2.tail) λc r hc=>R.bind (GY hc.2) λ_ r hr=>R.ok ⟨JD h2 (HJ hc.1),hr⟩;exact R.bind (GY hb.2) λ_ r hr=>R.ok ⟨h2,hr⟩;intro at_ ts h;unfold Fs;refine R.bind (QR h) λn r hn=>R.ite (λ_=>?_) λ_=>?_;refine R.bind (ie.exp _ _ (by decide) hn.1.2.tail) λa r ha=>R.bind (GY ha.2) λ_ r hr=>R.bind (ie.exp _ _ (by decide) hr) λb r hb=>R.bind (Q1:=PWs) (R.ite (λ_=>R.bind (ie.exp _ _ (by decide) hb.2.tail) λc r hc=>R.ok ⟨HJ hc.1,hc.2⟩) λ_=>R.ok ⟨L_,hb.2⟩) λcs r hcs=>R.bind (ih.body _ hcs.2) λbd r hbd=>R.ok ⟨?_,hbd.2⟩;exact Pr.for_ (x:=n) (l:=[a]++[b]++cs) hn.1.1 (JD (JD (HJ ha.1) (HJ hb.1)) hcs.1) hbd.1;exact R.bind (VK f _ _ hn.1.2 (HJ hn.1.1)) λl r hl=>R.bind (GY hl.2) λ_ r hr=>R.bind (ie.Di _ hr) λes r he=>R.bind (ih.body _ he.2) λbd r hbd=>R.ok ⟨.forIn hl.1 he.1 hbd.1,hbd.2⟩;intro ts h;unfold Fu;refine R.bind (ie.DY ts h) λe r he=>R.ite (λ_=>?_) λ_=>R.ite (λhk=>R.ok ⟨.run he.1,he.2⟩) λ_=>R.bad;exact R.bind (ih.targets _ _ _ he.2 L_ he.1) λl r hl=>R.bind (GY hl.2) λ_ r hr=>R.bind (ie.Di _ hr) λes r hes=>R.ok ⟨.asg hl.1 hes.1,hes.2⟩;intro acc e ts h ha hw;unfold Fe;refine R.ite (λ_=>?_) λ_=>R.bad;have h2:=JD ha (HJ hw);exact R.ite (λ_=>R.bind (ie.DY _ h.tail) λe' r he=>ih.targets _ _ _ he.2 h2 he.1) λ_=>R.ok ⟨h2,h⟩
theorem Bxd (l:Bs):-9223372036854775808<=(Es l).1/\(Es l).1<=9223372036854775807:=by
 unfold Es;generalize (if Eb l then l.drop 2 else l)=r;dsimp only;by_cases hr:r=[];rw [if_pos hr];exact ⟨by decide,by decide⟩;rw [if_neg hr];cases hu:EU (Eb l) 0 r with
 | none=>dsimp only;exact ⟨by decide,by decide⟩
 | some u =>
  dsimp only;split;exact ⟨by decide,by decide⟩;have hlt:u < 18446744073709551616:=Z0 _ _ _ _ _ (by decide) hu;show -9223372036854775808<=sint u/\sint u<=9223372036854775807;unfold sint;split <;> omega
theorem B1c:∀ s ∈ Gu,s≠[]:=by decide
theorem B18 {l:Bs} {k:Int} {t:Bs} {n:Int} {len:Nat} (h:De l=.tok k t n len):(k≠4->t≠[])/\-9223372036854775808<=n/\n<=9223372036854775807:=by
 by_cases hl:l=[];subst hl;simp [De] at h;unfold De at h;rw [if_neg hl] at h;have tk:∀ m,1<=m->l.take m≠[]:=by
  intro m hm e;have:=congrArg List.length e;rw [List.length_take,AX] at this;have:=List.length_pos_iff.2 hl;omega
 by_cases c1:[45,45].isPrefixOf l=true;rw [if_pos c1] at h;cases h;rw [if_neg c1] at h;by_cases c2:G5 (Ba l).1=true;rw [if_pos c2] at h;have hp:1<=Bp BJ l:=Sz BJ l hl (by unfold BJ;rw [c2];rfl);dsimp only at h;split at h;cases h;simp only [Step.tok.injEq] at h;obtain ⟨_,rfl,rfl,_⟩:=h;exact ⟨λ_=>tk _ hp,by decide,by decide⟩;rw [if_neg c2] at h;by_cases c3:FO (Ba l).1=true;rw [if_pos c3] at h;have hp:1<=Bp BJ l:=Sz BJ l hl (by unfold BJ;rw [c3];simp);dsimp only at h;split at h;cases h;simp only [Step.tok.injEq] at h;obtain ⟨_,rfl,rfl,_⟩:=h;exact ⟨λ_=>tk _ hp,Bxd _⟩;rw [if_neg c3] at h;split at h;split at h;cases h;simp only [Step.tok.injEq] at h;obtain ⟨rfl,_,rfl,_⟩:=h;exact ⟨λh=>absurd rfl h,by decide,by decide⟩;split at h;cases h;rename_i s hs;simp only [Step.tok.injEq] at h;obtain ⟨_,rfl,rfl,_⟩:=h;exact ⟨λ_=>B1c _ (List.mem_of_find?_eq_some hs),by decide,by decide⟩
structure Abe (x:Tok):Prop where
 ne:x.kind≠4->x.kind≠6->x.text≠[]
 lo:-9223372036854775808<=x.n
 hi:x.n<=9223372036854775807
theorem Zy:∀ (f:Nat) (l:Bs) (at_:Nat) (acc t:List Tok),(∀ x ∈ acc,Abe x)->FN f l at_ acc=.inr t->∀ x ∈ t,Abe x
 | 0,l,at_,acc,t,ha,h=>by
  unfold FN at h;cases h;intro x hx;rcases GO.1 hx with hx | hx;exact ha x hx;obtain rfl:=GN.1 hx;exact ⟨λ_ h=>absurd rfl h,show (-9223372036854775808:Int)<=0 by decide,show (0:Int)<=9223372036854775807 by decide⟩
 | f+1,l,at_,acc,t,ha,h=>by
  unfold FN at h;dsimp only at h;cases hst:De (l.drop (Bp Cn l)) with
  | done =>
   rw [hst] at h;cases h;intro x hx;rcases GO.1 hx with hx | hx;exact ha x hx;obtain rfl:=GN.1 hx;exact ⟨λ_ h=>absurd rfl h,show (-9223372036854775808:Int)<=0 by decide,show (0:Int)<=9223372036854775807 by decide⟩
  | bad c r=>rw [hst] at h;cases h
  | skip q =>
   rw [hst] at h;exact Zy f _ _ _ _ ha h
  | tok kd tx x len =>
   rw [hst] at h;refine Zy f _ _ _ _ (λy hy=>?_) h;rcases GO.1 hy with hy | hy;exact ha y hy;obtain rfl:=GN.1 hy;have:=B18 hst;exact ⟨λh4 _=>this.1 h4,this.2.1,this.2.2⟩
theorem B0h {s:Ah} {t:List Tok} (h:FF (bs s)=.inr t):Gd (t.map FH):=by
 have h1:=B0i h;unfold FF at h;split at h;cases h;intro x hx;have h2:=h1 x hx;obtain ⟨y,hy,rfl⟩:=List.mem_map.1 hx;have:=Zy _ _ _ [] _ (λ_ hx=>absurd hx (List.not_mem_nil)) h y hy;refine ⟨h2,λh4 h6=>?_,this.lo,this.hi⟩;show (str y.text).size≠0;rw [Gv];exact λe=>this.ne h4 h6 (List.eq_nil_of_length_eq_zero e)
theorem Bxl (s:Ah):(∃ c a,c≠0/\I9 s=MK c a)\/∃ n,I9 s=MX n/\Pr n/\sz n<=80010:=by
 cases hs:FF (bs s) with
 | inl x =>
  obtain ⟨c,p⟩:=x;exact .inl ⟨c,p,Zs _ _ _ hs,Alu hs⟩
 | inr t =>
  have hT:=Zx s t hs;rcases ZE hT with ⟨b,r,hb,hB,⟨_,he⟩ | ⟨_,he⟩⟩ | ⟨j,hb,he⟩;refine .inr ⟨b,Alv hs he,((gS (fu _)).block true _ (B0h hs) _ _ (val_ok hb)).1,?_⟩;have:=hB.size;have:=hT.len;omega;exact .inl ⟨4,_,by decide,U0 hs he⟩;exact .inl ⟨4,_,by decide,U0 hs he⟩
end
section
open Go Go.RowKit
def D1 {α:Type} (l:List α) (lo hi:Int):Option (List α):=cond (decide (0<=lo/\lo<=hi/\hi<=l.length)) (some ((l.drop lo.toNat).take (hi.toNat - lo.toNat))) none
section
variable {A:World} {ds:List Deferred} {n:Nat} {env env':Env} {l l' X:List Am} {q:Act->World->Prop} {P:Program} {Q:Exit->Act->World->Prop} {ops:Array Oper} {os rest:List Oper} {o:Oper}
theorem Boz {kd kd2:IntKind} {a b:Int} {t t2:TypeId} {x y:Operand} (ho:o.op=.binOp .shr t x y t2) (hg:BK ops env o=some true) (hd:inB n o.dst=true) (hx:B9 env x=some (.int kd a)) (hy:B9 env y=some (.int kd2 b)) (hc:decide (0<=b)=true)
  (h:K ds A n (Bk env o.dst (.int kd (a.fdiv (2 ^ min b.toNat kd.bits)))) l (wpList P ops Q rest)):K ds A n env l (wpList P ops Q (o :: rest)) :=
 Ec hg λac w ha hw=>by
  have h0:=of_decide_eq_true hc;have h1:¬ b < 0:=by omega
  unfold Oper.wp execOp;simp only [ho,ha.eval hx,ha.eval hy,Sem.run_bind,eqGuard];simp only [binOp,Op.shift,if_neg h1];exact h _ _ (ha.Bk _ hd) hw
variable {S:World->Prop} {tail:Act->World->Prop} {pl:List (Oper×Nat)}
theorem Bo3 {a b r:Ah} {t t2:TypeId} {x y:Operand} (ho:o.op=.binOp .add t x y t2) (hg:BK ops env o=some true) (hd:inB n o.dst=true) (hx:B9 env x=some (.string a)) (hy:B9 env y=some (.string b)) (hc:GJ a b=some r)
  (h:K ds A n (Bk env o.dst (.string r)) l (BH P ops Q S tail pl)):K ds A n env l (BH P ops Q S tail ((o,0) :: pl)):=λac w ha hw=>by
 obtain ⟨h1,h2⟩:=I0 hc;cases h2;have h1:=of_decide_eq_true h1;have h3:¬ (((a.size+b.size:Nat):Int) > IntKind.i64.max):=by
  have:IntKind.i64.max=9223372036854775807:=by decide
  omega
 refine DJ (F_ ha hg) (λw'=>?_) (h _ _ (ha.Bk _ hd) hw);unfold execOp;simp only [ho,ha.eval hx,ha.eval hy,Sem.run_bind,eqGuard];simp only [binOp,Op.stringOp,if_neg h3];rfl
theorem Uk (hg:BK ops env o=some false) (hd:inB n o.dst=true) (h:K ds A n (Bk env o.dst undef) l (λa w=>S w/\BH P ops Q S tail pl a w)):K ds A n env l (BH P ops Q S tail ((o,1) :: pl)):=λa w ha hw K hK=>by
 rw [if_neg (by rw [F_ ha hg];simp)];exact hK _ _ (h _ _ (ha.Bk _ hd) hw)
theorem Lg {α:Type} {R:KW α} {xs xs':List α} {h:Am} {A':AG} {c:Nat} {T TS:TypeId} {x:Operand} {lo hi:Option Operand} (L H:Int) (ho:o.op=.slice TS x lo hi none) (hg:BK ops env o=some true) (hd:inB n o.dst=true) (hx:B9 env x=some (.slice A' xs.length c))
  (hlo:(lo=none/\L=0)\/∃ y k,lo=some y/\B9 env y=some (.int k L)) (hhi:(hi=none/\H=xs.length)\/∃ y k,hi=some y/\B9 env y=some (.int k H)) (h1:P.underlying TS=some (.slice T)) (h2:(P.info? T).map (·.size)=some R.sz) (hs:D1 xs L H=some xs') (hR:RdR R h (.slice A' xs.length c) xs)
  (hk:∀ a' c',RdR R h (.slice a' xs'.length c') xs'->K ds A n (Bk env o.dst (.slice a' xs'.length c')) l (wpList P ops Q rest)):K ds A n env l (wpList P ops Q (o :: rest)):=by
 obtain ⟨hb,hxs⟩:=I0 hs;obtain ⟨hL,hLH,hH⟩:=of_decide_eq_true hb;cases hxs;have hR0:=hR;obtain ⟨cs,⟨hl,hone,hc⟩,hrow⟩:=hR;have hcap:xs.length<=c:=by
  rcases hc with ⟨he,h0⟩ | ⟨b,off,cap,cur,T',z,he,hb,h4,h5,hc⟩;omega;cases he;exact h4
 refine Ec hg λa w ha hw=>?_;cases hif:P.info? T with
 | none=>rw [hif] at h2;cases h2
 | some i =>
  rw [hif] at h2;have hsz:i.size=R.sz:=Ap h2;have e1:max H 0=H:=by omega
  have hsl:∀ (lv hv:Option Value),(lv=none/\L=0\/∃ k,lv=some (.int k L))->(hv=none/\H=xs.length\/∃ k,hv=some (.int k H))->(Instr.sliceAt TS (.slice A' xs.length c) lv hv none).run P w=.ok (.slice (if c=L.toNat then A' else A'.map (·.add (L.toNat * R.sz))) (H.toNat - L.toNat) (c - L.toNat)) w:=by
   have h5:0<=H:=by omega
   have h6:H<=c:=by omega
   have h7:L<=max H 0:=by omega
   rintro lv hv (⟨rfl,rfl⟩ | ⟨k,rfl⟩) (⟨rfl,rfl⟩ | ⟨k',rfl⟩);simp [Instr.sliceAt,Instr.slice,Instr.sliceBounds,run_underlying h1,sizeOf,typeInfo,hif,hsz];simp [Instr.sliceAt,Instr.slice,Instr.sliceBounds,Instr.sliceBound,asIntOf,run_underlying h1,sizeOf,typeInfo,hif,hsz,h5,h6];have h8:L<=(xs.length:Int):=by omega
   simp [Instr.sliceAt,Instr.slice,Instr.sliceBounds,Instr.sliceBound,asIntOf,run_underlying h1,sizeOf,typeInfo,hif,hsz,hL,h8];simp [Instr.sliceAt,Instr.slice,Instr.sliceBounds,Instr.sliceBound,asIntOf,run_underlying h1,sizeOf,typeInfo,hif,hsz,h5,h6,hL,h7,hLH]
  have hrun:=hsl (lo.map a.eval) (hi.map a.eval) (hlo.imp (λ⟨e,e'⟩=>⟨by rw [e];rfl,e'⟩) (λ⟨y,k,e,e'⟩=>⟨k,by rw [e];exact congrArg some (ha.eval e')⟩)) (hhi.imp (λ⟨e,e'⟩=>⟨by rw [e];rfl,e'⟩) (λ⟨y,k,e,e'⟩=>⟨k,by rw [e];exact congrArg some (ha.eval e')⟩));unfold Oper.wp execOp;simp only [ho,ha.eval hx,Option.map_none,Sem.run_bind,hrun,Result.andThen_ok,Sem.run_pure];have hlen:((xs.drop L.toNat).take (H.toNat - L.toNat)).length=H.toNat - L.toNat:=by
   rw [List.length_take,BA];omega
  rw [<- hlen];refine hk _ _ ?_ _ _ (ha.Bk _ hd) hw;refine ⟨(cs.drop (L.toNat * R.sz)).take ((H.toNat - L.toNat) * R.sz),⟨?_,λu hu=>hone u (List.mem_of_mem_drop (List.mem_of_mem_take hu)),?_⟩,(hrow.drop L.toNat).take _⟩;rw [hlen,List.length_take,BA,hl,<- Nat.sub_mul,Nat.min_eq_left];exact Nat.mul_le_mul_right _ (by omega);rw [hlen];rcases hc with ⟨he,h0⟩ | ⟨b,off,cap,cur,T',z,he,hb,h4,h5,hc⟩;cases A' with
  | none =>
   left;simp only [Value.slice.injEq] at he;refine ⟨?_,by omega⟩;have:c=0:=he.2.2;subst this;rw [show H.toNat - L.toNat=0 by omega,show 0 - L.toNat=0 by omega];simp
  | some ad=>simp at he
  cases he;right;by_cases hcl:c=L.toNat;rw [if_pos hcl];refine ⟨b,off,c - L.toNat,cur,T',z,rfl,hb,by omega,by omega,λj u hj=>?_⟩;rw [show H.toNat - L.toNat=0 by omega] at hj;simp at hj;rw [if_neg hcl];refine ⟨b,off+L.toNat * R.sz,c - L.toNat,cur,T',z,by simp [addr_add],hb,by omega,by omega,λj u hj=>?_⟩;rw [List.getElem?_take] at hj;split at hj;rw [List.getElem?_drop] at hj;rw [Nat.add_assoc];exact hc _ u hj;cases hj
end
def Ms {α:Type} (E:α->List Value) (T:TypeId) (sz:Nat) (h:Am) (v:Value) (l:List α):Prop:=AC E T sz h v l\/(Ce E sz h v l/\∃ A',v=.slice A' l.length l.length)
theorem AC.grow {α:Type} {E:α->List Value} {T:TypeId} {sz:Nat} {h:Am} {v:Value} {l:List α} (ho:AC E T sz h v l):Ms E T sz h v l:=.inl ho
theorem Ms.rd {α:Type} {E:α->List Value} {T:TypeId} {sz:Nat} {h:Am} {v:Value} {l:List α} (ho:Ms E T sz h v l):Ce E sz h v l:=ho.elim AC.rd (·.1)
section
variable {A:World} {ds:List Deferred} {n0:Nat} {env env':Env} {l l' X:List Am} {q:Act->World->Prop} {P:Program} {Q:Exit->Act->World->Prop} {ops:Array Oper} {os rest:List Oper} {o:Oper}
theorem Bn6 {α:Type} {E:α->List Value} {xs ys xs':List α} {T TS U:TypeId} {sz bytes:Nat} {i:TypeInfo} {z:Value} {h:Am} {v y:Value} {s x:Operand} (hE:En E sz) (ho:o.op=.call { callee:=.builtin .append,args:=#[s,x],argTypes:=#[TS,U] })
  (he:G0 P TS T sz bytes i z) (hg:BK ops env o=some true) (hd:inB n0 o.dst=true) (hs:B9 env s=some v) (hx:B9 env x=some y) (hu:I_ P U=true) (hap:apd bytes xs ys=some xs') (hO:Ms E T sz h v xs) (hys:0 < ys.length) (hsrc:∀ w,Sat (h :: l) w->Src P sz w y ys.length (ys.flatMap E))
  (hk:∀ h' a' c',AC E T sz h' (.slice a' xs'.length c') xs'->K ds A n0 (Bk env o.dst (.slice a' xs'.length c')) (h' :: l) (wpList P ops Q rest)):K ds A n0 env (h :: l) (wpList P ops Q (o :: rest)):=by
 rcases hO with hO | ⟨hR,A',rfl⟩;exact Aim hE ho he hg hd hs hx hu hap hO hsrc hk;obtain ⟨hb,rfl⟩:=To hap;refine Ec hg λa w ha hw=>?_;have hsr:=hsrc w hw.sat;have hpos:=he.pos;have hnm:xs.length+ys.length<=140737488355328:=Nat.le_trans (Nat.le_mul_of_pos_right _ hpos) hb;have hmax:xs.length+ys.length<=maxLen:=by unfold maxLen;omega
 have hold:(Builtin.firstCells sz xs.length (.slice A' xs.length xs.length)).run P w.drew=.ok (xs.flatMap E).toArray w.drew:=(Rd.src (P:=P) hR hw.sat (Db ..)).drew;have hr:=S0 (ty:=o.type) he hu hsr A' xs.length xs.length (xs.flatMap E) (by omega) hold (by omega) (growslice_fits (by omega) hb);unfold Oper.wp execOp;simp only [ho,resolve,invoke,builtin,Sem.run_bind,Sem.run_pure,Result.andThen_ok,List.map_toArray,List.map_cons,List.map_nil,ha.eval hs,ha.eval hx,hr];rw [<- Bv];refine hk _ _ _ ?_ _ _ (ha.Bk _ hd) (hw.tail.drew.new _);have hge:=grownCap_ge w (xs.length+ys.length) xs.length T;have hcm:grownCap w (xs.length+ys.length) xs.length T<=maxLen:=grownCap_le_maxLen w _ xs.length T hmax;have hlen:(xs.flatMap E++ys.flatMap E).length=(xs.length+ys.length) * sz:=by rw [Bv,hE.lens,hE.lens,Nat.add_mul]
 unfold AC;rw [Bv,List.flatMap_append];refine ⟨hlen,λu hu=>(GO.1 hu).elim (hE.ones xs u) (hE.ones ys u),.inr ⟨w.heap.size,_,_,rfl,rfl,hge,hcm,?_,?_⟩⟩;simp only [Array.size_append,List.size_toArray,size_zeroCells,he.cells,hE.lens,<- Nat.add_mul];congr 1;omega;simp only [Array.toList_append,Bx];rw [<- Bx,<- hlen];exact List.take_left
theorem St.mark {w:World} {b:Nat} {cs:Array Value} {T:TypeId} (h:St A (blk b (.cells cs T (0,0)) :: l) w) (k:Nat):St A (blk b (.cells cs T (k,k+1)) :: l) (w.freeze ⟨b,k,none⟩ 1):=by
 have hg:w.heap[b]? = some (.cells cs T (0,0)):=h.sat.1 b _ (by simp [blk]);have hks:∀ j,j≠b->(w.freeze ⟨b,k,none⟩ 1).heap[j]? = w.heap[j]?:=λj hj=>by
  unfold World.freeze;split;rfl;simp only [Array.getElem?_modify];rw [if_neg (λe=>hj e.symm)]
 have hsz:(w.freeze ⟨b,k,none⟩ 1).heap.size=w.heap.size:=by unfold World.freeze;split <;> simp
 have ho:(w.freeze ⟨b,k,none⟩ 1).os=w.os/\(w.freeze ⟨b,k,none⟩ 1).tape=w.tape/\(w.freeze ⟨b,k,none⟩ 1).output=w.output:=by unfold World.freeze;split <;> exact ⟨rfl,rfl,rfl⟩
 refine ⟨⟨λj o hk=>?_,λf hf j=>?_,h.sat.2.2.keep λf hf j o hk=>?_⟩,ho.1.trans h.os,ho.2.1.trans h.tape,ho.2.2.trans h.output,by rw [hsz];exact h.size⟩;unfold blk at hk;split at hk;rename_i e;subst e;cases hk;unfold World.freeze;rw [if_neg (by decide)];simp only [Array.getElem?_modify,hg];rfl;cases hk;rcases h.sat.2.1 f hf j with h' | h';unfold blk at h' ⊢;split at h';cases h';rename_i e';rw [if_neg e'];exact .inl rfl;exact .inr h';refine hks j λe'=>?_;subst e';rcases h.sat.2.1 f hf j with h' | h';simp [blk] at h';rw [h'] at hk;cases hk
theorem Boc {b n:Nat} {cs:Array Value} {T U:TypeId} {xs:List Int} {x:Operand} (ho:o.op=.convert T T x) (hg:BK ops env o=some true) (hd:inB n0 o.dst=true) (hx:B9 env x=some (.slice (some ⟨b,0,none⟩) n n)) (h1:P.underlying T=some (.slice U)) (h2:P.underlying U=some (.int .u8))
  (hO:AC (encI .u8) U 1 (blk b (.cells cs U (0,0))) (.slice (some ⟨b,0,none⟩) n n) xs) (hn:xs.length=n)
  (hk:∀ h' a' c',Ms (encI .u8) U 1 h' (.slice a' xs.length c') xs->K ds A n0 (Bk env o.dst (.slice a' xs.length c')) (h' :: l) (wpList P ops Q rest)):K ds A n0 env (blk b (.cells cs U (0,0)) :: l) (wpList P ops Q (o :: rest)):=by
 subst hn;refine Ec hg λa w ha hw=>?_;have hgc:w.heap[b]? = some (.cells cs U (0,0)):=hw.sat.1 b _ (by simp [blk]);have hr:(convert T T (.slice (some ⟨b,0,none⟩) xs.length xs.length)).run P w=.ok (.slice (some ⟨b,0,none⟩) xs.length xs.length) (w.freeze ⟨b,cs.size,none⟩ 1):=by
  simp [convert,run_underlying h1,run_underlying h2,markStringish,World.shape?,hgc]
 unfold Oper.wp execOp;simp only [ho,ha.eval hx,Sem.run_bind,hr,Result.andThen_ok,Sem.run_pure];refine hk _ _ _ (.inr ⟨?_,_,rfl⟩) _ _ (ha.Bk _ hd) (hw.mark cs.size);obtain ⟨hl,h1,h3⟩:=hO.rd;refine ⟨hl,h1,?_⟩;rcases h3 with ⟨he,_⟩ | ⟨b',off,cap,cur,T',z,he,hb,h4,h5,hc⟩;cases he;cases he;simp only [blk,if_pos,Option.some.injEq] at hb;cases hb;exact .inr ⟨b,0,_,cs,U,(cs.size,cs.size+1),rfl,by simp [blk],h4,h5,hc⟩
end
def DO (b:Nat) (v:Value):Prop:=v=.pointer none\/v=.pointer (some ⟨b,0,none⟩)
def Me (s:Ah) (pos:Nat):Int:=(Utf8.decode s pos).1
def MO (s:Ah) (pos:Nat):Nat:=pos+(Utf8.decode s pos).2
section
variable {A:World} {ds:List Deferred} {n0:Nat} {env env':Env} {l l' X:List Am} {q:Act->World->Prop} {P:Program} {Q:Exit->Act->World->Prop} {ops:Array Oper} {os rest:List Oper} {o:Oper}
theorem St.iter {w:World} {b:Nat} {s:Ah} {pos:Nat} (h:St A (blk b (.stringIter s pos) :: l) w) (pos':Nat):St A (blk b (.stringIter s pos') :: l) (w.iterAt b s pos'):=by
 have hb:w.heap[b]? = some (.stringIter s pos):=h.sat.1 b _ (by simp [blk]);refine ⟨⟨λk o hk=>?_,λf hf k=>?_,h.sat.2.2.keep λf hf k o hk=>?_⟩,h.os,h.tape,h.output,by rw [Lib.iterAt_size];exact h.size⟩;unfold blk at hk;split at hk;rename_i e;subst e;cases hk;exact Lib.iterAt_heap w k s pos pos' hb;cases hk;rcases h.sat.2.1 f hf k with h' | h';unfold blk at h' ⊢;split at h';cases h';rename_i e';rw [if_neg e'];exact .inl rfl;exact .inr h';refine Lib.iterAt_other w b k s pos' λe'=>?_;subst e';rcases h.sat.2.1 f hf k with h' | h';simp [blk] at h';rw [h'] at hk;cases hk
theorem Boy {s:Ah} {t:TypeId} {x:Operand} (ho:o.op=.range t x) (hg:BK ops env o=some true) (hd:inB n0 o.dst=true) (hx:B9 env x=some (.string s)) (ht:P.underlying t=some .string)
  (h:∀ b,K ds A n0 (Bk env o.dst (.pointer (some ⟨b,0,none⟩))) (blk b (.stringIter s 0) :: l) (wpList P ops Q rest)):K ds A n0 env l (wpList P ops Q (o :: rest)) :=
 Ec hg λa w ha hw=>by
  unfold Oper.wp execOp;simp only [ho,ha.eval hx,Sem.run_bind,run_range_string w t s ht,Result.andThen_ok,Sem.run_pure];exact h _ _ _ (ha.Bk _ hd) (hw.new _)
theorem Bot {b:Nat} {s:Ah} {pos:Nat} {x:Operand} (hlt:decide (pos < s.size)=true) (ho:o.op=.next x true) (hg:BK ops env o=some true) (hd:inB n0 o.dst=true) (hx:B9 env x=some (.pointer (some ⟨b,0,none⟩)))
  (h:K ds A n0 (Bk env o.dst (.tuple #[.bool true,.int .i64 (pos:Nat),.int .i32 (Me s pos)])) (blk b (.stringIter s (MO s pos)) :: l) (wpList P ops Q rest)):K ds A n0 env (blk b (.stringIter s pos) :: l) (wpList P ops Q (o :: rest)) :=
 Ec hg λa w ha hw=>by
  have hb:w.heap[b]? = some (.stringIter s pos):=hw.sat.1 b _ (by simp [blk]);unfold Oper.wp execOp;simp only [ho,ha.eval hx,Sem.run_bind,Lib.run_next_any_at w b s pos _ hb (of_decide_eq_true hlt),Result.andThen_ok,Sem.run_pure];exact h _ _ (ha.Bk _ hd) (hw.iter _)
theorem Bos {b:Nat} {s:Ah} {pos:Nat} {x:Operand} (hlt:decide (pos < s.size)=false) (ho:o.op=.next x true) (hg:BK ops env o=some true) (hd:inB n0 o.dst=true) (hx:B9 env x=some (.pointer (some ⟨b,0,none⟩)))
  (h:K ds A n0 (Bk env o.dst (.tuple #[.bool false])) (blk b (.stringIter s pos) :: l) (wpList P ops Q rest)):K ds A n0 env (blk b (.stringIter s pos) :: l) (wpList P ops Q (o :: rest)) :=
 Ec hg λa w ha hw=>by
  have hb:w.heap[b]? = some (.stringIter s pos):=hw.sat.1 b _ (by simp [blk]);unfold Oper.wp execOp;simp only [ho,ha.eval hx,Sem.run_bind,Lib.run_next_end_at w b s pos _ hb (of_decide_eq_false hlt),Result.andThen_ok,Sem.run_pure];exact h _ _ (ha.Bk _ hd) hw
def Vh {α:Type} (A':Option Addr) (xs:List α) (p:Option Addr):Prop:=xs≠[]->p=A'
theorem Bw6 {T TS U:TypeId} {h:Am} {A':AG} {c:Nat} {xs:List Int} {x:Operand} {next:Act->World->Prop} (ho:o.op=.call { callee:=.builtin .unsafeSliceData,args:=#[x],argTypes:=#[TS] }) (hd:inB n0 o.dst=true) (hx:B9 env x=some (.slice A' xs.length c))
  (ht:P.underlying o.type=some (.pointer U)) (hO:AC (encI .u8) T 1 h (.slice A' xs.length c) xs) (hm:h ∈ l) (hk:∀ p,Vh A' xs p->K ds A n0 (Bk env o.dst (.pointer p)) l next):K ds A n0 env l (λa w=>o.wp P a w next Q):=by
 intro a w ha hw;have hex:∃ p w',(Builtin.unsafeSliceData_ #[TS] o.type #[.slice A' xs.length c]).run P w=.ok (.pointer p) w'/\Vh A' xs p/\St A l w':=by
  rcases hO.2.2 with ⟨he,h0⟩ | ⟨g,cap,cur,he,rfl,h4,h5,h6,h7⟩
  ·simp only [Value.slice.injEq] at he
   obtain ⟨rfl,_,rfl⟩:=he;exact ⟨none,w,Lib.run_unsafeSliceData_nil w _ _ _ _,λ_=>rfl,hw⟩
  ·simp only [Value.slice.injEq] at he
   obtain ⟨rfl,_,rfl⟩:=he;by_cases hc:c=0
   ·subst hc
    have h0:xs=[]:=List.eq_nil_of_length_eq_zero (by omega);have hgc:w.heap[g]? = some (.cells cur T (0,0)):=hw.sat.on _ hm g _ (by simp [blk]);exact ⟨_,_,Lib.run_unsafeSliceData_zero w _ _ U ht _ _ (T,cur.size) (by simp [World.shape?,hgc]),λh=>absurd h0 h,(hw.new _).tail⟩
   ·exact ⟨_,w,Lib.run_unsafeSliceData_row w _ _ _ _ _ hc,λ_=>rfl,hw⟩
 obtain ⟨p,w',hr,hp,hw'⟩:=hex;unfold Oper.wp execOp;simp only [ho,resolve,invoke,builtin,Sem.run_bind,Sem.run_pure,Result.andThen_ok,List.map_toArray,List.map_cons,List.map_nil,ha.eval hx,hr];exact hk p hp _ _ (ha.Bk _ hd) hw'
def ON (xs:List Int):Bool:=xs.all λx=>decide (0<=x/\x < 256)
theorem Abj:∀ {xs:List Int},ON xs=true->xs=(xs.map λn=>UInt8.ofNat n.toNat).map λu=>(u.toNat:Int)
 | [],_=>rfl
 | x :: xs,h=>by
  simp only [ON,List.all_cons,Bool.and_eq_true] at h;have h0:=of_decide_eq_true h.1;rw [List.map_cons,List.map_cons,<- Abj (xs:=xs) h.2];congr 1;have e:(UInt8.ofNat x.toNat).toNat=x.toNat:=by
   rw [UInt8.toNat_ofNat'];omega
  rw [e];omega
theorem St.freeze {w:World} {g:Nat} {o:Obj} (h:St A (blk g o :: l) w) (n:Nat):St A l (w.freeze ⟨g,0,none⟩ n):=by
 have hks:∀ f ∈ l,∀ k o',f k=some o'->(w.freeze ⟨g,0,none⟩ n).heap[k]? = w.heap[k]?:=λf hf k o' hk=>by
  have hne:k≠g:=λe=>by
   subst e;rcases h.sat.2.1 f hf k with h' | h';simp [blk] at h';rw [h'] at hk;cases hk
  unfold World.freeze;split;rfl;simp only [Array.getElem?_modify];rw [if_neg (λe=>hne e.symm)]
 have hsz:(w.freeze ⟨g,0,none⟩ n).heap.size=w.heap.size:=by unfold World.freeze;split <;> simp
 have ho:(w.freeze ⟨g,0,none⟩ n).os=w.os/\(w.freeze ⟨g,0,none⟩ n).tape=w.tape/\(w.freeze ⟨g,0,none⟩ n).output=w.output:=by unfold World.freeze;split <;> exact ⟨rfl,rfl,rfl⟩
 exact ⟨h.sat.2.2.keep hks,ho.1.trans h.os,ho.2.1.trans h.tape,ho.2.2.trans h.output,by rw [hsz];exact h.size⟩
theorem Bo2 {T PT IT:TypeId} {h:Am} {A' p:AG} {c:Nat} {xs:List Int} {x y:Operand} (ho:o.op=.call { callee:=.builtin .unsafeString,args:=#[x,y],argTypes:=#[PT,IT] }) (hg:BK ops env o=some true) (hd:inB n0 o.dst=true) (hx:B9 env x=some (.pointer p)) (hy:B9 env y=some (.int .i64 xs.length))
  (ht:P.underlying PT=some (.pointer T)) (hc1:P.cellsOf T=1) (hO:AC (encI .u8) T 1 h (.slice A' xs.length c) xs) (hp:Vh A' xs p) (hb:ON xs=true) (hk:K ds A n0 (Bk env o.dst (.string (strOfNums xs))) l (wpList P ops Q rest)):K ds A n0 env (h :: l) (wpList P ops Q (o :: rest)):=by
 refine Ec hg λa w ha hw=>?_;have hex:∃ w',(Builtin.unsafeString_ #[PT,IT] o.type #[.pointer p,.int .i64 xs.length]).run P w=.ok (.string (strOfNums xs)) w'/\St A l w':=by
  by_cases h0:xs=[];subst h0;exact ⟨w,Lib.run_unsafeString_none w _ _ _ p,hw.tail⟩;have hp:=hp h0;subst hp;rcases hO.2.2 with ⟨he,hz⟩ | ⟨g,cap,cur,he,rfl,h4,h5,h6,h7⟩;exact absurd (List.eq_nil_of_length_eq_zero hz) h0;simp only [Value.slice.injEq] at he;obtain ⟨rfl,_,rfl⟩:=he;have hgc:w.heap[g]? = some (.cells cur T (0,0)):=hw.sat.1 g _ (by simp [blk]);have e:=Abj hb;have hl:(xs.map λn=>UInt8.ofNat n.toNat).length=xs.length:=List.length_map _;have hr:=Lib.run_unsafeString_row (P:=P) (w:=w) PT IT o.type T ht hc1 g cur.size (by simp [World.shape?,hgc]) (xs.map λn=>UInt8.ofNat n.toNat) (by simpa using h0) (by rw [hl];omega) (by rw [hl];unfold maxLen at h5;omega) (λj u hj=>by
   rw [addr_add,Nat.zero_add,World.cell?,hgc];have h8:(xs.flatMap (encI .u8))[j]? = some (.int .u8 u.toNat):=by
    rw [TA,e,List.map_map,List.getElem?_map,hj];rfl
   rw [<- h7,List.getElem?_take] at h8;split at h8
   simpa using h8
   cases h8)
  rw [hl] at hr;exact ⟨_,hr,hw.freeze _⟩
 obtain ⟨w',hr,hw'⟩:=hex;unfold Oper.wp execOp;simp only [ho,resolve,invoke,builtin,Sem.run_bind,Sem.run_pure,Result.andThen_ok,List.map_toArray,List.map_cons,List.map_nil,ha.eval hx,ha.eval hy,hr];exact hk _ _ (ha.Bk _ hd) hw'
end
def Lb (T:Nat):Prop:=liesAt Tryz.prog Tryz.prog.depth T (2 / Tryz.prog.cellsOf T) 0 44 1=true
theorem KX:Lb 44:=by unfold Lb;kernel_rfl
theorem Apy:(Tryz.prog.info? 44).map (·.size)=some 2:=by kernel_rfl
set_option maxHeartbeats 1000000 in
theorem A0j (b:Nat) (w:World) (h0:w.cell? ⟨b,0,none⟩=some (.pointer (some ⟨b,0,none⟩))) :
  Calls Tryz.prog 90 #[.pointer (some ⟨b,0,none⟩)] w λe w'=>e=.returned (.tuple #[])/\w=w':=by
 obtain ⟨j,hj,_⟩:=Option.map_eq_some_iff.1 Apy
 go_enter Tryz.func90,Tryz.ntmps90
 go_wp2
 rw [Lib.run_neq_ptr_same w _ Tryz.underlying41 hj]
 go_wp2
 go_end0
 exact ⟨rfl,rfl⟩
set_option maxHeartbeats 1000000 in
theorem A0i (b T:Nat) (w:World) (hT:Lb T) (h0:w.cell? ⟨b,0,none⟩=some (.pointer none)) (hsh:w.shape? b=some (T,2)) (hfz:w.frozen? ⟨b,0,none⟩=false) :
  Calls Tryz.prog 90 #[.pointer (some ⟨b,0,none⟩)] w λe w'=>e=.returned (.tuple #[])/\w.setCell ⟨b,0,none⟩ (.pointer (some ⟨b,0,none⟩))=w':=by
 obtain ⟨j,hj,hjs⟩:=Option.map_eq_some_iff.1 Apy
 have hlies:liesAt Tryz.prog Tryz.prog.depth T (2 / Tryz.prog.cellsOf T) 0 44 1=true:=hT
 clear hT
 go_enter Tryz.func90,Tryz.ntmps90
 go_wp2
 rw [Lib.run_to_unsafe w ⟨b,0,none⟩ Tryz.underlying41 Tryz.underlying132 hj (by rw [hjs];decide) hsh (Nat.zero_lt_succ 1)]
 simp only [Result.andThen]
 rw [Oper.upon_value]
 go_wp2
 rw [run_callFunc_extern Tryz.func114 (by kernel_rfl) (by kernel_rfl) (by kernel_rfl) (e:=Extern.AbiNoEscape.same) (by kernel_rfl)]
 rw [Lib.run_noEscape]
 simp only [Result.andThen]
 rw [Oper.upon_value]
 go_wp2
 rw [Lib.run_from_unsafe w ⟨b,0,none⟩ Tryz.underlying132 Tryz.underlying41 hj hsh hlies]
 simp only [Result.andThen]
 rw [Oper.upon_value]
 go_wp2
 go_end0
 exact ⟨rfl,rfl⟩
def Lw.f (_k:Nat) (_l:List Int):Option Unit:=some ()
theorem Lw.ok {k b0 T0 c:Nat} {l:List Int} {v:Value} {H:Am} {A':AG} {r:Unit} (_h:Lw.f k l=some r) (hT:Lb T0) (hv:DO b0 v) (_hR:Ce (encI .u8) 1 H (.slice A' l.length c) l):
  Ct Tryz.prog 90 #[.pointer (some ⟨b0,0,none⟩)] [blk b0 (.cells #[v,.slice A' l.length c] T0 (0,0))] [H] λe l1=>∃ Ef:Value,DO b0 Ef/\e=.returned (.tuple #[])/\l1=[blk b0 (.cells #[Ef,.slice A' l.length c] T0 (0,0))]:=by
 intro A w X _ hw;have hw':St A (blk b0 (.cells #[v,.slice A' l.length c] T0 (0,0)) :: X) w:=hw;have hc:=hw'.sat.cell (Db ..) 0;have hf:=hw'.sat.free (Db ..) 0;have hb:w.heap[b0]? = some (.cells #[v,.slice A' l.length c] T0 (0,0)):=hw'.sat.1 b0 _ (by simp [blk]);rcases hv with rfl | rfl;refine (A0i b0 T0 w hT hc (by simp [World.shape?,hb]) hf).mono ?_;rintro e w2 ⟨rfl,rfl⟩;exact ⟨_,⟨_,.inr I,I,I⟩,hw'.set 0 _⟩;refine (A0j b0 w hc).mono ?_;rintro e w2 ⟨rfl,rfl⟩;exact ⟨_,⟨_,.inr I,I,I⟩,hw'⟩
def Hw (Af:Am):Prop:=SY Af/\∀ w,Af.On w->Lib.TabIs Tryz.prog w "internal/strconv.uint64pow10" .u64 Lib.pow10Tab
theorem Bxv:Tryz.prog.globalNamed "internal/strconv.uint64pow10" =some 5:=by kernel_rfl
theorem Gl.Bxo {w:World} (h:Gl w) (ht:Lib.TabIs Tryz.prog w "internal/strconv.uint64pow10" .u64 Lib.pow10Tab):Hw (Go.Proofs.YtaifddambjmiiaaGreatDoor.old w):=⟨h.piece,λw' hw=>by
 have hsz:=h.size;have hlt:5 < w.heap.size:=by omega
 have h1:w.heap[5]? = some w.heap[5]:=Array.getElem?_eq_getElem hlt;have h2:w'.heap[5]? = w.heap[5]?:=(hw _ _ h1).trans h1.symm;unfold Lib.TabIs World.var? at ht ⊢;rw [Bxv] at ht ⊢;simp only [Al] at ht ⊢;rw [h2];exact ht⟩
def strconv_Itoa.f (_k:Nat) (n:Int):Option Ah:=cond (decide (-9223372036854775808<=n/\n<=9223372036854775807)) (some ⟨(Lib.itoa n).toArray⟩) none
theorem strconv_Itoa.ok {k:Nat} {a0:Int} {Af:Am} {r:Ah} (h:strconv_Itoa.f k a0=some r) (hG:Hw Af): Ct Tryz.prog 115 #[.int .i64 a0] [] [Af] λe l1=>e=.returned (.string r)/\l1=[]:=by
 obtain ⟨h1,h2⟩:=I0 h;obtain ⟨h3,h4⟩:=of_decide_eq_true h1;cases h2;intro A w X hh hw;refine (Tryz.strconv_Itoa a0 h3 h4 w (hG.2 w (hw.sat.on Af hh.1))).mono ?_;rintro e w' ⟨rfl,q,os,rfl⟩;exact ⟨[],⟨I,I⟩,hw.below (Lib.below_grow _ w (Nat.le_refl _) q os)⟩
def strings_Repeat.f (_k:Nat) (s:Ah) (n:Int):Option Ah:=cond (decide (0<=n/\n<=1000/\s.size<=1000)) (some ⟨(Lib.repeatL s.data.toList n.toNat).toArray⟩) none
theorem strings_Repeat.ok {k:Nat} {a0 r:Ah} {a1:Int} (h:strings_Repeat.f k a0 a1=some r): Ct Tryz.prog 93 #[.string a0,.int .i64 a1] [] [] λe l1=>e=.returned (.string r)/\l1=[]:=by
 obtain ⟨h1,h2⟩:=I0 h;obtain ⟨h3,h4,h5⟩:=of_decide_eq_true h1;cases h2;intro A w X _ hw;obtain ⟨c,rfl⟩:∃ c:Nat,a1=c:=⟨a1.toNat,by omega⟩;refine (Tryz.strings_Repeat a0 c w (by omega) ?_).mono ?_;have:=Nat.mul_le_mul h5 (show c<=1000 by omega);omega;rintro e w' ⟨rfl,hb⟩;exact ⟨[],⟨I,I⟩,hw.below hb⟩
def FX.f (k:Nat) (An:List Int) (a1:Int):Option (List Int):=(Lw.f k An).bind λr1=>(apd 1 An [a1]).bind λl5=>some (l5)
theorem FX.ok {k b0 GM CD:Nat} {An r:List Int} {a1:Int} {CG:Value} {CL:Am} {CC:AG} (h:FX.f k An a1=some r) (Q7:Lb GM) (C8:DO b0 CG) (Cz:AC (encI .u8) 5 1 CL (W CC An CD) An): Ct Tryz.prog 55 #[pt b0,.int .u8 a1] [bk b0 #[CG,W CC An CD] GM,CL] [] (λe l1=>∃ (Ef:Value) (H0_:Am) (A0_:AG) (c0_:Nat),DO b0 Ef/\AC (encI .u8) 5 1 H0_ (W A0_ r c0_) r/\e=.returned (.nilIface)/\l1=[bk b0 #[Ef,W A0_ r c0_] GM,H0_]):=by
 refine BC Tryz.func55 I (AY I) ?_;intro A X hh_;unfold FX.f at h;refine ksr (M 1 (AP (M 1 (N h λr1 hr1 h=>(AZ (Lw.ok hr1 Q7 C8 (AC.rd Cz)) I ⟨(.head _),Aj⟩ ?_)))));rintro _ _ ⟨v2,V3,rfl,rfl⟩;refine BU (AP (M 4 (kld 0 1 I (M 1 (Bl #[.int .u8 a1] 5 1 λb4=>(Aq (N h λl5 hl5 h=>(DG (ys:=[a1]) (CN .u8) I GW hl5 Cz (Cp (n:=1) (CN .u8) [a1] (by kernel_rfl) I (by decide) 1 I) λh6 A7 k8 o9=>(Ak (Ao (M 2 (Ak (AB 1 1 #[v2,W A7 l5 k8] (AP (M 1 (G (AT ?_)))))))))))))))));obtain rfl:=Ap h;exact kdv (.nilIface) [bk b0 #[v2,W A7 l5 k8] GM,h6] (Bb ⟨v2,h6,A7,k8,V3,o9,I,I⟩)
def Gw.f (k:Nat) (An:List Int) (a1:Ah):Option (Int×List Int):=(Lw.f k An).bind λr1=>(apd 1 An (EX a1)).bind λl4=>some ((a1.size:Int),l4)
theorem Gw.ok {k b0 GM CD:Nat} {An:List Int} {a1:Ah} {CG:Value} {CL:Am} {CC:AG} {r:Int×List Int} (h:Gw.f k An a1=some r) (Q7:Lb GM) (C8:DO b0 CG) (Cz:AC (encI .u8) 5 1 CL (W CC An CD) An): Ct Tryz.prog 56 #[pt b0,D a1] [bk b0 #[CG,W CC An CD] GM,CL] [] (λe l1=>∃ (Ef:Value) (H0_:Am) (A0_:AG) (c0_:Nat),DO b0 Ef/\AC (encI .u8) 5 1 H0_ (W A0_ r.2 c0_) r.2/\e=.returned (.tuple #[V r.1,.nilIface])/\l1=[bk b0 #[Ef,W A0_ r.2 c0_] GM,H0_]):=by
 refine BC Tryz.func56 I (AY I) ?_;intro A X hh_;unfold Gw.f at h;refine ksr (M 2 (AP (M 1 (N h λr1 hr1 h=>(AZ (Lw.ok hr1 Q7 C8 (AC.rd Cz)) I ⟨(.head _),Aj⟩ ?_)))));rintro _ _ ⟨v2,V3,rfl,rfl⟩;refine BU (AP (M 4 (kld 0 1 I (M 1 (Ak (N h λl4 hl4 h=>(DG (ys:=(EX a1)) (CN .u8) I GW hl4 Cz (λw_ _=>Z4 a1 w_) λh5 A6 k7 o8=>(M 2 (Ak (AB 1 1 #[v2,W A6 l4 k7] (AP (M 4 (G (AT ?_))))))))))))));obtain rfl:=Ap h;exact kdv (.tuple #[V (a1.size:Int),.nilIface]) [bk b0 #[v2,W A6 l4 k7] GM,h5] (Bb ⟨v2,h5,A6,k7,V3,o8,I,I⟩)
def PY.f (_k:Nat) (An:List Int):Option (Int):=some (((An.length:Nat):Int))
theorem PY.ok {k b0 GM CD:Nat} {An:List Int} {CG:Value} {CL:Am} {CC:AG} {r:Int} (h:PY.f k An=some r) (Q7:Lb GM) (C8:DO b0 CG) (Cz:Ce (encI .u8) 1 CL (W CC An CD) An): Ct Tryz.prog 54 #[pt b0] [bk b0 #[CG,W CC An CD] GM] [CL] (λe l1=>e=.returned (V r)/\l1=[bk b0 #[CG,W CC An CD] GM]):=by
 refine BC Tryz.func54 I (AY I) ?_;intro A X hh_;obtain ⟨Cfd,_⟩:=hh_;unfold PY.f at h;refine ksr (M 1 (AP (M 3 (kld 0 1 I (M 2 (G (AT ?_)))))));obtain rfl:=Ap h;exact kdn I
def Lv.f (_k:Nat) (An:List Int):Option (Ah):=cond (ON An) (some ((strOfNums An))) none
theorem Lv.ok {k b0 GM CD:Nat} {An:List Int} {CG:Value} {CL:Am} {CC:AG} {r:Ah} (h:Lv.f k An=some r) (Q7:Lb GM) (C8:DO b0 CG) (Cz:AC (encI .u8) 5 1 CL (W CC An CD) An): Ct Tryz.prog 12 #[pt b0] [bk b0 #[CG,W CC An CD] GM,CL] [] (λe l1=>e=.returned (D r)/\l1=[bk b0 #[CG,W CC An CD] GM]):=by
 refine BC Tryz.func12 I (AY I) ?_;intro A X hh_;unfold Lv.f at h;refine ksr (M 1 (G (AU (kpr [(0,0),(1,0),(2,0),(3,3),(5,0),(6,0),(7,0),(8,3),(9,0),(4,1)] [0] (AJ 3 (B7 0 1 I (AJ 3 (B7 0 1 I (AJ 1 (kpt (Bw6 (U:=5) I (by kernel_rfl) (by kernel_rfl) (by kernel_rfl) Cz (.tail _ (.head _)) λp1 d2=>(B_ [0] I (BF (Ak ?_))))))))))))));obtain ⟨tq3,h⟩:=I0 h;refine Bo2 I (by kernel_rfl) (by kernel_rfl) (by kernel_rfl) (by kernel_rfl) (by kernel_rfl) (by kernel_rfl) Cz d2 tq3 (M 1 (G (AT ?_)));obtain rfl:=Ap h;exact kdn I
def Lz.f (k:Nat) (a0:Int):Option (Ah):=(strconv_Itoa.f k a0).bind λr1=>some (r1)
theorem Lz.ok {k:Nat} {a0:Int} {Af:Am} {r:Ah} (h:Lz.f k a0=some r) (hG:Hw Af): Ct Tryz.prog 91 #[V a0] [] [Af] (λe l1=>e=.returned (D r)/\l1=[]):=by
 refine BC Tryz.func91 I (AY I) ?_;intro A X hh_;obtain ⟨Cj,_⟩:=hh_;unfold Lz.f at h;refine ksr (M 1 (AP (M 1 (N h λr1 hr1 h=>(CQ (strconv_Itoa.ok hr1 hG) ⟨Cj,Aj⟩ (M 1 (G (AT ?_))))))));obtain rfl:=Ap h;exact kdn I
def HI.l0:Nat->(a0:Int)->(J13:(List Int)->Option (Ah))->(DI:List Int)->(x19:Int)->Option (Ah)
 | 0,_,_,_,_=>none
 | m20+1,a0,J13,DI,x19=>cond (decide (x19 >= 0)) (cond (decide (0<=x19)) ((C2 (⟨#[48,49,50,51,52,53,54,55,56,57,97,98,99,100,101,102]⟩:Ah) (IntKind.u64.wrap ((BitVec.ofInt 64 (Int.fdiv (IntKind.u64.wrap a0) (2 ^ min (Int.toNat x19) 64)) &&& BitVec.ofInt 64 15).toNat:Int))).bind λc23:UInt8=>(apd 1 DI [(c23.toNat:Int)]).bind λLQ=>HI.l0 m20 a0 J13 LQ (Ar (x19 - 4))) none) (J13 DI)
def HI.f (k:Nat) (a0:Int):Option (Ah):=cond (decide (a0 >= 0)) ((Lz.f k a0).bind λr2=>some (r2)) (A2 (λ(l8:List Int)=>some ((strOfNums l8))) (λJ13=>HI.l0 k a0 J13 ([48,120]) 60))
theorem HI.ok {k:Nat} {a0:Int} {Af:Am} {r:Ah} (h:HI.f k a0=some r) (hG:Hw Af): Ct Tryz.prog 60 #[V a0] [] [Af] (λe l1=>e=.returned (D r)/\l1=[]):=by
 refine BC Tryz.func60 I (AY I) ?_;intro A X hh_;obtain ⟨Cj,_⟩:=hh_;unfold HI.f at h;refine ksr (M 1 (G (AU (ksr (M 2 (G (At h (λh=>?_) λh=>?_)))))));refine ksr (M 1 (N h λr2 hr2 h=>(CQ (Lz.ok hr2 hG) ⟨Cj,Aj⟩ (M 1 (G (AT (Bh ?_)))))));obtain rfl:=Ap h;exact kdn I;refine AF (As (ksr (Bl #[.int .u8 48,.int .u8 120] 5 2 λb3=>(Boc (U:=5) (xs:=[48,120]) I (by kernel_rfl) (by kernel_rfl) (by kernel_rfl) (by kernel_rfl) (by kernel_rfl) (AC.blk 5 (CN .u8) b3 [48,120] #[.int .u8 48,.int .u8 120] 2 (by kernel_rfl) I (by decide)) I λh4 A5 k6 o7=>(M 1 (G ?_))))));obtain ⟨J13,Nz,h⟩:=By h;refine Bz (τ:=(List Int)×Am×(Option Addr)×Nat) (c4 λa _ c d=>[(3,W c a d)]) (λt=>t.2.1 :: X) (c4 λa b c d=>J13 a=some r/\Ms (encI .u8) 5 1 b (W c a d) a) ?_ ?_;rintro ⟨l8,h9,GK,k11⟩ ⟨h,HA⟩;subst Nz;refine ksr (M 1 (NW (U:=5) (xs:=l8) I (by kernel_rfl) (by kernel_rfl) (by kernel_rfl) (by kernel_rfl) (by kernel_rfl) (by kernel_rfl) (Ms.rd HA) (.head _) (Ao (M 1 (G (AT ?_))))));obtain rfl:=Ap h;exact kdn I;refine ksr (M 1 (G (Bq (CW (τ:=(List Int)×Int×Am×AG×Nat) (c5 λa b _ d e=>[(0,V a0),(3,W d a e),(4,V b)]) (λt=>t.2.2.1 :: X) (λm=>c5 λa b c d e=>HI.l0 m a0 J13 a b=some r/\Ms (encI .u8) 5 1 c (W d a e) a) k ([48,120],60,h4,A5,k6) ⟨h,o7⟩ sb I ?_))));clear h;rintro m20 ⟨DI,x19,h15,JM,k17⟩ ⟨h,G8⟩;rcases m20 with _ | m20;simp [HI.l0] at h;simp only [HI.l0] at h;refine AU (ksr (M 2 (G (At h (λh=>?_) λh=>?_))));refine AF (As (AU (Bq (AK (M 4 ?_)))));obtain ⟨B2y,h⟩:=I0 h;exact Boz (kd:=.u64) (kd2:=.i64) (a:=(IntKind.u64.wrap a0)) (b:=x19) I (by kernel_rfl) (by kernel_rfl) (by kernel_rfl) (by kernel_rfl) B2y (M 1 (N h λc23 N0 h=>(Eh (kd:=.u64) I N0 (Bl #[.int .u8 (c23.toNat:Int)] 5 1 λb24=>(Ak (N h λLQ Bb3 h=>(Bn6 (ys:=[(c23.toNat:Int)]) (CN .u8) I GW (by kernel_rfl) (by kernel_rfl) (by kernel_rfl) (by kernel_rfl) (by kernel_rfl) Bb3 G8 (Nat.succ_pos _) (Cp (n:=1) (CN .u8) [(c23.toNat:Int)] (by kernel_rfl) I (by decide) 1 I) λh26 A27 k28 o29=>(Ak (Ao (M 1 (knl (A_ (As (AK (M 3 (G (Cw m20 (LQ,Ar (x19 - 4),h26,A27,k28) (Nat.lt_succ_self _) ⟨h,(AC.grow o29)⟩ sb I)))))))))))))))));exact CH (B6 (B6 (CI (As (AA (DI,h15,JM,k17) ⟨h,G8⟩ sb I)))))
def e120 (x:Int×Int×Int):List Value:=[.int .i64 x.1,.int .i64 x.2.1,.int .i64 x.2.2]
theorem VB:En e120 3:=⟨λ_=>rfl,λ_=>rfl⟩
theorem A4k:G0 Tryz.prog 118 120 3 24 Tryz.t120 (.agg #[V 0,V 0,V 0]):=⟨by kernel_rfl,by kernel_rfl,by kernel_rfl,by kernel_rfl,by kernel_rfl,by kernel_rfl,by decide⟩
def Ls.f (_k:Nat) (Ai:Int) (An:Int) (AD:Int) (AV:List (Int×Int×Int)):Option (Bool×List (Int×Int×Int)):=(apd 24 AV [(Ai,An,AD)]).bind λl3=>some (true,l3)
theorem Ls.ok {k Tt Acs:Nat} {Ai An AD:Int} {AV:List (Int×Int×Int)} {Aa4:Am} {Aax:AG} {r:Bool×List (Int×Int×Int)} (h:Ls.f k Ai An AD AV=some r) (Avd:AC e120 120 3 Aa4 (W Aax AV Acs) AV): Ct Tryz.prog 117 #[.agg #[V Ai,V An,V AD],pt Tt] [bk Tt #[W Aax AV Acs] 118,Aa4] [] (λe l1=>∃ (H0_:Am) (A0_:AG) (c0_:Nat),AC e120 120 3 H0_ (W A0_ r.2 c0_) r.2/\e=.returned (bv r.1)/\l1=[bk Tt #[W A0_ r.2 c0_] 118,H0_]):=by
 refine BC Tryz.func117 I (AY I) ?_;intro A X hh_;unfold Ls.f at h;refine ksr (knp #[V Ai,V An,V AD] 120 λb1=>(M 1 (AP (kld 1 0 I (C0 0 0 3 I (Ao (Bl #[V Ai,V An,V AD] 120 1 λb2=>(Aq (N h λl3 hl3 h=>(DG (ys:=[(Ai,An,AD)]) VB I A4k hl3 Avd (Cp (n:=1) VB [(Ai,An,AD)] (by kernel_rfl) I (by decide) 1 I) λh4 A5 k6 o7=>(Ak (Ao (Ak (AB 0 1 #[W A5 l3 k6] (AP (M 1 (G (AT ?_))))))))))))))))));obtain rfl:=Ap h;exact kdv (bv true) [bk Tt #[W A5 l3 k6] 118,h4] (Bb ⟨h4,A5,k6,o7,I,I⟩)
def HZ.l0:Nat->(a0:Ah)->(J9:Int->Int->(List (Int×Int×Int))->Option (List (Int×Int×Int)))->(p17:Nat)->(x18:Int)->(x19:Int)->(Ck:List (Int×Int×Int))->Option (List (Int×Int×Int))
 | 0,_,_,_,_,_,_=>none
 | Fq+1,a0,J9,p17,x18,x19,Ck=>cond (decide (p17 < ByteArray.size a0)) (A2 (λ(x27:Int) (l28:List (Int×Int×Int))=>HZ.l0 Fq a0 J9 (MO a0 p17) ((p17:Nat):Int) (Ar (Me a0 p17)) l28) (λJ33=>cond (decide (x18 >= 0)) ((Ls.f Fq x18 (Ar (((p17:Nat):Int) - x18)) x19 Ck).bind λEB=>cond (!EB.1) (some (EB.2)) (J33 (Ar (((p17:Nat):Int) - x18)) EB.2)) (J33 0 Ck))) (J9 x18 x19 Ck)
def HZ.f (k:Nat) (a0:Ah) (Nk:List (Int×Int×Int)):Option (List (Int×Int×Int)):=A2 (λ(x2:Int) (x3:Int) (l4:List (Int×Int×Int))=>cond (decide (x2 >= 0)) ((Ls.f k x2 (Ar ((a0.size:Int) - x2)) x3 l4).bind λr11=>some (r11.2)) (some (l4))) (λJ9=>HZ.l0 k a0 J9 0 (-1:Int) 0 Nk)
theorem HZ.ok {k Jp V1:Nat} {a0:Ah} {Nk r:List (Int×Int×Int)} {Vf:Am} {Vb:AG} (h:HZ.f k a0 Nk=some r) (Avh:AC e120 120 3 Vf (W Vb Nk V1) Nk): Ct Tryz.prog 116 #[D a0,.func (.func 117) #[] #[pt Jp]] [bk Jp #[W Vb Nk V1] 118,Vf] [] (λe l1=>∃ (H0_:Am) (A0_:AG) (c0_:Nat),AC e120 120 3 H0_ (W A0_ r c0_) r/\e=.returned (.tuple #[])/\l1=[bk Jp #[W A0_ r c0_] 118,H0_]):=by
 refine BC Tryz.func116 I (AY I) ?_;intro A X hh_;unfold HZ.f at h;refine ksr (M 1 (knp #[V 0,V 0,V 0] 120 λb1=>(AB 0 3 #[V (-1),V 0,V 0] (G ?_))));obtain ⟨J9,hJ9,h⟩:=By h;refine Bz (τ:=Int×Int×(List (Int×Int×Int))×Am×AG×Nat) (λt=>[(0,D a0),(1,.func (.func 117) #[] #[pt Jp]),(4,pt b1)]) (c6 λa b c d e f=>bk b1 #[V a,V 0,V b] 120 :: bk Jp #[W e c f] 118 :: d :: X) (c6 λa b c d e f=>J9 a b c=some r/\AC e120 120 3 d (W e c f) c) ?_ ?_;rintro ⟨x2,x3,l4,h5,A6,k7⟩ ⟨h,o8⟩;subst hJ9;refine ksr (M 1 (kld 0 0 I (M 1 (G (At h (λh=>?_) λh=>?_)))));refine ksr (M 3 (kld 0 0 I (M 2 (AB 1 1 #[V x2,V (Ar ((a0.size:Int) - x2)),V x3] (CY (M 1 (C0 0 0 3 I (Ao (Ak (Ak (N h λr11 JY h=>(AZ (Ls.ok JY o8) I trivial ?_))))))))))));rintro _ _ ⟨h12,Ib,k14,o15,rfl,rfl⟩;refine AR (knl (Dn ?_));obtain rfl:=Ap h;exact kdv (.tuple #[]) [bk Jp #[W Ib r11.2 k14] 118,h12] (Bb ⟨h12,Ib,k14,o15,I,I⟩);refine AF (Dn ?_);obtain rfl:=Ap h;exact kdv (.tuple #[]) [bk Jp #[W A6 l4 k7] 118,h5] (Ao (Bb ⟨h5,A6,k7,o8,I,I⟩));refine ksr (M 1 (Boy (s:=a0) I (by kernel_rfl) (by kernel_rfl) (by kernel_rfl) (by kernel_rfl) λb16=>(G (Bq (CW (τ:=Nat×Int×Int×(List (Int×Int×Int))×Am×AG×Nat) (λt=>[(0,D a0),(1,.func (.func 117) #[] #[pt Jp]),(4,pt b1),(9,pt b16)]) (c7 λa b c d e f g=>blk b16 (.stringIter a0 a) :: bk b1 #[V b,V 0,V c] 120 :: bk Jp #[W f d g] 118 :: e :: X) (λm=>c7 λa b c d e f g=>HZ.l0 m a0 J9 a b c d=some r/\AC e120 120 3 e (W f d g) d) k (0,(-1:Int),0,Nk,Vf,Vb,V1) ⟨h,Avh⟩ sb I ?_)))));clear h;rintro Fq ⟨p17,x18,x19,Ck,h21,F1,k23⟩ ⟨h,Ew⟩;rcases Fq with _ | Fq;simp [HZ.l0] at h;simp only [HZ.l0] at h;refine ksr ?_;rcases Bool.eq_false_or_eq_true (decide (p17 < ByteArray.size a0)) with SB | SB;have h:=A0p h SB;refine Bot SB I (by kernel_rfl) (by kernel_rfl) (by kernel_rfl) (M 1 (G (AU (Xy (by kernel_rfl) (AF (As (Bq (ksr (M 4 (G ?_))))))))));obtain ⟨J33,A7j,h⟩:=By h;refine Bz (τ:=Int×(List (Int×Int×Int))×Am×AG×Nat) (λt=>[(0,D a0),(1,.func (.func 117) #[] #[pt Jp]),(4,pt b1),(5,V ((p17:Nat):Int)),(6,.int .i32 (Me a0 p17)),(9,pt b16)]) (c5 λa b c d e=>blk b16 (.stringIter a0 (MO a0 p17)) :: bk b1 #[V x18,V a,V x19] 120 :: bk Jp #[W d b e] 118 :: c :: X) (c5 λa b c d e=>J33 a b=some r/\AC e120 120 3 c (W d b e) b) ?_ ?_;rintro ⟨x27,l28,h29,Ix,k31⟩ ⟨h,o32⟩;subst A7j;exact AK (M 4 (Ak (AB 0 3 #[V ((p17:Nat):Int),V 0,V (Ar (Me a0 p17))] (knl (A_ (As (Av (Av (Aq (Av (Cw Fq ((MO a0 p17),((p17:Nat):Int),Ar (Me a0 p17),l28,h29,Ix,k31) (Nat.lt_succ_self _) ⟨h,o32⟩ sb I)))))))))));refine ksr (M 1 (kld 1 0 I (M 1 (G (At h (λh=>?_) λh=>?_)))));refine ksr (M 2 (kld 1 0 I (M 2 (Ak (AB 1 1 #[V x18,V (Ar (((p17:Nat):Int) - x18)),V x19] (AP (M 1 (C0 0 0 3 I (Av (Av (N h λEB NC h=>(AZ (Ls.ok NC Ew) I trivial ?_))))))))))));rintro _ _ ⟨h36,A37,k38,o39,rfl,rfl⟩;refine AR (M 1 (G (At h (λh=>?_) λh=>?_)));refine AT (Bh (B3 (Bh (B3 (Bh ?_)))));obtain rfl:=Ap h;exact kdv (.tuple #[]) [bk Jp #[W A37 EB.2 k38] 118,h36] (Aq (Ao (Aq (Ao (Bb ⟨h36,A37,k38,o39,I,I⟩)))));exact AF (As (Ak (Ak (Aq (Av (AA (Ar (((p17:Nat):Int) - x18),EB.2,h36,A37,k38) ⟨h,o39⟩ sb I))))));exact AF (As (AA (0,Ck,h21,F1,k23) ⟨h,Ew⟩ sb I));have h:=A0o h SB;exact Bos SB I (by kernel_rfl) (by kernel_rfl) (by kernel_rfl) (M 1 (G (AU (Xx (by kernel_rfl) (CH (B6 (B6 (CI (As (Ao (AA (x18,x19,Ck,h21,F1,k23) ⟨h,Ew⟩ sb I)))))))))))
def O0.f (k:Nat) (a0:Ah):Option (List (Int×Int×Int)):=(HZ.f k a0 ([])).bind λr2=>some (r2)
theorem O0.ok {k:Nat} {a0:Ah} {r:List (Int×Int×Int)} (h:O0.f k a0=some r): Ct Tryz.prog 92 #[D a0] [] [] (λe l1=>∃ (H0_:Am) (A0_:AG) (c0_:Nat),AC e120 120 3 H0_ (W A0_ r c0_) r/\e=.returned (W A0_ r c0_)/\l1=[H0_]):=by
 refine BC Tryz.func92 I (AY I) ?_;intro A X hh_;unfold O0.f at h;refine ksr (M 1 (AP (knp #[nS] 118 λb1=>(AP (M 2 (CX (Ak (N h λr2 hr2 h=>(AZ (HZ.ok hr2 (AC.nil e120 120 3 none_)) I trivial ?_)))))))));rintro _ _ ⟨h3,A4,k5,o6,rfl,rfl⟩;refine AR (AP (kld 0 0 I (Ao (M 1 (G (AT ?_))))));obtain rfl:=Ap h;exact kdv (W A4 r2 k5) [h3] (Bb ⟨h3,A4,k5,o6,I,I⟩)
def G6.l0:Nat->(a0:Ah)->(IK:(List Int)->Option (Ah))->(r25:List (Int×Int×Int))->(x30:Int)->(D7:List Int)->Option (Ah)
 | 0,_,_,_,_,_=>none
 | FK+1,a0,IK,r25,x30,D7=>cond (decide (x30 < ((r25.length:Nat):Int))) (A2 (λ(Li:List Int)=>G6.l0 FK a0 IK r25 (Ar (x30+1)) Li) (λMx=>(Bm r25 x30).bind λx48=>(C2 a0 x48.1).bind λc53:UInt8=>(cond ((c53.toNat:Int) == 92) (some true) (some ((c53.toNat:Int) == 34)):Option Bool).bind λYK=>cond YK ((FX.f FK D7 92).bind λEl=>(FX.f FK El (c53.toNat:Int)).bind λCF=>Mx CF) (cond ((c53.toNat:Int) == 10) ((Gw.f FK D7 (⟨#[92,110]⟩:Ah)).bind λr71=>Mx r71.2) (cond ((c53.toNat:Int) == 13) ((Gw.f FK D7 (⟨#[92,114]⟩:Ah)).bind λPG=>Mx PG.2) ((cond (decide ((c53.toNat:Int) < 32)) (some true) (some ((c53.toNat:Int) == 127)):Option Bool).bind λYO=>cond YO ((Lz.f FK (Ar (c53.toNat:Int))).bind λE5=>(strings_Repeat.f FK (⟨#[48]⟩:Ah) (Ar (3 - (E5.size:Int)))).bind λOz=>(GJ (⟨#[92]⟩:Ah) Oz).bind λO2:Ah=>(GJ O2 E5).bind λs91:Ah=>(Gw.f FK D7 s91).bind λPH=>Mx PH.2) ((cond (x48.2.2 == 65533) (some (x48.2.1 == 1)) (some false):Option Bool).bind λYP=>cond YP ((C2 (⟨#[48,49,50,51,52,53,54,55,56,57,97,98,99,100,101,102]⟩:Ah) (Int.fdiv (c53.toNat:Int) 16)).bind λNp:UInt8=>(GJ (⟨#[92,120]⟩:Ah) (Utf8.encode (Np.toNat:Int))).bind λO1:Ah=>(C2 (⟨#[48,49,50,51,52,53,54,55,56,57,97,98,99,100,101,102]⟩:Ah) (IntKind.u8.wrap ((BitVec.ofInt 8 (c53.toNat:Int) &&& BitVec.ofInt 8 15).toNat:Int))).bind λNq:UInt8=>(GJ O1 (Utf8.encode (Nq.toNat:Int))).bind λApu:Ah=>(Gw.f FK D7 Apu).bind λJF=>Mx JF.2) ((FM a0 x48.1 (Ar (x48.1+x48.2.1))).bind λApv:Ah=>(Gw.f FK D7 Apv).bind λK0=>Mx K0.2))))))) (IK D7)
def G6.f (k:Nat) (a0:Ah):Option (Ah):=(FX.f k ([]) 34).bind λr2=>A2 (λ(MC:List Int)=>(FX.f k MC 34).bind λEe=>(Lv.f k Ee).bind λFE=>some (FE)) (λIK=>(O0.f k a0).bind λr25=>G6.l0 k a0 IK r25 0 r2)
theorem G6.ok {k:Nat} {a0 r:Ah} {Af:Am} (h:G6.f k a0=some r) (hG:Hw Af): Ct Tryz.prog 61 #[D a0] [] [Af] (λe l1=>e=.returned (D r)/\l1=[]):=by
 refine BC Tryz.func61 I (AY I) ?_;intro A X hh_;obtain ⟨Cj,_⟩:=hh_;unfold G6.f at h;refine ksr (M 1 (AP (knp #[.pointer none,nS] 44 λb1=>(AP (CX (Ak (N h λr2 hr2 h=>(AZ (FX.ok hr2 KX (.inl I) (AC.nil (encI .u8) 5 1 none_)) I trivial ?_))))))));rintro _ _ ⟨v3,h5,A6,k7,V4,o8,rfl,rfl⟩;refine AR (G ?_);obtain ⟨IK,VX,h⟩:=By h;refine Bz (τ:=(List Int)×Value×Am×AG×Nat) (λt=>[(3,pt b1)]) (c5 λa b c d e=>bk b1 #[b,W d a e] 44 :: c :: X) (c5 λa b c d e=>IK a=some r/\DO b1 b/\AC (encI .u8) 5 1 c (W d a e) a) ?_ ?_;rintro ⟨MC,v9,h12,Ib,k14⟩ ⟨h,V10,o15⟩;subst VX;refine ksr (Ak (Ak (N h λEe Ij h=>(AZ (FX.ok Ij KX V10 o15) I trivial ?_))));rintro _ _ ⟨v18,h20,A21,k22,V19,G9,rfl,rfl⟩;refine AR (AP (Ak (Ak (N h λFE N9 h=>(Bf (Lv.ok N9 KX V19 G9) I trivial (Ao (M 1 (G (AT ?_)))))))));obtain rfl:=Ap h;exact kdn I;refine ksr (M 1 (N h λr25 Gj h=>(AZ (O0.ok Gj) I trivial ?_)));rintro _ _ ⟨h26,A27,k28,o29,rfl,rfl⟩;refine BU (M 2 (G (Bq (CW (τ:=Int×(List Int)×Value×Am×AG×Nat) (λt=>[(0,D a0),(3,pt b1),(10,W A27 r25 k28),(11,V ((r25.length:Nat):Int)),(12,V t.1)]) (c6 λ_ b c d e f=>h26 :: bk b1 #[c,W e b f] 44 :: d :: X) (λm=>c6 λa b c d e f=>G6.l0 m a0 IK r25 a b=some r/\DO b1 c/\AC (encI .u8) 5 1 d (W e b f) b) k (0,r2,v3,h5,A6,k7) ⟨h,V4,o8⟩ sb I ?_))));clear h;rintro FK ⟨x30,D7,v31,h34,A35,H4⟩ ⟨h,V32,F9⟩;rcases FK with _ | FK;simp [G6.l0] at h;simp only [G6.l0] at h;refine ksr (M 1 (G (AU (At h (λh=>?_) λh=>?_))));refine AF (As ?_);obtain ⟨Mx,A7s,h⟩:=By h;refine Bz (τ:=(List Int)×Value×Am×AG×Nat) (λt=>[(0,D a0),(3,pt b1),(10,W A27 r25 k28),(11,V ((r25.length:Nat):Int)),(12,V x30)]) (c5 λa b c d e=>h26 :: bk b1 #[b,W d a e] 44 :: c :: X) (c5 λa b c d e=>Mx a=some r/\DO b1 b/\AC (encI .u8) 5 1 c (W d a e) a) ?_ ?_;rintro ⟨Li,v40,h43,A44,k45⟩ ⟨h,V41,MI⟩;subst A7s;exact AK (M 2 (G (Cw FK (Ar (x30+1),Li,v40,h43,A44,k45) (Nat.lt_succ_self _) ⟨h,V41,MI⟩ sb I)));refine Bq (ksr (N h λx48 Bk8 h=>(Im (T:=120) (kd:=.i64) VB I Bk8 (AC.rd o29) λp49 e50 y51=>?_)));have e50:Elem _ p49 [V x48.1,V x48.2.1,V x48.2.2]:=e50;refine DH I e50 (.head _) (knp #[V 0,V 0,V 0] 120 λNm=>(AB 0 3 #[V x48.1,V x48.2.1,V x48.2.2] (AP (M 2 (kld 0 0 I (N h λc53 Bao h=>(Eh (kd:=.i64) I Bao (M 1 (G (Bq (N h λYK W7 h=>?_)))))))))));refine C5 [(0,D a0),(3,pt b1),(10,W A27 r25 k28),(11,V ((r25.length:Nat):Int)),(12,V x30),(5,pt Nm),(6,.int .u8 (c53.toNat:Int)),(30,bv YK)] (bk Nm #[V x48.1,V x48.2.1,V x48.2.2] 120 :: h26 :: bk b1 #[v31,W A35 D7 H4] 44 :: h34 :: X) ?_ ?_;clear W7;refine At h (λh=>?_) λh=>?_;refine ksr (Av (Av (N h λEl Rf h=>(AZ (FX.ok Rf KX V32 F9) I trivial ?_))));rintro _ _ ⟨v57,h59,SS,Ub,V58,Og,rfl,rfl⟩;refine AR (Aq (Ao (CY (M 1 (Ak (Ak (N h λCF Kc h=>(AZ (FX.ok Kc KX V58 Og) I trivial ?_))))))));rintro _ _ ⟨v64,h66,A67,k68,V65,o69,rfl,rfl⟩;exact AR (knl (A_ (A_ (As (Ak (Ak (Aq (AA (CF,v64,h66,A67,k68) ⟨h,V65,o69⟩ sb I))))))));refine ksr (M 3 (G (At h (λh=>?_) λh=>?_)));refine AK (Av (Av (N h λr71 NJ h=>(AZ (Gw.ok NJ KX V32 F9) I trivial ?_))));rintro _ _ ⟨v72,h74,A75,Lf,QA,LY,rfl,rfl⟩;exact AR (Aq (Ao (knl (A_ (A_ (As (Ak (Ak (Aq (AA (r71.2,v72,h74,A75,Lf) ⟨h,QA,LY⟩ sb I))))))))));refine ksr (M 3 (G (At h (λh=>?_) λh=>?_)));refine AK (Av (Av (N h λPG WX h=>(AZ (Gw.ok WX KX V32 F9) I trivial ?_))));rintro _ _ ⟨v80,h82,A83,k84,V81,o85,rfl,rfl⟩;exact AR (Aq (Ao (knl (A_ (A_ (As (Ak (Ak (Aq (AA (PG.2,v80,h82,A83,k84) ⟨h,V81,o85⟩ sb I))))))))));refine N h λYO WC h=>?_;refine C5 [(0,D a0),(3,pt b1),(10,W A27 r25 k28),(11,V ((r25.length:Nat):Int)),(12,V x30),(5,pt Nm),(6,.int .u8 (c53.toNat:Int)),(48,bv YO)] (bk Nm #[V x48.1,V x48.2.1,V x48.2.2] 120 :: h26 :: bk b1 #[v31,W A35 D7 H4] 44 :: h34 :: X) ?_ ?_;clear WC;refine At h (λh=>?_) λh=>?_;refine ksr (M 2 (N h λE5 Ro h=>(CQ (Lz.ok Ro hG) ⟨(t4 Cj),Aj⟩ (Ao (M 1 (CY (M 3 (N h λOz Bip h=>(CQ (strings_Repeat.ok Bip) trivial (N h λO2 Bjg h=>(R1 I (by kernel_rfl) (by kernel_rfl) (by kernel_rfl) (by kernel_rfl) Bjg (M 1 (N h λs91 Bjj h=>(R1 I (by kernel_rfl) (by kernel_rfl) (by kernel_rfl) (by kernel_rfl) Bjj (Aq (Aq (N h λPH W_ h=>(AZ (Gw.ok W_ KX V32 F9) I trivial ?_))))))))))))))))));rintro _ _ ⟨v93,h95,A96,k97,V94,o98,rfl,rfl⟩;exact AR (knl (A_ (A_ (As (Ak (Ak (Aq (AA (PH.2,v93,h95,A96,k97) ⟨h,V94,o98⟩ sb I))))))));refine N h λYP WD h=>?_;refine C5 [(0,D a0),(3,pt b1),(10,W A27 r25 k28),(11,V ((r25.length:Nat):Int)),(12,V x30),(5,pt Nm),(6,.int .u8 (c53.toNat:Int)),(66,bv YP)] (bk Nm #[V x48.1,V x48.2.1,V x48.2.2] 120 :: h26 :: bk b1 #[v31,W A35 D7 H4] 44 :: h34 :: X) ?_ ?_;clear WD;refine At h (λh=>?_) λh=>?_;refine kpr [(0,0),(1,0),(2,0),(3,0),(4,0)] [] (AJ 2 (N h λNp hc101 h=>(X3 (kd:=.u8) I (by kernel_rfl) (by kernel_rfl) (by kernel_rfl) (by kernel_rfl) (by kernel_rfl) hc101 (AJ 1 (N h λO1 Bix h=>(Bo3 I (by kernel_rfl) (by kernel_rfl) (by kernel_rfl) (by kernel_rfl) Bix (BF (M 2 (N h λNq A9q h=>(Eh (kd:=.u8) I A9q (Ao (M 1 (N h λApu Biy h=>(R1 I (by kernel_rfl) (by kernel_rfl) (by kernel_rfl) (by kernel_rfl) Biy (Aq (Aq (N h λJF WF h=>(AZ (Gw.ok WF KX V32 F9) I trivial ?_))))))))))))))))));rintro _ _ ⟨B25,A5o,ZT,Ahe,Avv,o111,rfl,rfl⟩;exact AR (knl (A_ (A_ (As (Ak (Ak (Aq (AA (JF.2,B25,A5o,ZT,Ahe) ⟨h,Avv,o111⟩ sb I))))))));refine AK (M 2 (kld 0 0 I (M 1 (kld 0 0 I (M 1 (kld 0 1 I (Ao (M 1 (N h λApv Bi2 h=>(M9 x48.1 (Ar (x48.1+x48.2.1)) I (by kernel_rfl) (by kernel_rfl) (by kernel_rfl) (.inr ⟨_,.i64,I,(by kernel_rfl)⟩) (.inr ⟨_,.i64,I,(by kernel_rfl)⟩) (by kernel_rfl) Bi2 (Aq (Aq (N h λK0 QW h=>(AZ (Gw.ok QW KX V32 F9) I trivial ?_))))))))))))));rintro _ _ ⟨B27,h116,Q3,Rx,Av0,Ut,rfl,rfl⟩;exact AR (knl (A_ (A_ (As (Ak (Ak (Aq (AA (K0.2,B27,h116,Q3,Rx) ⟨h,Av0,Ut⟩ sb I))))))));have h:=WD;clear WD;refine AK (M 1 (kld 0 2 I (M 2 (Bt 70 h (λh=>?_) λh=>?_))));exact M 1 (kld 0 1 I (M 3 (G (AW ⟨gr,gr,gr,gr,gr,gr,gr,gb (Ap h),Aj⟩))));exact M 5 (G (AW ⟨gr,gr,gr,gr,gr,gr,gr,gb (Ap h),Aj⟩));have h:=WC;clear WC;refine AK (M 3 (Bt 51 h (λh=>?_) λh=>?_));exact M 4 (G (AW ⟨gr,gr,gr,gr,gr,gr,gr,gb (Ap h),Aj⟩));exact M 4 (G (AW ⟨gr,gr,gr,gr,gr,gr,gr,gb (Ap h),Aj⟩));have h:=W7;clear W7;refine AK (M 3 (Bt 33 h (λh=>?_) λh=>?_));exact M 4 (G (AW ⟨gr,gr,gr,gr,gr,gr,gr,gb (Ap h),Aj⟩));exact M 4 (G (AW ⟨gr,gr,gr,gr,gr,gr,gr,gb (Ap h),Aj⟩));exact CH (B6 (B6 (CI (As (Ao (AA (D7,v31,h34,A35,H4) ⟨h,V32,F9⟩ sb I))))))
theorem Tw:Lb 46:=by unfold Lb;kernel_rfl
end
end Go.Proofs.YtaifddambjmiiaaGreatDoor
