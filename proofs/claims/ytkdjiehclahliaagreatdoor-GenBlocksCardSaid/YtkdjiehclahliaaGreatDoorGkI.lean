/- Texts of mine for genBlocks_card, part 9. -/
import Derived.Test.YtkdjiehclahliaaGreatDoorGkH
set_option linter.unusedSimpArgs false
set_option linter.unusedVariables false
set_option linter.unusedSectionVars false
namespace Go.Proofs.YtkdjiehclahliaaGreatDoor
set_option maxRecDepth 100000
section
open Go Go.RowKit
variable {Rl:Int→Int→Prop}
section
variable {E:Tk} (hE:E.1=6) {X:List Tk} (hX:Stp X)
def GM (Rl:Int→Int→Prop) {α:Type} (E:Tk) (X:List Tk) (S:α→α→Prop) (x x':Option (PV α)):Prop:=∀ a r,x=some (.ok a r)→r≠[E]→∃ R R' a',r=R++[E]∧(D2 Rl) R R'∧Good (R++[E])∧S a a'∧x'=some (.ok a' (R'++X))
variable {α β:Type} {S:α→α→Prop} {S':β→β→Prop}
theorem LR_.n {x x':Option (PV α)} (h:(LR_ Rl) E X S x x'):(GM Rl) E X S x x':=fun a r hx _=>h a r hx
theorem GM.bind {x x':Option (PV α)} {f f':α→List Tk→Option (PV β)} (h:(GM Rl) E X S x x') (h0:∀ a b s,f a [E]=some (.ok b s)→False) (hf:∀ a a' p p' R R',S a a'→(Oq Rl) p p'→(D2 Rl) R R'→Good (p :: (R++[E]))→(LR_ Rl) E X S' (f a (p :: (R++[E]))) (f' a' (p' :: (R'++X)))):(LR_ Rl) E X S' (PV.bind x f) (PV.bind x' f'):=fun b s hb=>by
 rcases bind_some hb with ⟨i,_,he⟩ | ⟨a,r,hx,hfa⟩
 ·cases he
 ·by_cases hr:r=[E]
  ·subst hr;exact (h0 _ _ _ hfa).elim
  ·obtain ⟨R,R',a',rfl,hS,hG,ha,hx'⟩:=h a r hx hr
   rcases hS.cases' with ⟨rfl,rfl⟩ | ⟨p,p',Q,Q',rfl,rfl,hp,hS⟩
   ·exact absurd rfl hr
   ·obtain ⟨R2,R2',b',h1,h2,h3,h4,h5⟩:=hf a a' p p' Q Q' ha hp hS hG b s hfa
    exact ⟨R2,R2',b',h1,h2,h3,h4,by rw [hx'];exact h5⟩
theorem GM.Ajr {x x':Option (PV α)} {f f':α→List Tk→Option (PV β)} (h:(LR_ Rl) E X S x x') (hf:∀ a a' R R',S a a'→(D2 Rl) R R'→Good (R++[E])→(GM Rl) E X S' (f a (R++[E])) (f' a' (R'++X))):(GM Rl) E X S' (PV.bind x f) (PV.bind x' f'):=fun b s hb hs=>by
 rcases bind_some hb with ⟨i,_,he⟩ | ⟨a,r,hx,hfa⟩
 ·cases he
 ·obtain ⟨R,R',a',rfl,hS,hG,ha,hx'⟩:=h a r hx
  obtain ⟨R2,R2',b',h1,h2,h3,h4,h5⟩:=hf a a' R R' ha hS hG b s hfa hs
  exact ⟨R2,R2',b',h1,h2,h3,h4,by rw [hx'];exact h5⟩
theorem GM.ite {c c':Prop} [Decidable c] [Decidable c'] {x y x' y':Option (PV α)} (hc:c ↔ c') (h1:c→(GM Rl) E X S x x') (h2:¬ c→(GM Rl) E X S y y'):(GM Rl) E X S (if c then x else y) (if c' then x' else y'):=by
 by_cases h:c
 ·rw [if_pos h,if_pos (hc.1 h)];exact h1 h
 ·rw [if_neg h,if_neg (fun h'=>h (hc.2 h'))];exact h2 h
theorem V5 {p p':Tk} (h:(Oq Rl) p p') (r r':List Tk):Gk (p :: r)=Gk (p' :: r'):=by
 unfold Gk
 simp only [GZ h _ r r',hd,List.headD_cons,h.1]
include hE in
theorem V4:Gk [E]=true:=by
 unfold Gk
 simp [hd,hE]
include hE in
theorem Bv1 {w:ByteArray} {a:Unit} {s:List Tk} (h:E_ w [E]=some (.ok a s)):False:=by
 unfold E_ at h
 rw [Hm hE] at h
 simp at h
include hE in
theorem X2 {w:ByteArray} {f:Unit→List Tk→Option (PV β)} {b:β} {s:List Tk} (h:PV.bind (E_ w [E]) f=some (.ok b s)):False:=by
 rcases bind_some h with ⟨i,_,he⟩ | ⟨a,r,hx,_⟩
 ·cases he
 ·exact Bv1 hE hx
structure A0p (Rl:Int→Int→Prop) (E:Tk) (X:List Tk) (f:Nat):Prop where
 block:∀ R R',(D2 Rl) R R'→Good (R++[E])→(GM Rl) E X (Dw Rl) (DM f false (R++[E])) (DM f false (R'++X))
 Es:∀ at_ at' acc acc' R R',(CW Rl) acc acc'→(D2 Rl) R R'→Good (R++[E])→(GM Rl) E X (Dw Rl) (Dt f false at_ acc (R++[E])) (Dt f false at' acc' (R'++X))
 function:∀ p p' Q Q',(Oq Rl) p p'→(D2 Rl) Q Q'→Good (p :: (Q++[E]))→(LR_ Rl) E X (Dw Rl) (EY f (p :: (Q++[E]))) (EY f (p' :: (Q'++X)))
 body:∀ R R',(D2 Rl) R R'→Good (R++[E])→(LR_ Rl) E X (Dw Rl) (E9 f (R++[E])) (E9 f (R'++X))
 stat:∀ R R',(D2 Rl) R R'→Good (R++[E])→(LR_ Rl) E X (Dw Rl) (EK f (R++[E])) (EK f (R'++X))
 branches:∀ acc acc' R R',(CW Rl) acc acc'→(D2 Rl) R R'→Good (R++[E])→(LR_ Rl) E X (CW Rl) (Fz f acc (R++[E])) (Fz f acc' (R'++X))
 for_:∀ at_ at' R R',Rl at_ at'→(D2 Rl) R R'→Good (R++[E])→(LR_ Rl) E X (Dw Rl) (F9 f at_ (R++[E])) (F9 f at' (R'++X))
 plain:∀ R R',(D2 Rl) R R'→Good (R++[E])→(LR_ Rl) E X (Dw Rl) (FA f (R++[E])) (FA f (R'++X))
 targets:∀ acc acc' e e' R R',(CW Rl) acc acc'→(Dw Rl) e e'→(D2 Rl) R R'→Good (R++[E])→(LR_ Rl) E X (CW Rl) (EZ f acc e (R++[E])) (EZ f acc' e' (R'++X))
include hE hX in
theorem loS:∀ f,(A0p Rl) E X f
 | 0=>by constructor <;> intros <;> (first | unfold DM | unfold Dt | unfold EY | unfold E9 | unfold EK | unfold Fz | unfold F9 | unfold FA | unfold EZ) <;> (first | exact LR_.none | exact LR_.none.n)
 | f+1=>by
  have ih:=loS f
  have ie:=loE (Rl:=Rl) hE hX f
  have is:=KG f
  have it:=stepS (f+1)
  constructor
  ·intro R R' hS hG;unfold DM
   exact ih.Es _ _ _ _ R R' trivial hS hG
  ·intro at_ at' acc acc' R R' ha hS hG
   rcases hS.cases' with ⟨rfl,rfl⟩ | ⟨p,p',Q,Q',rfl,rfl,hp,hS⟩
   ·intro a r h hne
    unfold Dt at h
    simp only [List.nil_append,Hm hE,V4 hE,Bool.false_and,Bool.false_eq_true,if_false,if_true] at h
    cases h
    exact absurd rfl hne
   have hG':=hG.cons.2
   unfold Dt
   simp only [List.cons_append,List.tail_cons,GZ hp _ (Q++[E]) (Q'++X),V5 hp (Q++[E]) (Q'++X),Bool.false_and,Bool.false_eq_true,if_false]
   refine GM.ite Iff.rfl (fun _=>ih.Es _ _ _ _ Q Q' ha hS hG') fun _=>?_
   refine GM.ite Iff.rfl (fun _=>?_) fun _=>?_
   ·have fin:∀ l l' R R',(CW Rl) l l'→(D2 Rl) R R'→Good (R++[E])→(GM Rl) E X (Dw Rl) (some (.ok (.mk 20 noB 0 at_ (acc++[.mk 30 noB 0 (hd (p :: (Q++[E]))).2.2.2 l])) (if AB Ed (R++[E]) then (R++[E]).tail else R++[E]))) (some (.ok (.mk 20 noB 0 at' (acc'++[.mk 30 noB 0 (hd (p' :: (Q'++X))).2.2.2 l'])) (if AB Ed (R'++X) then (R'++X).tail else R'++X))):=by
     intro l l' R R' hl hS hG
     rcases hS.cases' with ⟨rfl,rfl⟩ | ⟨q,q',P,P',rfl,rfl,hq,hS⟩
     ·intro a r h hne
      rw [List.nil_append,Hm hE] at h
      cases h
      exact absurd rfl hne
     ·rw [List.cons_append,List.cons_append,GZ hq Ed (P++[E]) (P'++X),List.tail_cons,List.tail_cons]
      have hm:(Dw Rl) (.mk 20 noB 0 at_ (acc++[.mk 30 noB 0 (hd (p :: (Q++[E]))).2.2.2 l])) (.mk 20 noB 0 at' (acc'++[.mk 30 noB 0 (hd (p' :: (Q'++X))).2.2.2 l'])):=⟨.inl rfl,rfl,rfl,rfl,Gu ha (Gv ⟨.inr (.inr hp.2.2.2),rfl,rfl,rfl,hl⟩)⟩
      split
      ·exact (LR_.ok hm hS hG.cons.2).n
      ·exact (LR_.ok (R:=q :: P) (R':=q' :: P') hm ⟨hq,hS⟩ hG).n
    rcases hS.cases' with ⟨rfl,rfl⟩ | ⟨q,q',P,P',rfl,rfl,hq,hS⟩
    ·intro a r h hne
     rcases bind_some h with ⟨_,_,he⟩ | ⟨l,s,hl,h⟩
     ·cases he
     have hl:(if (Gk [E] || AB Ed [E])=true then some (PV.ok ([]:List Tree) [E]) else DT f [E])=some (.ok l s):=hl
     rw [V4 hE] at hl
     simp only [Bool.true_or,if_true] at hl
     cases hl
     have h:some (PV.ok _ (if AB Ed [E]=true then ([]:List Tk) else [E]))=some (.ok a r):=h
     rw [Hm hE] at h
     cases h
     exact absurd rfl hne
    ·refine GM.Ajr (S:=(CW Rl)) ?_ fin
     refine LR_.ite (by rw [List.cons_append,List.cons_append,GZ hq,V5 hq]) (fun _=>LR_.ok (R:=q :: P) (R':=q' :: P') trivial ⟨hq,hS⟩ hG') fun _=>ie.Do (q :: P) (q' :: P') ⟨hq,hS⟩ hG'
   refine GM.ite Iff.rfl (fun _=>(LR_.ok (R:=p :: Q) (R':=p' :: Q') ⟨.inl rfl,rfl,rfl,rfl,ha⟩ ⟨hp,hS⟩ hG).n) fun _=>?_
   exact GM.Ajr (ih.stat (p :: Q) (p' :: Q') ⟨hp,hS⟩ hG) fun x x' R R' hx hS hG=>ih.Es _ _ _ _ R R' (Gu ha (Gv hx)) hS hG
  ·intro p p' Q Q' hp hS hG;unfold EY
   simp only [List.tail_cons]
   refine LR_.bind (Ro hE hS hG.cons.2) fun nm nm' R R' hn hS hG=>LR_.bind (IG hE hS hG) fun _ _ R R' _ hS hG=>?_
   refine LR_.bind (S:=(CW Rl)) ?_ fun ps ps' R R' hps hS hG=>LR_.bind (IG hE hS hG) fun _ _ R R' _ hS hG=>?_
   ·rcases hS.cases' with ⟨rfl,rfl⟩ | ⟨q,q',P,P',rfl,rfl,hq,hS⟩
    ·rw [List.nil_append,Hm hE]
     exact LR_.noE hE (U5 f _)
    ·exact LR_.ite (by rw [List.cons_append,List.cons_append,GZ hq]) (fun _=>LR_.ok (R:=q :: P) (R':=q' :: P') trivial ⟨hq,hS⟩ hG) fun _=>Asm hE hX f (R:=q :: P) (R':=q' :: P') ⟨hq,hS⟩ hG
   ·refine GM.bind (ih.block R R' hS hG) (fun a b s h=>X2 hE h) fun b b' q q' P P' hb hq hS hG=>?_
    exact LR_.bind (IG (R:=q :: P) (R':=q' :: P') hE ⟨hq,hS⟩ hG) fun _ _ R R' _ hS hG=>LR_.ok ⟨.inr (.inr hp.2.2.2),rfl,MG hn,by rw [GW hps],Gu hps (Gv hb)⟩ hS hG
  ·intro R R' hS hG;unfold E9
   refine LR_.bind (IG hE hS hG) fun _ _ R R' _ hS hG=>GM.bind (ih.block R R' hS hG) (fun a b s h=>X2 hE h) fun b b' q q' P P' hb hq hS hG=>?_
   exact LR_.bind (IG (R:=q :: P) (R':=q' :: P') hE ⟨hq,hS⟩ hG) fun _ _ R R' _ hS hG=>LR_.ok hb hS hG
  ·intro R R' hS hG
   rcases hS.cases' with ⟨rfl,rfl⟩ | ⟨p,p',Q,Q',rfl,rfl,hp,hS⟩
   ·exact LR_.noE (n:=0) hE (it.stat _)
   have hG':=hG.cons.2
   unfold EK
   simp only [List.cons_append,List.tail_cons,GZ hp _ (Q++[E]) (Q'++X)]
   refine LR_.ite Iff.rfl (fun _=>LR_.bind (ih.body (p :: Q) (p' :: Q') ⟨hp,hS⟩ hG) fun b b' R R' hb hS hG=>LR_.ok ⟨.inr (.inr hp.2.2.2),rfl,rfl,rfl,hb,trivial⟩ hS hG) fun _=>?_
   refine LR_.ite Iff.rfl (fun _=>LR_.bind (ie.exp _ Q Q' (by decide) hS hG') fun e e' R R' he hS hG=>LR_.bind (ih.body R R' hS hG) fun b b' R R' hb hS hG=>LR_.ok ⟨.inr (.inr hp.2.2.2),rfl,rfl,rfl,he,hb,trivial⟩ hS hG) fun _=>?_
   refine LR_.ite Iff.rfl (fun _=>LR_.bind (ih.branches _ _ Q Q' trivial hS hG') fun l l' R R' hl hS hG=>LR_.ok ⟨.inr (.inr hp.2.2.2),rfl,rfl,rfl,hl⟩ hS hG) fun _=>?_
   refine LR_.ite Iff.rfl (fun _=>ih.for_ _ _ Q Q' hp.2.2.2 hS hG') fun _=>?_
   refine LR_.ite Iff.rfl (fun _=>LR_.bind (Asm hE hX f hS hG') fun l l' R R' hl hS hG=>LR_.bind (S:=(CW Rl)) ?_ fun es es' R R' hes hS hG=>LR_.ok ⟨.inr (.inr hp.2.2.2),rfl,rfl,by rw [GW hl],Gu hl hes⟩ hS hG) fun _=>?_
   ·refine LR_.ite (by rw [Od hE hS _ hX.eq]) (fun hc=>?_) fun _=>LR_.ok trivial hS hG
    rcases hS.cases' with ⟨rfl,rfl⟩ | ⟨q,q',P,P',rfl,rfl,hq,hS⟩
    ·rw [List.nil_append,Hm hE] at hc;cases hc
    ·exact ie.Do P P' hS hG.cons.2
   refine LR_.ite Iff.rfl (fun _=>LR_.ok ⟨.inr (.inr hp.2.2.2),rfl,rfl,rfl,trivial⟩ hS hG') fun _=>ih.plain (p :: Q) (p' :: Q') ⟨hp,hS⟩ hG
  ·intro acc acc' R R' ha hS hG;unfold Fz
   refine LR_.bind (ie.exp _ R R' (by decide) hS hG) fun e e' R R' he hS hG=>LR_.bind (IG hE hS hG) fun _ _ R R' _ hS hG=>?_
   refine GM.bind (ih.block R R' hS hG) (fun a b s h=>?_) fun b b' q q' P P' hb hq hS hG=>?_
   ·rw [Hm hE,Hm hE] at h
    simp only [Bool.false_eq_true,if_false] at h
    exact X2 hE h
   have hacc:=Gu (Gu ha (Gv he)) (Gv hb)
   simp only [List.tail_cons,GZ hq _ (P++[E]) (P'++X)]
   refine LR_.ite Iff.rfl (fun _=>ih.branches _ _ P P' hacc hS hG.cons.2) fun _=>?_
   refine LR_.ite Iff.rfl (fun _=>?_) fun _=>?_
   ·refine GM.bind (ih.block P P' hS hG.cons.2) (fun a b s h=>X2 hE h) fun c c' q q' P P' hc hq hS hG=>?_
    exact LR_.bind (IG (R:=q :: P) (R':=q' :: P') hE ⟨hq,hS⟩ hG) fun _ _ R R' _ hS hG=>LR_.ok (Gu hacc (Gv hc)) hS hG
   ·exact LR_.bind (IG (R:=q :: P) (R':=q' :: P') hE ⟨hq,hS⟩ hG) fun _ _ R R' _ hS hG=>LR_.ok hacc hS hG
  ·intro at_ at' R R' hat hS hG;unfold F9
   refine LR_.bind (Ro hE hS hG) fun n n' R R' hn hS hG=>?_
   refine LR_.ite (by rw [Od hE hS _ hX.eq]) (fun hc=>?_) fun _=>?_
   ·rcases hS.cases' with ⟨rfl,rfl⟩ | ⟨q,q',P,P',rfl,rfl,hq,hS⟩
    ·rw [List.nil_append,Hm hE] at hc;cases hc
    refine LR_.bind (ie.exp _ P P' (by decide) hS hG.cons.2) fun a a' R R' ha hS hG=>LR_.bind (IG hE hS hG) fun _ _ R R' _ hS hG=>LR_.bind (ie.exp _ R R' (by decide) hS hG) fun b b' R R' hb hS hG=>?_
    refine LR_.bind (S:=(CW Rl)) ?_ fun cs cs' R R' hcs hS hG=>LR_.bind (ih.body R R' hS hG) fun bd bd' R R' hbd hS hG=>LR_.ok ⟨.inr (.inr hat),rfl,rfl,rfl,?_⟩ hS hG
    ·refine LR_.ite (by rw [Od hE hS _ hX.comma]) (fun hc=>?_) fun _=>LR_.ok trivial hS hG
     rcases hS.cases' with ⟨rfl,rfl⟩ | ⟨q,q',P,P',rfl,rfl,hq,hS⟩
     ·rw [List.nil_append,Hm hE] at hc;cases hc
     ·exact LR_.bind (ie.exp _ P P' (by decide) hS hG.cons.2) fun c c' R R' hc hS hG=>LR_.ok (Gv hc) hS hG
    ·exact Gu (Gu (Gu (Gu (Gv hn) (Gv ha)) (Gv hb)) hcs) (Gv hbd)
   ·refine LR_.bind (Abb hE hX f _ _ R R' (Gv hn) hS hG) fun l l' R R' hl hS hG=>LR_.bind (IG hE hS hG) fun _ _ R R' _ hS hG=>LR_.bind (ie.Do R R' hS hG) fun es es' R R' hes hS hG=>LR_.bind (ih.body R R' hS hG) fun bd bd' R R' hbd hS hG=>?_
    exact LR_.ok ⟨.inr (.inr hat),rfl,rfl,by rw [GW hl],Gu (Gu hl hes) (Gv hbd)⟩ hS hG
  ·intro R R' hS hG;unfold FA
   refine LR_.bind (ie.El R R' hS hG) fun e e' R R' he hS hG=>?_
   refine LR_.ite (by rw [Od hE hS _ hX.eq,Od hE hS _ hX.comma]) (fun _=>?_) fun _=>?_
   ·by_cases hk:e.kind=6∨e.kind=7
    ·have hat:=Afm he (by omega) (by omega)
     exact LR_.bind (ih.targets _ _ _ _ R R' trivial he hS hG) fun l l' R R' hl hS hG=>LR_.bind (IG hE hS hG) fun _ _ R R' _ hS hG=>LR_.bind (ie.Do R R' hS hG) fun es es' R R' hes hS hG=>LR_.ok ⟨.inr (.inr hat),rfl,rfl,by rw [GW hl],Gu hl hes⟩ hS hG
    ·intro a r h
     rcases bind_some h with ⟨i,_,he⟩ | ⟨a,r,hx,_⟩
     ·cases he
     ·cases f with
      | zero=>unfold EZ at hx;cases hx
      | succ f=>unfold EZ at hx;rw [if_neg hk] at hx;cases hx
   ·refine LR_.ite (by rw [MF he]) (fun h8=>?_) fun _=>LR_.bad
    exact LR_.ok ⟨.inr (.inr (Afm he (by omega) (by omega))),rfl,rfl,rfl,he,trivial⟩ hS hG
  ·intro acc acc' e e' R R' ha he hS hG;unfold EZ
   refine LR_.ite (by rw [MF he]) (fun _=>?_) fun _=>LR_.bad
   refine LR_.ite (by rw [Od hE hS _ hX.comma]) (fun hc=>?_) fun _=>LR_.ok (Gu ha (Gv he)) hS hG
   rcases hS.cases' with ⟨rfl,rfl⟩ | ⟨q,q',P,P',rfl,rfl,hq,hS⟩
   ·rw [List.nil_append,Hm hE] at hc;cases hc
   ·exact LR_.bind (ie.El P P' hS hG.cons.2) fun x x' R R' hx hS hG=>ih.targets _ _ _ _ R R' (Gu ha (Gv he)) hx hS hG
structure Aik (X:List Tk):Prop where
 Awr:AB Ed X=false
 ret:AB T9 X=false
 fn:AB Nt X=false
 ends:Gk X=true
theorem A8c {f:Nat} {ts r:List Tk} {x:Tree} (h:EY f ts=some (.ok x r)):x.kind=31:=by
 cases f with
 | zero=>unfold EY at h;cases h
 | succ f =>
  unfold EY at h
  rcases bind_some h with ⟨_,_,he⟩ | ⟨_,_,_,h⟩
  ·cases he
  rcases bind_some h with ⟨_,_,he⟩ | ⟨_,_,_,h⟩
  ·cases he
  rcases bind_some h with ⟨_,_,he⟩ | ⟨_,_,_,h⟩
  ·cases he
  rcases bind_some h with ⟨_,_,he⟩ | ⟨_,_,_,h⟩
  ·cases he
  rcases bind_some h with ⟨_,_,he⟩ | ⟨_,_,_,h⟩
  ·cases he
  rcases bind_some h with ⟨_,_,he⟩ | ⟨_,_,_,h⟩
  ·cases he
  cases h
  rfl
theorem XY:∀ (f:Nat) (c:Bool) (at_:Int) (acc:List Tree) (ts:List Tk) (n:Tree) (r:List Tk),Dt f c at_ acc ts=some (.ok n r)→∃ l,n.kids=acc++l∧n.kind=20∧n.text=noB∧n.n=0∧∀ at2 JF,Dt f c at2 JF ts=some (.ok (.mk 20 noB 0 at2 (JF++l)) r)
 | 0,_,_,_,_,_,_,h=>by unfold Dt at h;cases h
 | f+1,c,at_,acc,ts,n,r,h=>by
  unfold Dt at h
  have step:∀ x s,Dt f c at_ (acc++[x]) s=some (.ok n r)→∃ l,n.kids=acc++l∧n.kind=20∧n.text=noB∧n.n=0∧∀ at2 JF,Dt f c at2 (JF++[x]) s=some (.ok (.mk 20 noB 0 at2 (JF++l)) r):=fun x s h=>by
   obtain ⟨l,h1,h2,h3,h4,h5⟩:=XY f c at_ _ s n r h
   exact ⟨x :: l,by rw [h1,Ck];rfl,h2,h3,h4,fun at2 JF=>by rw [h5,Ck];rfl⟩
  by_cases c1:AB Ed ts=true
  ·rw [if_pos c1] at h
   obtain ⟨l,h1,h2,h3,h4,h5⟩:=XY f c at_ _ _ n r h
   exact ⟨l,h1,h2,h3,h4,fun at2 JF=>by unfold Dt;rw [if_pos c1];exact h5 at2 JF⟩
  rw [if_neg c1] at h
  by_cases c2:AB T9 ts=true
  ·rw [if_pos c2] at h
   rcases bind_some h with ⟨_,_,he⟩ | ⟨l,s,hl,h⟩
   ·cases he
   cases h
   exact ⟨_,rfl,rfl,rfl,rfl,fun at2 JF=>by unfold Dt;rw [if_neg c1,if_pos c2,hl];rfl⟩
  rw [if_neg c2] at h
  by_cases c3:(c && AB Nt ts)=true
  ·rw [if_pos c3] at h
   rcases bind_some h with ⟨_,_,he⟩ | ⟨x,s,hx,h⟩
   ·cases he
   obtain ⟨l,h1,h2,h3,h4,h5⟩:=step x s h
   exact ⟨l,h1,h2,h3,h4,fun at2 JF=>by unfold Dt;rw [if_neg c1,if_neg c2,if_pos c3,hx];exact h5 at2 JF⟩
  rw [if_neg c3] at h
  by_cases c4:Gk ts=true
  ·rw [if_pos c4] at h
   cases h
   exact ⟨[],by simp [Tree.kids],rfl,rfl,rfl,fun at2 JF=>by unfold Dt;rw [if_neg c1,if_neg c2,if_neg c3,if_pos c4,List.append_nil]⟩
  rw [if_neg c4] at h
  rcases bind_some h with ⟨_,_,he⟩ | ⟨x,s,hx,h⟩
  ·cases he
  obtain ⟨l,h1,h2,h3,h4,h5⟩:=step x s h
  exact ⟨l,h1,h2,h3,h4,fun at2 JF=>by unfold Dt;rw [if_neg c1,if_neg c2,if_neg c3,if_neg c4,hx];exact h5 at2 JF⟩
include hE hX in
theorem Ax5 (hZ:Aik X):∀ (f:Nat) (c c':Bool) (at_ at':Int) (acc acc':List Tree) (R R':List Tk),(CW Rl) acc acc'→(D2 Rl) R R'→Good (R++[E])→∀ n r,Dt f c at_ acc (R++[E])=some (.ok n r)→(c=c'∨(c'=false∧∀ x ∈ n.kids,x.kind≠31)) →
  ∃ Q Q' n',r=Q++[E]∧(D2 Rl) Q Q'∧(Dw Rl) n n'∧Dt f c' at' acc' (R'++X)=some (.ok n' (Q'++X))
 | 0,_,_,_,_,_,_,_,_,_,_,_,_,_,h,_=>by unfold Dt at h;cases h
 | f+1,c,c',at_,at',acc,acc',R,R',ha,hS,hG,n,r,h,hc=>by
  rcases hS.cases' with ⟨rfl,rfl⟩ | ⟨p,p',Q,Q',rfl,rfl,hp,hS⟩
  ·unfold Dt at h ⊢
   simp only [List.nil_append,Hm hE,V4 hE,hZ.Awr,hZ.ret,hZ.fn,hZ.ends,Bool.and_false,Bool.false_eq_true,if_false,if_true] at h ⊢
   cases h
   exact ⟨[],[],.mk 20 noB 0 at' acc',rfl,trivial,⟨.inl rfl,rfl,rfl,rfl,ha⟩,rfl⟩
  have hG':=hG.cons.2
  have ih:=Ax5 hZ f
  have io:=loS (Rl:=Rl) hE hX f
  have ie:=loE (Rl:=Rl) hE hX f
  unfold Dt at h ⊢
  simp only [List.cons_append,List.tail_cons,← GZ hp _ (Q++[E]) (Q'++X),← V5 hp (Q++[E]) (Q'++X)] at h ⊢
  by_cases c1:AB Ed (p :: (Q++[E]))=true
  ·rw [if_pos c1] at h ⊢
   exact ih c c' at_ at' acc acc' Q Q' ha hS hG' n r h hc
  rw [if_neg c1] at h ⊢
  by_cases c2:AB T9 (p :: (Q++[E]))=true
  ·rw [if_pos c2] at h ⊢
   have fin:∀ l l' R R',(CW Rl) l l'→(D2 Rl) R R'→Good (R++[E])→some (PV.ok (.mk 20 noB 0 at_ (acc++[.mk 30 noB 0 (hd (p :: (Q++[E]))).2.2.2 l])) (if AB Ed (R++[E]) then (R++[E]).tail else R++[E]))=some (.ok n r) →
     ∃ Q1 Q1' n',r=Q1++[E]∧(D2 Rl) Q1 Q1'∧(Dw Rl) n n'∧some (PV.ok (.mk 20 noB 0 at' (acc'++[.mk 30 noB 0 (hd (p' :: (Q'++X))).2.2.2 l'])) (if AB Ed (R'++X) then (R'++X).tail else R'++X))=some (.ok n' (Q1'++X)):=by
    intro l l' R R' hl hS hG h
    have hm:(Dw Rl) (.mk 20 noB 0 at_ (acc++[.mk 30 noB 0 (hd (p :: (Q++[E]))).2.2.2 l])) (.mk 20 noB 0 at' (acc'++[.mk 30 noB 0 (hd (p' :: (Q'++X))).2.2.2 l'])):=⟨.inl rfl,rfl,rfl,rfl,Gu ha (Gv ⟨.inr (.inr hp.2.2.2),rfl,rfl,rfl,hl⟩)⟩
    cases h
    rcases hS.cases' with ⟨rfl,rfl⟩ | ⟨q,q',P,P',rfl,rfl,hq,hS⟩
    ·rw [List.nil_append,List.nil_append,Hm hE,hZ.Awr]
     exact ⟨[],[],_,rfl,trivial,hm,rfl⟩
    ·rw [List.cons_append,List.cons_append,← GZ hq Ed (P++[E]) (P'++X),List.tail_cons,List.tail_cons]
     by_cases c5:AB Ed (q :: (P++[E]))=true
     ·rw [if_pos c5,if_pos c5];exact ⟨P,P',_,rfl,hS,hm,rfl⟩
     ·rw [if_neg c5,if_neg c5];exact ⟨q :: P,q' :: P',_,rfl,⟨hq,hS⟩,hm,rfl⟩
   rcases bind_some h with ⟨_,_,he⟩ | ⟨l,s,hl,h⟩
   ·cases he
   rcases hS.cases' with ⟨rfl,rfl⟩ | ⟨q,q',P,P',rfl,rfl,hq,hS⟩
   ·have hl:(if (Gk [E] || AB Ed [E])=true then some (PV.ok ([]:List Tree) [E]) else DT f [E])=some (.ok l s):=hl
    rw [V4 hE] at hl
    simp only [Bool.true_or,if_true] at hl
    cases hl
    have e:(if (Gk X || AB Ed X)=true then some (PV.ok ([]:List Tree) X) else DT f X)=some (PV.ok [] X):=by rw [hZ.ends];rfl
    obtain ⟨Q1,Q1',n',h1,h2,h3,h4⟩:=fin [] [] [] [] trivial trivial hE h
    refine ⟨Q1,Q1',n',h1,h2,h3,?_⟩
    show PV.bind (if (Gk X || AB Ed X)=true then some (PV.ok ([]:List Tree) X) else DT f X) _=_
    rw [e]
    exact h4
   ·have hl:(if (Gk (q :: (P++[E])) || AB Ed (q :: (P++[E])))=true then some (PV.ok ([]:List Tree) (q :: (P++[E]))) else DT f (q :: (P++[E])))=some (.ok l s):=hl
    have ec:(Gk (q' :: (P'++X)) || AB Ed (q' :: (P'++X)))=(Gk (q :: (P++[E])) || AB Ed (q :: (P++[E]))):=by rw [GZ hq Ed (P++[E]) (P'++X),V5 hq (P++[E]) (P'++X)]
    have go:∀ l' s',(if (Gk (q' :: (P'++X)) || AB Ed (q' :: (P'++X)))=true then some (PV.ok ([]:List Tree) (q' :: (P'++X))) else DT f (q' :: (P'++X)))=some (PV.ok l' s')→(∃ Q1 Q1' n',r=Q1++[E]∧(D2 Rl) Q1 Q1'∧(Dw Rl) n n'∧some (PV.ok (.mk 20 noB 0 at' (acc'++[.mk 30 noB 0 (hd (p' :: (q' :: P'++X))).2.2.2 l'])) (if AB Ed s' then s'.tail else s'))=some (.ok n' (Q1'++X))) →
      ∃ Q1 Q1' n',r=Q1++[E]∧(D2 Rl) Q1 Q1'∧(Dw Rl) n n'∧PV.bind (if (Gk (q' :: (P'++X)) || AB Ed (q' :: (P'++X)))=true then some (PV.ok ([]:List Tree) (q' :: (P'++X))) else DT f (q' :: (P'++X))) (fun l r=>some (PV.ok (.mk 20 noB 0 at' (acc'++[.mk 30 noB 0 (hd (p' :: (q' :: P'++X))).2.2.2 l])) (if AB Ed r then r.tail else r)))=some (.ok n' (Q1'++X)):=fun l' s' e h=>by
     rw [e];exact h
    by_cases c5:(Gk (q :: (P++[E])) || AB Ed (q :: (P++[E])))=true
    ·rw [if_pos c5] at hl
     cases hl
     exact go [] (q' :: (P'++X)) (by rw [ec,if_pos c5]) (fin [] [] (q :: P) (q' :: P') trivial ⟨hq,hS⟩ hG' h)
    ·rw [if_neg c5] at hl
     obtain ⟨R2,R2',l',rfl,hS2,hG2,hl',hx'⟩:=ie.Do (q :: P) (q' :: P') ⟨hq,hS⟩ hG' l s hl
     exact go l' (R2'++X) (by rw [ec,if_neg c5];exact hx') (fin l l' R2 R2' hl' hS2 hG2 h)
  rw [if_neg c2] at h ⊢
  by_cases c3:(c && AB Nt (p :: (Q++[E])))=true
  ·rw [if_pos c3] at h
   rcases bind_some h with ⟨_,_,he⟩ | ⟨x,s,hx,h⟩
   ·cases he
   have hk:=A8c hx
   obtain ⟨l,hl,_⟩:=XY _ _ _ _ _ _ _ h
   rcases hc with rfl | ⟨_,hno⟩
   ·rw [if_pos c3]
    obtain ⟨R2,R2',x',rfl,hS2,hG2,hx2,hx'⟩:=io.function p p' Q Q' hp hS hG x s hx
    rw [hx']
    exact ih c c at_ at' _ _ R2 R2' (Gu ha (Gv hx2)) hS2 hG2 n r h (.inl rfl)
   ·exact absurd hk (hno x (by rw [hl];simp))
  rw [if_neg c3] at h
  have c3':¬ (c' && AB Nt (p :: (Q++[E])))=true:=by
   rcases hc with rfl | ⟨rfl,_⟩
   ·exact c3
   ·simp
  rw [if_neg c3']
  by_cases c4:Gk (p :: (Q++[E]))=true
  ·rw [if_pos c4] at h ⊢
   cases h
   exact ⟨p :: Q,p' :: Q',.mk 20 noB 0 at' acc',rfl,⟨hp,hS⟩,⟨.inl rfl,rfl,rfl,rfl,ha⟩,rfl⟩
  rw [if_neg c4] at h ⊢
  rcases bind_some h with ⟨_,_,he⟩ | ⟨x,s,hx,h⟩
  ·cases he
  obtain ⟨R2,R2',x',rfl,hS2,hG2,hx2,hx'⟩:=io.stat (p :: Q) (p' :: Q') ⟨hp,hS⟩ hG x s hx
  have hx':EK f (p' :: (Q'++X))=_:=hx'
  rw [hx']
  exact ih c c' at_ at' _ _ R2 R2' (Gu ha (Gv hx2)) hS2 hG2 n r h hc
end
end
section
open Go Go.RowKit Lx
theorem Bs6 (r:Bs):∀ (n:Nat) (l:Bs) (at_:Nat) (acc toks:List Tok),l.length≤n→EO l at_ acc=.inr toks →
  ∃ acc' e,toks=acc'++[⟨6,[],0,e⟩]∧EO (l++10 :: r) at_ acc=EO (10 :: r) (at_+l.length) acc':=by
 have hr:Jn (10 :: r):=⟨10,r,rfl,.inr (.inl rfl)⟩
 intro n
 induction n with
 | zero =>
  intro l at_ acc toks hn h
  have:l=[]:=List.eq_nil_of_length_eq_zero (by omega)
  subst this
  refine ⟨acc,at_,?_,by simp⟩
  rw [IU] at h
  have e0:Dx (([]:Bs).drop (BP Cr []))=.done:=rfl
  rw [e0] at h
  simp only [Sum.inr.injEq] at h
  exact h.symm
 | succ n ih =>
  intro l at_ acc toks hn h
  have hk:=JW Cr l
  have hbl:=Ajy l.length l (Nat.le_refl _)
  obtain ⟨k,hk0⟩:∃ k,BP Cr l=k:=⟨_,rfl⟩
  have hsplit:l=l.take k++l.drop k:=(List.take_append_drop k l).symm
  have hlt:(l.take k).length=k:=by rw [List.length_take];omega
  rw [hk0] at hbl hk
  have e1:EO l at_ acc=EO (l.drop k) (at_+k) acc:=by
   have:=Xs (l.drop k) at_ acc (l.take k) hbl
   rw [← hsplit,hlt] at this
   exact this
  have e2:EO (l++10 :: r) at_ acc=EO (l.drop k++10 :: r) (at_+k) acc:=by
   have:=Xs (l.drop k++10 :: r) at_ acc (l.take k) hbl
   rw [← Ck,← hsplit,hlt] at this
   exact this
  have hr0:BP Cr (l.drop k)=0:=by
   have h1:=Afe (l.drop k) (l.take k) hbl
   rw [← hsplit,hlt,hk0] at h1
   omega
  have hlen:at_+l.length=at_+k+(l.drop k).length:=by rw [BX];omega
  rw [e1] at h
  rw [e2,hlen]
  have hn':(l.drop k).length≤n+1:=by rw [BX];omega
  generalize l.drop k=m at *
  generalize at_+k=p at *
  clear e1 e2 hsplit hlt hbl hlen hk0 hk hn
  rw [IU,hr0,List.drop_zero,Nat.add_zero] at h
  have hrr:m≠[]→BP Cr (m++10 :: r)=0:=fun hm=>by
   rw [RM Cr _ hr.low m.length m (Nat.le_refl _) (.inl (by rw [hr0];exact List.length_pos_iff.2 hm)),hr0]
  cases hst:Dx m with
  | done =>
   have:=A5a hst
   subst this
   rw [hst] at h
   simp only [Sum.inr.injEq] at h
   exact ⟨acc,_,h.symm,by simp⟩
  | bad c rel=>rw [hst] at h;cases h
  | skip q =>
   rw [hst] at h
   simp only at h
   obtain ⟨hm,hpre,hq⟩:=Bt5 hst
   have hq1:=(Li m).1 q hst
   by_cases hq2:q < m.length
   ·obtain ⟨acc',e,ht,hs⟩:=ih (m.drop q) (p+q) acc toks (by rw [BX];omega) h
    have e':p+q+(m.drop q).length=p+m.length:=by rw [BX];omega
    rw [e'] at hs
    refine ⟨acc',e,ht,?_⟩
    rw [IU,hrr hm,List.drop_zero,Nat.add_zero,Bt4 m _ hm hr q hst hq2]
    simp only
    rw [SM _ _ _ (by omega)]
    exact hs
   ·have hq3:q=m.length:=by omega
    rw [hq3,List.drop_of_length_le (Nat.le_refl _),IU] at h
    have e0:Dx (([]:Bs).drop (BP Cr []))=.done:=rfl
    rw [e0] at h
    simp only [Sum.inr.injEq] at h
    refine ⟨acc,_,h.symm,?_⟩
    have hrun:BP LJ (m++10 :: r)=m.length:=by
     rw [RM LJ _ hr.low m.length m (Nat.le_refl _) (.inr ?_)]
     ·rw [← hq,hq3]
     ·rw [MC _ _ (by simp),SL 10 r (by decide)];rfl
    have hs2:Dx (m++10 :: r)=.skip m.length:=by
     have Bc2:[45,45].isPrefixOf (m++10 :: r)=true:=by
      rw [Xa [45,45] m (10 :: r) (by simp) hm fun x t e=>by cases e;decide];exact hpre
     unfold Dx
     rw [if_neg (by simp),if_pos Bc2,hrun]
    rw [IU,hrr hm,List.drop_zero,Nat.add_zero,hs2]
    simp only
    rw [List.drop_left]
  | tok kd tx x len =>
   rw [hst] at h
   simp only at h
   have hl:=(Li m).2 _ _ _ _ hst
   have hm:m≠[]:=by rintro rfl;simp at hl;omega
   obtain ⟨acc',e,ht,hs⟩:=ih (m.drop len) (p+len) _ toks (by rw [BX];omega) h
   have e':p+len+(m.drop len).length=p+m.length:=by rw [BX];omega
   rw [e'] at hs
   refine ⟨acc',e,ht,?_⟩
   rw [IU,hrr hm,List.drop_zero,Nat.add_zero,Axi m _ hm hr _ _ _ _ hst]
   simp only
   rw [SM _ _ _ (by omega)]
   exact hs
theorem Bta (x:Bs) (at_:Nat) (acc:List Tok):EO (10 :: x) at_ acc=EO x (at_+1) acc:=Xs x at_ acc [10] (by decide)
theorem Btb (x:Bs) (at_:Nat) (acc:List Tok):EO (32 :: x) at_ acc=EO x (at_+1) acc:=Xs x at_ acc [32] (by decide)
theorem Btc (w x:Bs) (at_:Nat) (acc:List Tok) (k:Int) (hw:w≠[]) (hg:Jn x) (hst:Dx w=.tok k w 0 w.length) (h0:BP Cr w=0):EO (w++x) at_ acc=EO x (at_+w.length) (acc++[⟨k,w,0,at_⟩]):=by
 have hr:BP Cr (w++x)=0:=by
  rw [RM Cr _ hg.low w.length w (Nat.le_refl _) (.inl (by rw [h0];exact List.length_pos_iff.2 hw)),h0]
 rw [IU,hr,List.drop_zero,Nat.add_zero,Axi w x hw hg _ _ _ _ hst]
 simp only
 rw [List.drop_left]
def Q6:Bs:=[100,111]
def MW:Bs:=[101,110,100]
theorem Bti (x:Bs) (at_:Nat) (acc:List Tok) (hg:Jn x):EO (Q6++x) at_ acc=EO x (at_+2) (acc++[⟨2,Q6,0,at_⟩]):=Btc Q6 x at_ acc 2 (by decide) hg (by kernel_rfl) (by kernel_rfl)
theorem Btj (at_:Nat) (acc:List Tok):EO MW at_ acc=.inr (acc++[⟨2,MW,0,at_⟩]++[⟨6,[],0,at_+3⟩]):=by
 have hst:Dx MW=.tok 2 MW 0 3:=by kernel_rfl
 rw [IU,show BP Cr MW=0 by kernel_rfl,List.drop_zero,Nat.add_zero,hst]
 simp only
 rw [show MW.drop 3=[] from rfl,IU]
 rfl
variable {Rl:Int→Int→Prop}
theorem Aiw {Rl:Int→Int→Prop}:∀ (T:List Tok),(∀ x ∈ T.map Ff,Rl x.2.2.2 (x.2.2.2+3))→(D2 Rl) (T.map Ff) ((T.map (shift 3)).map Ff)
 | [],_=>trivial
 | x :: T,h=>⟨⟨rfl,rfl,rfl,by
   have:=h (Ff x) (CB ..)
   have e:(Ff (shift 3 x)).2.2.2=(Ff x).2.2.2+3:=by simp [Ff,shift]
   show Rl (Ff x).2.2.2 (Ff (shift 3 x)).2.2.2
   rw [e];exact this⟩,Aiw T fun y hy=>h y (Db _ hy)⟩
theorem A0t {R:List Tk} (h:(D2 Rl) [] R):R=[]:=by cases R with | nil=>rfl | cons=>exact h.elim
theorem Aiv:∀ {R R':List Tk},(D2 Rl) R R'→R.length=R'.length
 | [],[],_=>rfl
 | _ :: _,_ :: _,h=>congrArg (·+1) (Aiv h.2)
theorem rest_end {R:List Tk} {E:Tk} (hG:Good (R++[E])) (h6:(hd (R++[E])).1=6):R=[]:=by
 cases R with
 | nil=>rfl
 | cons p R=>exact absurd h6 hG.cons.1
theorem Amq:∀ {R:List Tk} {E:Tk},Good (R++[E])→E.1=6
 | [],_,h=>h
 | _ :: _,_,h=>Amq h.cons.2
theorem Btl {s:Bs} {t:List Tok} (h:G4 s=.inr t):∃ T E,t=T++[E]∧Good (T.map Ff++[Ff E])∧EO s 0 []=.inr (T++[E])∧s.length≤20000:=by
 have hT:=U2 (str s) t (by rw [JH];exact h)
 have hl:s.length≤20000:=by
  unfold G4 at h
  split at h
  ·cases h
  ·omega
 rw [Awo s hl] at h
 rcases List.eq_nil_or_concat t with rfl | ⟨T,E,rfl⟩
 ·exact hT.good.elim
 ·exact ⟨T,E,by simp,by have:=hT.good;simpa using this,by simpa using h,hl⟩
theorem Blr (l r:Bs) (d:Nat) (pre T:List Tok) (E:Tok) (h:EO l 0 []=.inr (T++[E])):EO (l++10 :: r) d pre=EO r (d+l.length+1) (pre++T.map (shift d)):=by
 have hs:=Bs9 d l.length l 0 pre [] (Nat.le_refl _)
 rw [h] at hs
 simp only [List.map_nil,List.append_nil,Nat.zero_add] at hs
 obtain ⟨acc',e,ht,hsc⟩:=Bs6 r l.length l d pre _ (Nat.le_refl _) hs
 rw [List.map_append,← Ck] at ht
 obtain ⟨h1,_⟩:=List.append_inj' ht rfl
 rw [hsc,Bta,h1]
theorem Bwd (s:Bs) (T:List Tok) (E:Tok) (hl:s.length≤19000) (h:EO s 0 []=.inr (T++[E])) :
  G4 ([100,111,32]++s++[10,101,110,100])=.inr ([⟨2,Q6,0,0⟩]++T.map (shift 3)++[⟨2,MW,0,3+s.length+1⟩]++[⟨6,[],0,3+s.length+1+3⟩]):=by
 rw [Awo _ (by simp;omega)]
 rw [show ([100,111,32]++s++[10,101,110,100]:Bs)=Q6++(32 :: (s++10 :: MW)) by simp [Q6,MW]]
 rw [Bti _ _ _ ⟨32,_,rfl,.inl rfl⟩,Btb,Blr _ _ _ _ T E h,Btj]
 rfl
theorem Bu7 {R:List Tk} {E:Tk} (hG:Good (R++[E])) {n:Tree} {r:List Tk} (h:J9 (R++[E])=.ok n r) (f:Nat) (hf:16 * (R++[E]).length+9≤f):DM f true (R++[E])=some (.ok n r)∧(hd r).1=6∧Good r:=by
 unfold J9 at h
 obtain ⟨b,s,hb,hs⟩:=then_ok h
 have hw:=L8 true hG
 rw [hb] at hw
 by_cases h6:(hd s).1=6
 ·rw [if_pos h6] at hs
  cases hs
  exact ⟨(N6 true hG hf).trans (congrArg some hb),h6,hw.1⟩
 ·rw [if_neg h6] at hs
  cases hs
theorem Bu6 {ts:List Tk} (hG:Good ts) {n:Tree} {E:Tk} (hE:E.1=6) (f:Nat) (hf:16 * ts.length+9≤f) (h:DM f true ts=some (.ok n [E])):J9 ts=.ok n [E]:=by
 have hb:H6 true ts=.ok n [E]:=As ((N6 true hG hf).symm.trans h)
 unfold J9
 rw [hb]
 show (if E.1=6 then PV.ok n [E] else .bad E.2.2.2)=_
 rw [if_pos hE]
abbrev eTk (p:Int):Tk:=(6,noB,0,p)
theorem Amo:∀ {R R':List Tk} {E:Tk} {X:List Tk},Good (R++[E])→(D2 Rl) R R'→Good X→(hd X).1≠6∨X.length=1→Good (R'++X)
 | [],[],_,_,_,_,hX,_=>hX
 | p :: R,p' :: R',E,X,h,hS,hX,hx=>by
  have ih:=Amo (R:=R) (R':=R') h.cons.2 hS.2 hX hx
  have h6:=h.cons.1
  rw [hS.1.1] at h6
  show Good (p' :: (R'++X))
  cases hq:R'++X with
  | nil=>rw [hq] at ih;exact ih.elim
  | cons u v=>rw [hq] at ih;exact ⟨h6,ih⟩
theorem Bwc {R R':List Tk} {E:Tk} {n:Tree} {r:List Tk} (hG:Good (R++[E])) (hv:J9 (R++[E])=.ok n r) (hno:∀ x ∈ n.kids,x.kind≠31) (hS:(D2 Rl) R R') (p0 pe px:Int) :
  ∃ n',(Dw Rl) n n'∧J9 ((2,Jf,0,p0) :: (R'++[(2,EV,0,pe),eTk px]))=.ok (.mk 20 noB 0 p0 [.mk 28 noB 0 p0 [n']]) [eTk px]:=by
 have hE:=Amq hG
 have hGX:Good [((2,EV,0,pe):Tk),eTk px]:=⟨by show (2:Int)≠6;decide,rfl⟩
 have hG1:Good (R'++[(2,EV,0,pe),eTk px]):=Amo hG hS hGX (.inl (by show (2:Int)≠6;decide))
 have hG2:Good ((2,Jf,0,p0) :: (R'++[(2,EV,0,pe),eTk px])):=by
  cases hq:R'++[((2,EV,0,pe):Tk),eTk px] with
  | nil=>rw [hq] at hG1;exact hG1.elim
  | cons u v=>rw [hq] at hG1;exact ⟨by show (2:Int)≠6;decide,hG1⟩
 have hX:Stp [((2,EV,0,pe):Tk),eTk px]:=⟨by kernel_rfl,by kernel_rfl,by kernel_rfl,by kernel_rfl,by kernel_rfl,by kernel_rfl,fun h=>absurd h.1 (by show (2:Int)≠5;decide)⟩
 have hZ:Aik [((2,EV,0,pe):Tk),eTk px]:=⟨by kernel_rfl,by kernel_rfl,by kernel_rfl,by kernel_rfl⟩
 obtain ⟨g,hg⟩:∃ g,g=16 * (R++[E]).length+100:=⟨_,rfl⟩
 obtain ⟨hp,h6,hr⟩:=Bu7 hG hv (g+1) (by omega)
 unfold DM at hp
 obtain ⟨Q,Q',n',rfl,hSQ,hn,h⟩:=Ax5 hE hX hZ g true false _ (hd (R'++[((2,EV,0,pe):Tk),eTk px])).2.2.2 [] [] R R' trivial hS hG n r hp (.inr ⟨rfl,hno⟩)
 obtain rfl:=rest_end hr h6
 obtain rfl:=A0t hSQ
 have hbl:DM (g+1) false (R'++[((2,EV,0,pe):Tk),eTk px])=some (.ok n' [(2,EV,0,pe),eTk px]):=by unfold DM;exact h
 have hbody:E9 (g+2) ((2,Jf,0,p0) :: (R'++[(2,EV,0,pe),eTk px]))=some (.ok n' [eTk px]):=by
  unfold E9 E_
  rw [if_pos (show AB Jf ((2,Jf,0,p0) :: (R'++[(2,EV,0,pe),eTk px]))=true from by kernel_rfl)]
  show PV.bind (DM (g+1) false (R'++[((2,EV,0,pe):Tk),eTk px])) _=_
  rw [hbl]
  kernel_rfl
 have hst:EK (g+3) ((2,Jf,0,p0) :: (R'++[(2,EV,0,pe),eTk px]))=some (.ok (.mk 28 noB 0 p0 [n']) [eTk px]):=by
  unfold EK
  rw [if_pos (show AB Jf ((2,Jf,0,p0) :: (R'++[(2,EV,0,pe),eTk px]))=true from by kernel_rfl),hbody]
  kernel_rfl
 refine ⟨n',hn,Bu6 hG2 rfl (g+5) ?_ ?_⟩
 ·have:=Aiv hS
  simp only [AI,AV,Br] at hg ⊢
  omega
 ·unfold DM
  have e1:Dt (g+4) true (hd ((2,Jf,0,p0) :: (R'++[(2,EV,0,pe),eTk px]))).2.2.2 [] ((2,Jf,0,p0) :: (R'++[(2,EV,0,pe),eTk px])) =
    PV.bind (EK (g+3) ((2,Jf,0,p0) :: (R'++[(2,EV,0,pe),eTk px]))) fun x r=>Dt (g+3) true p0 ([]++[x]) r:=by
   rw [Dt.eq_2]
   kernel_rfl
  rw [e1,hst]
  rfl
variable {Rl:Int→Int→Prop}
theorem Gw {k n a:Int} {t:ByteArray} {l:List Tree} {x':Tree} (h:Dw Rl (.mk k t n a l) x'):∃ a' l',x'=.mk k t n a' l'∧(k=20∨k=11∨Rl a a')∧CW Rl l l':=by
 cases x' with
 | mk k' t' n' a' l' =>
  obtain ⟨h0,rfl,rfl,rfl,h4⟩:=h
  exact ⟨a',l',rfl,h0,h4⟩
theorem FD {l':List Tree} (h:CW Rl [] l'):l'=[]:=by cases l' with | nil=>rfl | cons=>exact h.elim
theorem Eh {x:Tree} {l l':List Tree} (h:CW Rl (x :: l) l'):∃ x' m,l'=x' :: m∧Dw Rl x x'∧CW Rl l m:=by
 cases l' with
 | nil=>exact h.elim
 | cons x' m=>exact ⟨x',m,rfl,h.1,h.2⟩
theorem Qc:∀ {l m r:List Tree},CW Rl (l++m) r→∃ l' m',r=l'++m'∧CW Rl l l'∧CW Rl m m'
 | [],m,r,h=>⟨[],r,rfl,trivial,h⟩
 | x :: l,m,r,h=>by
  obtain ⟨x',r',rfl,h1,h2⟩:=Eh (l:=l++m) h
  obtain ⟨l',m',rfl,h3,h4⟩:=Qc h2
  exact ⟨x' :: l',m',rfl,⟨h1,h3⟩,h4⟩
theorem Afn:∀ {l l':List Tree},CW Rl l l'→l'.map Tree.text=l.map Tree.text
 | [],_,h=>by rw [FD h]
 | x :: l,_,h=>by
  obtain ⟨x',m,rfl,h1,h2⟩:=Eh h
  rw [List.map_cons,List.map_cons,Afn h2,MG h1]
theorem RP {l l':List Tree} (h:CW Rl l l'):∀ {i:Nat},i < l.length→Dw Rl (BN l i) (BN l' i):=by
 intro i
 induction l generalizing l' i with
 | nil=>intro h;cases h
 | cons x l ih =>
  intro hi
  obtain ⟨x',m,rfl,h1,h2⟩:=Eh h
  cases i with
  | zero=>exact h1
  | succ i=>exact ih h2 (i:=i) (by simpa using hi)
theorem Ot {l l':List Tree} (h:CW Rl l l') (i:Nat):CW Rl (l.take i) (l'.take i)∧CW Rl (l.drop i) (l'.drop i):=by
 have hl:=GW h
 have h:CW Rl (l.take i++l.drop i) l':=by rw [List.take_append_drop];exact h
 obtain ⟨a,b,rfl,h1,h2⟩:=Qc h
 have h3:=GW h1
 rw [List.length_take,AV] at *
 have h4:=GW h2
 rw [BX] at h4
 have e1:(a++b).take i=a:=by
  by_cases hi:i≤l.length
  ·rw [List.take_append_of_le_length (by omega),List.take_of_length_le (by omega)]
  ·have:b=[]:=List.eq_nil_of_length_eq_zero (by omega)
   rw [this,List.append_nil,List.take_of_length_le (by omega)]
 have e2:(a++b).drop i=b:=by
  by_cases hi:i≤l.length
  ·rw [show i=a.length by omega,List.drop_left]
  ·have:b=[]:=List.eq_nil_of_length_eq_zero (by omega)
   rw [this,List.append_nil,List.drop_of_length_le (by omega)]
 rw [e1,e2]
 exact ⟨h1,h2⟩
theorem LA {a a' c m:Int} {u:Unit} (h:Ga a c m=.ok u):Ga a' c m=.ok u:=by
 unfold Ga at h ⊢
 split at h
 ·cases h
 ·rename_i hc;rw [if_neg hc]
theorem Atp:∀ {l l':List Tree} {lo r:List ByteArray},CW Rl l l'→K7 lo l=.ok r→K7 lo l'=.ok r
 | [],_,lo,r,h,e=>by rw [FD h];exact e
 | x :: l,_,lo,r,h,e=>by
  obtain ⟨x',m,rfl,h1,h2⟩:=Eh h
  unfold K7 at e ⊢
  rw [← MG h1]
  split at e
  ·cases e
  ·rename_i hk;rw [if_neg hk];exact Atp h2 e
theorem Akc {a a' sl:Int} {lo:List ByteArray} {l l':List Tree} {r:Int×List ByteArray} (h:CW Rl l l') (e:JG a sl lo l=.ok r):JG a' sl lo l'=.ok r:=by
 unfold JG at e ⊢
 obtain ⟨lo',h1,e⟩:=BM e
 obtain ⟨u,h2,e⟩:=BM e
 rw [Atp h h1]
 show (Ga a' _ 60).th _=_
 rw [LA h2]
 exact e
theorem Akn {a a':Int} {cs cs':List V3} {v:V3} (h:KR a cs v=.ok cs'):KR a' cs v=.ok cs':=by
 unfold KR at h ⊢
 split at h
 ·rename_i hv;rw [if_pos hv];exact h
 ·rename_i hv
  rw [if_neg hv]
  obtain ⟨u,h1,h⟩:=BM h
  rw [LA h1]
  exact h
theorem Bl8 {a a':Int} {t:ByteArray} {gl lo ab KT:List ByteArray} (h:Mz a t gl lo ab=.ok KT):Mz a' t gl lo ab=.ok KT:=by
 unfold Mz at h ⊢
 split at h
 ·cases h
 rename_i h1
 rw [if_neg h1]
 split at h
 ·rename_i h2;rw [if_pos h2];exact h
 rename_i h2
 rw [if_neg h2]
 split at h
 ·cases h
 ·rename_i h3;rw [if_neg h3];exact h
theorem Atz {f f':BF→Tree→PC BF}:∀ {l l':List Tree} {s s':BF},CW Rl l l'→(∀ x ∈ l,∀ x' s s',Dw Rl x x'→f s x=.ok s'→f' s x'=.ok s')→DL f s l=.ok s'→DL f' s l'=.ok s'
 | [],_,s,s',h,_,e=>by rw [FD h];exact e
 | x :: l,_,s,s',h,hf,e=>by
  obtain ⟨x',m,rfl,h1,h2⟩:=Eh h
  unfold DL at e ⊢
  obtain ⟨s1,e1,e⟩:=BM e
  rw [hf x (CB ..) x' s s1 h1 e1]
  exact Atz h2 (fun y hy=>hf y (Db _ hy)) e
theorem Ajh {f f':BF→Tree→Bool→PC BF} {n:Int}:∀ {l l':List Tree} {i:Nat} {s s':BF},CW Rl l l'→(∀ x ∈ l,∀ x' s s' b,Dw Rl x x'→f s x b=.ok s'→f' s x' b=.ok s')→Jo f n i s l=.ok s'→Jo f' n i s l'=.ok s'
 | [],_,i,s,s',h,_,e=>by rw [FD h];exact e
 | x :: l,_,i,s,s',h,hf,e=>by
  obtain ⟨x',m,rfl,h1,h2⟩:=Eh h
  unfold Jo at e ⊢
  obtain ⟨s1,e1,e⟩:=BM e
  rw [hf x (CB ..) x' s s1 _ h1 e1]
  exact Ajh h2 (fun y hy=>hf y (Db _ hy)) e
theorem Abr {f f':BF→Tree→PC BF} {a a':Int} {s s':BF} {names names':List Tree} {b b':Tree} {more:Nat} (hn:CW Rl names names') (hf:∀ s s',f s b=.ok s'→f' s b'=.ok s') (h:IH f a s names b more=.ok s'):IH f' a' s names' b' more=.ok s':=by
 unfold IH at h ⊢
 obtain ⟨r,h1,h⟩:=BM h
 obtain ⟨s1,h2,h⟩:=BM h
 have e:(if more > 0 then JG a' s.sl (s.lo++List.replicate more ⟨#[]⟩) names' else .ok (s.sl,s.lo):PC (Int×List ByteArray))=.ok r:=by
  split at h1
  ·rename_i hm;rw [if_pos hm];exact Akc hn h1
  ·rename_i hm;rw [if_neg hm];exact h1
 rw [e]
 show PR.th (f' _ b') _=_
 rw [hf _ _ h2]
 exact h
theorem Ats:∀ {d:Nat} {d':Nat} {ab:List ByteArray} {s s':BF} {t t':Tree} {tg:Bool},Dw Rl t t'→wfT t→sz t≤d'→Cm d ab s t tg=.ok s'→Cm d' ab s t' tg=.ok s'
 | 0,_,_,_,_,_,_,_,_,_,_,h=>by unfold Cm at h;cases h
 | d+1,0,_,_,_,t,_,_,_,_,hd,_=>by have:=G5 t;omega
 | d+1,d'+1,ab,s,s',.mk k t n a l,t',tg,hS,hw,hd,h=>by
  obtain ⟨a',l',rfl,_,hl⟩:=Gw hS
  obtain ⟨⟨hs1,h31,hs7,Nl,Nm,Pr,Nn⟩,hw⟩:=hw
  have hlen:=GW hl
  simp only [sz] at hd
  have K:∀ {x x':Tree} {s s':BF} {b:Bool},x ∈ l→Dw Rl x x'→Cm d ab s x b=.ok s'→Cm d' ab s x' b=.ok s':=fun hx hS h=>Ats hS (Qk.1 hw _ hx) (by have:=FJ hx;omega) h
  have N:∀ {m m':List Tree} {s s':BF},(∀ x ∈ m,x ∈ l)→CW Rl m m'→DL (fun s x=>Cm d ab s x false) s m=.ok s'→DL (fun s x=>Cm d' ab s x false) s m'=.ok s':=fun hm hS h=>Atz hS (fun x hx x' s s' hS h=>K (hm x hx) hS h) h
  unfold Cm at h ⊢
  split at h
  ·rename_i hk
   rw [if_pos hk]
   obtain ⟨s1,h1,h⟩:=BM h
   rw [N (fun _ h=>h) hl h1]
   exact h
  rename_i Bbl
  rw [if_neg Bbl,if_neg h31]
  split at h
  ·rename_i hk
   rw [if_pos hk]
   obtain ⟨_,h1,h⟩:=BM h
   obtain ⟨_,h2,h⟩:=BM h
   obtain ⟨s1,h3,h⟩:=BM h
   obtain ⟨r,h4,h⟩:=BM h
   rw [LA h1]
   show PR.th (Ga a' (l'.length - n) 50) _=_
   rw [← hlen,LA h2]
   show PR.th (DL _ s (l'.drop n.toNat)) _=_
   rw [N (fun x hx=>List.mem_of_mem_drop hx) (Ot hl _).2 h3]
   show PR.th (JG a' s1.sl s1.lo (l'.take n.toNat)) _=_
   rw [Akc (Ot hl _).1 h4]
   exact h
  rename_i Bbm
  rw [if_neg Bbm]
  split at h
  ·rename_i hk
   rw [if_pos hk]
   obtain ⟨_,h1,h⟩:=BM h
   obtain ⟨_,h2,h⟩:=BM h
   rw [LA h1]
   show PR.th (Ga a' (l'.length - n) 50) _=_
   rw [← hlen,LA h2]
   exact Ajh hl (fun x hx x' s s' b hS h=>K hx hS h) h
  rename_i Bbn
  rw [if_neg Bbn]
  split at h
  ·rename_i hk
   have h2:=Nl hk
   rw [if_pos hk]
   obtain ⟨s1,h1,h⟩:=BM h
   rw [K (FR (by omega)).2 (RP hl (by omega)) h1]
   exact Abr (Rl:=Rl) (f:=fun s x=>Cm d ab s x false) (f':=fun s x=>Cm d' ab s x false) (names:=[]) (names':=[]) (a':=a') trivial (fun s s' h=>K (FR (by omega)).2 (RP hl (by omega)) h) h
  rename_i Bbo
  rw [if_neg Bbo]
  split at h
  ·rename_i hk
   have h2:=Nm hk
   rw [if_pos hk]
   obtain ⟨s1,h1,h⟩:=BM h
   rw [← hlen,N (fun x hx=>List.mem_of_mem_drop (List.mem_of_mem_take hx)) (Ot (Ot hl _).2 _).1 h1]
   exact Abr (f:=fun s x=>Cm d ab s x false) (f':=fun s x=>Cm d' ab s x false) (Ot hl _).1 (fun s s' h=>K (FR (by omega)).2 (RP hl (by omega)) h) h
  rename_i Bbp
  rw [if_neg Bbp]
  split at h
  ·rename_i hk
   obtain ⟨m,rfl,hm⟩:=Nn hk
   rw [if_pos hk]
   obtain ⟨_,h1,h⟩:=BM h
   obtain ⟨_,h2,h⟩:=BM h
   obtain ⟨s1,h3,h⟩:=BM h
   rw [LA h1]
   show PR.th (Ga a' (l'.length - 1 - (m:Int)) 50) _=_
   rw [← hlen,LA h2]
   show PR.th (DL _ s _) _=_
   rw [N (fun x hx=>List.mem_of_mem_drop (List.mem_of_mem_take hx)) (Ot (Ot hl _).2 _).1 h3]
   exact Abr (f:=fun s x=>Cm d ab s x false) (f':=fun s x=>Cm d' ab s x false) (Ot hl _).1 (fun s s' h=>K (FR (by omega)).2 (RP hl (by omega)) h) h
  rename_i Bbq
  rw [if_neg Bbq]
  split at h
  ·rename_i hk
   rw [if_pos hk]
   split at h
   ·cases h
   ·rename_i h0;rw [if_neg h0];exact h
  rename_i Bbr
  rw [if_neg Bbr]
  have X:∀ {s s':BF},DL (fun s x=>Cm d ab s x false) s l=.ok s'→DL (fun s x=>Cm d' ab s x false) s l'=.ok s':=fun h=>N (fun _ h=>h) hl h
  unfold Kw at h ⊢
  rw [← hlen]
  split at h
  ·rename_i hk;rw [if_pos hk];obtain ⟨_,h1,h⟩:=BM h;rw [LA h1];exact X h
  rename_i hk;rw [if_neg hk]
  split at h
  ·rename_i hk;rw [if_pos hk];obtain ⟨_,h1,h⟩:=BM h;rw [LA h1];exact X h
  rename_i hk;rw [if_neg hk]
  split at h
  ·rename_i hk;rw [if_pos hk];obtain ⟨_,h1,h⟩:=BM h;rw [LA h1];exact X h
  rename_i hk;rw [if_neg hk]
  split at h
  ·rename_i hk;rw [if_pos hk];obtain ⟨_,h1,h⟩:=BM h;rw [Akn h1];exact X h
  rename_i hk;rw [if_neg hk]
  split at h
  ·rename_i hk;rw [if_pos hk];obtain ⟨_,h1,h⟩:=BM h;rw [Akn h1];exact X h
  rename_i hk;rw [if_neg hk]
  split at h
  ·rename_i hk;rw [if_pos hk];obtain ⟨_,h1,h⟩:=BM h;rw [Bl8 h1];exact X h
  rename_i hk;rw [if_neg hk]
  by_cases h7:k=7
  ·have h2:=hs7 h7
   have k0:=RP hl (i:=0) (by omega)
   have k1:=RP hl (i:=1) (by omega)
   have eb:SD tg (BN l' 0) (BN l' 1)=SD tg (BN l 0) (BN l 1):=by
    unfold SD
    rw [MG k0,MG k1,MF k1]
   rw [← MG k0,← MF k0,eb]
   split at h
   ·rename_i hk;rw [if_pos hk]
    split at h
    ·cases h
    ·rename_i hb;rw [if_neg hb];exact h
   ·rename_i hk;rw [if_neg hk];exact X h
  ·rw [if_neg (fun e=>h7 e.1)] at h ⊢
   exact X h
variable {Rl:Int→Int→Prop}
def sh (z:Ins):Ins :=
 if z.1=18∨z.1=19∨z.1=20∨z.1=21 then (z.1,IntKind.i64.wrap (z.2.1+1),z.2.2.1,z.2.2.2)
 else if z.1=30∨z.1=31∨z.1=33 then (z.1,z.2.1,IntKind.i64.wrap (z.2.2.1+1),z.2.2.2) else z
theorem FV {o a b c:Int} (h:o≠18∧o≠19∧o≠20∧o≠21∧o≠30∧o≠31∧o≠33):sh (o,a,b,c)=(o,a,b,c):=by
 unfold sh
 rw [if_neg (by simp only;omega),if_neg (by simp only;omega)]
theorem P_ {o a:Int} (ho:o=18∨o=19∨o=20∨o=21) (h:0≤a∧a≤1000000):sh (i1 o a)=i1 o (a+1):=by
 unfold sh i1
 rw [if_pos ho]
 show (o,IntKind.i64.wrap (a+1),(0:Int),(0:Int))=_
 rw [wiC (a+1) (by omega) (by omega)]
theorem Afj {o a b c:Int} (ho:o=30∨o=31∨o=33) (h:0≤b∧b≤1000000):sh (o,a,b,c)=(o,a,b+1,c):=by
 unfold sh
 rw [if_neg (by simp only;omega),if_pos ho]
 show (o,a,IntKind.i64.wrap (b+1),c)=_
 rw [wiC (b+1) (by omega) (by omega)]
def He (X:Hx):Hx:=X.map (Option.map sh)
theorem Btp {X Y:Hx}:He (X++Y)=He X++He Y:=List.map_append ..
theorem PZ {c:Cd}:He (Dy c)=Dy (c.map sh):=by unfold He Dy;rw [List.map_map,List.map_map];rfl
theorem RO {X:Hx}:(He X).length=X.length:=List.length_map ..
theorem YE {e:Nat} (he:e≤1000000):∀ {X:Hx},BY ((e+1:Nat):Int) (He X)=(BY (e:Int) X).map sh
 | []=>rfl
 | none :: X=>by
  show (18,((e+1:Nat):Int),0,0) :: BY _ (He X)=sh (i1 18 (e:Int)) :: (BY (e:Int) X).map sh
  rw [YE he,P_ (.inl rfl) (by omega)]
  congr 1
 | some z :: X=>congrArg (sh z :: ·) (YE he (X:=X))
abbrev M0:Nat:=900000
theorem QC {f f':Nat→Tree→Cd}:∀ {l l':List Tree} {p:Nat},CW Rl l l'→(∀ x ∈ l,∀ x' p,Dw Rl x x'→p+4 * sz x≤M0→f' (p+1) x'=(f p x).map sh)→(∀ p x,x ∈ l→(f p x).length≤4 * sz x)→p+4 * Au l≤M0→CP f' (p+1) l'=(CP f p l).map sh
 | [],_,p,h,_,_,_=>by rw [FD h];rfl
 | x :: l,_,p,h,hf,hl,hp=>by
  obtain ⟨x',m,rfl,h1,h2⟩:=Eh h
  simp only [Au] at hp
  have e0:=hl p x (CB ..)
  have e1:=hf x (CB ..) x' p h1 (by omega)
  have ih:=QC (p:=p+(f p x).length) h2 (fun y hy=>hf y (Db _ hy)) (fun p y hy=>hl p y (Db _ hy)) (by omega)
  simp only [CP,List.map_append]
  rw [e1,List.length_map,show p+1+(f p x).length=p+(f p x).length+1 by omega,ih]
theorem WK {f f':Int→Nat→Tree→Cd}:∀ {l l':List Tree} {p:Nat},CW Rl l l'→(∀ x ∈ l,∀ r x' p,Dw Rl x x'→p+4 * sz x≤M0→f' r (p+1) x'=(f r p x).map sh)→(∀ r p x,x ∈ l→(f r p x).length≤4 * sz x)→p+4 * Au l≤M0→Jy f' (p+1) l'=(Jy f p l).map sh
 | [],_,p,h,_,_,_=>by rw [FD h];rfl
 | [x],_,p,h,hf,hl,hp=>by
  obtain ⟨x',m,rfl,h1,h2⟩:=Eh h
  rw [FD h2]
  simp only [Au] at hp
  exact hf x (CB ..) (-1) x' p h1 (by omega)
 | x :: y :: l,_,p,h,hf,hl,hp=>by
  obtain ⟨x',m,rfl,h1,h2⟩:=Eh h
  simp only [Au] at hp
  have e0:=hl 1 p x (CB ..)
  have e1:=hf x (CB ..) 1 x' p h1 (by omega)
  have ih:=WK (p:=p+(f 1 p x).length) h2 (fun z hz=>hf z (Db _ hz)) (fun r p z hz=>hl r p z (Db _ hz)) (by simp only [Au];omega)
  obtain ⟨y',m',rfl,h3,h4⟩:=Eh h2
  simp only [Jy,List.map_append]
  rw [e1,List.length_map,show p+1+(f 1 p x).length=p+(f 1 p x).length+1 by omega,ih]
theorem Axm (w key:Int):(Ic w key).map sh=Ic w key:=by
 unfold Ic
 split
 ·show [sh (28,w,key,0)]=_;rw [FV (by decide)];rfl
 ·rfl
theorem Av5:∀ {l l':List Tree},CW Rl l l'→(∀ x ∈ l,Ko x)→Hy l'=Hy l
 | [],_,h,_=>by rw [FD h]
 | [x],_,h,hF=>by
  obtain ⟨x',m,rfl,h1,h2⟩:=Eh h
  rw [FD h2]
  rcases QR (hF x (CB ..)) with ⟨_,_,_,y,rfl,_⟩ | ⟨_,_,_,y,z,rfl,_,_⟩
  ·obtain ⟨a',l',rfl,_,hl⟩:=Gw h1
   obtain ⟨y',m',rfl,h3,_⟩:=Eh hl
   unfold Hy
   show (13 == 13 && (y'.kind == 8))=(13 == 13 && (y.kind == 8))
   rw [MF h3]
  ·obtain ⟨a',l',rfl,_,hl⟩:=Gw h1
   rfl
 | x :: y :: l,_,h,hF=>by
  obtain ⟨x',m,rfl,h1,h2⟩:=Eh h
  have ih:=Av5 h2 fun z hz=>hF z (Db _ hz)
  obtain ⟨y',m',rfl,h3,h4⟩:=Eh h2
  unfold Hy at ih ⊢
  rw [List.getLast?_cons_cons,List.getLast?_cons_cons]
  exact ih
theorem Yw (r:Bool):∀ {l l':List Tree},CW Rl l l'→LK r l'=LK r l∧L9 l'=L9 l
 | [],_,h=>by rw [FD h];exact ⟨rfl,rfl⟩
 | x :: l,_,h=>by
  obtain ⟨x',m,rfl,h1,h2⟩:=Eh h
  obtain ⟨e1,e2⟩:=Yw r h2
  have e3:m.isEmpty=l.isEmpty:=by have:=GW h2;cases m <;> cases l <;> simp_all
  simp only [LK,L9,e1,e2,e3,MF h1]
  exact ⟨trivial,trivial⟩
theorem Axr {f f':Int→Nat→Tree→Cd} (rest:Bool):∀ {l l':List Tree} {p:Nat} {w key:Int},CW Rl l l'→(∀ x ∈ l,Ko x)→(∀ r x x' p,IsE x→Dw Rl x x'→sz x≤Au l→p+4 * sz x≤M0→f' r (p+1) x'=(f r p x).map sh)→(∀ r p x,IsE x→(f r p x).length≤4 * sz x)→p+4 * Au l+1≤M0→I0 f' rest (p+1) w key l'=(I0 f rest p w key l).map sh
 | [],_,p,w,key,h,_,_,_,_=>by rw [FD h];exact (Axm w key).symm
 | x :: l,_,p,w,key,h,hF,hf,hl,hp=>by
  obtain ⟨x',m,rfl,h1,h2⟩:=Eh h
  simp only [Au] at hp hf
  have hs:=Xv w key
  have e3:m.isEmpty=l.isEmpty:=by have:=GW h2;cases m <;> cases l <;> simp_all
  have ih:=fun p w key hp=>Axr (f:=f) (f':=f') rest (p:=p) (w:=w) (key:=key) h2 (fun y hy=>hF y (Db _ hy)) (fun r y y' p a b c d=>hf r y y' p a b (by omega) d) hl hp
  rcases QR (hF x (CB ..)) with ⟨_,_,_,y,rfl,hy⟩ | ⟨_,_,_,y,z,rfl,hy,hz⟩
  ·obtain ⟨a',l',rfl,_,hk⟩:=Gw h1
   obtain ⟨y',m',rfl,h3,h4⟩:=Eh hk
   obtain rfl:=FD h4
   simp only [sz,Au] at hp hf
   have e1:=fun r p hp=>hf r y y' p hy h3 (by omega) hp
   have l1:=fun r p=>hl r p y hy
   simp only [I0,Wn,Wm,Int.reduceEq,if_false,show ∀ u:Tree,BN [u] 0=u from fun _=>rfl,e3]
   split
   ·have:=l1 (-1) (p+(Ic w key).length+1)
    simp only [List.map_append,List.map_cons,List.map_nil,Axm]
    rw [show p+1+(Ic w key).length+1=p+(Ic w key).length+1+1 by omega,e1 (-1) _ (by omega),show sh (i0 22)=i0 22 from FV (by decide),show ∀ v,sh (i1 29 v)=i1 29 v from fun v=>FV (by decide)]
   split
   ·have:=l1 1 p
    simp only [List.map_append,List.map_cons]
    rw [e1 1 p (by omega),List.length_map,show p+1+(f 1 p y).length+1=p+(f 1 p y).length+1+1 by omega,ih _ _ _ (by omega),show sh (i2 28 50 key)=i2 28 50 key from FV (by decide)]
   ·have:=l1 1 p
    simp only [List.map_append]
    rw [e1 1 p (by omega),List.length_map,show p+1+(f 1 p y).length=p+(f 1 p y).length+1 by omega,ih _ _ _ (by omega)]
  ·obtain ⟨a',l',rfl,_,hk⟩:=Gw h1
   have hes:∀ u ∈ [y,z],IsE u:=fun u hu=>by
    rcases List.mem_cons.1 hu with rfl | hu
    ·exact hy
    ·obtain rfl:=F7.1 hu;exact hz
   simp only [sz] at hp hf
   have e1:CP (f' 1) (p+1) l'=(CP (f 1) p [y,z]).map sh:=QC hk (fun u hu u' p hS hp=>hf 1 u u' p (hes u hu) hS (by have:=FJ hu;omega) hp) (fun p u hu=>hl 1 p u (hes u hu)) (by omega)
   have l1:=JK (f:=f 1) (l:=[y,z]) (p:=p) fun p u hu=>hl 1 p u (hes u hu)
   simp only [I0,Wn,Wm,if_true,List.map_append,List.map_cons]
   rw [e1,List.length_map,show p+1+(CP (f 1) p [y,z]).length+1=p+(CP (f 1) p [y,z]).length+1+1 by omega,ih _ _ _ (by omega),show sh (i1 27 w)=i1 27 w from FV (by decide)]
section
variable {cx cx':GCx} (h1:cx'.cs=cx.cs) (h2:cx'.gl=cx.gl)
include h1 h2 in
theorem Alk:∀ (d d':Nat) (lo:List ByteArray) (r:Int) (p:Nat) (t t':Tree),IsE t→Dw Rl t t'→sz t≤d→sz t≤d'→p+4 * sz t≤M0→AL cx' lo d' r (p+1) t'=(AL cx lo d r p t).map sh
 | 0,_,_,_,_,t,_,_,_,h,_,_=>by have:=G5 t;omega
 | _,0,_,_,_,t,_,_,_,_,h,_=>by have:=G5 t;omega
 | d+1,d'+1,lo,r,p,t,t',hI,hS,hd,hd',hp=>by
  have F:∀ r x x' p,IsE x→Dw Rl x x'→sz x≤d→sz x≤d'→p+4 * sz x≤M0→AL cx' lo d' r (p+1) x'=(AL cx lo d r p x).map sh:=fun r x x' p a b c e f=>Alk d d' lo r p x x' a b c e f
  cases hI with
  | atom k1 k2 =>
   rename_i k n a t
   obtain ⟨a',l',rfl,_,hl⟩:=Gw hS
   obtain rfl:=FD hl
   obtain rfl | rfl | rfl | rfl | rfl | rfl:k=1∨k=2∨k=3∨k=4∨k=5∨k=6:=by omega
   ·rfl
   ·rfl
   ·rfl
   ·rw [YA,YA,h1];rfl
   ·rw [YB,YB,h1];rfl
   ·rw [V8,V8];unfold W5;rw [h2];split <;> rfl
  | index i1' Mu =>
   rename_i n a t x y
   obtain ⟨a',l',rfl,_,hl⟩:=Gw hS
   have hl0:=hl
   obtain ⟨x',m,rfl,hx,hl⟩:=Eh hl
   obtain ⟨y',m',rfl,hy,hl⟩:=Eh hl
   obtain rfl:=FD hl
   have hes:∀ u ∈ [x,y],IsE u:=fun u hu=>by
    rcases List.mem_cons.1 hu with rfl | hu
    ·exact i1'
    ·obtain rfl:=F7.1 hu;exact Mu
   simp only [sz] at hd hd' hp
   rw [V9,V9]
   simp only [show BN [x',y'] 0=x' from rfl,show BN [x',y'] 1=y' from rfl,show BN [x,y] 0=x from rfl,show BN [x,y] 1=y from rfl,← MF hx,← MG hx,← MG hy]
   split
   ·rfl
   ·rw [QC hl0 (fun u hu u' p hS hp=>F 1 u u' p (hes u hu) hS (by have:=FJ hu;omega) (by have:=FJ hu;omega) hp) (fun p u hu=>E1 d 1 p u (hes u hu)) (by omega),List.map_append]
    rfl
  | call i1' Mu =>
   rename_i n a t x l
   obtain ⟨a',l',rfl,_,hl⟩:=Gw hS
   obtain ⟨x',m,rfl,hx,hl⟩:=Eh hl
   simp only [sz,Au] at hd hd' hp
   have e0:=E1 (cx:=cx) (lo:=lo) d 1 p x i1'
   rw [VA,VA]
   simp only [SI,show ∀ (u:Tree) (v:List Tree),BN (u :: v) 0=u from fun _ _=>rfl,List.drop_succ_cons,List.drop_zero]
   rw [F 1 x x' p i1' hx (by omega) (by omega) (by omega),List.length_map,show p+1+(AL cx lo d 1 p x).length+1=p+(AL cx lo d 1 p x).length+1+1 by omega]
   rw [WK hl (fun u hu r u' p hS hp=>F r u u' p (Mu u hu) hS (by have:=FJ hu;omega) (by have:=FJ hu;omega) hp) (fun r p u hu=>E1 d r p u (Mu u hu)) (by omega)]
   simp only [List.map_append,List.map_cons,List.map_nil]
   rw [show sh (i0 22)=i0 22 from FV (by decide),show sh (i1 24 r)=i1 24 r from FV (by decide)]
  | paren i1' =>
   rename_i n a t x
   obtain ⟨a',l',rfl,_,hl⟩:=Gw hS
   obtain ⟨x',m,rfl,hx,hl⟩:=Eh hl
   obtain rfl:=FD hl
   simp only [sz,Au] at hd hd' hp
   rw [YC,YC]
   exact F 1 x x' p i1' hx (by omega) (by omega) (by omega)
  | unary i1' =>
   rename_i n a t x
   obtain ⟨a',l',rfl,_,hl⟩:=Gw hS
   obtain ⟨x',m,rfl,hx,hl⟩:=Eh hl
   obtain rfl:=FD hl
   simp only [sz,Au] at hd hd' hp
   rw [V7,V7,F 1 x x' p i1' hx (by omega) (by omega) (by omega),List.map_append,List.map_cons,show sh (i1 16 (Im t Xy))=i1 16 (Im t Xy) from FV (by decide)]
   rfl
  | binary i1' Mu =>
   rename_i n a t x y
   obtain ⟨a',l',rfl,_,hl⟩:=Gw hS
   obtain ⟨x',m,rfl,hx,hl⟩:=Eh hl
   obtain ⟨y',m',rfl,hy,hl⟩:=Eh hl
   obtain rfl:=FD hl
   simp only [sz,Au] at hd hd' hp
   have e0:=E1 (cx:=cx) (lo:=lo) d 1 p x i1'
   have e1:=E1 (cx:=cx) (lo:=lo) d 1 (p+(AL cx lo d 1 p x).length+1) y Mu
   rw [Y8,Y8]
   unfold SF
   rw [F 1 x x' p i1' hx (by omega) (by omega) (by omega),List.length_map,show p+1+(AL cx lo d 1 p x).length=p+(AL cx lo d 1 p x).length+1 by omega,F 1 y y' (p+(AL cx lo d 1 p x).length) Mu hy (by omega) (by omega) (by omega),F 1 y y' (p+(AL cx lo d 1 p x).length+1) Mu hy (by omega) (by omega) (by omega),List.length_map]
   split
   ·simp only [List.map_append,List.map_cons,List.map_nil]
    rw [show sh (i1 17 (Im t opL))=i1 17 (Im t opL) from FV (by decide)]
   ·simp only [List.map_append,List.map_cons]
    have hM:M0=900000:=rfl
    have hj:∀ o:Int,o=21∨o=20→sh (i1 o ((p+(AL cx lo d 1 p x).length+1+(AL cx lo d 1 (p+(AL cx lo d 1 p x).length+1) y).length:Nat):Int))=i1 o ((p+1+(AL cx lo d 1 p x).length+1+(AL cx lo d 1 (p+(AL cx lo d 1 p x).length+1) y).length:Nat):Int):=fun o ho=>by
     rw [P_ (o:=o) (a:=((p+(AL cx lo d 1 p x).length+1+(AL cx lo d 1 (p+(AL cx lo d 1 p x).length+1) y).length:Nat):Int)) (by omega) (by omega)]
     congr 1
     omega
    rw [hj _ (by split <;> simp),show p+1+(AL cx lo d 1 p x).length=p+(AL cx lo d 1 p x).length+1 by omega]
  | table i1' =>
   rename_i n a t l
   obtain ⟨a',l',rfl,_,hl⟩:=Gw hS
   simp only [sz] at hd hd' hp
   rw [Y9,Y9,Av5 hl i1',(Yw (Hy l) hl).1,(Yw (Hy l) hl).2,List.map_cons]
   rw [Axr (f:=AL cx lo d) (Hy l) hl i1' (fun r x x' p a b c e=>F r x x' p a b (by omega) (by omega) e) (fun r p x hx=>E1 d r p x hx) (by omega)]
   rw [show ∀ a b:Int,sh (i2 26 a b)=i2 26 a b from fun a b=>FV (by decide)]
end
variable {Rl:Int→Int→Prop}
theorem Agp {f f':Int→Nat→Tree→Cd} {l l':List Tree} {p n:Nat} (h:CW Rl l l') (hf:∀ x ∈ l,∀ r x' p,Dw Rl x x'→p+4 * sz x≤M0→f' r (p+1) x'=(f r p x).map sh) (hl:∀ r p x,x ∈ l→(f r p x).length≤4 * sz x) (hp:p+4 * Au l+1≤M0):FK f' (p+1) l' n=(FK f p l n).map sh:=by
 have hlen:=GW h
 unfold FK
 rw [← hlen]
 split
 ·exact QC h (fun x hx x' p hS hp=>hf x hx 1 x' p hS hp) (fun p x hx=>hl 1 p x hx) (by omega)
 by_cases h0:l=[]
 ·subst h0
  rw [FD h,if_pos rfl,if_pos rfl,List.map_replicate]
  rfl
 ·have h0':l'≠[]:=fun e=>by rw [e] at hlen;exact h0 (List.eq_nil_of_length_eq_zero hlen)
  rw [if_neg h0,if_neg h0',WK h hf hl (by omega)]
  simp only [List.map_cons,List.map_append,List.map_nil]
  rw [show sh (i0 22)=i0 22 from FV (by decide),show sh (i1 23 (n:Int))=i1 23 (n:Int) from FV (by decide)]
theorem Aww (m:Nat):∀ n,(MD m n).map sh=MD m n
 | 0=>rfl
 | n+1=>by simp only [MD,List.map_cons,Aww m n];rw [show ∀ v,sh (i1 7 v)=i1 7 v from fun v=>FV (by decide)]
theorem Af2:∀ {l l':List Tree},CW Rl l l'→Hz l'=Hz l
 | [],_,h=>by rw [FD h]
 | x :: l,_,h=>by
  obtain ⟨x',m,rfl,h1,h2⟩:=Eh h
  simp only [Hz,Af2 h2,MF h1]
theorem Avc {cx cx':GCx} (h2:cx'.gl=cx.gl) (lo:List ByteArray) (n:Nat):∀ {l l':List Tree},CW Rl l l'→LZ cx' lo n l'=(LZ cx lo n l).map sh
 | [],_,h=>by rw [FD h];rfl
 | x :: l,_,h=>by
  obtain ⟨x',m,rfl,h3,h4⟩:=Eh h
  have hn:∀ t,sh (Oj cx lo t)=Oj cx lo t:=fun t=>by unfold Oj;split <;> exact FV (by decide)
  have hn':∀ t,Oj cx' lo t=Oj cx lo t:=fun t=>by unfold Oj;rw [h2]
  simp only [LZ,← MF h3,← MG h3,← GW h4,Af2 h4,Avc h2 lo n h4,hn']
  split
  ·rw [List.map_cons,show ∀ a b,sh (i2 13 a b)=i2 13 a b from fun a b=>FV (by decide)]
  ·rw [List.map_cons,List.map_cons,hn,show ∀ a,sh (i1 14 a)=i1 14 a from fun a=>FV (by decide)]
section
variable {cx cx':GCx} (h1:cx'.cs=cx.cs) (h2:cx'.gl=cx.gl) (hL:∀ a a',Rl a a'→EJ cx'.src a'=EJ cx.src a)
theorem Axw {f f':Int→Nat→Tree→Cd}:∀ {l l':List Tree} {p:Nat},CW Rl l l'→(∀ x ∈ l,IsE x)→(∀ r x x' p,IsE x→Dw Rl x x'→sz x≤Au l→p+4 * sz x≤M0→f' r (p+1) x'=(f r p x).map sh)→(∀ r p x,IsE x→(f r p x).length≤4 * sz x)→p+4 * Au l≤M0→I1 (CP (f' 1)) (p+1) l'=(I1 (CP (f 1)) p l).map sh
 | [],_,p,h,_,_,_,_=>by rw [FD h];rfl
 | x :: l,_,p,h,hI,hf,hl,hp=>by
  obtain ⟨x',m,rfl,h3,h4⟩:=Eh h
  simp only [Au] at hp hf
  have ih:=fun p hp=>Axw (f:=f) (f':=f') (p:=p) h4 (fun y hy=>hI y (Db _ hy)) (fun r y y' p a b c d=>hf r y y' p a b (by omega) d) hl hp
  unfold I1
  rw [← MF h3]
  split
  ·rename_i h7
   obtain ⟨hk,hks⟩:=Z_ (hI x (CB ..)) h7
   have S_:CW Rl x.kids x'.kids:=by cases x;obtain ⟨_,_,rfl,_,hl⟩:=Gw h3;exact hl
   have e1:CP (f' 1) (p+1) x'.kids=(CP (f 1) p x.kids).map sh:=QC S_ (fun u hu u' p hS hp=>hf 1 u u' p (hk u hu) hS (by have:=FJ hu;omega) hp) (fun p u hu=>hl 1 p u (hk u hu)) (by omega)
   have l1:=JK (f:=f 1) (l:=x.kids) (p:=p) fun p u hu=>hl 1 p u (hk u hu)
   rw [e1,List.length_map,show p+1+(CP (f 1) p x.kids).length=p+(CP (f 1) p x.kids).length+1 by omega,ih _ (by omega),List.map_append]
  ·exact ih p (by omega)
include hL in
theorem Yk {g g':SG}:∀ {l l':List Tree} {lo:Ae} {p:Nat},CW Rl l l'→(∀ x ∈ l,IsS x)→(∀ x ∈ l,∀ x' lo p,Dw Rl x x'→p+5 * sz x≤M0+1→g' lo (p+1) x'=(He (g lo p x).1,(g lo p x).2))→(∀ lo p x,x ∈ l→(g lo p x).1.length+1≤5 * sz x)→p+5 * Au l≤M0→FZ cx' g' lo (p+1) l'=He (FZ cx g lo p l)
 | [],_,lo,p,h,_,_,_,_=>by rw [FD h];rfl
 | x :: l,_,lo,p,h,hI,hg,hl,hp=>by
  obtain ⟨x',m,rfl,h3,h4⟩:=Eh h
  simp only [Au] at hp
  have hx:=hI x (CB ..)
  have l1:=hl lo (p+1) x (CB ..)
  have hk:x.kind≠20∧x.kind≠11:=by cases hx <;> (simp only [Tree.kind];decide)
  have ih:=Yk (g:=g) (g':=g') (l:=l) (lo:=(g lo (p+1) x).2) (p:=p+1+(g lo (p+1) x).1.length) h4 (fun y hy=>hI y (Db _ hy)) (fun y hy=>hg y (Db _ hy)) (fun lo p y hy=>hl lo p y (Db _ hy)) (by omega)
  simp only [FZ]
  rw [hg x (CB ..) x' lo (p+1) h3 (by omega),hL _ _ (Afm h3 hk.1 hk.2),RO,show p+1+1+(g lo (p+1) x).1.length=p+1+(g lo (p+1) x).1.length+1 by omega,ih]
  show _=some (sh (i1 1 (EJ cx.src x.at_))) :: He (_++_)
  rw [Btp,show sh (i1 1 (EJ cx.src x.at_))=i1 1 (EJ cx.src x.at_) from FV (by decide)]
theorem Abp {X:Hx} {b:Ins} {p:Nat} (hp:p+X.length+1≤1000000):Jw (He X) (sh b) (p+1)=(Jw X b p).map sh:=by
 unfold Jw
 rw [RO,show p+1+X.length+1=p+X.length+1+1 by omega,YE hp,List.map_append]
 rfl
def U3 (X:HHx):HHx:=X.map (Option.map (Option.map sh))
theorem Aj7 {e e':Nat→Tree→Cd} {b b':Nat→Tree→Hx}:∀ {l l':List Tree} {p:Nat},CW Rl l l'→IsR l→(∀ x ∈ l,∀ x' p,IsE x→Dw Rl x x'→p+4 * sz x≤M0→e' (p+1) x'=(e p x).map sh)→(∀ x ∈ l,∀ x' p,E7 x→Dw Rl x x'→p+5 * sz x≤M0→b' (p+1) x'=He (b p x)) →
  (∀ p x,IsE x→(e p x).length≤4 * sz x)→(∀ p x,E7 x→(b p x).length+5≤5 * sz x)→p+5 * Au l≤M0→brX e' b' (p+1) l'=U3 (brX e b p l)
 | [],_,p,h,_,_,_,_,_,_=>by rw [FD h];rfl
 | [x],_,p,h,hr,he,hb,_,_,hp=>by
  obtain ⟨x',m,rfl,h3,h4⟩:=Eh h
  obtain rfl:=FD h4
  have hx:E7 x:=by cases hr with | last h=>exact h
  simp only [Au] at hp
  simp only [brX]
  rw [hb x (CB ..) x' p hx h3 (by omega)]
  unfold He U3
  rw [List.map_map,List.map_map]
  rfl
 | x :: y :: l,_,p,h,hr,he,hb,hel,hbl,hp=>by
  obtain ⟨x',m,rfl,h3,h4⟩:=Eh h
  obtain ⟨y',m',rfl,h5,h6⟩:=Eh h4
  obtain ⟨hx,hy,hl⟩:IsE x∧E7 y∧IsR l:=by cases hr with | more h1 h2 h3=>exact ⟨h1,h2,h3⟩
  simp only [Au] at hp
  have hM:M0=900000:=rfl
  have hxp:=G5 x
  have l1:=hel p x hx
  have l2:=hbl (p+(e p x).length+1) y hy
  have e3:m'.isEmpty=l.isEmpty:=by have:=GW h6;cases m' <;> cases l <;> simp_all
  have hmo:(if l.isEmpty then 0 else 1:Nat)≤1:=by split <;> omega
  have ih:=Aj7 (e:=e) (e':=e') (b:=b) (b':=b') (p:=p+(e p x).length+1+(b (p+(e p x).length+1) y).length+(if l.isEmpty then 0 else 1:Nat)) h6 hl (fun u hu=>he u (Db _ (Db _ hu))) (fun u hu=>hb u (Db _ (Db _ hu))) hel hbl (by omega)
  simp only [brX]
  rw [he x (CB ..) x' p hx h3 (by omega),List.length_map,show p+1+(e p x).length+1=p+(e p x).length+1+1 by omega,hb y (Db _ (CB ..)) y' (p+(e p x).length+1) hy h5 (by omega),RO,e3]
  rw [show p+(e p x).length+1+1+(b (p+(e p x).length+1) y).length+(if l.isEmpty then 0 else 1:Nat)=p+(e p x).length+1+(b (p+(e p x).length+1) y).length+(if l.isEmpty then 0 else 1:Nat)+1 by omega,ih]
  have hj:sh (i1 19 ((p+(e p x).length+1+(b (p+(e p x).length+1) y).length+(if l.isEmpty then 0 else 1:Nat):Nat):Int))=i1 19 ((p+(e p x).length+1+(b (p+(e p x).length+1) y).length+(if l.isEmpty then 0 else 1:Nat)+1:Nat):Int):=by
   rw [P_ (o:=19) (a:=((p+(e p x).length+1+(b (p+(e p x).length+1) y).length+(if l.isEmpty then 0 else 1:Nat):Nat):Int)) (by omega) (by omega)]
   congr 1
  unfold U3
  simp only [List.map_append,List.map_cons,List.map_map,Option.map_some,hj]
  congr 1
  congr 1
  congr 1
  congr 1
  ·unfold He
   rw [List.map_map]
   rfl
  ·split <;> rfl
include h1 h2 hL in
theorem Axc:∀ (d d':Nat) (lo:List ByteArray) (p:Nat) (t t':Tree),IsS t→Dw Rl t t'→sz t≤d→sz t≤d'→p+5 * sz t≤M0+1→BZ cx' d' lo (p+1) t'=(He (BZ cx d lo p t).1,(BZ cx d lo p t).2)
 | 0,_,_,_,t,_,_,_,h,_,_=>by have:=G5 t;omega
 | _,0,_,_,t,_,_,_,_,h,_=>by have:=G5 t;omega
 | d+1,d'+1,lo,p,t,t',hI,hS,hd,hd',hp=>by
  have hM:M0=900000:=rfl
  have F:∀ (lo:List ByteArray) r x x' p,IsE x→Dw Rl x x'→sz x≤d→sz x≤d'→p+4 * sz x≤M0→AL cx' lo d' r (p+1) x'=(AL cx lo d r p x).map sh:=fun lo r x x' p a b c e f=>Alk h1 h2 d d' lo r p x x' a b c e f
  have L:∀ (lo:List ByteArray) r p x,IsE x→(AL cx lo d r p x).length≤4 * sz x:=fun lo r p x hx=>E1 d r p x hx
  have B:∀ (lo:List ByteArray) p b b',E7 b→Dw Rl b b'→sz b≤d+1→sz b≤d'+1→p+5 * sz b≤M0+5→CE cx' d' lo (p+1) b'=He (CE cx d lo p b):=fun lo p b b' hb hS hd hd' hp=>by
   obtain ⟨hk,hs,_⟩:=VX hb
   have S_:CW Rl b.kids b'.kids:=by cases b;obtain ⟨_,_,rfl,_,hl⟩:=Gw hS;exact hl
   exact Yk hL S_ hk (fun x hx x' lo p hS hp=>by have:=FJ hx;exact Axc d d' lo p x x' (hk x hx) hS (by omega) (by omega) hp) (fun lo p x hx=>Qg d lo p x (hk x hx)) (by omega)
  have BL:∀ (lo:List ByteArray) p b,E7 b→(CE cx d lo p b).length+5≤5 * sz b:=fun lo p b hb=>NS hb lo p
  cases hI with
  | loc hl hm =>
   rename_i a t l m
   obtain ⟨a',l',rfl,_,hs⟩:=Gw hS
   obtain ⟨l1,m1,rfl,hs1,hs2⟩:=Qc hs
   simp only [sz,DB] at hd hd' hp
   have hn:=Em l
   rw [GW hs1,RU,← GW hs1,RU,Afn hs1,PZ,List.map_append,Aww]
   rw [Agp hs2 (fun x hx r x' p hS hp=>F lo r x x' p (hm x hx) hS (by have:=FJ hx;omega) (by have:=FJ hx;omega) hp) (fun r p x hx=>L lo r p x (hm x hx)) (by omega)]
  | asg hl hx hm hy =>
   rename_i a t l m
   obtain ⟨a',l',rfl,_,hs⟩:=Gw hS
   obtain ⟨l1,m1,rfl,hs1,hs2⟩:=Qc hs
   simp only [sz,DB] at hd hd' hp
   rw [GW hs1,RQ,← GW hs1,RQ,PZ]
   have hxE:∀ x ∈ l,IsE x:=fun x h=>(hx x h).1
   have e1:=Axw (f:=AL cx lo d) (f':=AL cx' lo d') (p:=p) hs1 hxE (fun r x x' p a b c e=>F lo r x x' p a b (by omega) (by omega) e) (fun r p x hx=>L lo r p x hx) (by omega)
   have l1':=Xw (cx:=cx) (lo:=lo) (d:=d) (p:=p) hxE
   unfold OG
   rw [e1,List.length_map,← GW hs1,Af2 hs1,Avc h2 lo l.length hs1,show p+1+(I1 (CP (AL cx lo d 1)) p l).length=p+(I1 (CP (AL cx lo d 1)) p l).length+1 by omega]
   rw [Agp hs2 (fun x hx r x' p hS hp=>F lo r x x' p (hy x hx) hS (by have:=FJ hx;omega) (by have:=FJ hx;omega) hp) (fun r p x hx=>L lo r p x (hy x hx)) (by omega)]
   simp only [List.map_append,List.map_cons,List.map_nil]
   rw [show ∀ v,sh (i1 15 v)=i1 15 v from fun v=>FV (by decide)]
  | run hx h8 =>
   rename_i n a t x
   obtain ⟨a',l',rfl,_,hs⟩:=Gw hS
   obtain ⟨x',m,rfl,hx',hs⟩:=Eh hs
   obtain rfl:=FD hs
   simp only [sz,Au] at hd hd' hp
   rw [RW,RW,PZ,F lo 0 x x' p hx hx' (by omega) (by omega) (by omega)]
  | if_ hr =>
   rename_i n a t l
   obtain ⟨a',l',rfl,_,hs⟩:=Gw hS
   simp only [sz] at hd hd' hp
   rw [Qf,Qf]
   have e1:=Aj7 (e:=AL cx lo d 1) (e':=AL cx' lo d' 1) (b:=CE cx d lo) (b':=CE cx' d' lo) (p:=p) hs hr (fun x hx x' p hI hS hp=>F lo 1 x x' p hI hS (by have:=FJ hx;omega) (by have:=FJ hx;omega) hp) (fun x hx x' p hI hS hp=>B lo p x x' hI hS (by have:=FJ hx;omega) (by have:=FJ hx;omega) (by omega)) (fun p x hx=>L lo 1 p x hx) (fun p x hx=>BL lo p x hx) (by omega)
   have l1:=Ym (e:=AL cx lo d 1) (b:=CE cx d lo) (fun p x hx=>E1 d 1 p x hx) (p:=p) hr fun p x _ hx=>BL lo p x hx
   unfold ifH
   rw [e1]
   have ln:(U3 (brX (AL cx lo d 1) (CE cx d lo) p l)).length=(brX (AL cx lo d 1) (CE cx d lo) p l).length:=List.length_map ..
   rw [ln]
   generalize hX:brX (AL cx lo d 1) (CE cx d lo) p l=X at l1 ⊢
   have hj:sh (i1 18 ((p+X.length:Nat):Int))=i1 18 ((p+1+X.length:Nat):Int):=by
    rw [P_ (o:=18) (a:=((p+X.length:Nat):Int)) (by omega) (by omega)]
    congr 1
    omega
   unfold U3 He
   rw [List.map_map,List.map_map,← hj]
   congr 1
   refine List.map_congr_left fun o _=>?_
   cases o <;> rfl
  | while_ hx hb =>
   rename_i n a t x b
   obtain ⟨a',l',rfl,_,hs⟩:=Gw hS
   obtain ⟨x',m,rfl,hx',hs⟩:=Eh hs
   obtain ⟨b',m',rfl,hb',hs⟩:=Eh hs
   obtain rfl:=FD hs
   simp only [sz,Au] at hd hd' hp
   have lx:=L lo 1 p x hx
   have hxp:=G5 x
   rw [RX,RX,PZ,F lo 1 x x' p hx hx' (by omega) (by omega) (by omega),List.length_map,show p+1+(AL cx lo d 1 p x).length+2=p+(AL cx lo d 1 p x).length+2+1 by omega,B lo _ b b' hb hb' (by omega) (by omega) (by omega)]
   have lb:=BL lo (p+(AL cx lo d 1 p x).length+2) b hb
   generalize CE cx d lo (p+(AL cx lo d 1 p x).length+2) b=X at lb ⊢
   generalize AL cx lo d 1 p x=G at lx lb ⊢
   unfold X4
   rw [List.length_map,RO]
   simp only [List.map_append,List.map_cons]
   rw [← Abp (by omega),P_ (o:=19) (a:=((p+G.length+2+(X.length+1):Nat):Int)) (by omega) (by omega),P_ (o:=18) (a:=(p:Int)) (by omega) (by omega),show sh (i0 34)=i0 34 from FV (by decide),show p+1+G.length+2=p+G.length+2+1 by omega]
   rw [show ((p+G.length+2+1+(X.length+1):Nat):Int)=((p+G.length+2+(X.length+1):Nat):Int)+1 by omega]
   rfl
  | for_ hl hx hb =>
   rename_i n a t x b l
   obtain ⟨a',l',rfl,_,hs⟩:=Gw hS
   have hs:CW Rl (x :: l++[b]) l':=hs
   obtain ⟨l1,m1,rfl,hs1,hs2⟩:=Qc hs
   obtain ⟨x',l2,rfl,hx',hs1⟩:=Eh hs1
   obtain ⟨b',m',rfl,hb',hs2⟩:=Eh hs2
   obtain rfl:=FD hs2
   simp only [sz,Au,DB] at hd hd' hp
   have hxp:=G5 x
   have lE:=JK (f:=AL cx lo d 1) (l:=l) (p:=p) fun p y hy=>L lo 1 p y (hx y hy)
   have eE:CP (AL cx' lo d' 1) (p+1) l2=(CP (AL cx lo d 1) p l).map sh:=QC hs1 (fun u hu u' p hS hp=>F lo 1 u u' p (hx u hu) hS (by have:=FJ hu;omega) (by have:=FJ hu;omega) hp) (fun p u hu=>L lo 1 p u (hx u hu)) (by omega)
   rw [RS,RS,PZ,eE,List.length_map,show p+1+(CP (AL cx lo d 1) p l).length+1=p+(CP (AL cx lo d 1) p l).length+1+1 by omega,show FH lo [x']=FH lo [x] by unfold FH;rw [List.map_cons,List.map_cons,MG hx'],B _ _ b b' hb hb' (by omega) (by omega) (by omega),← GW hs1]
   have lb:=BL (FH lo [x]) (p+(CP (AL cx lo d 1) p l).length+1) b hb
   generalize CE cx d (FH lo [x]) (p+(CP (AL cx lo d 1) p l).length+1) b=X at lb ⊢
   generalize CP (AL cx lo d 1) p l=G at lE lb ⊢
   unfold VE
   rw [List.length_map,RO]
   simp only [List.map_append,List.map_cons]
   rw [← Abp (by omega),show p+1+G.length+1=p+G.length+1+1 by omega]
   have e30:sh (i3 30 ((lo.length+1:Nat):Int) ((p+G.length+1+(X.length+1):Nat):Int) ((l.length:Int) - 2))=i3 30 ((lo.length+1:Nat):Int) (((p+G.length+1+(X.length+1):Nat):Int)+1) ((l.length:Int) - 2):=Afj (by simp) (by omega)
   have e31:sh (i2 31 ((lo.length+1:Nat):Int) ((p+G.length+1:Nat):Int))=i2 31 ((lo.length+1:Nat):Int) (((p+G.length+1:Nat):Int)+1):=Afj (by simp) (by omega)
   rw [e30,e31,show ((p+G.length+1+1+(X.length+1):Nat):Int)=((p+G.length+1+(X.length+1):Nat):Int)+1 by omega]
   rfl
  | forIn hl hm hx hb =>
   rename_i a t b l m
   obtain ⟨a',l',rfl,_,hs⟩:=Gw hS
   obtain ⟨l1,m1,rfl,hs1,hs2⟩:=Qc hs
   obtain ⟨l2,l3,rfl,hs1,hs3⟩:=Qc hs1
   obtain ⟨b',m',rfl,hb',hs2⟩:=Eh hs2
   obtain rfl:=FD hs2
   simp only [sz,Au,DB] at hd hd' hp
   have hln:=Em l
   have hlp:=List.length_pos_iff.2 hl
   have hmn:=Em m
   have hmp:=List.length_pos_iff.2 hm
   have lE:=Qj (cx:=cx) (lo:=lo) (d:=d) (p:=p) (n:=3) hx
   have eE:FK (AL cx' lo d') (p+1) l3 3=(FK (AL cx lo d) p m 3).map sh:=Agp hs3 (fun x hx' r x' p hS hp=>F lo r x x' p (hx x hx') hS (by have:=FJ hx';omega) (by have:=FJ hx';omega) hp) (fun r p x hx'=>L lo r p x (hx x hx')) (by omega)
   rw [GW hs1,RT,← GW hs1,RT,PZ,eE,List.length_map,show p+1+(FK (AL cx lo d) p m 3).length+7=p+(FK (AL cx lo d) p m 3).length+7+1 by omega,show FH lo l2=FH lo l by unfold FH;rw [Afn hs1],B _ _ b b' hb hb' (by omega) (by omega) (by omega)]
   have lb:=BL (FH lo l) (p+(FK (AL cx lo d) p m 3).length+7) b hb
   generalize CE cx d (FH lo l) (p+(FK (AL cx lo d) p m 3).length+7) b=X at lb ⊢
   generalize FK (AL cx lo d) p m 3=G at lE lb ⊢
   unfold inG
   rw [List.length_map,RO]
   simp only [List.map_append,List.map_cons]
   have e33:sh (i3 33 ((lo.length+1:Nat):Int) ((p+G.length+7+(X.length+1):Nat):Int) (l.length:Int))=i3 33 ((lo.length+1:Nat):Int) (((p+G.length+7+(X.length+1):Nat):Int)+1) (l.length:Int):=Afj (by simp) (by omega)
   rw [← Abp (by omega),e33,P_ (o:=18) (a:=((p+G.length+1:Nat):Int)) (by omega) (by omega),show p+1+G.length+7=p+G.length+7+1 by omega,show p+1+G.length+1=p+G.length+1+1 by omega]
   rw [show ∀ v,sh (i1 32 v)=i1 32 v from fun v=>FV (by decide),show ∀ v,sh (i1 6 v)=i1 6 v from fun v=>FV (by decide),show ∀ v,sh (i1 6 v)=i1 6 v from fun v=>FV (by decide),show ∀ v,sh (i1 6 v)=i1 6 v from fun v=>FV (by decide),show sh (i0 22)=i0 22 from FV (by decide),show ∀ v,sh (i1 24 v)=i1 24 v from fun v=>FV (by decide)]
   rw [show ((p+G.length+7+1+(X.length+1):Nat):Int)=((p+G.length+7+(X.length+1):Nat):Int)+1 by omega]
   rfl
  | do_ hb =>
   rename_i n a t b
   obtain ⟨a',l',rfl,_,hs⟩:=Gw hS
   obtain ⟨b',m',rfl,hb',hs⟩:=Eh hs
   obtain rfl:=FD hs
   simp only [sz,Au] at hd hd' hp
   rw [Qe,Qe,B lo p b b' hb hb' (by omega) (by omega) (by omega)]
  | break_ =>
   obtain ⟨a',l',rfl,_,hs⟩:=Gw hS
   rw [RR,RR]
   rfl
  | ret hx =>
   rename_i n a t l
   obtain ⟨a',l',rfl,_,hs⟩:=Gw hS
   simp only [sz] at hd hd' hp
   rw [RV,RV,PZ]
   unfold Uy
   rw [WK hs (fun x hx' r x' p hS hp=>F lo r x x' p (hx x hx') hS (by have:=FJ hx';omega) (by have:=FJ hx';omega) hp) (fun r p x hx'=>L lo r p x (hx x hx')) (by omega)]
   simp only [List.map_cons,List.map_append,List.map_nil]
   rw [show sh (i0 22)=i0 22 from FV (by decide),show sh (i0 25)=i0 25 from FV (by decide)]
end
end
section
open Go Go.RowKit
def P7.f (k:Nat):Option (Bool):=(Gb.fS k (⟨#[119,104,105,108,101,32,120,32,100,111,32,98,114,101,97,107,32,101,110,100]⟩:ByteArray)).bind fun r1=>(cond (r1.2.2.1 != 0) (some true) (cond (((r1.1.length:Nat):Int) != 1) (some true) ((Bh r1.1 0).bind fun x54=>some (((x54.2.2.2.2.length:Nat):Int) != 9))):Option Bool).bind fun q12=>cond q12 (some (false)) ((Bh r1.1 0).bind fun x14=>((Bh x14.2.2.2.2 2).bind fun x30=>cond ((x30.1 == 19) && ((x30.2.1 == 7) && ((x30.2.2.1 == 0) && ((x30.2.2.2 == 0) && true)))) ((Bh x14.2.2.2.2 5).bind fun x35=>cond ((x35.1 == 18) && ((x35.2.1 == 7) && ((x35.2.2.1 == 0) && ((x35.2.2.2 == 0) && true)))) ((Bh x14.2.2.2.2 6).bind fun x40=>cond ((x40.1 == 18) && ((x40.2.1 == 1) && ((x40.2.2.1 == 0) && ((x40.2.2.2 == 0) && true)))) ((Bh x14.2.2.2.2 8).bind fun x45=>some (x45.1 == 25)) (some false)) (some false)) (some false):Option Bool).bind fun q29=>some (q29))
theorem P7.ok {k:Nat} {G:Ab} {r:Bool} (h:P7.f k=some r) (hG:EE G): Ct Tryz.prog 9 #[] [] [G] (fun e l1=>e=.returned (bv r)∧l1=[]):=by
 refine C3 (args:=[]) Tryz.func9 rfl (By rfl) ?_
 intro A X hh_
 obtain ⟨BU,_⟩:=hh_
 unfold P7.f at h
 refine ksr (kx 1 (Ba (bnd h fun r1 hr1 h=>(Bz (Gb.okS hr1 hG) rfl ⟨BU,trivial⟩ ?_))))
 rintro _ _ ⟨h2,A3,k4,h6,A7,k8,o5,o9,rfl,rfl⟩
 refine Bi (kx 3 (knp #[nS,nS] 25 fun b10=>(knp #[iv 0,iv 0] 28 fun b11=>(K.An (AQ 0 2 #[Aa A3 r1.1 k4,Aa A7 r1.2.1 k8] (K.An (AQ 0 2 #[iv r1.2.2.1,iv r1.2.2.2] (Ad (B8 (bnd h fun q12 hq12 h=>?_))))))))))
 refine G_ [(1,pt b10),(25,bv q12)] (bk b10 #[Aa A3 r1.1 k4,Aa A7 r1.2.1 k8] 25 :: h2 :: h6 :: X) ?_ ?_
 ·clear hq12
  refine AU h (fun h=>?_) fun h=>?_
  ·refine ksr (kx 1 (Ad (C9 (DH ?_))))
   obtain rfl:=As h
   exact K.drop (K.drop (K.drop (kdn rfl)))
  ·refine BV (AM (ksr (kx 1 (kld 0 0 rfl (K.drop (K.An (K.drop (bnd h fun x14 Bgm h=>(DI (T:=41) (kd:=.i64) (R:=Dr) rfl Bgm (AK.rd o5) fun p15 u18 q19 e16 y17=>?_)))))))))
   obtain ⟨A20,k21,A23,k24,rfl,GU,Hc⟩:=MB q19
   refine Ha (off:=4) rfl e16 y17 fun p26 e27 y28=>?_
   have e27:Elem _ p26 [Aa A23 x14.2.2.2.2 k24]:=e27
   refine Ip rfl (by kernel_rfl) (by kernel_rfl) (by kernel_rfl) (by kernel_rfl) e27 (.head _) (kx 1 (Ad (bnd h fun q29 Zm h=>?_)))
   refine G_ [(0,bv q29)] (X) ?_ ?_
   ·clear Zm
    refine C9 ?_
    obtain rfl:=As h
    exact kdn rfl
   ·have h:=Zm
    clear Zm
    refine Bu (kx 1 (bnd h fun x30 Bhe h=>(GQ (T:=48) (kd:=.i64) Fo rfl Bhe Hc fun p31 e32 y33=>?_)))
    have e32:Elem _ p31 [iv x30.1,iv x30.2.1,iv x30.2.2.1,iv x30.2.2.2]:=e32
    refine Fq rfl e32 (.head _) (kx 1 (Rb (r:=((x30.1 == 19) && ((x30.2.1 == 7) && ((x30.2.2.1 == 0) && ((x30.2.2.2 == 0) && true))))) (xs:=#[iv x30.1,iv x30.2.1,iv x30.2.2.1,iv x30.2.2.2]) (ys:=#[iv 19,iv 7,iv 0,iv 0]) false (by kernel_rfl) rfl (by kernel_rfl) (by kernel_rfl) (by kernel_rfl) (by kernel_rfl) (by kernel_rfl) (by kernel_rfl) (by kernel_rfl) (kx 1 ?_)))
    refine Ee 36 h (fun h=>?_) fun h=>?_
    ·refine kx 1 (bnd h fun x35 ZT h=>(GQ (T:=48) (kd:=.i64) Fo rfl ZT Hc fun p36 e37 y38=>?_))
     have e37:Elem _ p36 [iv x35.1,iv x35.2.1,iv x35.2.2.1,iv x35.2.2.2]:=e37
     refine Fq rfl e37 (.head _) (kx 1 (Rb (r:=((x35.1 == 18) && ((x35.2.1 == 7) && ((x35.2.2.1 == 0) && ((x35.2.2.2 == 0) && true))))) (xs:=#[iv x35.1,iv x35.2.1,iv x35.2.2.1,iv x35.2.2.2]) (ys:=#[iv 18,iv 7,iv 0,iv 0]) false (by kernel_rfl) rfl (by kernel_rfl) (by kernel_rfl) (by kernel_rfl) (by kernel_rfl) (by kernel_rfl) (by kernel_rfl) (by kernel_rfl) (kx 2 ?_)))
     refine Ee 43 h (fun h=>?_) fun h=>?_
     ·refine kx 1 (bnd h fun x40 ZU h=>(GQ (T:=48) (kd:=.i64) Fo rfl ZU Hc fun p41 e42 y43=>?_))
      have e42:Elem _ p41 [iv x40.1,iv x40.2.1,iv x40.2.2.1,iv x40.2.2.2]:=e42
      refine Fq rfl e42 (.head _) (kx 1 (Rb (r:=((x40.1 == 18) && ((x40.2.1 == 1) && ((x40.2.2.1 == 0) && ((x40.2.2.2 == 0) && true))))) (xs:=#[iv x40.1,iv x40.2.1,iv x40.2.2.1,iv x40.2.2.2]) (ys:=#[iv 18,iv 1,iv 0,iv 0]) false (by kernel_rfl) rfl (by kernel_rfl) (by kernel_rfl) (by kernel_rfl) (by kernel_rfl) (by kernel_rfl) (by kernel_rfl) (by kernel_rfl) (kx 2 ?_)))
      refine Ee 50 h (fun h=>?_) fun h=>?_
      ·refine kx 1 (bnd h fun x45 Bhh h=>(GQ (T:=48) (kd:=.i64) Fo rfl Bhh Hc fun p46 e47 y48=>?_))
       have e47:Elem _ p46 [iv x45.1,iv x45.2.1,iv x45.2.2.1,iv x45.2.2.2]:=e47
       refine Ha (off:=0) rfl e47 y48 fun p49 e50 y51=>?_
       have e50:Elem _ p49 [iv x45.1,iv x45.2.1,iv x45.2.2.1,iv x45.2.2.2]:=e50
       exact Ip rfl (by kernel_rfl) (by kernel_rfl) (by kernel_rfl) (by kernel_rfl) e50 (.head _) (K.drop (kx 3 (Ad (Dd ⟨gb (As h),trivial⟩))))
      ·exact kx 7 (Ad (K.drop (Dd ⟨gb (As h),trivial⟩)))
     ·exact kx 14 (Ad (K.drop (Dd ⟨gb (As h),trivial⟩)))
    ·exact kx 21 (Ad (K.drop (Dd ⟨gb (As h),trivial⟩)))
 ·have h:=hq12
  clear hq12
  refine Bu (kx 1 (kld 0 0 rfl (K.drop (kx 2 ?_))))
  refine Ee 11 h (fun h=>?_) fun h=>?_
  ·exact kx 14 (Ad (Dd ⟨gr,gb (As h),trivial⟩))
  ·refine kx 1 (kld 0 0 rfl (kx 4 ?_))
   refine Ee 17 h (fun h=>?_) fun h=>?_
   ·exact kx 8 (Ad (Dd ⟨gr,gb (As h),trivial⟩))
   ·refine kx 1 (kld 0 0 rfl (bnd h fun x54 Bho h=>(DI (T:=41) (kd:=.i64) (R:=Dr) rfl Bho (AK.rd o5) fun p55 u58 q59 e56 y57=>?_)))
    obtain ⟨S2,T2,A63,k64,rfl,Ub,o65⟩:=MB q59
    refine Ha (off:=4) rfl e56 y57 fun p66 e67 y68=>?_
    have e67:Elem _ p66 [Aa A63 x54.2.2.2.2 k64]:=e67
    exact Ip rfl (by kernel_rfl) (by kernel_rfl) (by kernel_rfl) (by kernel_rfl) e67 (.tail _ (.head _)) (kx 3 (Ad (Dd ⟨gr,gb (As h),trivial⟩)))
def P8.f (_k:Nat) (Ac:Int) (Ag:ByteArray) (Fl:Int) (Af:Int) (At:List Tree):Option (Bool):=(cond (decide (((At.length:Nat):Int) > 0)) ((Bh At (IntKind.i64.wrap (((At.length:Nat):Int) - 1))).bind fun x4=>some (x4.kind == 30)) (some false):Option Bool).bind fun q2=>some (q2)
theorem P8.ok {k Bt:Nat} {Ac Fl Af:Int} {Ag:ByteArray} {At:List Tree} {B9:Ab} {Bm:Aq} {r:Bool} (h:P8.f k Ac Ag Fl Af At=some r) (Cj:RdR (AX 54) B9 (Aa Bm At Bt) At): Ct Tryz.prog 16 #[.agg #[iv Ac,sv Ag,iv Fl,iv Af,Aa Bm At Bt]] [] [B9] (fun e l1=>e=.returned (bv r)∧l1=[]):=by
 refine C3 (args:=[.agg #[iv Ac,sv Ag,iv Fl,iv Af,Aa Bm At Bt]]) Tryz.func16 rfl (By rfl) ?_
 intro A X hh_
 obtain ⟨Pc,_⟩:=hh_
 unfold P8.f at h
 refine ksr (knp #[iv Ac,sv Ag,iv Fl,iv Af,Aa Bm At Bt] 54 fun b1=>(kx 1 (Ad (bnd h fun q2 hq2 h=>?_))))
 refine G_ [(2,bv q2)] (X) ?_ ?_
 ·clear hq2
  refine C9 ?_
  obtain rfl:=As h
  exact kdn rfl
 ·have h:=hq2
  clear hq2
  refine Bu (kx 1 (kld 0 4 rfl (kx 3 ?_)))
  refine Ee 7 h (fun h=>?_) fun h=>?_
  ·refine kx 1 (kld 0 4 rfl (kx 1 (kld 0 4 rfl (K.drop (kx 2 (bnd h fun x4 hx4 h=>(DI (T:=54) (kd:=.i64) (R:=(AX 54)) rfl hx4 Cj fun p5 u8 q9 e6 y7=>?_)))))))
   obtain ⟨F5,k11,rfl,Ht⟩:=DF 54 q9
   refine Ha (off:=0) rfl e6 y7 fun p13 e14 y15=>?_
   have e14:Elem _ p13 [iv x4.kind,sv x4.text,iv x4.n,iv x4.at_,Aa F5 x4.kids k11]:=e14
   exact Ip rfl (by kernel_rfl) (by kernel_rfl) (by kernel_rfl) (by kernel_rfl) e14 Pc (kx 3 (Ad (Dd ⟨gb (As h),trivial⟩)))
  ·exact kx 12 (Ad (K.drop (Dd ⟨gb (As h),trivial⟩)))
def Iq.l0:Nat→(r3:List (ByteArray×Int×Int×Bg×TyA)×Ae×Int×Int)→(r25:List (ByteArray×Int×Int×Bg×TyA)×Ae×Int×Int)→(Ei:(Unit→Option (Bool)))→(x38:Int)→Option (Bool)
 | 0,_,_,_,_=>none
 | m39+1,r3,r25,Ei,x38=>(Bh r3.1 0).bind fun x40=>cond (decide (x38 < ((x40.2.2.2.2.length:Nat):Int))) (BG (fun (x57:Int) (x58:Int) (x59:Int) (x60:Int) (x62:Int) (x63:Int) (x64:Int) (x65:Int)=>BG (fun (x67:Int) (x68:Int)=>cond (!((x57 == x62) && ((x67 == x63) && ((x68 == x64) && ((x60 == x65) && true))))) (some (false)) (Iq.l0 m39 r3 r25 Ei (IntKind.i64.wrap (x38+1)))) (fun J69=>BG (fun (x71:Bool)=>cond x71 (J69 (IntKind.i64.wrap (x58+1)) x59) (BG (fun (x74:Bool)=>cond x74 (J69 x58 (IntKind.i64.wrap (x59+1))) (J69 x58 x59)) (fun J75=>cond (x57 == 30) (J75 (x57 == 30)) (cond (x57 == 31) (J75 (x57 == 31)) (J75 (x57 == 33)))))) (fun Qz=>cond (x57 == 18) (Qz (x57 == 18)) (cond (x57 == 19) (Qz (x57 == 19)) (cond (x57 == 20) (Qz (x57 == 20)) (Qz (x57 == 21))))))) (fun XV=>(Bh r3.1 0).bind fun x82=>(Bh x82.2.2.2.2 x38).bind fun x97=>(Bh r25.1 0).bind fun x101=>(Bh x101.2.2.2.2 (IntKind.i64.wrap (x38+1))).bind fun Fg=>XV x97.1 x97.2.1 x97.2.2.1 x97.2.2.2 Fg.1 Fg.2.1 Fg.2.2.1 Fg.2.2.2)) (Ei ())
def Iq.f (k:Nat) (a0:ByteArray):Option (Bool):=(P7.f k).bind fun r1=>cond (!r1) (some (false)) ((Gb.fS k a0).bind fun r3=>(LY.f k a0).bind fun r14=>(cond (r3.2.2.1 != 0) (some true) (cond (((r3.1.length:Nat):Int) != 1) (some true) (cond (decide ((a0.size:Int) > 19000)) (some true) ((P8.f k r14.1 r14.2.1 r14.2.2.1 r14.2.2.2.1 r14.2.2.2.2.1).bind fun Avr=>cond Avr (some true) ((Ef.f k r14.1 r14.2.1 r14.2.2.1 r14.2.2.2.1 r14.2.2.2.2.1).bind fun M8=>some (decide (M8 > 98)))))):Option Bool).bind fun q21=>cond q21 (some (true)) ((KF (⟨#[100,111,32]⟩:ByteArray) a0).bind fun s23:ByteArray=>(KF s23 (⟨#[10,101,110,100]⟩:ByteArray)).bind fun s24:ByteArray=>(Gb.fS k s24).bind fun r25=>(cond (r25.2.2.1 != 0) (some true) (cond (((r25.1.length:Nat):Int) != 1) (some true) ((Bh r25.1 0).bind fun UR=>(Bh r3.1 0).bind fun UT=>cond (((UR.2.2.2.2.length:Nat):Int) != (IntKind.i64.wrap (((UT.2.2.2.2.length:Nat):Int)+1))) (some true) ((Bh r25.1 0).bind fun x157=>(Bh r3.1 0).bind fun Qm=>cond (x157.2.2.1 != Qm.2.2.1) (some true) ((Bh r25.1 0).bind fun UU=>(Bh UU.2.2.2.2 0).bind fun GY=>some (!((GY.1 == 1) && ((GY.2.1 == 1) && ((GY.2.2.1 == 0) && ((GY.2.2.2 == 0) && true))))))))):Option Bool).bind fun q35=>cond q35 (some (false)) (BG (fun (_:Unit)=>some (true)) (fun Ei=>Iq.l0 k r3 r25 Ei 0))))
theorem Iq.ok {k:Nat} {a0:ByteArray} {G:Ab} {r:Bool} (h:Iq.f k a0=some r) (hG:EE G): Ct Tryz.prog 5 #[sv a0] [] [G] (fun e l1=>e=.returned (bv r)∧l1=[]):=by
 refine C3 (args:=[sv a0]) Tryz.func5 rfl (By rfl) ?_
 intro A X hh_
 obtain ⟨BU,_⟩:=hh_
 unfold Iq.f at h
 refine ksr (kx 1 (Ad (B8 (ksr (bnd h fun r1 hr1 h=>(G2 (P7.ok hr1 hG) ⟨BU,trivial⟩ (kx 1 (Ad ?_))))))))
 refine AU h (fun h=>?_) fun h=>?_
 ·refine ksr (kx 1 (Ad (C9 (DH ?_))))
  obtain rfl:=As h
  exact kdn rfl
 ·refine BV (AM (ksr (kx 1 (bnd h fun r3 hr3 h=>(Bz (Gb.okS hr3 hG) rfl ⟨BU,trivial⟩ ?_)))))
  rintro _ _ ⟨h4,A5,k6,h8,A9,k10,o7,HU,rfl,rfl⟩
  refine Bi (kx 3 (knp #[nS,nS] 25 fun b12=>(knp #[iv 0,iv 0] 28 fun b13=>(K.An (AQ 0 2 #[Aa A5 r3.1 k6,Aa A9 r3.2.1 k10] (K.An (AQ 0 2 #[iv r3.2.2.1,iv r3.2.2.2] (Ba (kx 1 (bnd h fun r14 Zw h=>?_))))))))))
  refine Bz (LY.ok Zw hG) rfl ⟨(t4 BU),trivial⟩ ?_
  rintro _ _ ⟨h15,F6,k17,JQ,rfl,rfl⟩
  refine Fy (kx 3 (knp #[iv 0,sv noS,iv 0,iv 0,nS] 54 fun b19=>(knp #[iv 0,iv 0] 28 fun b20=>(K.An (AQ 0 5 #[iv r14.1,sv r14.2.1,iv r14.2.2.1,iv r14.2.2.2.1,Aa F6 r14.2.2.2.2.1 k17] (K.An (AQ 0 2 #[iv r14.2.2.2.2.2.1,iv r14.2.2.2.2.2.2] (K.drop (Ad (B8 ?_))))))))))
  refine bnd h fun q21 Zl h=>?_
  refine G_ [(0,sv a0),(3,pt b12),(4,pt b13),(45,bv q21)] (bk b13 #[iv r3.2.2.1,iv r3.2.2.2] 28 :: bk b12 #[Aa A5 r3.1 k6,Aa A9 r3.2.1 k10] 25 :: h4 :: h8 :: X) ?_ ?_
  ·clear Zl
   refine AU h (fun h=>?_) fun h=>?_
   ·refine ksr (kx 1 (Ad (C9 (DH ?_))))
    obtain rfl:=As h
    exact K.drop (K.drop (K.drop (K.drop (kdn rfl))))
   ·refine BV (AM (ksr (kx 1 (bnd h fun s23 Bfv h=>(TD rfl (by kernel_rfl) (by kernel_rfl) (by kernel_rfl) (by kernel_rfl) Bfv (bnd h fun s24 Bfw h=>(TD rfl (by kernel_rfl) (by kernel_rfl) (by kernel_rfl) (by kernel_rfl) Bfw (bnd h fun r25 Ph h=>(Bz (Gb.okS Ph hG) rfl ⟨(t4 BU),trivial⟩ ?_)))))))))
    rintro _ _ ⟨h26,A27,k28,h30,GL,k32,o29,LU,rfl,rfl⟩
    refine Bi (kx 3 (knp #[nS,nS] 25 fun Jb=>(AQ 0 2 #[Aa A27 r25.1 k28,Aa GL r25.2.1 k32] (K.mv3 (AQ 0 2 #[iv r25.2.2.1,iv r25.2.2.2] (Ad (B8 (bnd h fun q35 Zo h=>?_))))))))
    refine G_ [(3,pt b12),(7,pt Jb),(101,bv q35)] (bk Jb #[Aa A27 r25.1 k28,Aa GL r25.2.1 k32] 25 :: h26 :: h30 :: bk b12 #[Aa A5 r3.1 k6,Aa A9 r3.2.1 k10] 25 :: h4 :: h8 :: X) ?_ ?_
    ·clear Zo
     refine AU h (fun h=>?_) fun h=>?_
     ·refine ksr (kx 1 (Ad (C9 (DH ?_))))
      obtain rfl:=As h
      exact K.drop (K.drop (K.drop (K.drop (K.drop (K.drop (kdn rfl))))))
     ·refine BV (AM ?_)
      obtain ⟨Ei,O_,h⟩:=De h
      refine Df (τ:=Unit) (fun t=>[]) (fun t=>X) (fun t=>Ei ()=some r) ?_ ?_
      ·rintro ⟨⟩ h
       subst O_
       refine ksr (kx 1 (Ad (C9 ?_)))
       obtain rfl:=As h
       exact kdn rfl
      ·skip
       refine ksr (kx 1 (Ad (C1 (Fx (τ:=Int) (fun t=>[(3,pt b12),(7,pt Jb),(8,iv t)]) (fun t=>bk Jb #[Aa A27 r25.1 k28,Aa GL r25.2.1 k32] 25 :: h26 :: h30 :: bk b12 #[Aa A5 r3.1 k6,Aa A9 r3.2.1 k10] 25 :: h4 :: h8 :: X) (fun m t=>Iq.l0 m r3 r25 Ei t=some r) k 0 h sb rfl ?_))))
       clear h
       rintro m39 x38 h
       cases m39 with
       | zero=>simp [Iq.l0] at h
       | succ m39 =>
        simp only [Iq.l0] at h
        refine B8 (ksr (kx 2 (kld 3 0 rfl (bnd h fun x40 ZU h=>(DI (T:=41) (kd:=.i64) (R:=Dr) rfl ZU (AK.rd o7) fun p41 u44 Un e42 y43=>?_)))))
        obtain ⟨O7,k47,A49,k50,rfl,Om,o51⟩:=MB Un
        refine Ha (off:=4) rfl e42 y43 fun p52 e53 y54=>?_
        have e53:Elem _ p52 [Aa A49 x40.2.2.2.2 k50]:=e53
        refine Ip rfl (by kernel_rfl) (by kernel_rfl) (by kernel_rfl) (by kernel_rfl) e53 (.tail _ (.tail _ (.tail _ (.tail _ (.head _))))) (kx 2 (Ad ?_))
        refine AU h (fun h=>?_) fun h=>?_
        ·refine BV (AM (B8 (C1 ?_)))
         obtain ⟨XV,Bax,h⟩:=De h
         refine Df (τ:=Int×Int×Int×Int×Int×Int×Int×Int×Nat×Nat) (fun t=>[(3,pt b12),(7,pt Jb),(8,iv x38),(9,pt t.2.2.2.2.2.2.2.2.1),(10,pt t.2.2.2.2.2.2.2.2.2)]) (fun t=>bk t.2.2.2.2.2.2.2.2.1 #[iv t.1,iv t.2.1,iv t.2.2.1,iv t.2.2.2.1] 48 :: bk t.2.2.2.2.2.2.2.2.2 #[iv t.2.2.2.2.1,iv t.2.2.2.2.2.1,iv t.2.2.2.2.2.2.1,iv t.2.2.2.2.2.2.2.1] 48 :: bk Jb #[Aa A27 r25.1 k28,Aa GL r25.2.1 k32] 25 :: h26 :: h30 :: bk b12 #[Aa A5 r3.1 k6,Aa A9 r3.2.1 k10] 25 :: h4 :: h8 :: X) (fun t=>XV t.1 t.2.1 t.2.2.1 t.2.2.2.1 t.2.2.2.2.1 t.2.2.2.2.2.1 t.2.2.2.2.2.2.1 t.2.2.2.2.2.2.2.1=some r) ?_ ?_
         ·rintro ⟨x57,x58,x59,x60,x62,x63,x64,x65,Q5,NR⟩ h
          subst Bax
          obtain ⟨J69,Ba0,h⟩:=De h
          refine Df (τ:=Int×Int) (fun t=>[(3,pt b12),(7,pt Jb),(8,iv x38),(9,pt Q5),(10,pt NR)]) (fun t=>bk Q5 #[iv x57,iv t.1,iv t.2,iv x60] 48 :: bk NR #[iv x62,iv x63,iv x64,iv x65] 48 :: bk Jb #[Aa A27 r25.1 k28,Aa GL r25.2.1 k32] 25 :: h26 :: h30 :: bk b12 #[Aa A5 r3.1 k6,Aa A9 r3.2.1 k10] 25 :: h4 :: h8 :: X) (fun t=>J69 t.1 t.2=some r) ?_ ?_
          ·rintro ⟨x67,x68⟩ h
           subst Ba0
           refine ksr (CV 0 0 4 rfl (K.drop (CV 0 0 4 rfl (K.drop (Rb (r:=((x57 == x62) && ((x67 == x63) && ((x68 == x64) && ((x60 == x65) && true))))) (xs:=#[iv x57,iv x67,iv x68,iv x60]) (ys:=#[iv x62,iv x63,iv x64,iv x65]) true (by kernel_rfl) rfl (by kernel_rfl) (by kernel_rfl) (by kernel_rfl) (by kernel_rfl) (by kernel_rfl) (by kernel_rfl) (by kernel_rfl) (Ad ?_))))))
           refine AU h (fun h=>?_) fun h=>?_
           ·refine ksr (kx 1 (Ad (C9 (Fu (DH (DH (Fu (DH ?_))))))))
            obtain rfl:=As h
            exact K.drop (K.drop (K.drop (K.drop (K.drop (K.drop (kdn rfl))))))
           ·exact BV (B7 (AM (Bu (kx 3 (Ad (E3 m39 (IntKind.i64.wrap (x38+1)) (Nat.lt_succ_self _) h sb rfl))))))
          ·skip
           refine ksr (kx 1 (kld 0 0 rfl (Ad (C1 ?_))))
           obtain ⟨Qz,Ba1,h⟩:=De h
           refine Df (τ:=Bool) (fun t=>[(3,pt b12),(7,pt Jb),(8,iv x38),(9,pt Q5),(10,pt NR),(130,iv x57),(131,bv t)]) (fun t=>bk Q5 #[iv x57,iv x58,iv x59,iv x60] 48 :: bk NR #[iv x62,iv x63,iv x64,iv x65] 48 :: bk Jb #[Aa A27 r25.1 k28,Aa GL r25.2.1 k32] 25 :: h26 :: h30 :: bk b12 #[Aa A5 r3.1 k6,Aa A9 r3.2.1 k10] 25 :: h4 :: h8 :: X) (fun t=>Qz t=some r) ?_ ?_
           ·rintro x71 h
            subst Ba1
            refine AU h (fun h=>?_) fun h=>?_
            ·exact Bu (kx 1 (kld 0 1 rfl (kx 2 (AQ 1 1 #[iv x57,iv (IntKind.i64.wrap (x58+1)),iv x59,iv x60] (knl (B7 (AM (B4 (IntKind.i64.wrap (x58+1),x59) h sb rfl))))))))
            ·obtain ⟨J75,Ba3,h⟩:=De h
             refine Df (τ:=Bool) (fun t=>[(3,pt b12),(7,pt Jb),(8,iv x38),(9,pt Q5),(10,pt NR),(140,bv t)]) (fun t=>bk Q5 #[iv x57,iv x58,iv x59,iv x60] 48 :: bk NR #[iv x62,iv x63,iv x64,iv x65] 48 :: bk Jb #[Aa A27 r25.1 k28,Aa GL r25.2.1 k32] 25 :: h26 :: h30 :: bk b12 #[Aa A5 r3.1 k6,Aa A9 r3.2.1 k10] 25 :: h4 :: h8 :: X) (fun t=>J75 t=some r) ?_ ?_
             ·rintro x74 h
              subst Ba3
              refine AU h (fun h=>?_) fun h=>?_
              ·exact Bu (kx 1 (kld 0 2 rfl (kx 2 (AQ 2 1 #[iv x57,iv x58,iv (IntKind.i64.wrap (x59+1)),iv x60] (knl (B7 (AM (B4 (x58,IntKind.i64.wrap (x59+1)) h sb rfl))))))))
              ·exact BV (B7 (AM (B4 (x58,x59) h sb rfl)))
             ·skip
              refine ksr (kx 2 (Ad ?_))
              refine AU h (fun h=>?_) fun h=>?_
              ·exact BV (AM (B4 (x57 == 30) h sb rfl))
              ·refine ksr (kx 2 (Ad ?_))
               refine AU h (fun h=>?_) fun h=>?_
               ·exact BV (AM (B4 (x57 == 31) h sb rfl))
               ·exact Bu (kx 2 (Ad (B4 (x57 == 33) h sb rfl)))
           ·skip
            refine ksr (kx 2 (Ad ?_))
            refine AU h (fun h=>?_) fun h=>?_
            ·exact BV (AM (B4 (x57 == 18) h sb rfl))
            ·refine ksr (kx 2 (Ad ?_))
             refine AU h (fun h=>?_) fun h=>?_
             ·exact BV (AM (B4 (x57 == 19) h sb rfl))
             ·refine ksr (kx 2 (Ad ?_))
              refine AU h (fun h=>?_) fun h=>?_
              ·exact BV (AM (B4 (x57 == 20) h sb rfl))
              ·exact Bu (kx 2 (Ad (B4 (x57 == 21) h sb rfl)))
         ·skip
          refine Bjo [(0,0),(1,3),(2,0),(3,0),(4,3),(5,0),(6,0),(7,3),(8,0),(9,3),(10,0),(11,0),(12,3),(13,0),(14,0),(15,0),(16,3)] 17 18 20 [(19,1)] (fun w=>Fj [bk Jb #[Aa A27 r25.1 k28,Aa GL r25.2.1 k32] 25,h26,h30,bk b12 #[Aa A5 r3.1 k6,Aa A9 r3.2.1 k10] 25,h4,h8] w) (by kernel_rfl) (by kernel_rfl) (fun _ _ d _ _ h=>by cases d <;> exact h) (fun w h_=>⟨h_.sat.on _ (.head _),h_.sat.on _ (.tail _ (.head _)),h_.sat.on _ (.tail _ (.tail _ (.head _))),h_.sat.on _ (.tail _ (.tail _ (.tail _ (.head _)))),h_.sat.on _ (.tail _ (.tail _ (.tail _ (.tail _ (.head _))))),h_.sat.on _ (.tail _ (.tail _ (.tail _ (.tail _ (.tail _ (.head _)))))),trivial⟩) ?_
          simp only [Eg,List.filterMap_cons,List.filterMap_nil,List.getElem?_toArray,List.getElem?_cons_zero,List.getElem?_cons_succ,Option.map_some,List.drop_succ_cons,List.drop_zero,AI,Br]
          refine Ar 1 (AP 3 0 rfl (bnd h fun x82 Bhz h=>(GT (T:=41) (kd:=.i64) (R:=Dr) rfl Bhz (AK.rd o7) fun p83 u86 q87 e84 y85=>?_)))
          obtain ⟨A88,k89,NH,Of,rfl,o90,Oo⟩:=MB q87
          refine Nu (off:=4) rfl e84 y85 fun p94 e95 y96=>?_
          have e95:Elem _ p94 [Aa NH x82.2.2.2.2 Of]:=e95
          refine Mw rfl (by kernel_rfl) (by kernel_rfl) (by kernel_rfl) (by kernel_rfl) e95 (fun w h_=>h_.mem _ (.tail _ (.tail _ (.tail _ (.tail _ (.head _)))))) (Ar 1 (bnd h fun x97 Bh1 h=>(TH (T:=48) (kd:=.i64) Fo rfl Bh1 Oo fun p98 e99 B3o=>?_)))
          have e99:Elem _ p98 [iv x97.1,iv x97.2.1,iv x97.2.2.1,iv x97.2.2.2]:=e99
          refine IE rfl e99 (fun w h_=>h_.mem _ (.tail _ (.tail _ (.tail _ (.tail _ (.head _)))))) (Ar 1 (AP 0 0 rfl (bnd h fun x101 hx101 h=>(GT (T:=41) (kd:=.i64) (R:=Dr) rfl hx101 (AK.rd o29) fun Bpq u105 Aec Yz y104=>?_))))
          obtain ⟨Ag7,Apl,Qn,QT,rfl,WC,WD⟩:=MB Aec
          refine Nu (off:=4) rfl Yz y104 fun Adm Y0 y115=>?_
          have Y0:Elem _ Adm [Aa Qn x101.2.2.2.2 QT]:=Y0
          refine Mw rfl (by kernel_rfl) (by kernel_rfl) (by kernel_rfl) (by kernel_rfl) Y0 (fun w h_=>h_.mem _ (.tail _ (.head _))) (Ar 2 (bnd h fun Fg ZS h=>(TH (T:=48) (kd:=.i64) Fo rfl ZS WD fun Auu e118 Bwi=>?_)))
          have e118:Elem _ Auu [iv Fg.1,iv Fg.2.1,iv Fg.2.2.1,iv Fg.2.2.2]:=e118
          refine IE rfl e118 (fun w h_=>h_.mem _ (.tail _ (.head _))) (Ca ?_)
          refine Bjl ?_ ?_
          ·skip
           refine Ra (.cells #[iv 0,iv 0,iv 0,iv 0] 48 (0,0)) (fun b=>pt b) rfl (fun _ h=>Fj.alloc h) (by kernel_rfl) (by kernel_rfl) (fun _=>by kernel_rfl) fun Ajk=>(Ra (.cells #[iv 0,iv 0,iv 0,iv 0] 48 (0,0)) (fun b=>pt b) rfl (fun _ h=>Fj.alloc h) (by kernel_rfl) (by kernel_rfl) (fun _=>by kernel_rfl) fun A1n=>?_)
           simp only [OW,Eg,List.filterMap_cons,List.filterMap_nil,List.getElem?_toArray,List.getElem?_cons_zero,List.getElem?_cons_succ,Option.map_some,List.drop_succ_cons,List.drop_zero]
           refine kpt (K.An (ost 0 4 #[iv x97.1,iv x97.2.1,iv x97.2.2.1,iv x97.2.2.2] (Dm [2,3,4,5,6,7] rfl (Ca (K.An (AQ 0 4 #[iv Fg.1,iv Fg.2.1,iv Fg.2.2.1,iv Fg.2.2.2] (Ad (K.mv7 (K.mv7 (K.mv7 ?_))))))))))
           exact K.mv7 (K.mv7 (K.mv7 (K.mv6 (K.mv7 (B4 (x97.1,x97.2.1,x97.2.2.1,x97.2.2.2,Fg.1,Fg.2.1,Fg.2.2.1,Fg.2.2.2,Ajk,A1n) h sb rfl)))))
          ·skip
           refine Ra (.cells #[iv 0,iv 0,iv 0,iv 0] 48 (0,0)) (fun b=>pt b) rfl (fun _ h=>Fj.alloc h) (by kernel_rfl) (by kernel_rfl) (fun _=>by kernel_rfl) fun A1s=>(Ra (.cells #[iv 0,iv 0,iv 0,iv 0] 48 (0,0)) (fun b=>pt b) rfl (fun _ h=>Fj.alloc h) (by kernel_rfl) (by kernel_rfl) (fun _=>by kernel_rfl) fun A1v=>?_)
           simp only [OW,Eg,List.filterMap_cons,List.filterMap_nil,List.getElem?_toArray,List.getElem?_cons_zero,List.getElem?_cons_succ,Option.map_some,List.drop_succ_cons,List.drop_zero]
           refine kpt (ost 0 4 #[iv x97.1,iv x97.2.1,iv x97.2.2.1,iv x97.2.2.2] (Dm [2,3,4,5,6,7] rfl (Ca (K.An (AQ 0 4 #[iv Fg.1,iv Fg.2.1,iv Fg.2.2.1,iv Fg.2.2.2] (Ad (K.mv7 (K.mv7 (K.mv7 (K.mv7 ?_))))))))))
           exact K.mv7 (K.mv7 (K.mv6 (K.mv7 (B4 (x97.1,x97.2.1,x97.2.2.1,x97.2.2.2,Fg.1,Fg.2.1,Fg.2.2.1,Fg.2.2.2,A1v,A1s) h sb rfl))))
        ·refine Fv (Dg (Dg (Fw (AM (K.drop (K.drop (K.drop (K.drop (K.drop (K.drop ?_))))))))))
         exact B4 () h trivial rfl
    ·have h:=Zo
     clear Zo
     refine kpr [(0,0),(1,3),(2,0),(3,0),(4,0),(5,3),(6,0),(7,0),(8,0),(9,0),(10,0),(11,3),(12,0),(13,0),(14,3),(15,0),(16,0),(17,3),(18,0),(19,0),(20,3),(21,0),(22,0),(23,0),(24,0),(25,0),(26,0),(27,3),(28,0),(29,0),(30,3),(31,0),(32,3),(33,0),(34,0),(35,3),(36,0),(37,0),(38,0),(39,0),(40,3),(41,0),(42,0),(43,3),(44,0),(45,3),(46,0)] [0,1,2,3,4,5,6] (Ar 1 (AP 0 0 rfl (Ar 2 ?_)))
     refine Ee 56 h (fun h=>?_) fun h=>?_
     ·refine Ar 1 (DQ (by kernel_rfl) (by kernel_rfl) (Ar 5 (DQ (by kernel_rfl) (by kernel_rfl) (Ar 2 (DQ (by kernel_rfl) (by kernel_rfl) (Ar 2 (DQ (by kernel_rfl) (by kernel_rfl) (Ar 2 (DQ (by kernel_rfl) (by kernel_rfl) (Ar 6 ?_))))))))))
      refine DQ (by kernel_rfl) (by kernel_rfl) (Ar 2 (DQ (by kernel_rfl) (by kernel_rfl) (Ar 1 (DQ (by kernel_rfl) (by kernel_rfl) (Ar 2 (DQ (by kernel_rfl) (by kernel_rfl) (Ar 4 (DQ (by kernel_rfl) (by kernel_rfl) (Ar 2 (DQ (by kernel_rfl) (by kernel_rfl) ?_))))))))))
      exact Ar 1 (DQ (by kernel_rfl) (by kernel_rfl) (Ar 1 (Ca (kx 2 (Ad (K.drop (Dd ⟨gr,gr,gb (As h),trivial⟩)))))))
     ·refine Ar 1 (AP 1 0 rfl (Ar 4 ?_))
      refine Ee 62 h (fun h=>?_) fun h=>?_
      ·refine Ar 1 (DQ (by kernel_rfl) (by kernel_rfl) (Ar 2 (DQ (by kernel_rfl) (by kernel_rfl) (Ar 2 (DQ (by kernel_rfl) (by kernel_rfl) (Ar 2 (DQ (by kernel_rfl) (by kernel_rfl) (Ar 6 (DQ (by kernel_rfl) (by kernel_rfl) (Ar 2 ?_))))))))))
       refine DQ (by kernel_rfl) (by kernel_rfl) (Ar 1 (DQ (by kernel_rfl) (by kernel_rfl) (Ar 2 (DQ (by kernel_rfl) (by kernel_rfl) (Ar 4 (DQ (by kernel_rfl) (by kernel_rfl) (Ar 2 (DQ (by kernel_rfl) (by kernel_rfl) (Ar 1 (DQ (by kernel_rfl) (by kernel_rfl) ?_))))))))))
       exact Ar 1 (Ca (kx 2 (Ad (K.drop (Dd ⟨gr,gr,gb (As h),trivial⟩)))))
      ·refine Ar 1 (AP 1 0 rfl (bnd h fun UR Bgh h=>(GT (T:=41) (kd:=.i64) (R:=Dr) rfl Bgh (AK.rd o29) fun B1y B21 Brs e128 Bwj=>?_)))
       obtain ⟨Bw6,B0b,UY,V_,rfl,B1h,At9⟩:=MB Brs
       refine Nu (off:=4) rfl e128 Bwj fun Ado OQ Azc=>?_
       have OQ:Elem _ Ado [Aa UY UR.2.2.2.2 V_]:=OQ
       refine Mw rfl (by kernel_rfl) (by kernel_rfl) (by kernel_rfl) (by kernel_rfl) OQ (fun w h_=>h_.mem _ (.tail _ (.tail _ (.head _)))) (Ar 2 (AP 4 0 rfl (bnd h fun UT Bgn h=>(GT (T:=41) (kd:=.i64) (R:=Dr) rfl Bgn (AK.rd o7) fun B13 B25 Brx e143 Bwm=>?_))))
       obtain ⟨XD,Aag,UZ,Wa,rfl,Auc,R0⟩:=MB Brx
       refine Nu (off:=4) rfl e143 Bwm fun Bpy e154 B30=>?_
       have e154:Elem _ Bpy [Aa UZ UT.2.2.2.2 Wa]:=e154
       refine Mw rfl (by kernel_rfl) (by kernel_rfl) (by kernel_rfl) (by kernel_rfl) e154 (fun w h_=>h_.mem _ (.tail _ (.tail _ (.tail _ (.tail _ (.tail _ (.head _))))))) (Ar 5 ?_)
       refine Ee 78 h (fun h=>?_) fun h=>?_
       ·refine Ar 1 (DQ (by kernel_rfl) (by kernel_rfl) (Ar 2 (DQ (by kernel_rfl) (by kernel_rfl) (Ar 1 (DQ (by kernel_rfl) (by kernel_rfl) (Ar 2 (DQ (by kernel_rfl) (by kernel_rfl) (Ar 4 (DQ (by kernel_rfl) (by kernel_rfl) (Ar 2 ?_))))))))))
        exact DQ (by kernel_rfl) (by kernel_rfl) (Ar 1 (DQ (by kernel_rfl) (by kernel_rfl) (Ar 1 (Ca (kx 2 (Ad (K.drop (Dd ⟨gr,gr,gb (As h),trivial⟩))))))))
       ·refine Ar 1 (AP 1 0 rfl (bnd h fun x157 hx157 h=>(GT (T:=41) (kd:=.i64) (R:=Dr) rfl hx157 (AK.rd o29) fun B18 B27 Brz A5m y160=>?_)))
        obtain ⟨Azy,Biy,Azz,Bi2,rfl,B1k,B1l⟩:=MB Brz
        refine Nu (off:=2) rfl A5m y160 fun Bp6 e170 B36=>?_
        have e170:Elem _ Bp6 [iv x157.2.2.1,Aa Azy x157.2.2.2.1 Biy,Aa Azz x157.2.2.2.2 Bi2]:=e170
        refine Mw rfl (by kernel_rfl) (by kernel_rfl) (by kernel_rfl) (by kernel_rfl) e170 (fun w h_=>h_.mem _ (.tail _ (.tail _ (.head _)))) (Ar 1 (AP 4 0 rfl (bnd h fun Qm Bgt h=>(GT (T:=41) (kd:=.i64) (R:=Dr) rfl Bgt (AK.rd o7) fun B2e B3d Br2 A5p Bwr=>?_))))
        obtain ⟨Az1,Bi4,NG,Oe,rfl,B1q,WG⟩:=MB Br2
        refine Nu (off:=2) rfl A5p Bwr fun Bp9 e185 B4c=>?_
        have e185:Elem _ Bp9 [iv Qm.2.2.1,Aa Az1 Qm.2.2.2.1 Bi4,Aa NG Qm.2.2.2.2 Oe]:=e185
        refine Mw rfl (by kernel_rfl) (by kernel_rfl) (by kernel_rfl) (by kernel_rfl) e185 (fun w h_=>h_.mem _ (.tail _ (.tail _ (.tail _ (.tail _ (.tail _ (.head _))))))) (Ar 3 ?_)
        refine Ee 91 h (fun h=>?_) fun h=>?_
        ·refine Ar 1 (DQ (by kernel_rfl) (by kernel_rfl) (Ar 2 (DQ (by kernel_rfl) (by kernel_rfl) (Ar 1 (DQ (by kernel_rfl) (by kernel_rfl) (Ar 1 (Ca (kx 2 (Ad (K.drop ?_))))))))))
         exact Dd ⟨gr,gr,gb (As h),trivial⟩
        ·refine Ar 1 (AP 1 0 rfl (bnd h fun UU Bgy h=>(GT (T:=41) (kd:=.i64) (R:=Dr) rfl Bgy (AK.rd o29) fun B2j B3f Br4 e190 Bws=>?_)))
         obtain ⟨Az6,Bi8,Az7,Bi9,rfl,Aue,Bny⟩:=MB Br4
         refine Nu (off:=4) rfl e190 Bws fun Bqa Y3 B4d=>?_
         have Y3:Elem _ Bqa [Aa Az7 UU.2.2.2.2 Bi9]:=Y3
         refine Mw rfl (by kernel_rfl) (by kernel_rfl) (by kernel_rfl) (by kernel_rfl) Y3 (fun w h_=>h_.mem _ (.tail _ (.tail _ (.head _)))) (bnd h fun GY Bg4 h=>(TH (T:=48) (kd:=.i64) Fo rfl Bg4 Bny fun Uf Nb X8=>?_))
         have Nb:Elem _ Uf [iv GY.1,iv GY.2.1,iv GY.2.2.1,iv GY.2.2.2]:=Nb
         exact IE rfl Nb (fun w h_=>h_.mem _ (.tail _ (.tail _ (.head _)))) (Ar 1 (Ca (Rb (r:=((GY.1 == 1) && ((GY.2.1 == 1) && ((GY.2.2.1 == 0) && ((GY.2.2.2 == 0) && true))))) (xs:=#[iv GY.1,iv GY.2.1,iv GY.2.2.1,iv GY.2.2.2]) (ys:=#[iv 1,iv 1,iv 0,iv 0]) true (by kernel_rfl) rfl (by kernel_rfl) (by kernel_rfl) (by kernel_rfl) (by kernel_rfl) (by kernel_rfl) (by kernel_rfl) (by kernel_rfl) (K.drop (kx 1 (Ad (Dd ⟨gr,gr,gb (As h),trivial⟩)))))))
  ·have h:=Zl
   clear Zl
   refine Bu (kx 1 (kld 2 0 rfl (kx 2 ?_)))
   refine Ee 26 h (fun h=>?_) fun h=>?_
   ·exact kx 19 (Ad (K.drop (K.drop (Dd ⟨gr,gr,gr,gb (As h),trivial⟩))))
   ·refine kx 1 (kld 3 0 rfl (kx 4 ?_))
    refine Ee 32 h (fun h=>?_) fun h=>?_
    ·exact kx 13 (Ad (K.drop (K.drop (Dd ⟨gr,gr,gr,gb (As h),trivial⟩))))
    ·refine kx 5 ?_
     refine Ee 37 h (fun h=>?_) fun h=>?_
     ·exact kx 8 (Ad (K.drop (K.drop (Dd ⟨gr,gr,gr,gb (As h),trivial⟩))))
     ·refine CV 0 0 5 rfl (bnd h fun Avr Bec h=>(G2 (P8.ok Bec (AK.rd JQ)) ⟨(.tail _ (.head _)),trivial⟩ (kx 2 ?_)))
      refine Ee 41 h (fun h=>?_) fun h=>?_
      ·exact kx 4 (Ad (K.drop (K.drop (Dd ⟨gr,gr,gr,gb (As h),trivial⟩))))
      ·exact CV 0 0 5 rfl (K.drop (bnd h fun M8 Z0 h=>(G2 (Ef.ok Z0 (AK.rd JQ)) ⟨(.head _),trivial⟩ (K.drop (kx 2 (Ad (Dd ⟨gr,gr,gr,gb (As h),trivial⟩)))))))
end
section
open Go Go.RowKit Lx
theorem A7w (k:Nat) (hk:950000≤k):P7.f k=some true:=by
 unfold P7.f
 rw [gen_eq k hk]
 kernel_rfl
theorem As7 (t:Bs) (b:UInt8) (hb:b.toNat < 128):∀ (f g:Nat) (l:Bs) (r x:Int),r≤(l.length:Int)→l.length < f→l.length < g→K6 g (l++b :: t) r x=K6 f l r x
 | 0,_,l,r,x,_,h,_=>by omega
 | f+1,0,l,r,x,_,_,h=>by omega
 | f+1,g+1,l,r,x,hr,hf,hg=>by
  unfold K6
  rw [if_neg (by simp:l++b :: t≠[])]
  by_cases hl:l=[]
  ·subst hl
   rw [if_pos rfl,if_pos (by simpa using hr)]
  ·rw [if_neg hl]
   by_cases h0:r≤0
   ·rw [if_pos h0,if_pos h0]
   ·have hw:=JI l
    have hle:=hw.2.2 hl
    rw [if_neg h0,if_neg h0,Yy l (b :: t) hl (fun x t' e=>by cases e;exact hb),List.drop_append_of_le_length hle]
    exact As7 t b hb f g _ _ _ (by rw [BX];omega) (by rw [BX];omega) (by rw [BX];omega)
def Ih (s:ByteArray):Bs:=[100,111,32]++bs s++[10,101,110,100]
theorem Atb (s:ByteArray) (a a':Int) (h:a'=a+3∧0≤a∧a≤(s.size:Int)):EJ (str (Ih s)) a'=EJ s a:=by
 obtain ⟨rfl,h0,h1⟩:=h
 have hl:(bs s).length=s.size:=C_ s
 have hs:(str (Ih s)).size=s.size+7:=by rw [Qh];unfold Ih;simp [hl]
 unfold EJ
 rw [if_neg (by rw [hs];omega),if_neg (by omega),JH,hs]
 have step:∀ (f:Nat) (c:UInt8) (l:Bs) (r x:Int),c.toNat < 128→c.toNat≠10→0 < r→K6 (f+1) (c :: l) r x=K6 f l (r - 1) x:=fun f c l r x hc h10 hr=>by
  have:K6 (f+1) (c :: l) r x=if (c :: l)=[] then x else if r≤0 then x else K6 f ((c :: l).drop (Cl (c :: l)).2) (r - (Cl (c :: l)).2) (if (Cl (c :: l)).1=10 then x+1 else x):=rfl
  rw [this,if_neg (by simp),if_neg (by omega),SL c l hc,if_neg h10]
  rfl
 rw [show Ih s=100 :: 111 :: 32 :: (bs s++10 :: [101,110,100]) by simp [Ih],show s.size+7+1=s.size+5+1+1+1 by omega,step _ _ _ _ _ (by decide) (by decide) (by omega),step _ _ _ _ _ (by decide) (by decide) (by omega),step _ _ _ _ _ (by decide) (by decide) (by omega),show a+3 - 1 - 1 - 1=a by omega]
 exact As7 _ _ (by decide) _ _ _ _ _ (by rw [hl];exact h1) (by omega) (by omega)
theorem Ax4 {cx:GCx} {d:Nat}:∀ (l:List Tree) (lo:List ByteArray) (p nx:Nat),(∀ x ∈ l,x.kind≠31)→Gx cx d lo p nx l=FZ cx (BZ cx d) lo p l
 | [],_,_,_,_=>rfl
 | x :: l,lo,p,nx,h=>by
  simp only [Gx,if_neg (h x (CB ..)),FZ]
  rw [Ax4 l _ _ _ fun y hy=>h y (Db _ hy)]
theorem Al8:∀ {X:Hx} {p:Nat},holes p X=[]→BY 0 (He X)=(BY 0 X).map sh
 | [],_,_=>rfl
 | none :: X,p,h=>by cases h
 | some z :: X,p,h=>congrArg (sh z :: ·) (Al8 (X:=X) (p:=p+1) h)
theorem Al9 {gl:List ByteArray} {src:ByteArray} {d:Nat}:∀ (l:List Tree) (U:List Dp),okU gl src d l U→Jd gl src d l U=[]→(∀ x ∈ l,x.kind≠31)∧U=[]
 | [],U,_,h=>⟨fun _ h=>(nomatch h),h⟩
 | x :: l,U,hk,h=>by
  by_cases h31:x.kind=31
  ·simp only [okU,Jd,if_pos h31] at hk h
   obtain ⟨u,V,rfl,_⟩:=hk
   cases h
  ·simp only [okU,Jd,if_neg h31] at hk h
   obtain ⟨h1,h2⟩:=Al9 l U hk h
   exact ⟨fun y hy=>by
    rcases List.mem_cons.1 hy with rfl | hy
    ·exact h31
    ·exact h1 y hy,h2⟩
theorem Aj0 (u v:Dp) (gl:List ByteArray) (KT:List ByteArray) (J:Unit→Option Bool) (hv:v.2.2.2.2=i1 1 1 :: u.2.2.2.2.map sh):∀ (t pre:Cd) (m:Nat),u.2.2.2.2=pre++t→pre.length+t.length≤1000000→t.length < m →
  Iq.l0 m ([u],gl,0,0) ([v],KT,0,0) J (pre.length:Int)=J ()
 | [],pre,m,he,hl,hm=>by
  obtain ⟨m,rfl⟩:∃ m',m=m'+1:=⟨m - 1,by omega⟩
  simp only [Iq.l0]
  rw [show Bh [u] (0:Int)=some u from rfl,Aj,he,ltF (by simp),cond_false]
 | z :: t,pre,m,he,hl,hm=>by
  obtain ⟨m,rfl⟩:∃ m',m=m'+1:=⟨m - 1,by omega⟩
  simp only [AI] at hl hm
  have ih:=Aj0 u v gl KT J hv t (pre++[z]) m (by rw [he];simp) (by simp;omega) (by omega)
  rw [show ((pre++[z]).length:Int)=(pre.length:Int)+1 by simp] at ih
  have i1':Bh u.2.2.2.2 (pre.length:Int)=some z:=by rw [he];exact DW pre z t
  have Mu:Bh v.2.2.2.2 ((pre.length:Int)+1)=some (sh z):=by
   rw [hv,he,List.map_append,List.map_cons]
   have:=DW (i1 1 1 :: pre.map sh) (sh z) (t.map sh)
   rw [AI,List.length_map] at this
   exact this
  simp only [Iq.l0]
  rw [show Bh [u] (0:Int)=some u from rfl,show Bh [v] (0:Int)=some v from rfl,Aj,he,Ir (by simp;omega),cond_true]
  rw [he] at i1'
  dsimp only [BG]
  rw [Aj,he,i1',Aj,Aj,wiC ((pre.length:Int)+1) (by omega) (by omega),Mu,Aj]
  unfold sh
  by_cases h18:z.1=18
  ·rw [if_pos (.inl h18),eqC h18];simp only [cond_true,beq_self_eq_true,Bool.and_self,Bool.not_true,cond_false];exact ih
  by_cases h19:z.1=19
  ·rw [if_pos (.inr (.inl h19)),DK h18,eqC h19];simp only [cond_true,beq_self_eq_true,Bool.and_self,Bool.not_true,cond_false];exact ih
  by_cases h20:z.1=20
  ·rw [if_pos (.inr (.inr (.inl h20))),DK h18,DK h19,eqC h20];simp only [cond_true,beq_self_eq_true,Bool.and_self,Bool.not_true,cond_false];exact ih
  by_cases h21:z.1=21
  ·rw [if_pos (.inr (.inr (.inr h21))),DK h18,DK h19,DK h20,eqC h21];simp only [cond_true,beq_self_eq_true,Bool.and_self,Bool.not_true,cond_false];exact ih
  rw [if_neg (by omega),DK h18,DK h19,DK h20,DK h21]
  simp only [cond_false]
  by_cases h30:z.1=30
  ·rw [if_pos (.inl h30),eqC h30];simp only [cond_true,beq_self_eq_true,Bool.and_self,Bool.not_true,cond_false];exact ih
  by_cases h31:z.1=31
  ·rw [if_pos (.inr (.inl h31)),DK h30,eqC h31];simp only [cond_true,beq_self_eq_true,Bool.and_self,Bool.not_true,cond_false];exact ih
  by_cases h33:z.1=33
  ·rw [if_pos (.inr (.inr h33)),DK h30,DK h31,eqC h33];simp only [cond_true,beq_self_eq_true,Bool.and_self,Bool.not_true,cond_false];exact ih
  rw [if_neg (by omega),DK h30,DK h31,DK h33]
  simp only [beq_self_eq_true,Bool.and_self,Bool.not_true,cond_false]
  exact ih
mutual
theorem Aw1 {Rl:Int→Int→Prop}:∀ {t t':Tree},Dw Rl t t'→htT t'=htT t
 | .mk _ _ _ _ _,.mk _ _ _ _ _,h=>by simp only [htT,Aw2 h.2.2.2.2]
theorem Aw2 {Rl:Int→Int→Prop}:∀ {l l':List Tree},CW Rl l l'→KU l'=KU l
 | [],[],_=>rfl
 | _ :: _,_ :: _,h=>by simp only [KU,Aw1 h.1,Aw2 h.2]
end
theorem Bqj (s:ByteArray):(∃ c a,c≠0∧Iv s=M6 c a)∨∃ T E n r,EO (bs s) 0 []=.inr (T++[E])∧Good (T.map Ff++[Ff E])∧XX s.size ((T++[E]).map Ff)∧J9 (T.map Ff++[Ff E])=.ok n r∧Iv s=JZ n:=by
 cases hs:G4 (bs s) with
 | inl x =>
  obtain ⟨c,p⟩:=x
  exact .inl ⟨c,p,Xq _ _ _ hs,Ad2 hs⟩
 | inr t =>
  have hT:=U2 s t hs
  cases hv:J9 (t.map Ff) with
  | bad i=>exact .inl ⟨4,i,by decide,Uk hs hv⟩
  | ok n r =>
   obtain ⟨T,E,rfl,hG,hL,_⟩:=Btl hs
   have hv':=hv
   rw [List.map_append,List.map_singleton] at hv'
   exact .inr ⟨T,E,n,r,hL,hG,hT,hv',WU hs hv⟩
def RlS (s:ByteArray) (a a':Int):Prop:=a'=a+3∧0≤a∧a≤(s.size:Int)
theorem Bv9 (s:ByteArray) (hsz:s.size≤19000) (n:Tree) (s':BF) (he:Iv s=JZ n) (hn:JY 100000 n=.ok s') (hno:∀ x ∈ n.kids,x.kind≠31) (hht:htT n≤98) (hfs:s'.fs.tail=[]) :
  Mr (str (Ih s))=([(⟨#[]⟩,0,s'.sl,s'.cs,i1 1 1 :: (BY 0 (Gx ⟨s'.cs,s'.gl,s⟩ dG [] 0 1 n.kids)++[i0 22]++[i0 25]).map sh)],s'.gl,0,0):=by
 rcases Bqj s with ⟨c,a,hc,hp⟩ | ⟨T,E,n2,r,hL,hG,hT,hv,hp⟩
 ·rw [he] at hp
  have:(0:Int)=c:=congrArg (fun o:Out=>o.2.2.2.2.2.1) hp
  exact absurd this.symm hc
 have e2:n2=n:=by
  rw [he] at hp
  unfold JZ at hp
  cases n;cases n2
  simp only [Prod.mk.injEq,Tree.kind,Tree.text,Tree.n,Tree.at_,Tree.kids] at hp
  obtain ⟨rfl,rfl,rfl,rfl,rfl,_⟩:=hp
  rfl
 subst e2
 rcases Ad1 s with ⟨c,a,hc,hp2⟩ | ⟨n3,hp2,hw,hz,hI,hs⟩
 ·rw [he] at hp2
  have:(0:Int)=c:=congrArg (fun o:Out=>o.2.2.2.2.2.1) hp2
  exact absurd this.symm hc
 have e3:n3=n2:=by
  rw [he] at hp2
  unfold JZ at hp2
  cases n2;cases n3
  simp only [Prod.mk.injEq,Tree.kind,Tree.text,Tree.n,Tree.at_,Tree.kids] at hp2
  obtain ⟨rfl,rfl,rfl,rfl,rfl,_⟩:=hp2
  rfl
 subst e3
 have hb:(bs s).length≤19000:=by rw [C_];exact hsz
 have hSm:D2 (RlS s) (T.map Ff) ((T.map (shift 3)).map Ff):=Aiw T fun x hx=>by
  have:=hT.at_ x (by rw [List.map_append];exact List.mem_append_left _ hx)
  exact ⟨rfl,this.1,this.2⟩
 obtain ⟨n',hn',hv'⟩:=Bwc hG hv hno hSm 0 ((3+(bs s).length+1:Nat):Int) ((3+(bs s).length+1+3:Nat):Int)
 have hpv:Iv (str (Ih s))=JZ (.mk 20 noB 0 0 [.mk 28 noB 0 0 [n']]):=by
  have hsc:=Bwd (bs s) T E hb hL
  refine WU (r:=[eTk ((3+(bs s).length+1+3:Nat):Int)]) (by rw [JH];exact hsc) ?_
  simp only [List.map_append,List.map_cons,List.map_nil,Ck,List.cons_append,List.nil_append]
  exact hv'
 unfold Mr
 rw [hpv]
 show (match JY 100000 (.mk 20 noB 0 0 [.mk 28 noB 0 0 [n']]) with | .bad e=>([],[],e.1,e.2) | .ok s2=>(NX (str (Ih s)) (.mk 20 noB 0 0 [.mk 28 noB 0 0 [n']]) s2,s2.gl,0,0))=_
 cases hI with
 | chunk hI =>
  rename_i n0 a0 t0 l
  obtain ⟨a1,l',rfl,_,hl⟩:=Gw hn'
  have Zi:∀ x ∈ l,x.kind≠31:=hno
  have hIS:∀ x ∈ l,IsS x:=fun x hx=>(hI x hx).elim id fun h=>by obtain ⟨_,_,_,_,rfl,_⟩:=QS h;exact absurd rfl (Zi _ hx)
  obtain ⟨_,ht0,Ba9⟩:=hw
  have hwl:H8 l:=Qk.2 fun x hx=>(Ba9 x hx).elim id fun h=>absurd (by cases x;exact h.2.1) (Zi x hx)
  have hwn:wfT (.mk 20 t0 n0 a0 l):=⟨⟨ht0,by decide,nx rfl,nx rfl,nx rfl,nx rfl,nx rfl⟩,hwl⟩
  simp only [sz] at hz
  unfold JY at hn
  rw [if_neg (by omega)] at hn
  have h98:Cm 99998 [] st0 (.mk 20 t0 n0 a1 l') false=.ok s':=Ats (Rl:=RlS s) hn' hwn (by simp only [sz];omega) hn
  have Bzd:htT (.mk 20 t0 n0 a1 l')=htT (.mk 20 t0 n0 a0 l):=Aw1 hn'
  have hlo:s'.lo=[]:=by
   unfold Cm at hn
   rw [if_pos rfl] at hn
   obtain ⟨s1,_,hn⟩:=BM hn
   cases hn
   rfl
  have hdo:Cm 99999 [] st0 (.mk 28 noB 0 0 [.mk 20 t0 n0 a1 l']) false=.ok s':=by
   rw [show (99999:Nat)=99998+1 from rfl]
   unfold Cm
   simp only [Int.reduceEq,if_false]
   unfold Kw
   simp only [Int.reduceEq,if_false,false_and]
   unfold DL
   rw [h98]
   rfl
  have hck:JY 100000 (.mk 20 noB 0 0 [.mk 28 noB 0 0 [.mk 20 t0 n0 a1 l']])=.ok s':=by
   unfold JY
   rw [if_neg (by
    have:htT (.mk 20 noB 0 0 [.mk 28 noB 0 0 [.mk 20 t0 n0 a1 l']])=htT (.mk 20 t0 n0 a1 l')+2:=by simp only [htT,KU];omega
    omega),show (100000:Nat)=99999+1 from rfl]
   unfold Cm
   rw [if_pos rfl]
   unfold DL
   rw [hdo]
   show PR.ok { s' with lo:=s'.lo.take 0 }=_
   obtain ⟨fs,gl,sl,cs,lo,lp⟩:=s'
   cases hlo
   rfl
  rw [hck]
  have hg:=(X3 hwn)
  have h1':=hn
  unfold Cm at h1'
  rw [if_pos rfl] at h1'
  obtain ⟨s1,h1',_⟩:=BM h1'
  have hno':holes 0 (FZ ⟨s'.cs,s'.gl,s⟩ (BZ ⟨s'.cs,s'.gl,s⟩ dG) [] 0 l)=[]:=Ab1 (fun lo p t h=>W7 dG lo p t h) l [] 0 99999 [] st0 s1 hIS hg.2 h1' rfl
  have hb:FZ ⟨s'.cs,s'.gl,str (Ih s)⟩ (BZ ⟨s'.cs,s'.gl,str (Ih s)⟩ 80009) [] (0+1) l'=He (FZ ⟨s'.cs,s'.gl,s⟩ (BZ ⟨s'.cs,s'.gl,s⟩ dG) [] 0 l) :=
   Yk (Rl:=RlS s) (cx:=⟨s'.cs,s'.gl,s⟩) (cx':=⟨s'.cs,s'.gl,str (Ih s)⟩) (fun a a' h=>Atb s a a' h) hl hIS (fun x hx x' lo p hS hp=>Axc (Rl:=RlS s) (cx:=⟨s'.cs,s'.gl,s⟩) (cx':=⟨s'.cs,s'.gl,str (Ih s)⟩) rfl rfl (fun a a' h=>Atb s a a' h) dG 80009 lo p x x' (hIS x hx) hS (by unfold dG;have:=FJ hx;omega) (by have:=FJ hx;omega) hp) (fun lo p x hx=>Qg dG lo p x (hIS x hx)) (by show 0+5 * Au l≤900000;omega)
  have hl0:EJ (str (Ih s)) 0=1:=by
   unfold EJ
   rw [if_neg (by omega)]
   unfold K6
   split
   ·rfl
   ·rw [if_pos (by decide)]
  have ht:NX (str (Ih s)) (.mk 20 noB 0 0 [.mk 28 noB 0 0 [.mk 20 t0 n0 a1 l']]) s'=(⟨#[]⟩,0,s'.sl,s'.cs,BY 0 (some (i1 1 (EJ (str (Ih s)) 0)) :: (FZ ⟨s'.cs,s'.gl,str (Ih s)⟩ (BZ ⟨s'.cs,s'.gl,str (Ih s)⟩ 80009) [] (0+1) l'++[]))++[i0 22]++[i0 25]) :: s'.fs.tail.map Lj:=rfl
  show (NX (str (Ih s)) (.mk 20 noB 0 0 [.mk 28 noB 0 0 [.mk 20 t0 n0 a1 l']]) s',s'.gl,0,0)=_
  rw [ht,hfs,hl0,hb,List.append_nil]
  rw [show (Tree.mk 20 t0 n0 a0 l).kids=l from rfl,Ax4 l [] 0 1 Zi]
  show ([(_,_,_,_,i1 1 1 :: BY 0 (He _)++[i0 22]++[i0 25])],_,_,_)=_
  rw [Al8 hno',List.map_append,List.map_append]
  rfl
abbrev LU2:=List (ByteArray×Int×Int×List (Int×Int×ByteArray)×List (Int×Int×Int×Int))×List ByteArray×Int×Int
def Ajz (k:Nat) (r3 r25:LU2):Option Bool:=(cond (r25.2.2.1 != (0:Int)) (some true) (cond (((r25.1.length:Nat):Int) != (1:Int)) (some true) ((Bh r25.1 (0:Int)).bind fun UR=>(Bh r3.1 (0:Int)).bind fun UT=>cond (((UR.2.2.2.2.length:Nat):Int) != (IntKind.i64.wrap (((UT.2.2.2.2.length:Nat):Int)+(1:Int)))) (some true) ((Bh r25.1 (0:Int)).bind fun x157=>(Bh r3.1 (0:Int)).bind fun Qm=>cond (x157.2.2.1 != Qm.2.2.1) (some true) ((Bh r25.1 (0:Int)).bind fun UU=>(Bh UU.2.2.2.2 (0:Int)).bind fun GY=>some (!((GY.1 == (1:Int)) && ((GY.2.1 == (1:Int)) && ((GY.2.2.1 == (0:Int)) && ((GY.2.2.2 == (0:Int)) && true))))))))):Option Bool).bind fun q35=>cond q35 (some (false)) (BG (fun (_:Unit)=>some (true)) (fun Ei=>Iq.l0 k r3 r25 Ei (0:Int)))
theorem A3h (k:Nat) (hk:1000000≤k) (sl:Int) (cs:List V3) (gl KT:List ByteArray) (C:Cd) (hC:C.length≤500000):Ajz k ([(⟨#[]⟩,0,sl,cs,C)],gl,0,0) ([(⟨#[]⟩,0,sl,cs,i1 1 1 :: C.map sh)],KT,0,0)=some true:=by
 have key:Iq.l0 k ([(⟨#[]⟩,0,sl,cs,C)],gl,0,0) ([(⟨#[]⟩,0,sl,cs,i1 1 1 :: C.map sh)],KT,0,0) (fun _=>some true) (0:Int)=some true :=
  Aj0 (⟨#[]⟩,0,sl,cs,C) (⟨#[]⟩,0,sl,cs,i1 1 1 :: C.map sh) gl KT (fun _=>some true) rfl C [] k rfl (by simp only [Br];omega) (by omega)
 have hl2:((((i1 1 1 :: C.map sh).length:Nat):Int) != IntKind.i64.wrap (((C.length:Nat):Int)+1))=false:=by
  rw [wiC _ (by omega) (by omega),bne_eq_false_iff_eq,AI,List.length_map]
  omega
 unfold Ajz
 have ix:∀ u:Dp,Bh [u] (0:Int)=some u:=fun _=>rfl
 have ix2:∀ (z:Ins) (l:Cd),Bh (z :: l) (0:Int)=some z:=fun _ _=>rfl
 simp only [ix,Aj,hl2,bne_self_eq_false,cond_false,ix2,BG]
 exact key
theorem A3k (k:Nat) (hk:1000000≤k) (s:ByteArray):Iq.f k s=some true:=by
 unfold Iq.f
 rw [A7w k (by omega),Aj,show (!true)=false from rfl,cond_false,gen_eq k (by omega),Aea k (by omega),Aj,Aj]
 have bad:∀ (c a:Int),c≠0→Mr s=([],[],c,a)→∀ f:Bool→Option Bool,f true=some true→∀ x:Option Bool,((cond ((Mr s).2.2.1 != (0:Int)) (some true) x:Option Bool).bind f)=some true:=fun c a hc hg f hf x=>by
  rw [hg]
  simp only
  rw [show (c != 0)=true by rw [bne_iff_ne];exact hc,cond_true,Aj,hf]
 rcases Ad1 s with ⟨c,p,hc,he⟩ | ⟨n,he,hw,hz,hI,hs⟩
 ·refine bad c p hc ?_ _ ?_ _
  ·unfold Mr
   rw [he]
   unfold M6
   simp only
   rw [if_pos hc]
  ·rfl
 ·have e:Tree.mk n.kind n.text n.n n.at_ n.kids=n:=by cases n;rfl
  obtain ⟨hg,_⟩:=Agv hw
  cases hn:JY 100000 n with
  | bad e' =>
   have he':e'.1≠0:=by
    unfold JY at hn
    split at hn
    ·cases hn;show (6:Int)≠0;decide
    ·have:=(Aby (by omega) hg hn).1
     omega
   refine bad e'.1 e'.2 he' ?_ _ ?_ _
   ·unfold Mr
    rw [he]
    unfold JZ
    simp only [ne_eq,not_true_eq_false,if_false]
    rw [e,hn]
   ·rfl
  | ok s' =>
   have hgp:Mr s=(NX s n s',s'.gl,0,0):=by
    unfold Mr
    rw [he]
    unfold JZ
    simp only [ne_eq,not_true_eq_false,if_false]
    rw [e,hn]
   rw [hgp,he]
   unfold JZ
   simp only [bne_self_eq_false,cond_false]
   have hT2:∀ f:Bool→Option Bool,f true=some true→(some true).bind f=some true:=fun f h=>h
   by_cases hone:((((NX s n s').length:Nat):Int) != 1)=true
   ·rw [hone];rfl
   rw [Bool.not_eq_true] at hone
   rw [hone,cond_false]
   by_cases hsz:(s.size:Int) > 19000
   ·rw [decide_eq_true hsz];rfl
   rw [decide_eq_false hsz,cond_false]
   have hkl:n.kids.length≤80010:=by
    have:=Em n.kids
    cases n
    simp only [sz] at hz
    simp only [Tree.kids] at this ⊢
    omega
   obtain ⟨b,hb⟩:∃ b,P8.f k n.kind n.text n.n n.at_ n.kids=some b:=by
    unfold P8.f
    rcases Ou n.kids with h0 | ⟨m,x,h0⟩
    ·rw [h0];exact ⟨_,rfl⟩
    ·rw [h0,Abf m x (by rw [h0] at hkl;simp at hkl;omega),DW]
     cases decide ((((m++[x]).length:Nat):Int) > 0) <;> exact ⟨_,rfl⟩
   rw [hb,Aj]
   cases b with
   | true=>rfl
   | false =>
    rw [cond_false,show Ef.f k n.kind n.text n.n n.at_ n.kids=some (htT n:Int) from ZP k n (by omega) (by omega),Aj,Aj]
    by_cases hh:(htT n:Int) > 98
    ·rw [decide_eq_true hh];rfl
    rw [decide_eq_false hh,cond_false]
    have hs3:s.size≤19000:=by omega
    have c1:KF (⟨#[100,111,32]⟩:ByteArray) s=some (str ([100,111,32]++bs s)):=by
     rw [Q9 (by show 3+_≤_;omega)]
     congr 1
    have c2:KF (str ([100,111,32]++bs s)) (⟨#[10,101,110,100]⟩:ByteArray)=some (str (Ih s)):=by
     rw [Q9 (by rw [Qh,AV,C_];show 3+_+4≤_;omega)]
     congr 1
    rw [c1,Aj,c2,Aj,gen_eq k (by omega),Aj]
    have hn0:=hn
    unfold JY at hn
    split at hn
    ·cases hn
    cases hI with
    | chunk hI =>
     rename_i n0 a0 t0 l _ _
     obtain ⟨_,_,hT⟩:=hw
     have hgl:=hg.2
     have hpp:=(Hs hg hn).pot
     unfold Cm at hn
     rw [if_pos rfl] at hn
     obtain ⟨s1,h1,hn⟩:=BM hn
     simp only [sz] at hz hpp
     obtain ⟨HI,e1,e2,e3⟩:=Af6 (gl:=s'.gl) (src:=s) (d:=dG) l _ st0 s1 hI hT hgl h1 rfl (by show 1+0+0+0+_+_≤_;omega)
     cases hn
     obtain ⟨fs,gl,sl,cs,lo,lp⟩:=s1
     have e1:fs=(⟨#[]⟩,0,0,0,[]) :: HI:=e1
     subst e1
     have hlen:=Af4 (cx:=⟨cs,gl,s⟩) (d:=dG) l [] 0 1 hI
     have hone':(Jd gl s dG l (HI.map Lj)).length+1=1:=by
      rw [bne_eq_false_iff_eq] at hone
      have:(NX s (.mk 20 t0 n0 a0 l) ⟨((⟨#[]⟩,0,0,0,[]):Km) :: HI,gl,sl,cs,lo.take st0.lo.length,lp⟩).length=(Jd gl s dG l (HI.map Lj)).length+1:=rfl
      rw [this] at hone
      omega
     have hnil:Jd gl s dG l (HI.map Lj)=[]:=List.eq_nil_of_length_eq_zero (by omega)
     obtain ⟨hno,hU⟩:=Al9 l _ e2 hnil
     have hfs:HI=[]:=by simpa using hU
     subst hfs
     have hw2:=Bv9 s hs3 (.mk 20 t0 n0 a0 l) _ he hn0 hno (by omega) rfl
     rw [hw2]
     have ht:NX s (.mk 20 t0 n0 a0 l) ⟨((⟨#[]⟩,0,0,0,[]):Km) :: [],gl,sl,cs,lo.take st0.lo.length,lp⟩=[(⟨#[]⟩,0,sl,cs,BY 0 (Gx ⟨cs,gl,s⟩ dG [] 0 1 l)++[i0 22]++[i0 25])]:=by
      show _ :: Jd gl s dG l (([]:List Km).map Lj)=_
      rw [hnil]
      rfl
     rw [ht]
     obtain ⟨C,hC⟩:∃ C,C=BY 0 (Gx ⟨cs,gl,s⟩ dG [] 0 1 l)++[i0 22]++[i0 25]:=⟨_,rfl⟩
     have hCl:C.length≤500000:=by rw [hC];simp only [AV,GC,AI,Br];omega
     rw [hC] at hCl
     exact A3h k hk sl cs gl gl _ hCl
theorem A3l (s:ByteArray):Iq.f 1000000 s=some true:=A3k 1000000 (Nat.le_refl _) s
end
end Go.Proofs.YtkdjiehclahliaaGreatDoor
