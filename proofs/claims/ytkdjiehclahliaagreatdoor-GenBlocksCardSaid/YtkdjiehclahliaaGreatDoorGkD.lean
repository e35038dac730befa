/- Texts of mine for genBlocks_card, part 4. -/
import Derived.Test.YtkdjiehclahliaaGreatDoorGkC
set_option linter.unusedSimpArgs false
set_option linter.unusedVariables false
set_option linter.unusedSectionVars false
namespace Go.Proofs.YtkdjiehclahliaaGreatDoor
set_option maxRecDepth 100000
section
open Go Go.RowKit
def Le {α:Type} (x y:Option α):Prop:=∀ v,x=some v→y=some v
section
variable {α β:Type}
theorem Le.refl (x:Option α):Le x x:=fun _ h=>h
theorem Le.none (x:Option α):Le none x:=fun _ h=>by cases h
theorem Le.trans {x y z:Option α} (h1:Le x y) (h2:Le y z):Le x z:=fun v h=>h2 v (h1 v h)
theorem Le.bind {x y:Option (PV α)} {f g:α→List Tk→Option (PV β)} (h:Le x y) (hf:∀ a r,Le (f a r) (g a r)):Le (PV.bind x f) (PV.bind y g):=fun v hv=>by
 rcases bind_some hv with ⟨i,hx,rfl⟩ | ⟨a,r,hx,h2⟩
 ·rw [h _ hx];rfl
 ·rw [h _ hx];exact hf a r _ h2
theorem Le.ite {c:Prop} [Decidable c] {x y x' y':Option α} (h1:Le x x') (h2:Le y y'):Le (if c then x else y) (if c then x' else y'):=by
 by_cases h:c
 ·rw [if_pos h,if_pos h];exact h1
 ·rw [if_neg h,if_neg h];exact h2
end
theorem W1:∀ (f:Nat) (acc:List Tree) (ts:List Tk),Le (G3 f acc ts) (G3 (f+1) acc ts)
 | 0,_,_=>Le.none _
 | f+1,acc,ts=>by
  rw [G3,G3]
  exact Le.ite (Le.bind (Le.refl _) fun _ _=>W1 f _ _) (Le.refl _)
theorem Asy (f:Nat) (ts:List Tk):Le (LX f ts) (LX (f+1) ts):=Le.bind (Le.refl _) fun _ _=>W1 f _ _
structure LeE (f:Nat):Prop where
 exp:∀ least ts,Le (D7 f least ts) (D7 (f+1) least ts)
 loop:∀ least n ts,Le (F1 f least n ts) (F1 (f+1) least n ts)
 operand:∀ ts,Le (Fs f ts) (Fs (f+1) ts)
 fields:∀ acc ts,Le (Fr f acc ts) (Fr (f+1) acc ts)
 field:∀ ts,Le (F8 f ts) (F8 (f+1) ts)
 El:∀ ts,Le (EL f ts) (EL (f+1) ts)
 DA:∀ at_ n ts,Le (EB f at_ n ts) (EB (f+1) at_ n ts)
 Do:∀ ts,Le (DT f ts) (DT (f+1) ts)
 Gz:∀ acc ts,Le (F0 f acc ts) (F0 (f+1) acc ts)
theorem LR:∀ f,LeE f
 | 0=>by constructor <;> intros <;> (first | rw [D7] | rw [F1] | rw [Fs] | rw [Fr] | rw [F8] | rw [EL] | rw [EB] | rw [DT] | rw [F0]) <;> exact Le.none _
 | f+1=>by
  have ih:=LR f
  constructor
  ·intro least ts;rw [D7,D7]
   exact Le.bind (ih.operand _) fun _ _=>ih.loop _ _ _
  ·intro least n ts;rw [F1,F1]
   exact Le.ite (Le.refl _) (Le.bind (ih.exp _ _) fun _ _=>ih.loop _ _ _)
  ·intro ts;rw [Fs,Fs]
   exact Le.ite (Le.refl _) (Le.ite (Le.refl _) (Le.ite (Le.refl _) (Le.ite (Le.refl _) (Le.ite (Le.refl _) (Le.ite (Le.bind (ih.exp _ _) fun _ _=>Le.refl _) (Le.ite (Le.bind (ih.fields _ _) fun _ _=>Le.refl _) (ih.El _)))))))
  ·intro acc ts;rw [Fr,Fr]
   exact Le.ite (Le.refl _) (Le.bind (ih.field _) fun _ _=>Le.ite (ih.fields _ _) (Le.ite (ih.fields _ _) (Le.refl _)))
  ·intro ts;rw [F8,F8]
   exact Le.ite (Le.bind (ih.exp _ _) fun _ _=>Le.bind (Le.refl _) fun _ _=>Le.bind (Le.refl _) fun _ _=>Le.bind (ih.exp _ _) fun _ _=>Le.refl _) (Le.ite (Le.bind (ih.exp _ _) fun _ _=>Le.refl _) (Le.bind (ih.exp _ _) fun _ _=>Le.refl _))
  ·intro ts;rw [EL,EL]
   exact Le.ite (Le.bind (ih.exp _ _) fun _ _=>Le.bind (Le.refl _) fun _ _=>ih.DA _ _ _) (Le.bind (Le.refl _) fun _ _=>ih.DA _ _ _)
  ·intro at_ n ts;rw [EB,EB]
   exact Le.ite (Le.bind (ih.exp _ _) fun _ _=>Le.bind (Le.refl _) fun _ _=>ih.DA _ _ _) (Le.ite (Le.bind (Le.refl _) fun _ _=>ih.DA _ _ _) (Le.ite (Le.bind (Le.ite (Le.refl _) (ih.Do _)) fun _ _=>Le.bind (Le.refl _) fun _ _=>ih.DA _ _ _) (Le.refl _)))
  ·intro ts;rw [DT,DT]
   exact Le.bind (ih.exp _ _) fun _ _=>ih.Gz _ _
  ·intro acc ts;rw [F0,F0]
   exact Le.ite (Le.bind (ih.exp _ _) fun _ _=>ih.Gz _ _) (Le.refl _)
structure LeS (f:Nat):Prop where
 block:∀ c ts,Le (DM f c ts) (DM (f+1) c ts)
 Es:∀ c at_ acc ts,Le (Dt f c at_ acc ts) (Dt (f+1) c at_ acc ts)
 function:∀ ts,Le (EY f ts) (EY (f+1) ts)
 body:∀ ts,Le (E9 f ts) (E9 (f+1) ts)
 stat:∀ ts,Le (EK f ts) (EK (f+1) ts)
 branches:∀ acc ts,Le (Fz f acc ts) (Fz (f+1) acc ts)
 for_:∀ at_ ts,Le (F9 f at_ ts) (F9 (f+1) at_ ts)
 plain:∀ ts,Le (FA f ts) (FA (f+1) ts)
 targets:∀ acc e ts,Le (EZ f acc e ts) (EZ (f+1) acc e ts)
theorem leS:∀ f,LeS f
 | 0=>by constructor <;> intros <;> (first | rw [DM] | rw [Dt] | rw [EY] | rw [E9] | rw [EK] | rw [Fz] | rw [F9] | rw [FA] | rw [EZ]) <;> exact Le.none _
 | f+1=>by
  have ih:=leS f
  have ie:=LR f
  constructor
  ·intro c ts;rw [DM,DM];exact ih.Es _ _ _ _
  ·intro c at_ acc ts;rw [Dt,Dt]
   exact Le.ite (ih.Es _ _ _ _) (Le.ite (Le.bind (Le.ite (Le.refl _) (ie.Do _)) fun _ _=>Le.refl _) (Le.ite (Le.bind (ih.function _) fun _ _=>ih.Es _ _ _ _) (Le.ite (Le.refl _) (Le.bind (ih.stat _) fun _ _=>ih.Es _ _ _ _))))
  ·intro ts;rw [EY,EY]
   exact Le.bind (Le.refl _) fun _ _=>Le.bind (Le.refl _) fun _ _=>Le.bind (Le.ite (Le.refl _) (Asy _ _)) fun _ _=>Le.bind (Le.refl _) fun _ _=>Le.bind (ih.block _ _) fun _ _=>Le.refl _
  ·intro ts;rw [E9,E9]
   exact Le.bind (Le.refl _) fun _ _=>Le.bind (ih.block _ _) fun _ _=>Le.refl _
  ·intro ts;rw [EK,EK]
   exact Le.ite (Le.bind (ih.body _) fun _ _=>Le.refl _) (Le.ite (Le.bind (ie.exp _ _) fun _ _=>Le.bind (ih.body _) fun _ _=>Le.refl _) (Le.ite (Le.bind (ih.branches _ _) fun _ _=>Le.refl _) (Le.ite (ih.for_ _ _) (Le.ite (Le.bind (Asy _ _) fun _ _=>Le.bind (Le.ite (ie.Do _) (Le.refl _)) fun _ _=>Le.refl _) (Le.ite (Le.refl _) (ih.plain _))))))
  ·intro acc ts;rw [Fz,Fz]
   exact Le.bind (ie.exp _ _) fun _ _=>Le.bind (Le.refl _) fun _ _=>Le.bind (ih.block _ _) fun _ _=>Le.ite (ih.branches _ _) (Le.ite (Le.bind (ih.block _ _) fun _ _=>Le.refl _) (Le.refl _))
  ·intro at_ ts;rw [F9,F9]
   exact Le.bind (Le.refl _) fun _ _=>Le.ite (Le.bind (ie.exp _ _) fun _ _=>Le.bind (Le.refl _) fun _ _=>Le.bind (ie.exp _ _) fun _ _=>Le.bind (Le.ite (Le.bind (ie.exp _ _) fun _ _=>Le.refl _) (Le.refl _)) fun _ _=>Le.bind (ih.body _) fun _ _=>Le.refl _) (Le.bind (W1 _ _ _) fun _ _=>Le.bind (Le.refl _) fun _ _=>Le.bind (ie.Do _) fun _ _=>Le.bind (ih.body _) fun _ _=>Le.refl _)
  ·intro ts;rw [FA,FA]
   exact Le.bind (ie.El _) fun _ _=>Le.ite (Le.bind (ih.targets _ _ _) fun _ _=>Le.bind (Le.refl _) fun _ _=>Le.bind (ie.Do _) fun _ _=>Le.refl _) (Le.refl _)
  ·intro acc e ts;rw [EZ,EZ]
   exact Le.ite (Le.ite (Le.bind (ie.El _) fun _ _=>ih.targets _ _ _) (Le.refl _)) (Le.refl _)
theorem As1 {α:Type} {p:Nat→Option α} (h:∀ f,Le (p f) (p (f+1))) {f f':Nat} (h0:f≤f'):Le (p f) (p f'):=by
 induction f' with
 | zero=>rw [Nat.le_zero.1 h0];exact Le.refl _
 | succ f' ih =>
  rcases Nat.lt_or_ge f (f'+1) with h1 | h1
  ·exact (ih (by omega)).trans (h f')
  ·rw [show f=f'+1 by omega];exact Le.refl _
def val {α:Type} (x:Option (PV α)):PV α:=x.getD (.bad 0)
def fu (ts:List Tk):Nat:=16 * ts.length+16
theorem If {α:Type} {p:Nat→Option (PV α)} (h:∀ f,Le (p f) (p (f+1))) {f f0:Nat} (h1:∃ v,p f=some v) (h2:∃ v,p f0=some v):p f=some (val (p f0)):=by
 obtain ⟨v,hv⟩:=h1
 obtain ⟨v0,hv0⟩:=h2
 rcases Nat.le_total f f0 with h' | h'
 ·have:=As1 h h' v hv
  rw [hv,this];rfl
 ·have:=As1 h h' v0 hv0
  rw [this,hv0];rfl
def Mi (acc:List Tree) (ts:List Tk):PV (List Tree):=val (G3 (fu ts) acc ts)
def G6 (least:Int) (ts:List Tk):PV Tree:=val (D7 (fu ts) least ts)
def Sg (least:Int) (n:Tree) (ts:List Tk):PV Tree:=val (F1 (fu ts) least n ts)
def Si (ts:List Tk):PV Tree:=val (Fs (fu ts) ts)
def MJ (acc:List Tree) (ts:List Tk):PV (List Tree):=val (Fr (fu ts) acc ts)
def Se (ts:List Tk):PV Tree:=val (F8 (fu ts) ts)
def MK (ts:List Tk):PV Tree:=val (EL (fu ts) ts)
def NC (at_:Int) (n:Tree) (ts:List Tk):PV Tree:=val (EB (fu ts) at_ n ts)
def I2 (ts:List Tk):PV (List Tree):=val (DT (fu ts) ts)
def Sd (acc:List Tree) (ts:List Tk):PV (List Tree):=val (F0 (fu ts) acc ts)
def H6 (c:Bool) (ts:List Tk):PV Tree:=val (DM (fu ts) c ts)
def O1 (c:Bool) (at_:Int) (acc:List Tree) (ts:List Tk):PV Tree:=val (Dt (fu ts) c at_ acc ts)
def Sf (ts:List Tk):PV Tree:=val (EY (fu ts) ts)
def Mh (ts:List Tk):PV Tree:=val (E9 (fu ts) ts)
def Sj (ts:List Tk):PV Tree:=val (EK (fu ts) ts)
def O2 (acc:List Tree) (ts:List Tk):PV (List Tree):=val (Fz (fu ts) acc ts)
def UL (at_:Int) (ts:List Tk):PV Tree:=val (F9 (fu ts) at_ ts)
def UM (ts:List Tk):PV Tree:=val (FA (fu ts) ts)
def Sk (acc:List Tree) (e:Tree) (ts:List Tk):PV (List Tree):=val (EZ (fu ts) acc e ts)
def E6 (w:ByteArray) (ts:List Tk):PV Unit:=if AB w ts then .ok () ts.tail else .bad (hd ts).2.2.2
def JA (kind:Int) (ts:List Tk):PV Tree:=if (hd ts).1=1 then .ok (.mk kind (hd ts).2.1 0 (hd ts).2.2.2 []) ts.tail else .bad (hd ts).2.2.2
section
variable {ts:List Tk} {f:Nat}
theorem Iu (w:ByteArray) (ts:List Tk):E_ w ts=some (E6 w ts):=by unfold E_ E6;split <;> rfl
theorem PK (k:Int) (ts:List Tk):It k ts=some (JA k ts):=by unfold It JA;split <;> rfl
theorem Ui (acc:List Tree) (hg:Good ts) (hf:16 * ts.length+1≤f):G3 f acc ts=some (Mi acc ts):=If (p:=fun f=>G3 f acc ts) (fun f=>W1 f acc ts) (RZ _ _ _ hg hf) (RZ _ _ _ hg (by unfold fu;omega))
theorem IJ {least:Int} (hl:0≤least) (hg:Good ts) (hf:16 * ts.length+5≤f):D7 f least ts=some (G6 least ts):=If (p:=fun f=>D7 f least ts) (fun f=>(LR f).exp _ _) ((H5 _).exp _ _ hl hg hf) ((H5 _).exp _ _ hl hg (by unfold fu;omega))
theorem Adv {least:Int} (n:Tree) (hl:0≤least) (hg:Good ts) (hf:16 * ts.length+1≤f):F1 f least n ts=some (Sg least n ts):=If (p:=fun f=>F1 f least n ts) (fun f=>(LR f).loop _ _ _) ((H5 _).loop _ _ _ hl hg hf) ((H5 _).loop _ _ _ hl hg (by unfold fu;omega))
theorem Adx (hg:Good ts) (hf:16 * ts.length+4≤f):Fs f ts=some (Si ts):=If (p:=fun f=>Fs f ts) (fun f=>(LR f).operand _) ((H5 _).operand _ hg hf) ((H5 _).operand _ hg (by unfold fu;omega))
theorem Uh (acc:List Tree) (hg:Good ts) (hf:16 * ts.length+7≤f):Fr f acc ts=some (MJ acc ts):=If (p:=fun f=>Fr f acc ts) (fun f=>(LR f).fields _ _) ((H5 _).fields _ _ hg hf) ((H5 _).fields _ _ hg (by unfold fu;omega))
theorem Ads (hg:Good ts) (hf:16 * ts.length+6≤f):F8 f ts=some (Se ts):=If (p:=fun f=>F8 f ts) (fun f=>(LR f).field _) ((H5 _).field _ hg hf) ((H5 _).field _ hg (by unfold fu;omega))
theorem Uj (hg:Good ts) (hf:16 * ts.length+3≤f):EL f ts=some (MK ts):=If (p:=fun f=>EL f ts) (fun f=>(LR f).El _) ((H5 _).El _ hg hf) ((H5 _).El _ hg (by unfold fu;omega))
theorem RE (at_:Int) (n:Tree) (hg:Good ts) (hf:16 * ts.length+1≤f):EB f at_ n ts=some (NC at_ n ts):=If (p:=fun f=>EB f at_ n ts) (fun f=>(LR f).DA _ _ _) ((H5 _).DA _ _ _ hg hf) ((H5 _).DA _ _ _ hg (by unfold fu;omega))
theorem PJ (hg:Good ts) (hf:16 * ts.length+6≤f):DT f ts=some (I2 ts):=If (p:=fun f=>DT f ts) (fun f=>(LR f).Do _) ((H5 _).Do _ hg hf) ((H5 _).Do _ hg (by unfold fu;omega))
theorem Adq (acc:List Tree) (hg:Good ts) (hf:16 * ts.length+1≤f):F0 f acc ts=some (Sd acc ts):=If (p:=fun f=>F0 f acc ts) (fun f=>(LR f).Gz _ _) ((H5 _).Gz _ _ hg hf) ((H5 _).Gz _ _ hg (by unfold fu;omega))
theorem N6 (c:Bool) (hg:Good ts) (hf:16 * ts.length+9≤f):DM f c ts=some (H6 c ts):=If (p:=fun f=>DM f c ts) (fun f=>(leS f).block _ _) ((Ie _).block _ _ hg hf) ((Ie _).block _ _ hg (by unfold fu;omega))
theorem Ug (c:Bool) (at_:Int) (acc:List Tree) (hg:Good ts) (hf:16 * ts.length+8≤f):Dt f c at_ acc ts=some (O1 c at_ acc ts):=If (p:=fun f=>Dt f c at_ acc ts) (fun f=>(leS f).Es _ _ _ _) ((Ie _).Es _ _ _ _ hg hf) ((Ie _).Es _ _ _ _ hg (by unfold fu;omega))
theorem Adu (h6:(hd ts).1≠6) (hg:Good ts) (hf:16 * ts.length+7≤f):EY f ts=some (Sf ts):=If (p:=fun f=>EY f ts) (fun f=>(leS f).function _) ((Ie _).function _ h6 hg hf) ((Ie _).function _ h6 hg (by unfold fu;omega))
theorem RD (hg:Good ts) (hf:16 * ts.length+6≤f):E9 f ts=some (Mh ts):=If (p:=fun f=>E9 f ts) (fun f=>(leS f).body _) ((Ie _).body _ hg hf) ((Ie _).body _ hg (by unfold fu;omega))
theorem Adz (hg:Good ts) (hf:16 * ts.length+7≤f):EK f ts=some (Sj ts):=If (p:=fun f=>EK f ts) (fun f=>(leS f).stat _) ((Ie _).stat _ hg hf) ((Ie _).stat _ hg (by unfold fu;omega))
theorem WQ (acc:List Tree) (hg:Good ts) (hf:16 * ts.length+6≤f):Fz f acc ts=some (O2 acc ts):=If (p:=fun f=>Fz f acc ts) (fun f=>(leS f).branches _ _) ((Ie _).branches _ _ hg hf) ((Ie _).branches _ _ hg (by unfold fu;omega))
theorem Auv (at_:Int) (hg:Good ts) (hf:16 * ts.length+1≤f):F9 f at_ ts=some (UL at_ ts):=If (p:=fun f=>F9 f at_ ts) (fun f=>(leS f).for_ _ _) ((Ie _).for_ _ _ hg hf) ((Ie _).for_ _ _ hg (by unfold fu;omega))
theorem Auy (hg:Good ts) (hf:16 * ts.length+6≤f):FA f ts=some (UM ts):=If (p:=fun f=>FA f ts) (fun f=>(leS f).plain _) ((Ie _).plain _ hg hf) ((Ie _).plain _ hg (by unfold fu;omega))
theorem WR (acc:List Tree) (e:Tree) (hg:Good ts) (hf:16 * ts.length+1≤f):EZ f acc e ts=some (Sk acc e ts):=If (p:=fun f=>EZ f acc e ts) (fun f=>(leS f).targets _ _ _) ((Ie _).targets _ _ _ hg hf) ((Ie _).targets _ _ _ hg (by unfold fu;omega))
theorem E2 (w:ByteArray) (hg:Good ts):Fwd 1 ts (E6 w ts):=Ew w ts hg _ (Iu w ts)
theorem fName (k:Int) (hg:Good ts):Fwd 1 ts (JA k ts):=J6 k ts hg _ (PK k ts)
theorem Alz (acc:List Tree) (hg:Good ts):Fwd 0 ts (Mi acc ts):=U6 _ _ ts hg _ (Ui acc hg (by unfold fu;omega:_≤fu ts))
theorem EG {least:Int} (hl:0≤least) (hg:Good ts):Fwd 1 ts (G6 least ts):=(KG _).exp _ _ hg _ (IJ hl hg (by unfold fu;omega:_≤fu ts))
theorem Al3 (hg:Good ts):Fwd 1 ts (Si ts):=(KG _).operand _ hg _ (Adx hg (by unfold fu;omega:_≤fu ts))
theorem Alu (acc:List Tree) (hg:Good ts):Fwd 1 ts (MJ acc ts):=(KG _).fields _ _ hg _ (Uh acc hg (by unfold fu;omega:_≤fu ts))
theorem Als (hg:Good ts):Fwd 1 ts (Se ts):=(KG _).field _ hg _ (Ads hg (by unfold fu;omega:_≤fu ts))
theorem SP (hg:Good ts):Fwd 1 ts (MK ts):=(KG _).El _ hg _ (Uj hg (by unfold fu;omega:_≤fu ts))
theorem NT (hg:Good ts):Fwd 1 ts (I2 ts):=(KG _).Do _ hg _ (PJ hg (by unfold fu;omega:_≤fu ts))
theorem L8 (c:Bool) (hg:Good ts):Fwd 0 ts (H6 c ts):=(stepS _).block _ _ hg _ (N6 c hg (by unfold fu;omega:_≤fu ts))
theorem Alv (h6:(hd ts).1≠6) (hg:Good ts):Fwd 1 ts (Sf ts):=(stepS _).function _ h6 hg _ (Adu h6 hg (by unfold fu;omega:_≤fu ts))
theorem VB (hg:Good ts):Fwd 1 ts (Mh ts):=(stepS _).body _ hg _ (RD hg (by unfold fu;omega:_≤fu ts))
theorem Al5 (hg:Good ts):Fwd 1 ts (Sj ts):=(stepS _).stat _ hg _ (Adz hg (by unfold fu;omega:_≤fu ts))
theorem Alq (acc:List Tree) (hg:Good ts):Fwd 1 ts (O2 acc ts):=(stepS _).branches _ _ hg _ (WQ acc hg (by unfold fu;omega:_≤fu ts))
theorem A7p (acc:List Tree) (e:Tree) (hg:Good ts):Fwd 0 ts (Sk acc e ts):=(stepS _).targets _ _ _ hg _ (WR acc e hg (by unfold fu;omega:_≤fu ts))
end
def PV.then {α β:Type}:PV α→(α→List Tk→PV β)→PV β
 | .ok a r,f=>f a r
 | .bad i,_=>.bad i
section
variable {α β:Type} {n:Nat} {ts:List Tk}
theorem CQ {x:Option (PV α)} {vx:PV α} {f:α→List Tk→Option (PV β)} {g:α→List Tk→PV β} (hx:x=some vx) (hw:Fwd n ts vx) (hf:∀ a r,Good r→r.length+n≤ts.length→f a r=some (g a r)):PV.bind x f=some (vx.then g):=by
 subst hx
 cases vx with
 | bad i=>rfl
 | ok a r=>exact hf a r hw.1 hw.2.1
theorem DJ {c:Prop} [Decidable c] {y z:Option α} {y' z':α} (h1:c→y=some y') (h2:¬ c→z=some z'):(if c then y else z)=some (if c then y' else z'):=by
 by_cases h:c
 ·rw [if_pos h,if_pos h];exact h1 h
 ·rw [if_neg h,if_neg h];exact h2 h
theorem SR {c:Prop} [Decidable c] {y z:PV α} (h1:c→Fwd n ts y) (h2:¬ c→Fwd n ts z):Fwd n ts (if c then y else z):=by
 by_cases h:c
 ·rw [if_pos h];exact h1 h
 ·rw [if_neg h];exact h2 h
theorem SS {m:Nat} {x:PV α} (h:Fwd n ts x) (hm:m≤n):Fwd m ts x:=by
 cases x with
 | bad=>trivial
 | ok a r=>exact ⟨h.1,by have:=h.2.1;omega,h.2.2⟩
theorem QF {a:α} (hg:Good ts):Fwd 0 ts (.ok a ts):=⟨hg,Nat.le_refl _,List.suffix_refl _⟩
theorem Amd {x:PV α} (hg:Good ts) (h6:(hd ts).1≠6) (h:Fwd n ts.tail x):Fwd (n+1) ts x:=by
 obtain ⟨g1,g2,g3⟩:=hg.tail h6
 cases x with
 | bad=>trivial
 | ok a r=>exact ⟨h.1,by have:=h.2.1;omega,h.2.2.trans g3⟩
theorem Amh {m:Nat} {x:PV α} {f:α→List Tk→PV β} (h1:Fwd n ts x) (h2:∀ a r,Good r→r.length+n≤ts.length→Fwd m r (f a r)):Fwd (n+m) ts (x.then f):=by
 cases x with
 | bad=>trivial
 | ok a r =>
  obtain ⟨g1,g2,g3⟩:=h1
  have:=h2 a r g1 g2
  show Fwd (n+m) ts (f a r)
  cases hf:f a r with
  | bad=>trivial
  | ok b s =>
   rw [hf] at this
   exact ⟨this.1,by have:=this.2.1;omega,this.2.2.trans g3⟩
end
section
variable {ts:List Tk}
theorem or3 {a b c:Bool} {ts:List Tk} {x y z:ByteArray} (ha:a=AB x ts) (hb:b=AB y ts) (hc:c=AB z ts) (h:(a || b || c)=true):(hd ts).1≠6:=by
 subst ha hb hc
 simp only [Bool.or_eq_true] at h
 rcases h with (h | h) | h <;> exact AW h
theorem Sh (acc:List Tree) (hg:Good ts):Mi acc ts=if AB G0 ts then (JA 6 ts.tail).then fun n r=>Mi (acc++[n]) r else .ok acc ts:=by
 have h:=Ui acc hg (f:=fu ts+1) (by unfold fu;omega)
 rw [G3] at h
 refine As (h.symm.trans (DJ (fun hc=>?_) fun _=>rfl))
 obtain ⟨g1,g2,_⟩:=hg.tail (AW hc)
 exact CQ (PK _ _) (fName 6 g1) fun a r hr hn=>Ui _ hr (by unfold fu;omega)
def Ll (ts:List Tk):PV (List Tree):=(JA 6 ts).then fun n r=>Mi [n] r
theorem Auw {f:Nat} (hg:Good ts) (hf:16 * ts.length+1≤f):LX f ts=some (Ll ts):=CQ (PK _ _) (fName 6 hg) fun a r hr hn=>Ui _ hr (by omega)
theorem SO (hg:Good ts):Fwd 1 ts (Ll ts):=Amh (fName 6 hg) fun _ _ hr _=>Alz _ hr
theorem Bvd {least:Int} (hl:0≤least) (hg:Good ts):G6 least ts=(Si ts).then fun n r=>Sg least n r:=by
 have h:=IJ hl hg (f:=fu ts+1) (by unfold fu;omega)
 rw [D7] at h
 exact As (h.symm.trans (CQ (Adx hg (by unfold fu;omega)) (Al3 hg) fun a r hr hn=>Adv _ hl hr (by unfold fu;omega)))
theorem Bvj {least:Int} (n:Tree) (hl:0≤least) (hg:Good ts):Sg least n ts=if D_ ts≤least then .ok n ts else (G6 (if D_ ts=4 then 3 else D_ ts) ts.tail).then fun m r=>Sg least (.mk 11 (hd ts).2.1 0 n.at_ [n,m]) r:=by
 have h:=Adv n hl hg (f:=fu ts+1) (by unfold fu;omega)
 rw [F1] at h
 refine As (h.symm.trans (DJ (fun _=>rfl) fun hb=>?_))
 obtain ⟨g1,g2,_⟩:=hg.tail (OI (by omega))
 have hq:(0:Int)≤(if D_ ts=4 then 3 else D_ ts):=by split <;> omega
 exact CQ (IJ hq g1 (by unfold fu;omega)) (EG hq g1) fun a r hr hn=>Adv _ hl hr (by unfold fu;omega)
theorem Bvk (hg:Good ts):Si ts =
  if (hd ts).1=3 then .ok (.mk 4 noB (hd ts).2.2.1 (hd ts).2.2.2 []) ts.tail
  else if (hd ts).1=4 then .ok (.mk 5 (hd ts).2.1 0 (hd ts).2.2.2 []) ts.tail
  else if AB Aq8 ts then .ok (.mk 1 noB 0 (hd ts).2.2.2 []) ts.tail
  else if AB Arp ts then .ok (.mk 2 noB 0 (hd ts).2.2.2 []) ts.tail
  else if AB Aq3 ts then .ok (.mk 3 noB 0 (hd ts).2.2.2 []) ts.tail
  else if AB T8 ts || AB T6 ts || AB P0 ts then (G6 7 ts.tail).then fun m r=>.ok (.mk 10 (hd ts).2.1 0 (hd ts).2.2.2 [m]) r
  else if AB kLc ts then (MJ [] ts.tail).then fun l r=>.ok (.mk 12 noB 0 (hd ts).2.2.2 l) r
  else MK ts:=by
 have h:=Adx hg (f:=fu ts+1) (by unfold fu;omega)
 rw [Fs] at h
 refine As (h.symm.trans (DJ (fun _=>rfl) fun _=>DJ (fun _=>rfl) fun _=>DJ (fun _=>rfl) fun _=>DJ (fun _=>rfl) fun _=>DJ (fun _=>rfl) fun _=>DJ (fun hc=>?_) fun _=>DJ (fun hc=>?_) fun _=>Uj hg (by unfold fu;omega)))
 ·obtain ⟨g1,g2,_⟩:=hg.tail (or3 rfl rfl rfl hc)
  exact CQ (IJ (by omega) g1 (by unfold fu;omega)) (EG (by omega) g1) fun _ _ _ _=>rfl
 ·obtain ⟨g1,g2,_⟩:=hg.tail (AW hc)
  exact CQ (Uh _ g1 (by unfold fu;omega)) (Alu _ g1) fun _ _ _ _=>rfl
theorem Bvg (acc:List Tree) (hg:Good ts):MJ acc ts =
  if AB QZ ts then .ok acc ts.tail
  else (Se ts).then fun x r =>
   if AB G0 r then MJ (acc++[x]) r.tail
   else if AB Ed r then MJ (acc++[x]) r.tail
   else (E6 QZ r).then fun _ r=>.ok (acc++[x]) r:=by
 have h:=Uh acc hg (f:=fu ts+1) (by unfold fu;omega)
 rw [Fr] at h
 refine As (h.symm.trans (DJ (fun _=>rfl) fun _=>CQ (Ads hg (by unfold fu;omega)) (Als hg) fun x r hr hn=>DJ (fun hc=>?_) fun _=>DJ (fun hc=>?_) fun _=>CQ (Iu _ _) (E2 _ hr) fun _ _ _ _=>rfl))
 ·obtain ⟨g1,g2,_⟩:=hr.tail (AW hc)
  exact Uh _ g1 (by unfold fu;omega)
 ·obtain ⟨g1,g2,_⟩:=hr.tail (AW hc)
  exact Uh _ g1 (by unfold fu;omega)
theorem Bve (hg:Good ts):Se ts =
  if AB T7 ts then
   (G6 0 ts.tail).then fun k r=>(E6 kRb r).then fun _ r=>(E6 G1 r).then fun _ r=>(G6 0 r).then fun v r=>.ok (.mk 14 noB 0 (hd ts).2.2.2 [k,v]) r
  else if (hd ts).1=1∧(hd ts.tail).1=5∧(hd ts.tail).2.1.toList=G1.toList then
   (G6 0 ts.tail.tail).then fun v r=>.ok (.mk 14 noB 0 (hd ts).2.2.2 [.mk 5 (hd ts).2.1 0 (hd ts).2.2.2 [],v]) r
  else (G6 0 ts).then fun v r=>.ok (.mk 13 noB 0 (hd ts).2.2.2 [v]) r:=by
 have h:=Ads hg (f:=fu ts+1) (by unfold fu;omega)
 rw [F8] at h
 refine As (h.symm.trans (DJ (fun hc=>?_) fun _=>DJ (fun hc=>?_) fun _=>CQ (IJ (by omega) hg (by unfold fu;omega)) (EG (by omega) hg) fun _ _ _ _=>rfl))
 ·obtain ⟨g1,g2,_⟩:=hg.tail (AW hc)
  exact CQ (IJ (by omega) g1 (by unfold fu;omega)) (EG (by omega) g1) fun _ r hr hn=>CQ (Iu _ _) (E2 _ hr) fun _ r2 hr2 hn2=>CQ (Iu _ _) (E2 _ hr2) fun _ r3 hr3 hn3=>CQ (IJ (by omega) hr3 (by unfold fu;omega)) (EG (by omega) hr3) fun _ _ _ _=>rfl
 ·obtain ⟨h1,h2,_⟩:=hc
  obtain ⟨g1,g2,_⟩:=hg.tail (by omega)
  obtain ⟨g3,g4,_⟩:=g1.tail (by omega)
  exact CQ (IJ (by omega) g3 (by unfold fu;omega)) (EG (by omega) g3) fun _ _ _ _=>rfl
theorem Bvu (hg:Good ts):MK ts =
  if AB Pz ts then (G6 0 ts.tail).then fun e r=>(E6 JM r).then fun _ r=>NC (hd ts).2.2.2 (.mk 9 noB 0 (hd ts).2.2.2 [e]) r
  else (JA 6 ts).then fun n r=>NC (hd ts).2.2.2 n r:=by
 have h:=Uj hg (f:=fu ts+1) (by unfold fu;omega)
 rw [EL] at h
 refine As (h.symm.trans (DJ (fun hc=>?_) fun _=>CQ (PK _ _) (fName _ hg) fun _ r hr hn=>RE _ _ hr (by unfold fu;omega)))
 obtain ⟨g1,g2,_⟩:=hg.tail (AW hc)
 exact CQ (IJ (by omega) g1 (by unfold fu;omega)) (EG (by omega) g1) fun _ r hr hn=>CQ (Iu _ _) (E2 _ hr) fun _ r2 hr2 hn2=>RE _ _ hr2 (by unfold fu;omega)
def Agi (ts:List Tk):PV (List Tree):=if AB JM ts then .ok [] ts else I2 ts
theorem fArgs (hg:Good ts):Fwd 0 ts (Agi ts):=SR (fun _=>QF hg) fun _=>SS (NT hg) (by omega)
theorem Bvt (at_:Int) (n:Tree) (hg:Good ts):NC at_ n ts =
  if AB T7 ts then (G6 0 ts.tail).then fun e r=>(E6 kRb r).then fun _ r=>NC at_ (.mk 7 noB 0 at_ [n,e]) r
  else if AB Aau ts then (JA 5 ts.tail).then fun e r=>NC at_ (.mk 7 noB 0 at_ [n,e]) r
  else if AB Pz ts then (Agi ts.tail).then fun l r=>(E6 JM r).then fun _ r=>NC at_ (.mk 8 noB 0 at_ (n :: l)) r
  else .ok n ts:=by
 have h:=RE at_ n hg (f:=fu ts+1) (by unfold fu;omega)
 rw [EB] at h
 refine As (h.symm.trans (DJ (fun hc=>?_) fun _=>DJ (fun hc=>?_) fun _=>DJ (fun hc=>?_) fun _=>rfl))
 ·obtain ⟨g1,g2,_⟩:=hg.tail (AW hc)
  exact CQ (IJ (by omega) g1 (by unfold fu;omega)) (EG (by omega) g1) fun _ r hr hn=>CQ (Iu _ _) (E2 _ hr) fun _ r2 hr2 hn2=>RE _ _ hr2 (by unfold fu;omega)
 ·obtain ⟨g1,g2,_⟩:=hg.tail (AW hc)
  exact CQ (PK _ _) (fName _ g1) fun _ r hr hn=>RE _ _ hr (by unfold fu;omega)
 ·obtain ⟨g1,g2,_⟩:=hg.tail (AW hc)
  exact CQ (DJ (fun _=>rfl) fun _=>PJ g1 (by unfold fu;omega)) (fArgs g1) fun _ r hr hn=>CQ (Iu _ _) (E2 _ hr) fun _ r2 hr2 hn2=>RE _ _ hr2 (by unfold fu;omega)
theorem Ayk (hg:Good ts):I2 ts=(G6 0 ts).then fun e r=>Sd [e] r:=by
 have h:=PJ hg (f:=fu ts+1) (by unfold fu;omega)
 rw [DT] at h
 exact As (h.symm.trans (CQ (IJ (by omega) hg (by unfold fu;omega)) (EG (by omega) hg) fun a r hr hn=>Adq _ hr (by unfold fu;omega)))
theorem Ayi (acc:List Tree) (hg:Good ts):Sd acc ts=if AB G0 ts then (G6 0 ts.tail).then fun e r=>Sd (acc++[e]) r else .ok acc ts:=by
 have h:=Adq acc hg (f:=fu ts+1) (by unfold fu;omega)
 rw [F0] at h
 refine As (h.symm.trans (DJ (fun hc=>?_) fun _=>rfl))
 obtain ⟨g1,g2,_⟩:=hg.tail (AW hc)
 exact CQ (IJ (by omega) g1 (by unfold fu;omega)) (EG (by omega) g1) fun a r hr hn=>Adq _ hr (by unfold fu;omega)
theorem Bu9 (c:Bool) (hg:Good ts):H6 c ts=O1 c (hd ts).2.2.2 [] ts:=by
 have h:=N6 c hg (f:=fu ts+1) (by unfold fu;omega)
 rw [DM] at h
 exact As (h.symm.trans (Ug _ _ _ hg (by unfold fu;omega)))
def Agm (ts:List Tk):PV (List Tree):=if Gk ts || AB Ed ts then .ok [] ts else I2 ts
theorem A7m (hg:Good ts):Fwd 0 ts (Agm ts):=SR (fun _=>QF hg) fun _=>SS (NT hg) (by omega)
theorem Bu8 (c:Bool) (at_:Int) (acc:List Tree) (hg:Good ts):O1 c at_ acc ts =
  if AB Ed ts then O1 c at_ acc ts.tail
  else if AB T9 ts then (Agm ts.tail).then fun l r=>.ok (.mk 20 noB 0 at_ (acc++[.mk 30 noB 0 (hd ts).2.2.2 l])) (if AB Ed r then r.tail else r)
  else if c && AB Nt ts then (Sf ts).then fun x r=>O1 c at_ (acc++[x]) r
  else if Gk ts then .ok (.mk 20 noB 0 at_ acc) ts
  else (Sj ts).then fun x r=>O1 c at_ (acc++[x]) r:=by
 have h:=Ug c at_ acc hg (f:=fu ts+1) (by unfold fu;omega)
 rw [Dt] at h
 refine As (h.symm.trans (DJ (fun hc=>?_) fun _=>DJ (fun hc=>?_) fun _=>DJ (fun hc=>?_) fun _=>DJ (fun _=>rfl) fun _=>?_))
 ·obtain ⟨g1,g2,_⟩:=hg.tail (AW hc)
  exact Ug _ _ _ g1 (by unfold fu;omega)
 ·obtain ⟨g1,g2,_⟩:=hg.tail (AW hc)
  exact CQ (DJ (fun _=>rfl) fun _=>PJ g1 (by unfold fu;omega)) (A7m g1) fun _ r hr hn=>rfl
 ·simp only [Bool.and_eq_true] at hc
  exact CQ (Adu (AW hc.2) hg (by unfold fu;omega)) (Alv (AW hc.2) hg) fun _ r hr hn=>Ug _ _ _ hr (by unfold fu;omega)
 ·exact CQ (Adz hg (by unfold fu;omega)) (Al5 hg) fun _ r hr hn=>Ug _ _ _ hr (by unfold fu;omega)
def Agk (ts:List Tk):PV (List Tree):=if AB JM ts then .ok [] ts else Ll ts
theorem A7l (hg:Good ts):Fwd 0 ts (Agk ts):=SR (fun _=>QF hg) fun _=>SS (SO hg) (by omega)
theorem Bvi (h6:(hd ts).1≠6) (hg:Good ts):Sf ts =
  (JA 6 ts.tail).then fun nm r=>(E6 Pz r).then fun _ r=>(Agk r).then fun ps r=>(E6 JM r).then fun _ r=>(H6 false r).then fun b r=>(E6 EV r).then fun _ r=>.ok (.mk 31 nm.text ps.length (hd ts).2.2.2 (ps++[b])) r:=by
 have h:=Adu h6 hg (f:=fu ts+1) (by unfold fu;omega)
 rw [EY] at h
 obtain ⟨g1,g2,_⟩:=hg.tail h6
 exact As (h.symm.trans (CQ (PK _ _) (fName _ g1) fun _ r hr hn=>CQ (Iu _ _) (E2 _ hr) fun _ r2 hr2 hn2=>CQ (DJ (fun _=>rfl) fun _=>Auw hr2 (by unfold fu;omega)) (A7l hr2) fun _ r3 hr3 hn3=>CQ (Iu _ _) (E2 _ hr3) fun _ r4 hr4 hn4=>CQ (N6 _ hr4 (by unfold fu;omega)) (L8 _ hr4) fun _ r5 hr5 hn5=>CQ (Iu _ _) (E2 _ hr5) fun _ _ _ _=>rfl))
theorem Aye (hg:Good ts):Mh ts=(E6 Jf ts).then fun _ r=>(H6 false r).then fun b r=>(E6 EV r).then fun _ r=>.ok b r:=by
 have h:=RD hg (f:=fu ts+1) (by unfold fu;omega)
 rw [E9] at h
 exact As (h.symm.trans (CQ (Iu _ _) (E2 _ hg) fun _ r2 hr2 hn2=>CQ (N6 _ hr2 (by unfold fu;omega)) (L8 _ hr2) fun _ r5 hr5 hn5=>CQ (Iu _ _) (E2 _ hr5) fun _ _ _ _=>rfl))
def Xz (ts:List Tk):PV (List Tree):=if AB G1 ts then I2 ts.tail else .ok [] ts
theorem A7k (hg:Good ts):Fwd 0 ts (Xz ts):=SR (fun hc=>SS (Amd hg (AW hc) (NT (hg.tail (AW hc)).1)) (by omega)) fun _=>QF hg
theorem Bvn (hg:Good ts):Sj ts =
  if AB Jf ts then (Mh ts).then fun b r=>.ok (.mk 28 noB 0 (hd ts).2.2.2 [b]) r
  else if AB Arq ts then (G6 0 ts.tail).then fun e r=>(Mh r).then fun b r=>.ok (.mk 25 noB 0 (hd ts).2.2.2 [e,b]) r
  else if AB kIf ts then (O2 [] ts.tail).then fun l r=>.ok (.mk 24 noB 0 (hd ts).2.2.2 l) r
  else if AB Aq5 ts then UL (hd ts).2.2.2 ts.tail
  else if AB Aq7 ts then (Ll ts.tail).then fun l r=>(Xz r).then fun es r=>.ok (.mk 21 noB l.length (hd ts).2.2.2 (l++es)) r
  else if AB Aqw ts then .ok (.mk 29 noB 0 (hd ts).2.2.2 []) ts.tail
  else UM ts:=by
 have h:=Adz hg (f:=fu ts+1) (by unfold fu;omega)
 rw [EK] at h
 refine As (h.symm.trans (DJ (fun hc=>?_) fun _=>DJ (fun hc=>?_) fun _=>DJ (fun hc=>?_) fun _=>DJ (fun hc=>?_) fun _=>DJ (fun hc=>?_) fun _=>DJ (fun hc=>rfl) fun _=>Auy hg (by unfold fu;omega)))
 ·exact CQ (RD hg (by unfold fu;omega)) (VB hg) fun _ _ _ _=>rfl
 ·obtain ⟨g1,g2,_⟩:=hg.tail (AW hc)
  exact CQ (IJ (by omega) g1 (by unfold fu;omega)) (EG (by omega) g1) fun _ r hr hn=>CQ (RD hr (by unfold fu;omega)) (VB hr) fun _ _ _ _=>rfl
 ·obtain ⟨g1,g2,_⟩:=hg.tail (AW hc)
  exact CQ (WQ _ g1 (by unfold fu;omega)) (Alq _ g1) fun _ _ _ _=>rfl
 ·obtain ⟨g1,g2,_⟩:=hg.tail (AW hc)
  exact Auv _ g1 (by unfold fu;omega)
 ·obtain ⟨g1,g2,_⟩:=hg.tail (AW hc)
  refine CQ (Auw g1 (by unfold fu;omega)) (SO g1) fun _ r hr hn=>CQ (DJ (fun hc=>?_) fun _=>rfl) (A7k hr) fun _ _ _ _=>rfl
  obtain ⟨g3,g4,_⟩:=hr.tail (AW hc)
  exact PJ g3 (by unfold fu;omega)
theorem Bvc (acc:List Tree) (hg:Good ts):O2 acc ts =
  (G6 0 ts).then fun e r=>(E6 Arl r).then fun _ r=>(H6 false r).then fun b r =>
   if AB T5 r then O2 (acc++[e]++[b]) r.tail
   else if AB T4 r then (H6 false r.tail).then fun c r=>(E6 EV r).then fun _ r=>.ok (acc++[e]++[b]++[c]) r
   else (E6 EV r).then fun _ r=>.ok (acc++[e]++[b]) r:=by
 have h:=WQ acc hg (f:=fu ts+1) (by unfold fu;omega)
 rw [Fz] at h
 refine As (h.symm.trans (CQ (IJ (by omega) hg (by unfold fu;omega)) (EG (by omega) hg) fun _ r hr hn=>CQ (Iu _ _) (E2 _ hr) fun _ r2 hr2 hn2=>CQ (N6 _ hr2 (by unfold fu;omega)) (L8 _ hr2) fun _ r3 hr3 hn3=>DJ (fun hc=>?_) fun _=>DJ (fun hc=>?_) fun _=>CQ (Iu _ _) (E2 _ hr3) fun _ _ _ _=>rfl))
 ·obtain ⟨g1,g2,_⟩:=hr3.tail (AW hc)
  exact WQ _ g1 (by unfold fu;omega)
 ·obtain ⟨g1,g2,_⟩:=hr3.tail (AW hc)
  exact CQ (N6 _ g1 (by unfold fu;omega)) (L8 _ g1) fun _ r4 hr4 hn4=>CQ (Iu _ _) (E2 _ hr4) fun _ _ _ _=>rfl
def X0 (ts:List Tk):PV (List Tree):=if AB G0 ts then (G6 0 ts.tail).then fun c r=>.ok [c] r else .ok [] ts
theorem A7o (hg:Good ts):Fwd 0 ts (X0 ts):=SR (fun hc=>SS (Amd hg (AW hc) (Amh (EG (by omega) (hg.tail (AW hc)).1) fun _ _ hr _=>QF hr)) (by omega)) fun _=>QF hg
theorem Bvh (at_:Int) (hg:Good ts):UL at_ ts =
  (JA 6 ts).then fun n r =>
   if AB G1 r then
    (G6 0 r.tail).then fun a r=>(E6 G0 r).then fun _ r=>(G6 0 r).then fun b r=>(X0 r).then fun cs r=>(Mh r).then fun bd r=>.ok (.mk 26 noB 0 at_ ([n]++[a]++[b]++cs++[bd])) r
   else
    (Mi [n] r).then fun l r=>(E6 kIn r).then fun _ r=>(I2 r).then fun es r=>(Mh r).then fun bd r=>.ok (.mk 27 noB l.length at_ (l++es++[bd])) r:=by
 have h:=Auv at_ hg (f:=fu ts+1) (by unfold fu;omega)
 rw [F9] at h
 refine As (h.symm.trans (CQ (PK _ _) (fName _ hg) fun n r hr hn=>DJ (fun hc=>?_) fun _=>?_))
 ·obtain ⟨g1,g2,_⟩:=hr.tail (AW hc)
  refine CQ (IJ (by omega) g1 (by unfold fu;omega)) (EG (by omega) g1) fun _ r2 hr2 hn2=>CQ (Iu _ _) (E2 _ hr2) fun _ r3 hr3 hn3=>CQ (IJ (by omega) hr3 (by unfold fu;omega)) (EG (by omega) hr3) fun _ r4 hr4 hn4=>CQ (vx:=X0 r4) (DJ (fun hc=>?_) fun _=>rfl) (A7o hr4) fun _ r5 hr5 hn5=>CQ (RD hr5 (by unfold fu;omega)) (VB hr5) fun _ _ _ _=>rfl
  obtain ⟨g3,g4,_⟩:=hr4.tail (AW hc)
  exact CQ (IJ (by omega) g3 (by unfold fu;omega)) (EG (by omega) g3) fun _ _ _ _=>rfl
 ·exact CQ (Ui _ hr (by unfold fu;omega)) (Alz _ hr) fun _ r2 hr2 hn2=>CQ (Iu _ _) (E2 _ hr2) fun _ r3 hr3 hn3=>CQ (PJ hr3 (by unfold fu;omega)) (NT hr3) fun _ r4 hr4 hn4=>CQ (RD hr4 (by unfold fu;omega)) (VB hr4) fun _ _ _ _=>rfl
theorem Bvl (hg:Good ts):UM ts =
  (MK ts).then fun e r =>
   if AB G1 r || AB G0 r then (Sk [] e r).then fun l r=>(E6 G1 r).then fun _ r=>(I2 r).then fun es r=>.ok (.mk 22 noB l.length e.at_ (l++es)) r
   else if e.kind=8 then .ok (.mk 23 noB 0 e.at_ [e]) r else .bad (hd r).2.2.2:=by
 have h:=Auy hg (f:=fu ts+1) (by unfold fu;omega)
 rw [FA] at h
 refine As (h.symm.trans (CQ (Uj hg (by unfold fu;omega)) (SP hg) fun e r hr hn=>DJ (fun hc=>?_) fun _=>DJ (fun _=>rfl) fun _=>rfl))
 exact CQ (WR _ _ hr (by unfold fu;omega)) (A7p _ _ hr) fun _ r2 hr2 hn2=>CQ (Iu _ _) (E2 _ hr2) fun _ r3 hr3 hn3=>CQ (PJ hr3 (by unfold fu;omega)) (NT hr3) fun _ _ _ _=>rfl
theorem Bvx (acc:List Tree) (e:Tree) (hg:Good ts):Sk acc e ts =
  if e.kind=6∨e.kind=7 then
   if AB G0 ts then (MK ts.tail).then fun e' r=>Sk (acc++[e]) e' r else .ok (acc++[e]) ts
  else .bad e.at_:=by
 have h:=WR acc e hg (f:=fu ts+1) (by unfold fu;omega)
 rw [EZ] at h
 refine As (h.symm.trans (DJ (fun _=>DJ (fun hc=>?_) fun _=>rfl) fun _=>rfl))
 obtain ⟨g1,g2,_⟩:=hg.tail (AW hc)
 exact CQ (Uj g1 (by unfold fu;omega)) (SP g1) fun _ r hr hn=>WR _ _ hr (by unfold fu;omega)
end
def J9 (ts:List Tk):PV Tree:=(H6 true ts).then fun b r=>if (hd r).1=6 then .ok b r else .bad (hd r).2.2.2
theorem then_assoc {α β γ:Type} (x:PV α) (f:α→List Tk→PV β) (g:β→List Tk→PV γ):(x.then f).then g=x.then fun a r=>(f a r).then g:=by cases x <;> rfl
theorem Axz {α β:Type} {n:Nat} {ts:List Tk} {x:PV α} (hw:Fwd n ts x) {f g:α→List Tk→PV β} (h:∀ a r,Good r→r.length+n≤ts.length→f a r=g a r):x.then f=x.then g:=by
 cases x with
 | bad=>rfl
 | ok a r=>exact h a r hw.1 hw.2.1
theorem then_ok {α β:Type} {x:PV α} {f:α→List Tk→PV β} {b:β} {r:List Tk} (h:x.then f=.ok b r):∃ a s,x=.ok a s∧f a s=.ok b r:=by
 cases x with
 | bad=>cases h
 | ok a s=>exact ⟨a,s,rfl,h⟩
theorem As5:∀ (n:Nat) (acc:List Tree) (ts:List Tk),ts.length≤n→Good ts→∀ l r,Mi acc ts=.ok l r→l.length+r.length≤acc.length+ts.length
 | 0,_,[],_,hg,_,_,_=>hg.elim
 | n+1,acc,ts,hn,hg,l,r,h=>by
  rw [Sh acc hg] at h
  split at h
  ·rename_i hc
   obtain ⟨g1,g2,_⟩:=hg.tail (AW hc)
   obtain ⟨a,s,h1,h2⟩:=then_ok h
   have hf:=fName 6 g1
   rw [h1] at hf
   have:=As5 n (acc++[a]) s (by have:=hf.2.1;omega) hf.1 l r h2
   have:=hf.2.1
   simp only [AV,AI,Br] at *
   omega
  ·cases h;omega
theorem Abj {ts:List Tk} (hg:Good ts) {l:List Tree} {r:List Tk} (h:Ll ts=.ok l r):l.length+r.length≤ts.length:=by
 obtain ⟨a,s,h1,h2⟩:=then_ok h
 have hf:=fName 6 hg
 rw [h1] at hf
 have:=As5 _ [a] s (Nat.le_refl _) hf.1 l r h2
 have:=hf.2.1
 simp only [AI,Br] at *
 omega
theorem As4:∀ (n:Nat) (acc:List Tree) (ts:List Tk),ts.length≤n→Good ts→∀ l r,Sd acc ts=.ok l r→l.length+r.length≤acc.length+ts.length
 | 0,_,[],_,hg,_,_,_=>hg.elim
 | n+1,acc,ts,hn,hg,l,r,h=>by
  rw [Ayi acc hg] at h
  split at h
  ·rename_i hc
   obtain ⟨g1,g2,_⟩:=hg.tail (AW hc)
   obtain ⟨a,s,h1,h2⟩:=then_ok h
   have hf:=EG (least:=0) (by omega) g1
   rw [h1] at hf
   have:=As4 n (acc++[a]) s (by have:=hf.2.1;omega) hf.1 l r h2
   have:=hf.2.1
   simp only [AV,AI,Br] at *
   omega
  ·cases h;omega
theorem W2 {ts:List Tk} (hg:Good ts) {l:List Tree} {r:List Tk} (h:I2 ts=.ok l r):l.length+r.length≤ts.length:=by
 rw [Ayk hg] at h
 obtain ⟨a,s,h1,h2⟩:=then_ok h
 have hf:=EG (least:=0) (by omega) hg
 rw [h1] at hf
 have:=As4 _ [a] s (Nat.le_refl _) hf.1 l r h2
 have:=hf.2.1
 simp only [AI,Br] at *
 omega
def ix (l ts:List Tk):Int:=(l.length:Int) - (ts.length:Int)
theorem wrapM (x:Int) (h1:-9223372036854775808≤x) (h2:x≤9223372036854775807):IntKind.i64.wrap x=x:=by
 unfold IntKind.wrap;simp [IntKind.bits,IntKind.signed];omega
section
variable {l ts:List Tk}
theorem A5b (hs:ts <:+ l):l.drop (l.length - ts.length)=ts:=by
 obtain ⟨p,rfl⟩:=hs
 simp
theorem ZX (hg:Good ts) (hs:ts <:+ l):Bh l (ix l ts)=some (hd ts):=by
 have hle:=hs.length_le
 unfold Bh ix
 rw [if_pos (by omega),show ((l.length:Int) - (ts.length:Int)).toNat=l.length - ts.length by omega]
 have:=A5b hs
 rw [← List.head?_drop,this]
 cases ts with
 | nil=>exact hg.elim
 | cons t ts=>rfl
theorem Nq (hl:l.length≤1000000) (hg:Good ts) (hs:ts <:+ l) (h6:(hd ts).1≠6):IntKind.i64.wrap (ix l ts+1)=ix l ts.tail:=by
 obtain ⟨_,g2,_⟩:=hg.tail h6
 have hle:=hs.length_le
 unfold ix
 rw [wrapM _ (by omega) (by omega)]
 omega
def conv {α β:Type} (l:List Tk) (e:α→Int→β):PV α→PR β
 | .ok a r=>.ok (e a (ix l r))
 | .bad i=>.bad i
def eT (n:Tree) (i:Int):Int×ByteArray×Int×Int×List Tree×Int:=(n.kind,n.text,n.n,n.at_,n.kids,i)
def eL (n:List Tree) (i:Int):List Tree×Int:=(n,i)
def eU (_:Unit) (i:Int):Int:=i
theorem F4 (n:Tree):Tree.mk n.kind n.text n.n n.at_ n.kids=n:=by cases n;rfl
theorem Dq {α β α' β':Type} {e:α→Int→α'} {e':β→Int→β'} {x:PV α} {F:α'→Option (PR β')} {g:α→List Tk→PV β} {n:Nat} (hw:Fwd n ts x) (h:∀ a r,Good r→r <:+ ts→r.length+n≤ts.length→F (e a (ix l r))=some (conv l e' (g a r))) :
  PR.bind (some (conv l e x)) F=some (conv l e' (x.then g)):=by
 cases x with
 | bad i=>rfl
 | ok a r=>exact h a r hw.1 hw.2.2 hw.2.1
theorem FL {β β':Type} {e':β→Int→β'} {c:Prop} [Decidable c] {b:Bool} {x y:Option (PR β')} {x' y':PV β} (hb:b=decide c) (h1:c→x=some (conv l e' x')) (h2:¬ c→y=some (conv l e' y')):cond b x y=some (conv l e' (if c then x' else y')):=by
 subst hb
 by_cases h:c
 ·rw [if_pos h,decide_eq_true h];exact h1 h
 ·rw [if_neg h,decide_eq_false h];exact h2 h
theorem Vu (a b:Int):(a == b)=decide (a=b):=by
 by_cases h:a=b
 ·rw [decide_eq_true h,beq_iff_eq];exact h
 ·rw [decide_eq_false h,beq_eq_false_iff_ne];exact h
theorem GA (b:Bool):b=decide (b=true):=by cases b <;> rfl
variable (k:Nat) (hl:l.length≤1000000) (hg:Good ts) (hs:ts <:+ l)
include hg hs
theorem K8:Et.f k l (ix l ts)=some (hd ts):=by
 unfold Et.f
 rw [ZX hg hs]
 rfl
theorem Np (w:ByteArray):EM.f k l (ix l ts) w=some (AB w ts):=by
 unfold EM.f
 rw [K8 k hg hs]
 simp only [Aj,AB,isT]
 cases (hd ts).1 == (2:Int) <;> cases (hd ts).1 == (5:Int) <;> rfl
include hl
theorem got_eq (w:ByteArray):CH.f k l (ix l ts) w=some (AB w ts,ix l (if AB w ts then ts.tail else ts)):=by
 unfold CH.f
 rw [Np k hg hs]
 simp only [Aj]
 cases h:AB w ts with
 | true=>simp only [cond_true,if_true,Nq hl hg hs (AW h)]
 | false=>rfl
theorem H7 (w:ByteArray):Di.f k l (ix l ts) w=some (conv l eU (E6 w ts)):=by
 unfold Di.f E6
 rw [got_eq k hl hg hs]
 simp only [Aj]
 cases h:AB w ts with
 | true=>rfl
 | false =>
  simp only [Bool.not_false,cond_true,Bool.false_eq_true,if_false]
  rw [K8 k hg hs]
  rfl
theorem name_eq:Hv.f k l (ix l ts)=some (conv l eT (JA 6 ts)):=by
 unfold Hv.f JA
 rw [K8 k hg hs]
 simp only [Aj,BG]
 by_cases h:(hd ts).1=1
 ·rw [if_pos h,h,Nq hl hg hs (by omega)]
  rfl
 ·rw [if_neg h,show ((hd ts).1 != 1)=true by rw [bne_iff_ne];exact h]
  rfl
omit hl
theorem Ak8:N7.f k l (ix l ts)=some (Gk ts):=by
 unfold N7.f Gk
 simp only [K8 k hg hs,Np k hg hs,Aj,EV,T4,T5]
 generalize ((hd ts).1 == (6:Int))=b1
 generalize AB (⟨#[101,110,100]⟩:ByteArray) ts=b2
 generalize AB (⟨#[101,108,115,101]⟩:ByteArray) ts=b3
 generalize AB (⟨#[101,108,115,101,105,102]⟩:ByteArray) ts=b4
 cases b1 <;> cases b2 <;> cases b3 <;> cases b4 <;> rfl
end
theorem A3a (k:Nat) (ts:List Tk):PL.f k (hd ts).1 (hd ts).2.1 (hd ts).2.2.1 (hd ts).2.2.2=some (D_ ts):=by
 unfold PL.f D_ AB isT
 simp only [BG,kOr,Aqt,kLt,kGt,kLe,kGe,kNe,Aqy,Aqx,Arc,P0,Arj,Ari,Ara]
 generalize (hd ts).1=kd
 generalize (hd ts).2.1.toList=tx
 have hsw:(cond (kd != (5:Int)) (some (kd != (2:Int))) (some false):Option Bool)=some (!(kd == 2 || kd == 5)):=by
  rw [bne,bne]
  cases kd == (5:Int) <;> cases kd == (2:Int) <;> rfl
 rw [hsw]
 simp only [Aj]
 cases (kd == 2 || kd == 5) with
 | false=>simp
 | true =>
  simp only [Bool.not_true,cond_false,Bool.true_and]
  generalize (tx == (⟨#[111,114]⟩:ByteArray).toList)=b
  cases b with
  | true=>rfl
  | false =>
  generalize (tx == (⟨#[97,110,100]⟩:ByteArray).toList)=b
  cases b with
  | true=>rfl
  | false =>
  generalize (tx == (⟨#[60]⟩:ByteArray).toList)=b1
  generalize (tx == (⟨#[62]⟩:ByteArray).toList)=b2
  generalize (tx == (⟨#[60,61]⟩:ByteArray).toList)=b3
  generalize (tx == (⟨#[62,61]⟩:ByteArray).toList)=b4
  generalize (tx == (⟨#[126,61]⟩:ByteArray).toList)=b5
  generalize (tx == (⟨#[61,61]⟩:ByteArray).toList)=b6
  generalize (tx == (⟨#[46,46]⟩:ByteArray).toList)=b7
  generalize (tx == (⟨#[43]⟩:ByteArray).toList)=b8
  generalize (tx == (⟨#[45]⟩:ByteArray).toList)=b9
  generalize (tx == (⟨#[42]⟩:ByteArray).toList)=c1
  generalize (tx == (⟨#[47,47]⟩:ByteArray).toList)=c2
  generalize (tx == (⟨#[37]⟩:ByteArray).toList)=c3
  cases b1 with
  | true=>rfl
  | false =>
  cases b2 with
  | true=>rfl
  | false =>
  cases b3 with
  | true=>rfl
  | false =>
  cases b4 with
  | true=>rfl
  | false =>
  cases b5 with
  | true=>rfl
  | false =>
  cases b6 with
  | true=>rfl
  | false =>
  cases b7 with
  | true=>rfl
  | false =>
  cases b8 <;> cases b9 <;> cases c1 <;> cases c2 <;> cases c3 <;> rfl
section
variable {l:List Tk}
theorem Bll (a b:List UInt8):(a == b)=decide (a=b):=by
 by_cases h:a=b
 ·rw [decide_eq_true h,beq_iff_eq];exact h
 ·rw [decide_eq_false h,beq_eq_false_iff_ne];exact h
theorem Bvs {ts:List Tk}:JA 5 ts=(JA 6 ts).then fun n r=>.ok (.mk 5 n.text n.n n.at_ n.kids) r:=by
 unfold JA
 split <;> rfl
theorem G8 {α:Type} {b:Nat} {xs ys:List α} (h:(xs.length+ys.length) * b≤140737488355328):apd b xs ys=some (xs++ys):=by
 unfold apd
 rw [decide_eq_true h]
 rfl
variable (hl:l.length≤1000000)
include hl
theorem Atm (J:List Tree→Int→Option (PR (List Tree×Int))) (hJ:∀ a i,J a i=some (.ok (a,i))):∀ (m:Nat) (acc:List Tree) (ts:List Tk),Good ts→ts <:+ l→ts.length < m→acc.length+ts.length≤1000000 →
  HZ.l0 m l J acc (ix l ts)=some (conv l eL (Mi acc ts))
 | 0,_,_,_,_,h,_=>by omega
 | m+1,acc,ts,hg,hs,hm,ha=>by
  rw [HZ.l0,got_eq m hl hg hs,Sh acc hg]
  simp only [Aj]
  refine FL (GA _) (fun hc=>?_) fun hc=>?_
  ·simp only [hc,if_true]
   obtain ⟨g1,g2,g3⟩:=hg.tail (AW hc)
   rw [name_eq m hl g1 (g3.trans hs)]
   refine Dq (fName 6 g1) fun n r hr hrs hn=>?_
   simp only [eT,F4]
   rw [G8 (by simp only [AI,Br];omega)]
   simp only [Aj]
   exact Atm J hJ m _ r hr (hrs.trans (g3.trans hs)) (by omega) (by simp only [AV,AI,Br];omega)
  ·simp only [if_neg hc,hJ]
   rfl
theorem Abt (k:Nat) {ts:List Tk} (hg:Good ts) (hs:ts <:+ l) (hk:ts.length≤k):HZ.f k l (ix l ts)=some (conv l eL (Ll ts)):=by
 unfold HZ.f Ll
 rw [name_eq k hl hg hs]
 refine Dq (fName 6 hg) fun n r hr hrs hn=>?_
 simp only [BG,eT,F4]
 have:=hrs.length_le
 have:=hs.length_le
 exact Atm hl _ (fun _ _=>rfl) k _ r hr (hrs.trans hs) (by omega) (by simp only [AI,Br];omega)
end
structure AE (l:List Tk) (k:Nat):Prop where
 exp:∀ least ts,0≤least→Good ts→ts <:+ l→16 * ts.length+5≤k→(PE.at k).Dc l (ix l ts) least=some (conv l eT (G6 least ts))
 operand:∀ ts,Good ts→ts <:+ l→16 * ts.length+4≤k→(PE.at k).IP l (ix l ts)=some (conv l eT (Si ts))
 El:∀ ts,Good ts→ts <:+ l→16 * ts.length+3≤k→(PE.at k).DX l (ix l ts)=some (conv l eT (MK ts))
 fields:∀ ts,Good ts→ts <:+ l→16 * ts.length+7≤k→(PE.at k).Gf l (ix l ts)=some (conv l eL (MJ [] ts))
 field:∀ ts,Good ts→ts <:+ l→16 * ts.length+6≤k→(PE.at k).IL l (ix l ts)=some (conv l eT (Se ts))
 Do:∀ ts,Good ts→ts <:+ l→16 * ts.length+6≤k→(PE.at k).DN l (ix l ts)=some (conv l eL (I2 ts))
section
variable {l:List Tk} (hl:l.length≤1000000) {k:Nat} (ih:AE l k)
include hl ih
theorem Ath (least:Int) (h0:0≤least) (r2:Int×ByteArray×Int×Int×List Tree×Int):∀ (m:Nat) (n:Tree) (ts:List Tk),n.at_=r2.2.2.2.1→Good ts→ts <:+ l→ts.length < m→16 * ts.length≤k →
  Dc.l0 m (PE.at k) l least r2 n.kind n.text n.n n.kids (ix l ts)=some (conv l eT (Sg least n ts))
 | 0,_,_,_,_,_,h,_=>by omega
 | m+1,n,ts,hn,hg,hs,hm,hk=>by
  rw [Dc.l0,K8 m hg hs,Bvj n h0 hg]
  simp only [Aj,A3a]
  refine FL rfl (fun hc=>?_) fun hc=>?_
  ·rw [← hn];rfl
  ·obtain ⟨g1,g2,g3⟩:=hg.tail (OI (by omega))
   have hb:=Yf ts
   simp only [BG]
   rw [Nq hl hg hs (OI (by omega)),wrapM (D_ ts - 1) (by omega) (by omega)]
   have hq:(0:Int)≤(if D_ ts=4 then 3 else D_ ts):=by split <;> omega
   have key:∀ q:Int,q=(if D_ ts=4 then 3 else D_ ts)→PR.bind ((PE.at k).Dc l (ix l ts.tail) q) (fun r25=>Dc.l0 m (PE.at k) l least r2 (11:Int) (hd ts).2.1 (0:Int) ([(Tree.mk n.kind n.text n.n r2.2.2.2.1 n.kids),(Tree.mk r25.1 r25.2.1 r25.2.2.1 r25.2.2.2.1 r25.2.2.2.2.1)]) r25.2.2.2.2.2)=some (conv l eT ((G6 (if D_ ts=4 then 3 else D_ ts) ts.tail).then fun m r=>Sg least (.mk 11 (hd ts).2.1 0 n.at_ [n,m]) r)):=by
    intro q hqe
    subst hqe
    rw [ih.exp _ _ hq g1 (g3.trans hs) (by omega)]
    refine Dq (EG hq g1) fun x r hr hrs hrn=>?_
    simp only [eT,F4]
    rw [← hn,F4]
    exact Ath least h0 r2 m (.mk 11 (hd ts).2.1 0 n.at_ [n,x]) r hn hr (hrs.trans (g3.trans hs)) (by omega) (by omega)
   by_cases h4:D_ ts=4
   ·rw [show (D_ ts == (4:Int))=true by rw [beq_iff_eq];exact h4]
    exact key _ (by rw [if_pos h4,h4];rfl)
   ·rw [show (D_ ts == (4:Int))=false by rw [beq_eq_false_iff_ne];exact h4]
    exact key _ (by rw [if_neg h4])
theorem exp_eq (least:Int) (h0:0≤least) {ts:List Tk} (hg:Good ts) (hs:ts <:+ l) (hk:16 * ts.length+4≤k):Dc.g (PE.at k) k l (ix l ts) least=some (conv l eT (G6 least ts)):=by
 unfold Dc.g
 rw [ih.operand ts hg hs hk,Bvd h0 hg]
 refine Dq (Al3 hg) fun n r hr hrs hn=>?_
 exact Ath hl ih least h0 (eT n (ix l r)) k n r rfl hr (hrs.trans hs) (by omega) (by omega)
theorem operand_eq {ts:List Tk} (hg:Good ts) (hs:ts <:+ l) (hk:16 * ts.length+3≤k):IP.g (PE.at k) k l (ix l ts)=some (conv l eT (Si ts)):=by
 unfold IP.g
 rw [K8 k hg hs,Bvk hg]
 simp only [Aj,BG,Np k hg hs,got_eq k hl hg hs]
 refine FL (Vu _ _) (fun hc=>?_) fun h3=>?_
 ·rw [Nq hl hg hs (by omega)];rfl
 refine FL (Vu _ _) (fun hc=>?_) fun h4=>?_
 ·rw [Nq hl hg hs (by omega)];rfl
 refine FL (GA _) (fun hc=>?_) fun h5=>?_
 ·rw [Nq hl hg hs (AW hc)];rfl
 refine FL (GA _) (fun hc=>?_) fun h6=>?_
 ·rw [Nq hl hg hs (AW hc)];rfl
 refine FL (GA _) (fun hc=>?_) fun h7=>?_
 ·rw [Nq hl hg hs (AW hc)];rfl
 have hun:∀ (h8:(AB T8 ts || AB T6 ts || AB P0 ts)=true),PR.bind ((PE.at k).Dc l (ix l ts.tail) (7:Int)) (fun r21=>some (PR.ok ((10:Int),(hd ts).2.1,(0:Int),(hd ts).2.2.2,[(Tree.mk r21.1 r21.2.1 r21.2.2.1 r21.2.2.2.1 r21.2.2.2.2.1)],r21.2.2.2.2.2)))=some (conv l eT ((G6 7 ts.tail).then fun m r=>.ok (.mk 10 (hd ts).2.1 0 (hd ts).2.2.2 [m]) r)):=fun h8=>by
  obtain ⟨g1,g2,g3⟩:=hg.tail (or3 rfl rfl rfl h8)
  rw [ih.exp 7 _ (by omega) g1 (g3.trans hs) (by omega)]
  refine Dq (EG (by omega) g1) fun x r hr hrs hn=>?_
  simp only [eT,F4]
  rfl
 cases hA:AB T8 ts with
 | true =>
  have h8:(AB T8 ts || AB T6 ts || AB P0 ts)=true:=by rw [hA];rfl
  rw [hA] at h8
  simp only [cond_true,if_true,h8]
  exact hun (by rw [hA];rfl)
 | false =>
 simp only [Bool.false_eq_true,if_false,cond_false,Bool.false_or,got_eq k hl hg hs,Aj]
 cases hB:AB T6 ts with
 | true =>
  simp only [cond_true,if_true,Bool.true_or]
  exact hun (by rw [hB];simp)
 | false =>
 simp only [Bool.false_eq_true,if_false,cond_false,Bool.false_or,got_eq k hl hg hs,Aj]
 cases hC:AB P0 ts with
 | true =>
  simp only [cond_true,if_true]
  exact hun (by rw [hC];simp)
 | false =>
 simp only [Bool.false_eq_true,if_false,cond_false,got_eq k hl hg hs,Aj]
 refine FL (GA _) (fun hc=>?_) fun h9=>?_
 ·simp only [hc,if_true]
  obtain ⟨g1,g2,g3⟩:=hg.tail (AW hc)
  rw [ih.fields _ g1 (g3.trans hs) (by omega)]
  refine Dq (Alu _ g1) fun x r hr hrs hn=>?_
  rfl
 ·simp only [if_neg h9]
  rw [ih.El _ hg hs (by omega)]
  have:=Dq (e':=eT) (F:=fun r38:Int×ByteArray×Int×Int×List Tree×Int=>some (PR.ok (r38.1,r38.2.1,r38.2.2.1,r38.2.2.2.1,r38.2.2.2.2.1,r38.2.2.2.2.2))) (g:=fun n r=>.ok n r) (l:=l) (SP hg) (e:=eT) (fun n r _ _ _=>rfl)
  rw [this]
  cases MK ts <;> rfl
theorem Alm (J:List Tree→Int→Option (PR (List Tree×Int))) (hJ:∀ a i,J a i=some (.ok (a,i))):∀ (m:Nat) (acc:List Tree) (ts:List Tk),Good ts→ts <:+ l→ts.length < m→acc.length+ts.length≤1000000→16 * ts.length≤k →
  DN.l0 m (PE.at k) l J acc (ix l ts)=some (conv l eL (Sd acc ts))
 | 0,_,_,_,_,h,_,_=>by omega
 | m+1,acc,ts,hg,hs,hm,ha,hk=>by
  rw [DN.l0,got_eq m hl hg hs,Ayi acc hg]
  simp only [Aj]
  refine FL (GA _) (fun hc=>?_) fun hc=>?_
  ·simp only [hc,if_true]
   obtain ⟨g1,g2,g3⟩:=hg.tail (AW hc)
   rw [ih.exp 0 _ (by omega) g1 (g3.trans hs) (by omega)]
   refine Dq (EG (by omega) g1) fun n r hr hrs hn=>?_
   simp only [eT,F4]
   rw [G8 (by simp only [AI,Br];omega)]
   simp only [Aj]
   exact Alm J hJ m _ r hr (hrs.trans (g3.trans hs)) (by omega) (by simp only [AV,AI,Br];omega) (by omega)
  ·simp only [if_neg hc,hJ]
   rfl
theorem Alp {ts:List Tk} (hg:Good ts) (hs:ts <:+ l) (hk:16 * ts.length+5≤k):DN.g (PE.at k) k l (ix l ts)=some (conv l eL (I2 ts)):=by
 unfold DN.g
 rw [ih.exp 0 ts (by omega) hg hs hk,Ayk hg]
 refine Dq (EG (by omega) hg) fun n r hr hrs hn=>?_
 simp only [BG,eT,F4]
 have:=hs.length_le
 exact Alm hl ih _ (fun _ _=>rfl) k _ r hr (hrs.trans hs) (by omega) (by simp only [AI,Br];omega) (by omega)
theorem Al7 (J:List Tree→Int→Option (PR (List Tree×Int))) (hJ:∀ a r,Good r→r <:+ l→J a (ix l r)=some (conv l eL ((E6 QZ r).then fun _ r=>.ok a r))):∀ (m:Nat) (acc:List Tree) (ts:List Tk),Good ts→ts <:+ l→ts.length < m→acc.length+ts.length≤1000000→16 * ts.length+6≤k →
  Gf.l0 m (PE.at k) l J acc (ix l ts)=some (conv l eL (MJ acc ts))
 | 0,_,_,_,_,h,_,_=>by omega
 | m+1,acc,ts,hg,hs,hm,ha,hk=>by
  rw [Gf.l0,Np m hg hs,Bvg acc hg]
  simp only [Aj]
  by_cases hR:AB QZ ts=true
  ·rw [if_pos hR,show AB (⟨#[125]⟩:ByteArray) ts=true from hR]
   simp only [Bool.not_true,cond_false]
   rw [hJ acc ts hg hs]
   unfold E6
   rw [if_pos hR]
   rfl
  ·rw [if_neg hR,show AB (⟨#[125]⟩:ByteArray) ts=false from by simpa using hR]
   simp only [Bool.not_false,cond_true]
   rw [ih.field ts hg hs hk]
   refine Dq (Als hg) fun x r hr hrs hn=>?_
   simp only [eT,F4]
   rw [G8 (by simp only [AI,Br];omega)]
   have hrl:=hrs.trans hs
   simp only [Aj,BG,got_eq m hl hr hrl]
   have more:∀ {w:ByteArray},AB w r=true→Gf.l0 m (PE.at k) l J (acc++[x]) (ix l r.tail)=some (conv l eL (MJ (acc++[x]) r.tail)):=fun hc=>by
    obtain ⟨g1,g2,g3⟩:=hr.tail (AW hc)
    exact Al7 J hJ m _ _ g1 (g3.trans hrl) (by omega) (by simp only [AV,AI,Br];omega) (by omega)
   by_cases hc:AB G0 r=true
   ·rw [if_pos hc,show AB (⟨#[44]⟩:ByteArray) r=true from hc]
    simp only [Bool.not_true,cond_false,if_true]
    exact more hc
   ·rw [if_neg hc,show AB (⟨#[44]⟩:ByteArray) r=false from by simpa using hc]
    simp only [Bool.not_false,cond_true,Bool.false_eq_true,if_false,got_eq m hl hr hrl,Aj]
    by_cases hd:AB Ed r=true
    ·rw [if_pos hd,show AB (⟨#[59]⟩:ByteArray) r=true from hd]
     simp only [Bool.not_true,cond_false,if_true]
     exact more hd
    ·rw [if_neg hd,show AB (⟨#[59]⟩:ByteArray) r=false from by simpa using hd]
     simp only [Bool.not_false,cond_true,Bool.false_eq_true,if_false]
     exact hJ _ _ hr hrl
theorem fields_eq {ts:List Tk} (hg:Good ts) (hs:ts <:+ l) (hk:16 * ts.length+6≤k):Gf.g (PE.at k) k l (ix l ts)=some (conv l eL (MJ [] ts)):=by
 unfold Gf.g
 simp only [BG]
 have:=hs.length_le
 refine Al7 hl ih _ (fun a r hr hrs=>?_) k [] ts hg hs (by omega) (by simp only [Br];omega) hk
 rw [H7 k hl hr hrs]
 exact Dq (E2 _ hr) fun _ r2 hr2 _ _=>rfl
theorem A7r {ts:List Tk} (hg:Good ts) (hs:ts <:+ l) (hk:16 * ts.length+5≤k):IL.g (PE.at k) k l (ix l ts)=some (conv l eT (Se ts)):=by
 unfold IL.g
 rw [K8 k hg hs,Bve hg]
 simp only [Aj,BG,got_eq k hl hg hs]
 refine FL (GA _) (fun hc=>?_) fun h1=>?_
 ·simp only [hc,if_true]
  obtain ⟨g1,g2,g3⟩:=hg.tail (AW hc)
  rw [ih.exp 0 _ (by omega) g1 (g3.trans hs) (by omega)]
  refine Dq (EG (by omega) g1) fun x r hr hrs hn=>?_
  simp only [eT,F4]
  have h1:=hrs.trans (g3.trans hs)
  rw [H7 k hl hr h1]
  refine Dq (E2 _ hr) fun _ r2 hr2 Je hn2=>?_
  simp only [eU]
  rw [H7 k hl hr2 (Je.trans h1)]
  refine Dq (E2 _ hr2) fun _ r3 hr3 LI hn3=>?_
  simp only [eU]
  rw [ih.exp 0 _ (by omega) hr3 (LI.trans (Je.trans h1)) (by omega)]
  refine Dq (EG (by omega) hr3) fun y r4 hr4 VW hn4=>?_
  simp only [eT,F4]
  rw [G8 (by simp)]
  rfl
 simp only [if_neg h1]
 have hq:((cond ((hd ts).1 == (1:Int)) ((Bh l (IntKind.i64.wrap (ix l ts+(1:Int)))).bind fun x57=>cond (x57.1 == (5:Int)) ((Bh l (IntKind.i64.wrap (ix l ts+(1:Int)))).bind fun x65=>some (x65.2.1.toList == (⟨#[61]⟩:ByteArray).toList)) (some false)) (some false)):Option Bool)=some (decide ((hd ts).1=1∧(hd ts.tail).1=5∧(hd ts.tail).2.1.toList=G1.toList)):=by
  by_cases h:(hd ts).1=1
  ·obtain ⟨g1,g2,g3⟩:=hg.tail (by omega)
   rw [Nq hl hg hs (by omega),ZX g1 (g3.trans hs),h]
   simp only [beq_self_eq_true,cond_true,Aj,true_and]
   by_cases h5:(hd ts.tail).1=5
   ·rw [h5]
    simp only [beq_self_eq_true,cond_true,true_and]
    exact congrArg some (Bll _ _)
   ·rw [show ((hd ts.tail).1 == (5:Int))=false by rw [beq_eq_false_iff_ne];exact h5]
    simp [h5]
  ·rw [show ((hd ts).1 == (1:Int))=false by rw [beq_eq_false_iff_ne];exact h]
   simp [h]
 rw [hq]
 simp only [Aj]
 refine FL rfl (fun hc=>?_) fun h2=>?_
 ·obtain ⟨h1,h5,he⟩:=hc
  obtain ⟨g1,g2,g3⟩:=hg.tail (by omega)
  obtain ⟨g4,g5,g6⟩:=g1.tail (by omega)
  rw [name_eq k hl hg hs]
  unfold JA
  rw [if_pos h1]
  simp only [conv,PR.bind,eT,Tree.kind,Tree.text,Tree.n,Tree.at_,Tree.kids]
  have hE:AB G1 ts.tail=true:=by unfold AB isT;rw [h5,he];simp
  rw [H7 k hl g1 (g3.trans hs)]
  unfold E6
  rw [if_pos hE]
  simp only [conv,eU]
  rw [ih.exp 0 _ (by omega) g4 (g6.trans (g3.trans hs)) (by omega)]
  have:=Dq (l:=l) (e:=eT) (e':=eT) (x:=G6 0 ts.tail.tail) (F:=fun r13=>(apd 64 [Tree.mk 5 (hd ts).2.1 0 (hd ts).2.2.2 []] [(Tree.mk r13.1 r13.2.1 r13.2.2.1 r13.2.2.2.1 r13.2.2.2.2.1)]).bind fun Ri=>some (PR.ok ((14:Int),(⟨#[]⟩:ByteArray),(0:Int),(hd ts).2.2.2,Ri,r13.2.2.2.2.2))) (g:=fun v r=>.ok (.mk 14 noB 0 (hd ts).2.2.2 [.mk 5 (hd ts).2.1 0 (hd ts).2.2.2 [],v]) r) (EG (by omega) g4) (fun y r4 hr4 VW hn4=>by
   simp only [eT,F4]
   rw [G8 (by simp)]
   rfl)
  exact this
 ·rw [ih.exp 0 _ (by omega) hg hs (by omega)]
  refine Dq (EG (by omega) hg) fun y r4 hr4 VW hn4=>?_
  simp only [eT,F4]
  rw [G8 (by simp)]
  rfl
theorem U8 (r2:Tk):∀ (m:Nat) (n:Tree) (ts:List Tk),Good ts→ts <:+ l→ts.length < m→16 * ts.length≤k →
  DX.l0 m (PE.at k) l r2 n.kind n.text n.n n.at_ n.kids (ix l ts)=some (conv l eT (NC r2.2.2.2 n ts))
 | 0,_,_,_,_,h,_=>by omega
 | m+1,n,ts,hg,hs,hm,hk=>by
  rw [DX.l0,got_eq m hl hg hs,Bvt _ n hg]
  simp only [Aj,F4]
  refine FL (GA _) (fun hc=>?_) fun h1=>?_
  ·simp only [hc,if_true]
   obtain ⟨g1,g2,g3⟩:=hg.tail (AW hc)
   rw [ih.exp 0 _ (by omega) g1 (g3.trans hs) (by omega)]
   refine Dq (EG (by omega) g1) fun x r hr hrs hn=>?_
   simp only [eT,F4]
   have hrl:=hrs.trans (g3.trans hs)
   rw [H7 m hl hr hrl]
   refine Dq (E2 _ hr) fun _ r2' hr2 Je hn2=>?_
   exact U8 r2 m (.mk 7 noB 0 r2.2.2.2 [n,x]) r2' hr2 (Je.trans hrl) (by omega) (by omega)
  simp only [if_neg h1,got_eq m hl hg hs,Aj]
  refine FL (GA _) (fun hc=>?_) fun h2=>?_
  ·simp only [hc,if_true]
   obtain ⟨g1,g2,g3⟩:=hg.tail (AW hc)
   rw [name_eq m hl g1 (g3.trans hs),Bvs,then_assoc]
   refine Dq (fName 6 g1) fun x r hr hrs hn=>?_
   exact U8 r2 m (.mk 7 noB 0 r2.2.2.2 [n,.mk 5 x.text x.n x.at_ x.kids]) r hr (hrs.trans (g3.trans hs)) (by omega) (by omega)
  simp only [if_neg h2,got_eq m hl hg hs,Aj]
  refine FL (GA _) (fun hc=>?_) fun h3=>?_
  ·simp only [hc,if_true]
   obtain ⟨g1,g2,g3⟩:=hg.tail (AW hc)
   have gs:=g3.trans hs
   have hlen:=hs.length_le
   simp only [BG,Np m g1 gs,Aj]
   unfold Agi
   have tl:∀ (xs:List Tree) (r:List Tk),Good r→r <:+ l→r.length≤ts.tail.length→PR.bind (Di.f m l (ix l r) (⟨#[41]⟩:ByteArray)) (fun FI=>DX.l0 m (PE.at k) l r2 (8:Int) (⟨#[]⟩:ByteArray) (0:Int) r2.2.2.2 (n :: xs) FI)=some (conv l eT ((E6 JM r).then fun _ r=>NC r2.2.2.2 (.mk 8 noB 0 r2.2.2.2 (n :: xs)) r)):=fun xs r hr hrl hn=>by
    rw [H7 m hl hr hrl]
    refine Dq (E2 _ hr) fun _ r2' hr2 Je hn2=>?_
    exact U8 r2 m (.mk 8 noB 0 r2.2.2.2 (n :: xs)) r2' hr2 (Je.trans hrl) (by omega) (by omega)
   by_cases hR:AB JM ts.tail=true
   ·rw [if_pos hR,show AB (⟨#[41]⟩:ByteArray) ts.tail=true from hR]
    exact tl [] _ g1 gs (Nat.le_refl _)
   ·rw [if_neg hR,show AB (⟨#[41]⟩:ByteArray) ts.tail=false from by simpa using hR]
    simp only [Bool.not_false,cond_true]
    rw [ih.Do _ g1 gs (by omega)]
    cases hv:I2 ts.tail with
    | bad i=>rfl
    | ok xs r =>
     have hf:=NT g1
     rw [hv] at hf
     have hxl:=W2 g1 hv
     show (apd 64 [n] xs).bind _=_
     rw [G8 (by simp only [AI,Br];omega)]
     exact tl xs r hf.1 (hf.2.2.trans gs) (by have:=hf.2.1;omega)
  ·simp only [if_neg h3]
   rfl
theorem Axp {ts:List Tk} (hg:Good ts) (hs:ts <:+ l) (hk:16 * ts.length+2≤k):DX.g (PE.at k) k l (ix l ts)=some (conv l eT (MK ts)):=by
 unfold DX.g
 rw [K8 k hg hs,Bvu hg]
 simp only [Aj,BG,got_eq k hl hg hs]
 refine FL (GA _) (fun hc=>?_) fun h1=>?_
 ·simp only [hc,if_true]
  obtain ⟨g1,g2,g3⟩:=hg.tail (AW hc)
  rw [ih.exp 0 _ (by omega) g1 (g3.trans hs) (by omega)]
  refine Dq (EG (by omega) g1) fun x r hr hrs hn=>?_
  simp only [eT,F4]
  have hrl:=hrs.trans (g3.trans hs)
  rw [H7 k hl hr hrl]
  refine Dq (E2 _ hr) fun _ r2' hr2 Je hn2=>?_
  exact U8 hl ih (hd ts) k (.mk 9 noB 0 (hd ts).2.2.2 [x]) r2' hr2 (Je.trans hrl) (by omega) (by omega)
 ·simp only [if_neg h1]
  rw [name_eq k hl hg hs]
  refine Dq (fName 6 hg) fun n r hr hrs hn=>?_
  exact U8 hl ih (hd ts) k n r hr (hrs.trans hs) (by omega) (by omega)
end
theorem aE {l:List Tk} (hl:l.length≤1000000):∀ k,AE l k
 | 0=>by constructor <;> intros <;> omega
 | k+1=>by
  have ih:=aE hl k
  exact ⟨fun least ts h0 hg hs h=>exp_eq hl ih least h0 hg hs (by omega),fun ts hg hs h=>operand_eq hl ih hg hs (by omega),fun ts hg hs h=>Axp hl ih hg hs (by omega),fun ts hg hs h=>fields_eq hl ih hg hs (by omega),fun ts hg hs h=>A7r hl ih hg hs (by omega),fun ts hg hs h=>Alp hl ih hg hs (by omega)⟩
theorem Ayl (pre:List Tree):∀ (n:Nat) (acc:List Tree) (ts:List Tk),ts.length≤n→Good ts→Mi (pre++acc) ts=(Mi acc ts).then fun xs r=>.ok (pre++xs) r
 | 0,_,[],_,hg=>hg.elim
 | n+1,acc,ts,hn,hg=>by
  rw [Sh _ hg,Sh acc hg]
  by_cases hc:AB G0 ts=true
  ·rw [if_pos hc,if_pos hc,then_assoc]
   obtain ⟨g1,g2,g3⟩:=hg.tail (AW hc)
   refine Axz (fName 6 g1) fun x r hr hl=>?_
   rw [Ck]
   exact Ayl pre n _ r (by omega) hr
  ·rw [if_neg hc,if_neg hc];rfl
structure AS (l:List Tk) (k:Nat):Prop where
 block:∀ c ts,Good ts→ts <:+ l→16 * ts.length+9≤k→(PS.at k).Du l (ix l ts) c=some (conv l eT (H6 c ts))
 function:∀ ts,AB Nt ts=true→Good ts→ts <:+ l→16 * ts.length+7≤k→(PS.at k).IM l (ix l ts)=some (conv l eT (Sf ts))
 stat:∀ ts,Good ts→ts <:+ l→16 * ts.length+7≤k→(PS.at k).IQ l (ix l ts)=some (conv l eT (Sj ts))
 branches:∀ ts,Good ts→ts <:+ l→16 * ts.length+6≤k→(PS.at k).Gq l (ix l ts)=some (conv l eL (O2 [] ts))
 loop:∀ at_ ts,Good ts→ts <:+ l→16 * ts.length+8≤k→(PS.at k).IN l (ix l ts) at_=some (conv l eT (UL at_ ts))
 plain:∀ ts,Good ts→ts <:+ l→16 * ts.length+6≤k→(PS.at k).Gr l (ix l ts)=some (conv l eT (UM ts))
section
variable {l:List Tk} (hl:l.length≤1000000)
include hl
theorem SQ (k:Nat) {ts:List Tk} (hg:Good ts) (hs:ts <:+ l) (hk:16 * ts.length+4≤k):Dc.f k l (ix l ts) 0=some (conv l eT (G6 0 ts)):=exp_eq hl (aE hl k) 0 (by omega) hg hs hk
theorem VC (k:Nat) {ts:List Tk} (hg:Good ts) (hs:ts <:+ l) (hk:16 * ts.length+5≤k):DN.f k l (ix l ts)=some (conv l eL (I2 ts)):=Alp hl (aE hl k) hg hs hk
theorem Amc (k:Nat) {ts:List Tk} (hg:Good ts) (hs:ts <:+ l) (hk:16 * ts.length+2≤k):DX.f k l (ix l ts)=some (conv l eT (MK ts)):=Axp hl (aE hl k) hg hs hk
omit hl in
theorem A3m {ts:List Tk} (h:AB Jf ts=true) (hg:Good ts):Mh ts=(H6 false ts.tail).then fun b r=>(E6 EV r).then fun _ r=>.ok b r:=by
 rw [Aye hg]
 unfold E6
 rw [if_pos h]
 rfl
variable {k:Nat} (ih:AS l k)
include ih
theorem Ay1 (F:Tree→Option (List Tree)) (G:List Tree→Int→Option (PR (Int×ByteArray×Int×Int×List Tree×Int))) (g:Tree→Tree) {ts:List Tk} (hg:Good ts) (hs:ts <:+ l) (hk:16 * ts.length+9≤k+16)
  (hG:∀ b r,Good r→r <:+ l→∃ xs,F b=some xs∧G xs (ix l r)=some (conv l eT (.ok (g b) r))) :
  PR.bind (Di.f k l (ix l ts) (⟨#[100,111]⟩:ByteArray)) (fun r36=>PR.bind ((PS.at k).Du l r36 false) fun r38=>(F (Tree.mk r38.1 r38.2.1 r38.2.2.1 r38.2.2.2.1 r38.2.2.2.2.1)).bind fun l49=>PR.bind (Di.f k l r38.2.2.2.2.2 (⟨#[101,110,100]⟩:ByteArray)) fun Ib=>G l49 Ib) =
   some (conv l eT ((Mh ts).then fun b r=>.ok (g b) r)):=by
 rw [H7 k hl hg hs,Aye hg,then_assoc]
 refine Dq (E2 _ hg) fun _ r hr hrs hn=>?_
 simp only [eU]
 have h1:=hrs.trans hs
 rw [ih.block false r hr h1 (by omega),then_assoc]
 refine Dq (L8 false hr) fun b r2 hr2 Je hn2=>?_
 simp only [eT,F4]
 have h2:=Je.trans h1
 obtain ⟨xs,hF,_⟩:=hG b r2 hr2 h2
 rw [hF,then_assoc]
 simp only [Aj]
 rw [H7 k hl hr2 h2]
 refine Dq (E2 _ hr2) fun _ r3 hr3 LI hn3=>?_
 obtain ⟨xs',hF',hG'⟩:=hG b r3 hr3 (LI.trans h2)
 rw [hF] at hF'
 cases hF'
 exact hG'
theorem Yl (chunk:Bool) (r2:Tk):∀ (m:Nat) (acc:List Tree) (ts:List Tk),Good ts→ts <:+ l→16 * ts.length+6 < m→acc.length+ts.length≤1000000→16 * ts.length+8≤k →
  Du.l0 m (PS.at k) l chunk r2 acc (ix l ts)=some (conv l eT (O1 chunk r2.2.2.2 acc ts))
 | 0,_,_,_,_,h,_,_=>by omega
 | m+1,acc,ts,hg,hs,hm,ha,hk=>by
  rw [Du.l0,K8 m hg hs,Bu8 chunk _ acc hg]
  simp only [Aj,got_eq m hl hg hs]
  refine FL (GA _) (fun hc=>?_) fun h1=>?_
  ·simp only [hc,if_true]
   obtain ⟨g1,g2,g3⟩:=hg.tail (AW hc)
   exact Yl chunk r2 m acc _ g1 (g3.trans hs) (by omega) (by omega) (by omega)
  simp only [if_neg h1,got_eq m hl hg hs,Aj]
  refine FL (GA _) (fun hc=>?_) fun h2=>?_
  ·simp only [hc,if_true]
   obtain ⟨g1,g2,g3⟩:=hg.tail (AW hc)
   have gs:=g3.trans hs
   have hend:∀ (xs:List Tree) (r:List Tk),Good r→r <:+ l→(CH.f m l (ix l r) (⟨#[59]⟩:ByteArray)).bind (fun r25=>(apd 64 acc [(Tree.mk (30:Int) (⟨#[]⟩:ByteArray) (0:Int) (hd ts).2.2.2 xs)]).bind fun l29=>some (PR.ok ((20:Int),(⟨#[]⟩:ByteArray),(0:Int),r2.2.2.2,l29,r25.2)))=some (conv l eT (.ok (.mk 20 noB 0 r2.2.2.2 (acc++[.mk 30 noB 0 (hd ts).2.2.2 xs])) (if AB Ed r then r.tail else r))):=fun xs r hr hrl=>by
    rw [got_eq m hl hr hrl,G8 (by simp only [AI,Br];omega)]
    rfl
   simp only [BG,Ak8 m g1 gs,Np m g1 gs,Aj]
   unfold Agm
   cases hE:Gk ts.tail with
   | true =>
    simp only [Bool.not_true,cond_false,Aj,Bool.true_or,if_true]
    exact hend [] _ g1 gs
   | false =>
    simp only [Bool.not_false,cond_true,Aj,Bool.false_or]
    by_cases hS:AB Ed ts.tail=true
    ·rw [if_pos hS,show AB (⟨#[59]⟩:ByteArray) ts.tail=true from hS]
     exact hend [] _ g1 gs
    ·rw [if_neg hS,show AB (⟨#[59]⟩:ByteArray) ts.tail=false from by simpa using hS]
     simp only [Bool.not_false,cond_true]
     rw [VC hl m g1 gs (by omega)]
     refine Dq (NT g1) fun xs r hr hrs hn=>?_
     exact hend xs r hr (hrs.trans gs)
  simp only [if_neg h2,Np m hg hs,Ak8 m hg hs,Aj]
  have hq:(cond chunk (some (AB (⟨#[102,117,110,99,116,105,111,110]⟩:ByteArray) ts)) (some false):Option Bool)=some (chunk && AB Nt ts):=by cases chunk <;> rfl
  rw [hq]
  simp only [Aj]
  have more:∀ (x:Tree) (r:List Tk),Good r→r <:+ ts→r.length+1≤ts.length→((apd 64 acc [x]).bind fun l56=>Du.l0 m (PS.at k) l chunk r2 l56 (ix l r))=some (conv l eT (O1 chunk r2.2.2.2 (acc++[x]) r)):=fun x r hr hrs hn=>by
   rw [G8 (by simp only [AI,Br];omega)]
   exact Yl chunk r2 m _ r hr (hrs.trans hs) (by omega) (by simp only [AV,AI,Br];omega) (by omega)
  refine FL (GA _) (fun hc=>?_) fun h3=>?_
  ·simp only [Bool.and_eq_true] at hc
   rw [ih.function ts hc.2 hg hs (by omega)]
   refine Dq (Alv (AW hc.2) hg) fun x r hr hrs hn=>?_
   simp only [eT,F4]
   exact more x r hr hrs hn
  refine FL (GA _) (fun hc=>rfl) fun h4=>?_
  rw [ih.stat ts hg hs (by omega)]
  refine Dq (Al5 hg) fun x r hr hrs hn=>?_
  simp only [eT,F4]
  exact more x r hr hrs hn
theorem Aj3 (c:Bool) {ts:List Tk} (hg:Good ts) (hs:ts <:+ l) (hk:16 * ts.length+8≤k):Du.g (PS.at k) k l (ix l ts) c=some (conv l eT (H6 c ts)):=by
 unfold Du.g
 rw [K8 k hg hs,Bu9 c hg]
 simp only [Aj]
 have:=hs.length_le
 exact Yl hl ih c (hd ts) k [] ts hg hs (by omega) (by simp only [Br];omega) hk
theorem A8i {ts:List Tk} (hf:AB Nt ts=true) (hg:Good ts) (hs:ts <:+ l) (hk:16 * ts.length+6≤k):IM.g (PS.at k) k l (ix l ts)=some (conv l eT (Sf ts)):=by
 unfold IM.g
 rw [K8 k hg hs,Bvi (AW hf) hg]
 simp only [Aj]
 rw [H7 k hl hg hs]
 unfold E6
 rw [if_pos hf]
 obtain ⟨g1,g2,g3⟩:=hg.tail (AW hf)
 have gs:=g3.trans hs
 have hle:=hs.length_le
 show PR.bind (Hv.f k l (ix l ts.tail)) _=_
 rw [name_eq k hl g1 gs]
 refine Dq (fName 6 g1) fun nm r hr hrs hn=>?_
 simp only [eT]
 have h1:=hrs.trans gs
 rw [H7 k hl hr h1]
 refine Dq (E2 _ hr) fun _ r2 hr2 Je hn2=>?_
 simp only [eU,BG]
 have h2:=Je.trans h1
 have tl:∀ (ps:List Tree) (r:List Tk),Good r→r <:+ l→r.length+1≤ts.length→ps.length≤1000000→PR.bind (Di.f k l (ix l r) (⟨#[41]⟩:ByteArray)) (fun r21=>PR.bind ((PS.at k).Du l r21 false) fun Fa=>(apd 64 ps [(Tree.mk Fa.1 Fa.2.1 Fa.2.2.1 Fa.2.2.2.1 Fa.2.2.2.2.1)]).bind fun l32=>PR.bind (Di.f k l Fa.2.2.2.2.2 (⟨#[101,110,100]⟩:ByteArray)) fun Ix=>some (PR.ok ((31:Int),nm.text,((ps.length:Nat):Int),(hd ts).2.2.2,l32,Ix))) =
   some (conv l eT ((E6 JM r).then fun _ r=>(H6 false r).then fun b r=>(E6 EV r).then fun _ r=>.ok (.mk 31 nm.text ps.length (hd ts).2.2.2 (ps++[b])) r)):=fun ps r hr hrl hn hps=>by
  rw [H7 k hl hr hrl]
  refine Dq (E2 _ hr) fun _ s hs1 hss hn'=>?_
  simp only [eU]
  have h3:=hss.trans hrl
  rw [ih.block false s hs1 h3 (by omega)]
  refine Dq (L8 false hs1) fun b s2 hs2 ZO Bzo=>?_
  simp only [eT,F4]
  rw [G8 (by simp only [AI,Br];omega)]
  simp only [Aj]
  rw [H7 k hl hs2 (ZO.trans h3)]
  exact Dq (E2 _ hs2) fun _ s3 _ _ _=>rfl
 rw [Np k hr2 h2]
 simp only [Aj]
 unfold Agk
 by_cases hR:AB JM r2=true
 ·rw [if_pos hR,show AB (⟨#[41]⟩:ByteArray) r2=true from hR]
  exact tl [] r2 hr2 h2 (by omega) (by simp)
 ·rw [if_neg hR,show AB (⟨#[41]⟩:ByteArray) r2=false from by simpa using hR]
  simp only [Bool.not_false,cond_true]
  rw [Abt hl k hr2 h2 (by omega)]
  cases hv:Ll r2 with
  | bad i=>rfl
  | ok ps s =>
   have hf:=SO hr2
   rw [hv] at hf
   have hln:=Abj hr2 hv
   exact tl ps s hf.1 (hf.2.2.trans h2) (by have:=hf.2.1;omega) (by omega)
theorem Aj9 (J:List Tree→Int→Option (PR (List Tree×Int))) (hJ:∀ a r,Good r→r <:+ l→16 * r.length+9≤k→a.length≤1000000→J a (ix l r)=some (conv l eL (if AB T4 r then (H6 false r.tail).then fun c r=>(E6 EV r).then fun _ r=>.ok (a++[c]) r else (E6 EV r).then fun _ r=>.ok a r))) :
  ∀ (m:Nat) (acc:List Tree) (ts:List Tk),Good ts→ts <:+ l→16 * ts.length+4 < m→acc.length+2 * ts.length≤1000000→16 * ts.length≤k→Gq.l0 m (PS.at k) l J acc (ix l ts)=some (conv l eL (O2 acc ts))
 | 0,_,_,_,_,h,_,_=>by omega
 | m+1,acc,ts,hg,hs,hm,ha,hk=>by
  rw [Gq.l0,SQ hl m hg hs (by omega),Bvc acc hg]
  refine Dq (EG (by omega) hg) fun e r hr hrs hn=>?_
  simp only [eT,F4]
  have h1:=hrs.trans hs
  rw [G8 (by simp only [AI,Br];omega)]
  simp only [Aj]
  rw [H7 m hl hr h1]
  refine Dq (E2 _ hr) fun _ r2 hr2 Je hn2=>?_
  simp only [eU]
  have h2:=Je.trans h1
  rw [ih.block false r2 hr2 h2 (by omega)]
  refine Dq (L8 false hr2) fun b r3 hr3 LI hn3=>?_
  simp only [eT,F4]
  have h3:=LI.trans h2
  rw [G8 (by simp only [AV,AI,Br];omega)]
  simp only [Aj,got_eq m hl hr3 h3]
  by_cases hc:AB T5 r3=true
  ·rw [if_pos hc,show AB (⟨#[101,108,115,101,105,102]⟩:ByteArray) r3=true from hc]
   simp only [Bool.not_true,cond_false,if_true]
   obtain ⟨g1,g2,g3⟩:=hr3.tail (AW hc)
   exact Aj9 J hJ m _ _ g1 (g3.trans h3) (by omega) (by simp only [AV,AI,Br];omega) (by omega)
  ·rw [if_neg hc,show AB (⟨#[101,108,115,101,105,102]⟩:ByteArray) r3=false from by simpa using hc]
   simp only [Bool.not_false,cond_true,Bool.false_eq_true,if_false]
   exact hJ _ r3 hr3 h3 (by omega) (by simp only [AV,AI,Br];omega)
theorem A3o {ts:List Tk} (hg:Good ts) (hs:ts <:+ l) (hk:16 * ts.length+5≤k) (hl2:l.length≤400000):Gq.g (PS.at k) k l (ix l ts)=some (conv l eL (O2 [] ts)):=by
 unfold Gq.g
 simp only [BG]
 have hle:=hs.length_le
 refine Aj9 hl ih _ (fun a r hr hrl hk2 ha=>?_) k [] ts hg hs (by omega) (by simp only [Br];omega) (by omega)
 rw [got_eq k hl hr hrl]
 simp only [Aj]
 refine FL (GA _) (fun hc=>?_) fun h1=>?_
 ·simp only [hc,if_true]
  obtain ⟨g1,g2,g3⟩:=hr.tail (AW hc)
  have gs:=g3.trans hrl
  rw [ih.block false _ g1 gs (by omega)]
  refine Dq (L8 false g1) fun c r3 hr3 LI hn3=>?_
  simp only [eT,F4]
  rw [G8 (by simp only [AI,Br];omega)]
  simp only [Aj]
  rw [H7 k hl hr3 (LI.trans gs)]
  exact Dq (E2 _ hr3) fun _ _ _ _ _=>rfl
 ·simp only [if_neg h1]
  rw [H7 k hl hr hrl]
  exact Dq (E2 _ hr) fun _ _ _ _ _=>rfl
theorem A8a (at_:Int) {ts:List Tk} (hg:Good ts) (hs:ts <:+ l) (hk:16 * ts.length+7≤k):IN.g (PS.at k) k l (ix l ts) at_=some (conv l eT (UL at_ ts)):=by
 unfold IN.g
 rw [name_eq k hl hg hs,Bvh at_ hg]
 refine Dq (fName 6 hg) fun n r hr hrs hn=>?_
 simp only [eT,F4,BG]
 have h1:=hrs.trans hs
 have hle:=hs.length_le
 have tl:∀ (kd nn:Int) (xs:List Tree) (r:List Tk),Good r→r <:+ l→r.length+1≤ts.length→xs.length≤1000000→PR.bind (Di.f k l (ix l r) (⟨#[100,111]⟩:ByteArray)) (fun r19=>PR.bind ((PS.at k).Du l r19 false) fun r21=>(apd 64 xs [(Tree.mk r21.1 r21.2.1 r21.2.2.1 r21.2.2.2.1 r21.2.2.2.2.1)]).bind fun Jt=>PR.bind (Di.f k l r21.2.2.2.2.2 (⟨#[101,110,100]⟩:ByteArray)) fun Iw=>some (PR.ok (kd,(⟨#[]⟩:ByteArray),nn,at_,Jt,Iw))) =
   some (conv l eT ((Mh r).then fun bd r=>.ok (.mk kd noB nn at_ (xs++[bd])) r)):=fun kd nn xs r hr hrl hn hxs =>
  Ay1 hl ih (fun b=>apd 64 xs [b]) (fun Jt Iw=>some (PR.ok (kd,(⟨#[]⟩:ByteArray),nn,at_,Jt,Iw))) (fun bd=>.mk kd noB nn at_ (xs++[bd])) hr hrl (by omega) fun b s hs1 hsl=>⟨_,G8 (by simp only [AI,Br];omega),rfl⟩
 rw [got_eq k hl hr h1]
 simp only [Aj]
 refine FL (GA _) (fun hc=>?_) fun hne=>?_
 ·simp only [hc,if_true]
  obtain ⟨g1,g2,g3⟩:=hr.tail (AW hc)
  have gs:=g3.trans h1
  rw [SQ hl k g1 gs (by omega)]
  refine Dq (EG (by omega) g1) fun a r2 hr2 Je hn2=>?_
  simp only [eT,F4]
  have h2:=Je.trans gs
  rw [G8 (by simp)]
  simp only [Aj]
  rw [H7 k hl hr2 h2]
  refine Dq (E2 _ hr2) fun _ r3 hr3 LI hn3=>?_
  simp only [eU]
  have h3:=LI.trans h2
  rw [SQ hl k hr3 h3 (by omega)]
  refine Dq (EG (by omega) hr3) fun b r4 hr4 VW hn4=>?_
  simp only [eT,F4]
  have h4:=VW.trans h3
  rw [G8 (by simp)]
  simp only [Aj,got_eq k hl hr4 h4]
  unfold X0
  by_cases hC:AB G0 r4=true
  ·rw [if_pos hC,show AB (⟨#[44]⟩:ByteArray) r4=true from hC]
   simp only [cond_true,if_true]
   obtain ⟨g5,g6,g7⟩:=hr4.tail (AW hC)
   have gs5:=g7.trans h4
   rw [SQ hl k g5 gs5 (by omega),then_assoc]
   refine Dq (EG (by omega) g5) fun c r5 hr5 Bfu hn5=>?_
   simp only [eT,F4]
   rw [G8 (by simp)]
   exact tl 26 0 _ r5 hr5 (Bfu.trans gs5) (by omega) (by simp)
  ·rw [if_neg hC,show AB (⟨#[44]⟩:ByteArray) r4=false from by simpa using hC]
   simp only [cond_false,Bool.false_eq_true,if_false]
   have:=tl 26 0 ([n]++[a]++[b]) r4 hr4 h4 (by omega) (by simp)
   simp only [PV.then,List.append_nil]
   exact this
 ·simp only [if_neg hne,got_eq k hl hr h1,Aj]
  have tl2:∀ (xs:List Tree) (r:List Tk),Good r→r <:+ l→r.length+1≤ts.length→xs.length+r.length≤ts.length+1→PR.bind (Di.f k l (ix l r) (⟨#[105,110]⟩:ByteArray)) (fun Xh=>PR.bind (DN.f k l Xh) fun PW=>(apd 64 xs PW.1).bind fun Re=>PR.bind (Di.f k l PW.2 (⟨#[100,111]⟩:ByteArray)) fun r19=>PR.bind ((PS.at k).Du l r19 false) fun r21=>(apd 64 Re [(Tree.mk r21.1 r21.2.1 r21.2.2.1 r21.2.2.2.1 r21.2.2.2.2.1)]).bind fun Jt=>PR.bind (Di.f k l r21.2.2.2.2.2 (⟨#[101,110,100]⟩:ByteArray)) fun Iw=>some (PR.ok ((27:Int),(⟨#[]⟩:ByteArray),((xs.length:Nat):Int),at_,Jt,Iw))) =
    some (conv l eT ((E6 kIn r).then fun _ r=>(I2 r).then fun es r=>(Mh r).then fun bd r=>.ok (.mk 27 noB xs.length at_ (xs++es++[bd])) r)):=fun xs r hr hrl hn hx=>by
   rw [H7 k hl hr hrl]
   refine Dq (E2 _ hr) fun _ r3 hr3 LI hn3=>?_
   simp only [eU]
   have h3:=LI.trans hrl
   rw [VC hl k hr3 h3 (by omega)]
   cases hv:I2 r3 with
   | bad i=>rfl
   | ok es s =>
    have hf:=NT hr3
    rw [hv] at hf
    have hln:=W2 hr3 hv
    show (apd 64 xs es).bind _=_
    rw [G8 (by omega)]
    exact tl 27 xs.length (xs++es) s hf.1 (hf.2.2.trans h3) (by have:=hf.2.1;omega) (by simp only [AV];omega)
  by_cases hC:AB G0 r=true
  ·rw [show AB (⟨#[44]⟩:ByteArray) r=true from hC]
   simp only [cond_true,if_true]
   obtain ⟨g1,g2,g3⟩:=hr.tail (AW hC)
   have gs:=g3.trans h1
   rw [Abt hl k g1 gs (by omega)]
   have e:Mi [n] r=(Ll r.tail).then fun xs r=>.ok ([n]++xs) r:=by
    rw [Sh _ hr,if_pos hC]
    unfold Ll
    rw [then_assoc]
    exact Axz (fName 6 g1) fun x s hs1 _=>Ayl [n] _ [x] s (Nat.le_refl _) hs1
   rw [e,then_assoc]
   cases hv:Ll r.tail with
   | bad i=>rfl
   | ok xs s =>
    have hf:=SO g1
    rw [hv] at hf
    have hln:=Abj g1 hv
    show (apd 64 [n] xs).bind _=_
    rw [G8 (by simp only [AI,Br];omega)]
    exact tl2 ([n]++xs) s hf.1 (hf.2.2.trans gs) (by have:=hf.2.1;omega) (by simp only [AV,AI,Br];omega)
  ·rw [show AB (⟨#[44]⟩:ByteArray) r=false from by simpa using hC]
   simp only [cond_false,Bool.false_eq_true,if_false]
   rw [Sh _ hr,if_neg hC]
   exact tl2 [n] r hr h1 (by omega) (by simp only [AI,Br];omega)
theorem Bue {ts:List Tk} (hg:Good ts) (hs:ts <:+ l) (hk:16 * ts.length+6≤k):IQ.g (PS.at k) k l (ix l ts)=some (conv l eT (Sj ts)):=by
 unfold IQ.g
 rw [K8 k hg hs,Bvn hg]
 simp only [Aj,BG,got_eq k hl hg hs]
 have hle:=hs.length_le
 refine FL (GA _) (fun hc=>?_) fun h1=>?_
 ·simp only [hc,if_true]
  obtain ⟨g1,g2,g3⟩:=hg.tail (AW hc)
  have gs:=g3.trans hs
  rw [A3m hc hg,then_assoc,ih.block false _ g1 gs (by omega)]
  refine Dq (L8 false g1) fun b r hr hrs hn=>?_
  simp only [eT,F4]
  rw [H7 k hl hr (hrs.trans gs),then_assoc]
  exact Dq (E2 _ hr) fun _ _ _ _ _=>rfl
 simp only [if_neg h1,got_eq k hl hg hs,Aj]
 refine FL (GA _) (fun hc=>?_) fun h2=>?_
 ·simp only [hc,if_true]
  obtain ⟨g1,g2,g3⟩:=hg.tail (AW hc)
  have gs:=g3.trans hs
  rw [SQ hl k g1 gs (by omega)]
  refine Dq (EG (by omega) g1) fun e r hr hrs hn=>?_
  simp only [eT,F4]
  exact Ay1 hl ih (fun b=>apd 64 [e] [b]) (fun l49 Ib=>some (PR.ok ((25:Int),(⟨#[]⟩:ByteArray),(0:Int),(hd ts).2.2.2,l49,Ib))) (fun b=>.mk 25 noB 0 (hd ts).2.2.2 [e,b]) hr (hrs.trans gs) (by omega) fun b s _ _=>⟨_,G8 (by simp),rfl⟩
 simp only [if_neg h2,got_eq k hl hg hs,Aj]
 refine FL (GA _) (fun hc=>?_) fun h3=>?_
 ·simp only [hc,if_true]
  obtain ⟨g1,g2,g3⟩:=hg.tail (AW hc)
  rw [ih.branches _ g1 (g3.trans hs) (by omega)]
  exact Dq (Alq _ g1) fun _ _ _ _ _=>rfl
 simp only [if_neg h3,got_eq k hl hg hs,Aj]
 have same:∀ {x:PV Tree},(PR.bind (some (conv l eT x)) fun Fb=>some (PR.ok (Fb.1,Fb.2.1,Fb.2.2.1,Fb.2.2.2.1,Fb.2.2.2.2.1,Fb.2.2.2.2.2)))=some (conv l eT x):=fun {x}=>by cases x <;> rfl
 refine FL (GA _) (fun hc=>?_) fun h4=>?_
 ·simp only [hc,if_true]
  obtain ⟨g1,g2,g3⟩:=hg.tail (AW hc)
  rw [ih.loop _ _ g1 (g3.trans hs) (by omega)]
  exact same
 simp only [if_neg h4,got_eq k hl hg hs,Aj]
 refine FL (GA _) (fun hc=>?_) fun h5=>?_
 ·simp only [hc,if_true]
  obtain ⟨g1,g2,g3⟩:=hg.tail (AW hc)
  have gs:=g3.trans hs
  rw [Abt hl k g1 gs (by omega)]
  cases hv:Ll ts.tail with
  | bad i=>rfl
  | ok xs r =>
   have hf:=SO g1
   rw [hv] at hf
   have hln:=Abj g1 hv
   have hrl:=hf.2.2.trans gs
   show (CH.f k l (ix l r) _).bind _=some (conv l eT ((Xz r).then _))
   rw [got_eq k hl hf.1 hrl]
   unfold Xz
   simp only [Aj,eL]
   by_cases hE:AB G1 r=true
   ·rw [if_pos hE,show AB (⟨#[61]⟩:ByteArray) r=true from hE]
    simp only [cond_true,if_true]
    obtain ⟨g4,g5,g6⟩:=hf.1.tail (AW hE)
    have h6:=hf.2.1
    rw [VC hl k g4 (g6.trans hrl) (by omega)]
    cases hv2:I2 r.tail with
    | bad i=>rfl
    | ok es s =>
     have Bzi:=W2 g4 hv2
     show (apd 64 xs es).bind _=_
     rw [G8 (by omega)]
     rfl
   ·rw [if_neg hE,show AB (⟨#[61]⟩:ByteArray) r=false from by simpa using hE]
    simp only [cond_false,Bool.false_eq_true,if_false,PV.then,List.append_nil]
    rfl
 simp only [if_neg h5,got_eq k hl hg hs,Aj]
 refine FL (GA _) (fun hc=>?_) fun h6=>?_
 ·simp only [hc,if_true]
  rfl
 simp only [if_neg h6]
 rw [ih.plain _ hg hs (by omega)]
 exact same
omit ih in
theorem targets_eq (J:List Tree→Int→Option (PR (Int×ByteArray×Int×Int×List Tree×Int))) (g:List Tree→List Tk→PV Tree) (N:Nat) (hJ:∀ a r,Good r→r <:+ l→r.length≤N→a.length+r.length≤1000000→J a (ix l r)=some (conv l eT (g a r))) :
  ∀ (m:Nat) (acc:List Tree) (e:Tree) (ts:List Tk),Good ts→ts <:+ l→16 * ts.length+2 < m→ts.length≤N→acc.length+ts.length+1≤1000000→Gr.l0 m l J e.kind e.text e.n e.at_ e.kids acc (ix l ts)=some (conv l eT ((Sk acc e ts).then g))
 | 0,_,_,_,_,_,h,_,_=>by omega
 | m+1,acc,e,ts,hg,hs,hm,hN,ha=>by
  rw [Gr.l0,Bvx acc e hg]
  simp only [BG,F4]
  have ht:PM.f m e.kind e.text e.n e.at_ e.kids=some (decide (e.kind=6∨e.kind=7)):=by
   unfold PM.f
   rw [Vu,Vu]
   by_cases h6:e.kind=6
   ·simp [h6]
   ·simp [h6]
  rw [ht]
  simp only [Aj]
  by_cases hk:e.kind=6∨e.kind=7
  ·rw [if_pos hk,decide_eq_true hk]
   simp only [Bool.not_true,cond_false]
   rw [G8 (by simp only [AI,Br];omega)]
   simp only [Aj,got_eq m hl hg hs]
   by_cases hc:AB G0 ts=true
   ·rw [show AB (⟨#[44]⟩:ByteArray) ts=true from hc]
    simp only [Bool.not_true,cond_false,if_true]
    rw [then_assoc]
    obtain ⟨g1,g2,g3⟩:=hg.tail (AW hc)
    have gs:=g3.trans hs
    rw [Amc hl m g1 gs (by omega)]
    refine Dq (SP g1) fun x r hr hrs hn=>?_
    exact targets_eq J g N hJ m _ x r hr (hrs.trans gs) (by omega) (by omega) (by simp only [AV,AI,Br];omega)
   ·rw [show AB (⟨#[44]⟩:ByteArray) ts=false from by simpa using hc]
    simp only [Bool.not_false,cond_true,Bool.false_eq_true,if_false]
    exact hJ _ ts hg hs (by omega) (by simp only [AV,AI,Br];omega)
  ·rw [if_neg hk,decide_eq_false hk]
   rfl
omit ih in
theorem Bqw (k:Nat) {ts:List Tk} (hg:Good ts) (hs:ts <:+ l) (hk:16 * ts.length+5≤k):Gr.g (PS.at k) k l (ix l ts)=some (conv l eT (UM ts)):=by
 unfold Gr.g
 rw [Amc hl k hg hs (by omega),Bvl hg]
 have hle:=hs.length_le
 refine Dq (SP hg) fun e r hr hrs hn=>?_
 have h1:=hrs.trans hs
 simp only [eT,F4,Np k hr h1,Aj,BG]
 have hq:(cond (!AB (⟨#[61]⟩:ByteArray) r) (some (!AB (⟨#[44]⟩:ByteArray) r)) (some false):Option Bool)=some (!(AB G1 r || AB G0 r)):=by
  show (cond (!AB G1 r) (some (!AB G0 r)) (some false):Option Bool)=_
  cases AB G1 r <;> cases AB G0 r <;> rfl
 rw [hq]
 simp only [Aj]
 cases hb:(AB G1 r || AB G0 r) with
 | true =>
  simp only [Bool.not_true,cond_false,if_true]
  refine targets_eq hl _ (fun l r=>(E6 G1 r).then fun _ r=>(I2 r).then fun es r=>.ok (.mk 22 noB l.length e.at_ (l++es)) r) r.length (fun a s hs1 hsl hsn ha=>?_) k [] e r hr h1 (by omega) (Nat.le_refl _) (by simp only [Br];omega)
  rw [H7 k hl hs1 hsl]
  refine Dq (E2 _ hs1) fun _ s2 hs2 ZO hn2=>?_
  simp only [eU]
  have h2:=ZO.trans hsl
  have hkey:16 * s2.length+5≤k:=by have:=hs2;omega
  rw [VC hl k hs2 h2 hkey]
  cases hv:I2 s2 with
  | bad i=>rfl
  | ok es s3 =>
   have hln:=W2 hs2 hv
   show (apd 64 a es).bind _=_
   rw [G8 (by omega)]
   rfl
 | false =>
  simp only [Bool.not_false,cond_true,Bool.false_eq_true,if_false]
  by_cases h8:e.kind=8
  ·rw [if_pos h8,h8]
   rfl
  ·rw [if_neg h8,show (e.kind != 8)=true by rw [bne_iff_ne];exact h8]
   simp only [cond_true,K8 k hr h1,Aj]
   rfl
end
theorem aS {l:List Tk} (hl:l.length≤400000):∀ k,AS l k
 | 0=>by constructor <;> intros <;> omega
 | k+1=>by
  have ih:=aS hl k
  have h1:l.length≤1000000:=by omega
  exact ⟨fun c ts hg hs h=>Aj3 h1 ih c hg hs (by omega),fun ts hf hg hs h=>A8i h1 ih hf hg hs (by omega),fun ts hg hs h=>Bue h1 ih hg hs (by omega),fun ts hg hs h=>A3o h1 ih hg hs (by omega) hl,fun at_ ts hg hs h=>A8a h1 ih at_ hg hs (by omega),fun ts hg hs h=>Bqw h1 k hg hs (by omega)⟩
theorem A7q {l:List Tk} (hl:l.length≤400000) (k:Nat) (c:Bool) {ts:List Tk} (hg:Good ts) (hs:ts <:+ l) (hk:16 * ts.length+8≤k):Du.f k l (ix l ts) c=some (conv l eT (H6 c ts)):=Aj3 (by omega) (aS hl k) c hg hs hk
mutual
def sz:Tree→Nat
 | .mk _ _ _ _ l=>Au l+1
def Au:List Tree→Nat
 | []=>0
 | x :: l=>sz x+Au l
end
mutual
/-- Nodes begin in order. -/
def DS:Tree→Prop
 | .mk k _ _ a l=>Gp a l∧(k=20→l.Pairwise fun x y=>x.at_ < y.at_)
def Gp (a:Int):List Tree→Prop
 | []=>True
 | x :: l=>(a≤x.at_∧DS x)∧Gp a l
end
theorem WO {a:Int}:∀ {l:List Tree},Gp a l ↔ ∀ x ∈ l,a≤x.at_∧DS x
 | []=>by simp [Gp]
 | x :: l=>by simp [Gp,WO (l:=l)]
theorem DB:∀ (l m:List Tree),Au (l++m)=Au l+Au m
 | [],m=>by simp [Au]
 | x :: l,m=>by simp only [List.cons_append,Au,DB l m];omega
theorem Em:∀ (l:List Tree),l.length≤Au l
 | []=>Nat.zero_le _
 | .mk _ _ _ _ _ :: l=>by
  have:=Em l
  simp only [AI,Au,sz]
  omega
def Asc (ts:List Tk):Prop:=ts.Pairwise fun a b=>a.2.2.2 < b.2.2.2
def at0 (ts:List Tk):Int:=(hd ts).2.2.2
structure CX (n:Nat) (ts r:List Tk):Prop where
 good:Good r
 CD:Asc r
 len:r.length+n≤ts.length
 le:at0 ts≤at0 r
 lt:r.length < ts.length→at0 ts < at0 r
theorem CX.refl {ts:List Tk} (hg:Good ts) (ha:Asc ts):CX 0 ts ts:=⟨hg,ha,Nat.le_refl _,Int.le_refl _,fun h=>absurd h (Nat.lt_irrefl _)⟩
theorem CX.trans {n m:Nat} {ts r s:List Tk} (h:CX n ts r) (h':CX m r s):CX (n+m) ts s:=by
 refine ⟨h'.good,h'.CD,?_,?_,fun hl=>?_⟩
 ·have:=h.len;have:=h'.len;omega
 ·have:=h.le;have:=h'.le;omega
 ·by_cases hr:r.length < ts.length
  ·have:=h.lt hr;have:=h'.le;omega
  ·have:=h'.lt (by omega);have:=h.le;omega
theorem CX.weak {n m:Nat} {ts r:List Tk} (h:CX n ts r) (hm:m≤n):CX m ts r:=⟨h.good,h.CD,by have:=h.len;omega,h.le,h.lt⟩
theorem CX.tail {n:Nat} {ts r:List Tk} (h:CX n ts r) (h6:(hd r).1≠6):CX (n+1) ts r.tail:=by
 obtain ⟨g1,g2,_⟩:=h.good.tail h6
 refine h.trans (m:=1) ⟨g1,?_,by omega,?_,?_⟩
 ·cases r with
  | nil=>exact h.CD
  | cons t r=>exact (List.pairwise_cons.1 h.CD).2
 all_goals
  cases r with
  | nil=>exact h.good.elim
  | cons t r =>
   cases r with
   | nil=>exact g1.elim
   | cons u r =>
    have:=(List.pairwise_cons.1 h.CD).1 u (CB ..)
    simp only [at0,hd,List.tail_cons,List.headD_cons]
    omega
def R {α:Type} (x:Option (PV α)) (Q:α→List Tk→Prop):Prop:=∀ a r,x=some (.ok a r)→Q a r
section
variable {α β:Type} {x y:Option (PV α)} {f:α→List Tk→Option (PV β)} {Q Q1:α→List Tk→Prop} {Q2:β→List Tk→Prop}
theorem R.bind (h1:R x Q1) (h2:∀ a r,Q1 a r→R (f a r) Q2):R (PV.bind x f) Q2:=fun a r h=>by
 rcases bind_some h with ⟨i,_,he⟩ | ⟨a',r',hx,hf⟩
 ·cases he
 ·exact h2 a' r' (h1 a' r' hx) a r hf
theorem R.none:R (none:Option (PV α)) Q:=fun _ _ h=>by cases h
theorem R.bad {i:Int}:R (some (.bad i):Option (PV α)) Q:=fun _ _ h=>by cases h
theorem R.ok {a:α} {r:List Tk} (h:Q a r):R (some (.ok a r)) Q:=fun _ _ h'=>by cases h';exact h
theorem R.ite {c:Prop} [Decidable c] (h1:c→R x Q) (h2:¬ c→R y Q):R (if c then x else y) Q:=by
 by_cases h:c
 ·rw [if_pos h];exact h1 h
 ·rw [if_neg h];exact h2 h
theorem R.weak (h:R x Q1) (h2:∀ a r,Q1 a r→Q a r):R x Q:=fun a r h'=>h2 a r (h a r h')
end
structure TE (b:Nat) (ts:List Tk) (n:Tree) (r:List Tk):Prop where
 B3:CX 1 ts r
 at_:n.at_=at0 ts
 ord:DS n
 size:sz n+b+4 * r.length≤4 * ts.length
structure LE (m:Nat) (lo:Int) (acc:List Tree) (ts:List Tk) (l:List Tree) (r:List Tk):Prop where
 B3:CX m ts r
 ord:Gp lo l
 size:Au l+4 * r.length≤Au acc+4 * ts.length
theorem Gp.snoc {lo:Int} {l:List Tree} {x:Tree} (h:Gp lo l) (h1:lo≤x.at_) (h2:DS x):Gp lo (l++[x]):=by
 rw [WO] at h ⊢
 intro y hy
 rcases EQ.1 hy with hy | hy
 ·exact h y hy
 ·obtain rfl:=F7.1 hy;exact ⟨h1,h2⟩
theorem Gp.app {lo:Int} {l m:List Tree} (h:Gp lo l) (h':Gp lo m):Gp lo (l++m):=by
 rw [WO] at *
 intro y hy
 exact (EQ.1 hy).elim (h y) (h' y)
theorem Gp.weak {lo lo':Int} {l:List Tree} (h:Gp lo l) (h1:lo'≤lo):Gp lo' l:=by
 rw [WO] at *
 exact fun y hy=>⟨Int.le_trans h1 (h y hy).1,(h y hy).2⟩
theorem DS.mk {k:Int} {t:ByteArray} {n a:Int} {l:List Tree} (h:Gp a l) (hk:k≠20):DS (.mk k t n a l):=⟨h,fun e=>absurd e hk⟩
theorem one {lo:Int} {x:Tree} (h1:lo≤x.at_) (h2:DS x):Gp lo [x]:=⟨⟨h1,h2⟩,trivial⟩
theorem IT {w:ByteArray} {n:Nat} {ts s:List Tk} (h:CX n ts s):R (E_ w s) fun _ r=>CX (n+1) ts r∧r.length+1=s.length:=by
 refine R.ite (fun hc=>R.ok ⟨h.tail (AW hc),?_⟩) fun _=>R.bad
 exact (h.good.tail (AW hc)).2.1
theorem RI {k:Int} {ts:List Tk} (hk:k≠20) (hg:Good ts) (ha:Asc ts):R (It k ts) (TE 1 ts):=by
 refine R.ite (fun hc=>R.ok ?_) fun _=>R.bad
 have h6:(hd ts).1≠6:=by omega
 have:=(hg.tail h6).2.1
 exact ⟨((CX.refl hg ha).tail h6).weak (by omega),rfl,DS.mk trivial hk,by simp only [sz,Au];omega⟩
theorem Ae6:∀ (f:Nat) (acc:List Tree) (lo:Int) (ts:List Tk),Good ts→Asc ts→lo≤at0 ts→Gp lo acc→R (G3 f acc ts) (LE 0 lo acc ts)
 | 0,_,_,_,_,_,_,_=>R.none
 | f+1,acc,lo,ts,hg,ha,hlo,hacc=>by
  unfold G3
  refine R.ite (fun hc=>?_) fun _=>R.ok ⟨CX.refl hg ha,hacc,Nat.le_refl _⟩
  have ht:=(CX.refl hg ha).tail (AW hc)
  have:=ht.len;have:=ht.le
  refine R.bind (RI (by decide) ht.good ht.CD) fun n r hn=>?_
  have:=hn.at_;have:=hn.size
  refine R.weak (Ae6 f _ lo r hn.B3.good hn.B3.CD (by have:=hn.B3.le;omega) (hacc.snoc (by omega) hn.ord)) fun l s hl=>?_
  have:=hl.size
  rw [DB] at this
  simp only [Au] at this
  exact ⟨((ht.trans hn.B3).trans hl.B3).weak (by omega),hl.ord,by omega⟩
theorem Avy (f:Nat) {lo:Int} {ts:List Tk} (hg:Good ts) (ha:Asc ts) (hlo:lo≤at0 ts):R (LX f ts) (LE 1 lo [] ts):=by
 refine R.bind (RI (by decide) hg ha) fun n r hn=>?_
 have:=hn.at_;have:=hn.size
 refine R.weak (Ae6 f _ lo r hn.B3.good hn.B3.CD (by have:=hn.B3.le;omega) (one (by omega) hn.ord)) fun l s hl=>?_
 have:=hl.size
 simp only [Au] at this ⊢
 exact ⟨(hn.B3.trans hl.B3).weak (by omega),hl.ord,by simp only [Au];omega⟩
structure OE (f:Nat):Prop where
 exp:∀ least ts,0≤least→Good ts→Asc ts→R (D7 f least ts) (TE 1 ts)
 loop:∀ least n ts,0≤least→Good ts→Asc ts→DS n→n.at_≤at0 ts→R (F1 f least n ts) fun n' r=>CX 0 ts r∧n'.at_=n.at_∧DS n'∧sz n'+4 * r.length≤sz n+4 * ts.length
 operand:∀ ts,Good ts→Asc ts→R (Fs f ts) (TE 1 ts)
 fields:∀ acc lo ts,Good ts→Asc ts→lo≤at0 ts→Gp lo acc→R (Fr f acc ts) (LE 1 lo acc ts)
 field:∀ ts,Good ts→Asc ts→R (F8 f ts) (TE 0 ts)
 El:∀ ts,Good ts→Asc ts→R (EL f ts) (TE 1 ts)
 DA:∀ at_ n ts,Good ts→Asc ts→DS n→at_=n.at_→n.at_≤at0 ts→R (EB f at_ n ts) fun n' r=>CX 0 ts r∧n'.at_=n.at_∧DS n'∧sz n'+4 * r.length≤sz n+4 * ts.length
 Do:∀ lo ts,Good ts→Asc ts→lo≤at0 ts→R (DT f ts) (LE 1 lo [] ts)
 Gz:∀ acc lo ts,Good ts→Asc ts→lo≤at0 ts→Gp lo acc→R (F0 f acc ts) (LE 0 lo acc ts)
theorem Rq {k:Int} {t:ByteArray} {n:Int} {ts:List Tk} (hk:k≠20) (hg:Good ts) (ha:Asc ts) (h6:(hd ts).1≠6):TE 1 ts (.mk k t n (hd ts).2.2.2 []) ts.tail:=by
 have:=(hg.tail h6).2.1
 exact ⟨((CX.refl hg ha).tail h6).weak (by omega),rfl,DS.mk trivial hk,by simp only [sz,Au];omega⟩
theorem rE:∀ f,OE f
 | 0=>by constructor <;> intros <;> (first | unfold D7 | unfold F1 | unfold Fs | unfold Fr | unfold F8 | unfold EL | unfold EB | unfold DT | unfold F0) <;> exact R.none
 | f+1=>by
  have ih:=rE f
  constructor
  ·intro least ts hl hg ha;unfold D7
   refine R.bind (ih.operand ts hg ha) fun n r hn=>?_
   have:=hn.at_;have:=hn.size;have:=hn.B3.le
   refine R.weak (ih.loop least n r hl hn.B3.good hn.B3.CD hn.ord (by omega)) fun n' s ⟨h1,h2,h3,h4⟩=>?_
   exact ⟨(hn.B3.trans h1).weak (by omega),by omega,h3,by omega⟩
  ·intro least n ts hl hg ha hn hat;unfold F1
   refine R.ite (fun _=>R.ok ⟨CX.refl hg ha,rfl,hn,Nat.le_refl _⟩) fun hc=>?_
   have hb:=Yf ts
   have ht:=(CX.refl hg ha).tail (OI (by omega))
   have:=ht.len;have:=ht.le
   refine R.bind (ih.exp _ _ (by split <;> omega) ht.good ht.CD) fun m r hm=>?_
   have:=hm.at_;have:=hm.size;have:=hm.B3.le
   refine R.weak (ih.loop least _ r hl hm.B3.good hm.B3.CD (DS.mk ⟨⟨Int.le_refl _,hn⟩,⟨by omega,hm.ord⟩,trivial⟩ (by decide)) (show n.at_≤_ by omega)) fun n' s ⟨h1,h2,h3,h4⟩=>?_
   simp only [sz,Au] at h4
   exact ⟨((ht.trans hm.B3).trans h1).weak (by omega),h2,h3,by omega⟩
  ·intro ts hg ha;unfold Fs
   refine R.ite (fun h=>R.ok (Rq (by decide) hg ha (by omega))) fun _=>?_
   refine R.ite (fun h=>R.ok (Rq (by decide) hg ha (by omega))) fun _=>?_
   refine R.ite (fun h=>R.ok (Rq (by decide) hg ha (AW h))) fun _=>?_
   refine R.ite (fun h=>R.ok (Rq (by decide) hg ha (AW h))) fun _=>?_
   refine R.ite (fun h=>R.ok (Rq (by decide) hg ha (AW h))) fun _=>?_
   refine R.ite (fun h=>?_) fun _=>?_
   ·have h6:(hd ts).1≠6:=by
     simp only [Bool.or_eq_true] at h
     rcases h with (h | h) | h <;> exact AW h
    have ht:=(CX.refl hg ha).tail h6
    have:=ht.len;have:=ht.le
    refine R.bind (ih.exp _ _ (by decide) ht.good ht.CD) fun m r hm=>R.ok ?_
    have:=hm.at_;have:=hm.size;have:=hm.B3.le
    exact ⟨(ht.trans hm.B3).weak (by omega),rfl,DS.mk (one (show at0 ts≤_ by omega) hm.ord) (by decide),by simp only [sz,Au];omega⟩
   refine R.ite (fun h=>?_) fun _=>ih.El ts hg ha
   have ht:=(CX.refl hg ha).tail (AW h)
   have:=ht.len;have:=ht.le
   refine R.bind (ih.fields [] (at0 ts) _ ht.good ht.CD (by omega) trivial) fun l r hl=>R.ok ?_
   have h5:=hl.size
   simp only [Au] at h5
   exact ⟨(ht.trans hl.B3).weak (by omega),rfl,DS.mk hl.ord (by decide),by simp only [sz];omega⟩
  ·intro acc lo ts hg ha hlo hacc;unfold Fr
   refine R.ite (fun h=>?_) fun _=>?_
   ·have ht:=(CX.refl hg ha).tail (AW h)
    have:=ht.len
    exact R.ok ⟨ht.weak (by omega),hacc,by omega⟩
   refine R.bind (ih.field ts hg ha) fun x r hx=>?_
   have:=hx.at_;have:=hx.size;have:=hx.B3.le
   have hacc':=hacc.snoc (x:=x) (by omega) hx.ord
   refine R.ite (fun h=>?_) fun _=>?_
   ·have ht:=hx.B3.tail (AW h)
    have:=ht.len;have:=ht.le
    have:=(hx.B3.good.tail (AW h)).2.1
    refine R.weak (ih.fields _ lo _ ht.good ht.CD (by omega) hacc') fun l s hl=>?_
    have h5:=hl.size
    simp only [DB,Au] at h5
    exact ⟨(ht.trans hl.B3).weak (by omega),hl.ord,by omega⟩
   refine R.ite (fun h=>?_) fun _=>?_
   ·have ht:=hx.B3.tail (AW h)
    have:=ht.len;have:=ht.le
    have:=(hx.B3.good.tail (AW h)).2.1
    refine R.weak (ih.fields _ lo _ ht.good ht.CD (by omega) hacc') fun l s hl=>?_
    have h5:=hl.size
    simp only [DB,Au] at h5
    exact ⟨(ht.trans hl.B3).weak (by omega),hl.ord,by omega⟩
   refine R.bind (IT hx.B3) fun _ s ⟨hs,hs2⟩=>R.ok ?_
   exact ⟨hs.weak (by omega),hacc',by simp only [DB,Au];omega⟩
  ·intro ts hg ha;unfold F8
   refine R.ite (fun h=>?_) fun _=>?_
   ·have ht:=(CX.refl hg ha).tail (AW h)
    have:=ht.len;have:=ht.le
    refine R.bind (ih.exp _ _ (by decide) ht.good ht.CD) fun k r hk=>?_
    have:=hk.at_;have:=hk.size;have:=hk.B3.le
    refine R.bind (IT (ht.trans hk.B3)) fun _ r2 ⟨h2,h2'⟩=>?_
    refine R.bind (IT h2) fun _ r3 ⟨h3,h3'⟩=>?_
    have:=h3.le
    refine R.bind (ih.exp _ _ (by decide) h3.good h3.CD) fun v r4 hv=>R.ok ?_
    have:=hv.at_;have:=hv.size
    exact ⟨(h3.trans hv.B3).weak (by omega),rfl,DS.mk ⟨⟨show at0 ts≤_ by omega,hk.ord⟩,⟨show at0 ts≤_ by omega,hv.ord⟩,trivial⟩ (by decide),by simp only [sz,Au];omega⟩
   refine R.ite (fun h=>?_) fun _=>?_
   ·obtain ⟨h1,h2,_⟩:=h
    have ht:=((CX.refl hg ha).tail (by omega)).tail (by omega)
    have:=ht.len;have:=ht.le
    refine R.bind (ih.exp _ _ (by decide) ht.good ht.CD) fun v r hv=>R.ok ?_
    have:=hv.at_;have:=hv.size
    exact ⟨(ht.trans hv.B3).weak (by omega),rfl,DS.mk ⟨⟨Int.le_refl _,DS.mk trivial (by decide)⟩,⟨show at0 ts≤_ by omega,hv.ord⟩,trivial⟩ (by decide),by simp only [sz,Au];omega⟩
   ·refine R.bind (ih.exp _ _ (by decide) hg ha) fun v r hv=>R.ok ?_
    have:=hv.at_;have:=hv.size
    exact ⟨hv.B3,rfl,DS.mk (one (show at0 ts≤_ by omega) hv.ord) (by decide),by simp only [sz,Au];omega⟩
  ·intro ts hg ha;unfold EL
   refine R.ite (fun h=>?_) fun _=>?_
   ·have ht:=(CX.refl hg ha).tail (AW h)
    have:=ht.len;have:=ht.le
    refine R.bind (ih.exp _ _ (by decide) ht.good ht.CD) fun e r he=>?_
    have:=he.at_;have:=he.size
    refine R.bind (IT (ht.trans he.B3)) fun _ r2 ⟨h2,h2'⟩=>?_
    have:=h2.le
    refine R.weak (ih.DA _ _ r2 h2.good h2.CD (DS.mk (one (show at0 ts≤_ by omega) he.ord) (by decide)) rfl (show at0 ts≤_ by omega)) fun n' s ⟨h3,h4,h5,h6⟩=>?_
    simp only [sz,Au] at h6
    exact ⟨(h2.trans h3).weak (by omega),h4,h5,by omega⟩
   ·refine R.bind (RI (by decide) hg ha) fun n r hn=>?_
    have:=hn.at_;have:=hn.size;have:=hn.B3.le
    refine R.weak (ih.DA _ _ r hn.B3.good hn.B3.CD hn.ord hn.at_.symm (by omega)) fun n' s ⟨h3,h4,h5,h6⟩=>?_
    exact ⟨(hn.B3.trans h3).weak (by omega),by omega,h5,by omega⟩
  ·intro at_ n ts hg ha hn he hat;unfold EB
   subst he
   refine R.ite (fun h=>?_) fun _=>?_
   ·have ht:=(CX.refl hg ha).tail (AW h)
    have:=ht.len;have:=ht.le
    refine R.bind (ih.exp _ _ (by decide) ht.good ht.CD) fun e r he=>?_
    have:=he.at_;have:=he.size
    refine R.bind (IT (ht.trans he.B3)) fun _ r2 ⟨h2,h2'⟩=>?_
    have:=h2.le
    refine R.weak (ih.DA _ _ r2 h2.good h2.CD (DS.mk ⟨⟨Int.le_refl _,hn⟩,⟨by omega,he.ord⟩,trivial⟩ (by decide)) rfl (show n.at_≤_ by omega)) fun n' s ⟨h3,h4,h5,h6⟩=>?_
    simp only [sz,Au] at h6
    exact ⟨(h2.trans h3).weak (by omega),h4,h5,by omega⟩
   refine R.ite (fun h=>?_) fun _=>?_
   ·have ht:=(CX.refl hg ha).tail (AW h)
    have:=ht.len;have:=ht.le
    refine R.bind (RI (by decide) ht.good ht.CD) fun e r he=>?_
    have:=he.at_;have:=he.size;have:=he.B3.le
    refine R.weak (ih.DA _ _ r he.B3.good he.B3.CD (DS.mk ⟨⟨Int.le_refl _,hn⟩,⟨by omega,he.ord⟩,trivial⟩ (by decide)) rfl (show n.at_≤_ by omega)) fun n' s ⟨h3,h4,h5,h6⟩=>?_
    simp only [sz,Au] at h6
    exact ⟨((ht.trans he.B3).trans h3).weak (by omega),h4,h5,by omega⟩
   refine R.ite (fun h=>?_) fun _=>R.ok ⟨CX.refl hg ha,rfl,hn,Nat.le_refl _⟩
   have ht:=(CX.refl hg ha).tail (AW h)
   have:=ht.len;have:=ht.le
   refine R.bind (Q1:=LE 0 n.at_ [] ts.tail) ?_ fun l r hl=>?_
   ·refine R.ite (fun _=>R.ok ⟨CX.refl ht.good ht.CD,trivial,Nat.le_refl _⟩) fun _=>?_
    exact R.weak (ih.Do n.at_ _ ht.good ht.CD (by omega)) fun l r hl=>⟨hl.B3.weak (by omega),hl.ord,hl.size⟩
   refine R.bind (IT (ht.trans hl.B3)) fun _ r2 ⟨h2,h2'⟩=>?_
   have:=h2.le
   have h7:=hl.size
   simp only [Au] at h7
   refine R.weak (ih.DA _ _ r2 h2.good h2.CD (DS.mk ⟨⟨Int.le_refl _,hn⟩,hl.ord⟩ (by decide)) rfl (show n.at_≤_ by omega)) fun n' s ⟨h3,h4,h5,h6⟩=>?_
   simp only [sz,Au] at h6
   exact ⟨(h2.trans h3).weak (by omega),h4,h5,by omega⟩
  ·intro lo ts hg ha hlo;unfold DT
   refine R.bind (ih.exp _ _ (by decide) hg ha) fun e r he=>?_
   have:=he.at_;have:=he.size;have:=he.B3.le
   refine R.weak (ih.Gz _ lo r he.B3.good he.B3.CD (by omega) (one (by omega) he.ord)) fun l s hl=>?_
   have h7:=hl.size
   simp only [Au] at h7
   exact ⟨(he.B3.trans hl.B3).weak (by omega),hl.ord,by simp only [Au];omega⟩
  ·intro acc lo ts hg ha hlo hacc;unfold F0
   refine R.ite (fun h=>?_) fun _=>R.ok ⟨CX.refl hg ha,hacc,Nat.le_refl _⟩
   have ht:=(CX.refl hg ha).tail (AW h)
   have:=ht.len;have:=ht.le
   refine R.bind (ih.exp _ _ (by decide) ht.good ht.CD) fun e r he=>?_
   have:=he.at_;have:=he.size;have:=he.B3.le
   refine R.weak (ih.Gz _ lo r he.B3.good he.B3.CD (by omega) (hacc.snoc (by omega) he.ord)) fun l s hl=>?_
   have h7:=hl.size
   simp only [DB,Au] at h7
   exact ⟨((ht.trans he.B3).trans hl.B3).weak (by omega),hl.ord,by omega⟩
structure TB (ts:List Tk) (n:Tree) (r:List Tk):Prop where
 B3:CX 0 ts r
 at_:n.at_=at0 ts
 ord:DS n
 size:sz n+4 * r.length≤4 * ts.length+1
 kind:n.kind=20
structure OS (f:Nat):Prop where
 block:∀ c ts,Good ts→Asc ts→R (DM f c ts) (TB ts)
 Es:∀ c at_ acc ts,Good ts→Asc ts→at_≤at0 ts→Gp at_ acc→(acc.Pairwise fun x y=>x.at_ < y.at_)→(∀ x ∈ acc,x.at_ < at0 ts)→R (Dt f c at_ acc ts) fun n r=>CX 0 ts r∧n.at_=at_∧DS n∧sz n+4 * r.length≤Au acc+4 * ts.length+1∧n.kind=20
 function:∀ ts,(hd ts).1≠6→Good ts→Asc ts→R (EY f ts) (TE 0 ts)
 body:∀ ts,Good ts→Asc ts→R (E9 f ts) fun b r=>CX 2 ts r∧at0 ts≤b.at_∧DS b∧sz b+4 * r.length+7≤4 * ts.length
 stat:∀ ts,Good ts→Asc ts→R (EK f ts) (TE 0 ts)
 branches:∀ acc lo ts,Good ts→Asc ts→lo≤at0 ts→Gp lo acc→R (Fz f acc ts) (LE 1 lo acc ts)
 for_:∀ at_ ts,Good ts→Asc ts→at_≤at0 ts→R (F9 f at_ ts) fun n r=>CX 1 ts r∧n.at_=at_∧DS n∧sz n+4 * r.length≤4 * ts.length
 plain:∀ ts,Good ts→Asc ts→R (FA f ts) (TE 0 ts)
 targets:∀ acc lo e ts,Good ts→Asc ts→lo≤at0 ts→Gp lo acc→lo≤e.at_→DS e→R (EZ f acc e ts) fun l r=>CX 0 ts r∧Gp lo l∧Au l+4 * r.length≤Au acc+sz e+4 * ts.length
theorem Avh {acc:List Tree} {x:Tree} (h:acc.Pairwise fun x y=>x.at_ < y.at_) (h2:∀ y ∈ acc,y.at_ < x.at_):(acc++[x]).Pairwise fun x y=>x.at_ < y.at_:=by
 refine List.pairwise_append.2 ⟨h,List.pairwise_singleton ..,fun y hy z hz=>?_⟩
 obtain rfl:=F7.1 hz
 exact h2 y hy
theorem rS:∀ f,OS f
 | 0=>by constructor <;> intros <;> (first | unfold DM | unfold Dt | unfold EY | unfold E9 | unfold EK | unfold Fz | unfold F9 | unfold FA | unfold EZ) <;> exact R.none
 | f+1=>by
  have ih:=rS f
  have ie:=rE f
  constructor
  ·intro c ts hg ha;unfold DM
   refine R.weak (ih.Es c _ [] ts hg ha (Int.le_refl _) trivial List.Pairwise.nil (fun _ h=>by cases h)) fun n r ⟨h1,h2,h3,h4,h5⟩=>?_
   simp only [Au] at h4
   exact ⟨h1,h2,h3,by omega,h5⟩
  ·intro c at_ acc ts hg ha hat hacc hp hlt;unfold Dt
   have next:∀ x r,TE 0 ts x r→R (Dt f c at_ (acc++[x]) r) fun n r=>CX 0 ts r∧n.at_=at_∧DS n∧sz n+4 * r.length≤Au acc+4 * ts.length+1∧n.kind=20:=fun x r hx=>by
    have:=hx.at_;have:=hx.size;have:=hx.B3.len
    have h9:=hx.B3.lt (by omega)
    refine R.weak (ih.Es c at_ (acc++[x]) r hx.B3.good hx.B3.CD (by omega) (hacc.snoc (by omega) hx.ord) (Avh hp fun y hy=>by have:=hlt y hy;omega) fun y hy=>?_) fun n s ⟨h1,h2,h3,h4,h5⟩=>?_
    ·rcases EQ.1 hy with hy | hy
     ·have:=hlt y hy;omega
     ·obtain rfl:=F7.1 hy;omega
    ·simp only [DB,Au] at h4
     exact ⟨(hx.B3.trans h1).weak (by omega),h2,h3,by omega,h5⟩
   refine R.ite (fun h=>?_) fun _=>?_
   ·have ht:=(CX.refl hg ha).tail (AW h)
    have:=ht.len;have:=ht.le
    refine R.weak (ih.Es c at_ acc _ ht.good ht.CD (by omega) hacc hp fun x hx=>by have:=hlt x hx;omega) fun n s ⟨h1,h2,h3,h4,h5⟩=>?_
    exact ⟨(ht.trans h1).weak (by omega),h2,h3,by omega,h5⟩
   refine R.ite (fun h=>?_) fun _=>?_
   ·have ht:=(CX.refl hg ha).tail (AW h)
    have:=ht.len;have:=ht.le
    refine R.bind (Q1:=LE 0 (at0 ts) [] ts.tail) ?_ fun l r hl=>?_
    ·refine R.ite (fun _=>R.ok ⟨CX.refl ht.good ht.CD,trivial,Nat.le_refl _⟩) fun _=>?_
     exact R.weak (ie.Do (at0 ts) _ ht.good ht.CD (by omega)) fun l r hl=>⟨hl.B3.weak (by omega),hl.ord,hl.size⟩
    have h7:=hl.size
    simp only [Au] at h7
    have hr:CX 0 ts (if AB Ed r=true then r.tail else r)∧(if AB Ed r=true then r.tail else r).length≤r.length:=by
     split
     ·rename_i hc
      have:=(hl.B3.good.tail (AW hc)).2.1
      exact ⟨((ht.trans hl.B3).tail (AW hc)).weak (by omega),by omega⟩
     ·exact ⟨(ht.trans hl.B3).weak (by omega),Nat.le_refl _⟩
    have:=hr.2
    refine R.ok ⟨hr.1,rfl,⟨hacc.snoc (show at_≤at0 ts by omega) (DS.mk hl.ord (by decide)),fun _=>Avh hp fun y hy=>hlt y hy⟩,?_,rfl⟩
    simp only [sz,Au,DB]
    omega
   refine R.ite (fun h=>?_) fun _=>?_
   ·simp only [Bool.and_eq_true] at h
    exact R.bind (ih.function ts (AW h.2) hg ha) next
   refine R.ite (fun h=>?_) fun _=>R.bind (ih.stat ts hg ha) next
   refine R.ok ⟨CX.refl hg ha,rfl,⟨hacc,fun _=>hp⟩,?_,rfl⟩
   simp only [sz];omega
  ·intro ts h6 hg ha;unfold EY
   have ht:=(CX.refl hg ha).tail h6
   have:=ht.len;have:=ht.le
   refine R.bind (RI (by decide) ht.good ht.CD) fun nm r hn=>?_
   have:=hn.size
   have hnp:1≤sz nm:=by cases nm;simp only [sz];omega
   refine R.bind (IT (ht.trans hn.B3)) fun _ r2 ⟨h2,h2'⟩=>?_
   have:=h2.le
   refine R.bind (Q1:=LE 0 (at0 ts) [] r2) ?_ fun ps r3 hl=>?_
   ·refine R.ite (fun _=>R.ok ⟨CX.refl h2.good h2.CD,trivial,Nat.le_refl _⟩) fun _=>?_
    exact R.weak (Avy f h2.good h2.CD (by omega)) fun l r hl=>⟨hl.B3.weak (by omega),hl.ord,hl.size⟩
   refine R.bind (IT (h2.trans hl.B3)) fun _ r4 ⟨h4,h4'⟩=>?_
   have h7:=hl.size
   simp only [Au] at h7
   have:=h4.le
   refine R.bind (ih.block false r4 h4.good h4.CD) fun b r5 hb=>?_
   have:=hb.at_;have:=hb.size
   refine R.bind (IT (h4.trans hb.B3)) fun _ r6 ⟨h8,h8'⟩=>R.ok ?_
   refine ⟨h8.weak (by omega),rfl,DS.mk (hl.ord.snoc (show at0 ts≤_ by omega) hb.ord) (by decide),?_⟩
   simp only [sz,Au,DB]
   omega
  ·intro ts hg ha;unfold E9
   refine R.bind (IT (CX.refl hg ha)) fun _ r ⟨h1,h1'⟩=>?_
   have:=h1.le
   refine R.bind (ih.block false r h1.good h1.CD) fun b r2 hb=>?_
   have:=hb.at_;have:=hb.size
   refine R.bind (IT (h1.trans hb.B3)) fun _ r3 ⟨h3,h3'⟩=>R.ok ?_
   exact ⟨h3.weak (by omega),by omega,hb.ord,by omega⟩
  ·intro ts hg ha;unfold EK
   refine R.ite (fun h=>?_) fun _=>?_
   ·refine R.bind (ih.body ts hg ha) fun b r ⟨h1,h2,h3,h4⟩=>R.ok ?_
    exact ⟨h1.weak (by omega),rfl,DS.mk (one (show at0 ts≤_ by omega) h3) (by decide),by simp only [sz,Au];omega⟩
   refine R.ite (fun h=>?_) fun _=>?_
   ·have ht:=(CX.refl hg ha).tail (AW h)
    have:=ht.len;have:=ht.le
    refine R.bind (ie.exp _ _ (by decide) ht.good ht.CD) fun e r he=>?_
    have:=he.at_;have:=he.size;have:=he.B3.le
    refine R.bind (ih.body r he.B3.good he.B3.CD) fun b r ⟨h1,h2,h3,h4⟩=>R.ok ?_
    exact ⟨((ht.trans he.B3).trans h1).weak (by omega),rfl,DS.mk ⟨⟨show at0 ts≤_ by omega,he.ord⟩,⟨show at0 ts≤_ by omega,h3⟩,trivial⟩ (by decide),by simp only [sz,Au];omega⟩
   refine R.ite (fun h=>?_) fun _=>?_
   ·have ht:=(CX.refl hg ha).tail (AW h)
    have:=ht.len;have:=ht.le
    refine R.bind (ih.branches [] (at0 ts) _ ht.good ht.CD (by omega) trivial) fun l r hl=>R.ok ?_
    have h7:=hl.size
    simp only [Au] at h7
    exact ⟨(ht.trans hl.B3).weak (by omega),rfl,DS.mk hl.ord (by decide),by simp only [sz];omega⟩
   refine R.ite (fun h=>?_) fun _=>?_
   ·have ht:=(CX.refl hg ha).tail (AW h)
    have:=ht.len;have:=ht.le
    refine R.weak (ih.for_ (at0 ts) _ ht.good ht.CD (by omega)) fun n r ⟨h1,h2,h3,h4⟩=>?_
    exact ⟨(ht.trans h1).weak (by omega),h2,h3,by omega⟩
   refine R.ite (fun h=>?_) fun _=>?_
   ·have ht:=(CX.refl hg ha).tail (AW h)
    have:=ht.len;have:=ht.le
    refine R.bind (Avy f ht.good ht.CD (lo:=at0 ts) (by omega)) fun l r hl=>?_
    have:=hl.B3.le
    have h7:=hl.size
    simp only [Au] at h7
    refine R.bind (Q1:=LE 0 (at0 ts) [] r) ?_ fun es r2 he=>R.ok ?_
    ·refine R.ite (fun hc=>?_) fun _=>R.ok ⟨CX.refl hl.B3.good hl.B3.CD,trivial,Nat.le_refl _⟩
     have ht2:=(CX.refl hl.B3.good hl.B3.CD).tail (AW hc)
     have:=ht2.len;have:=ht2.le
     exact R.weak (ie.Do (at0 ts) _ ht2.good ht2.CD (by omega)) fun l r hl=>⟨(ht2.trans hl.B3).weak (by omega),hl.ord,by have:=hl.size;omega⟩
    have h8:=he.size
    simp only [Au] at h8
    exact ⟨((ht.trans hl.B3).trans he.B3).weak (by omega),rfl,DS.mk (hl.ord.app he.ord) (by decide),by simp only [sz,DB];omega⟩
   refine R.ite (fun h=>?_) fun _=>ih.plain ts hg ha
   have:=Rq (k:=29) (t:=noB) (n:=0) (by decide) hg ha (AW h)
   exact R.ok ⟨this.B3,this.at_,this.ord,by have:=this.size;omega⟩
  ·intro acc lo ts hg ha hlo hacc;unfold Fz
   refine R.bind (ie.exp _ _ (by decide) hg ha) fun e r he=>?_
   have:=he.at_;have:=he.size;have:=he.B3.le
   refine R.bind (IT he.B3) fun _ r2 ⟨h2,h2'⟩=>?_
   have:=h2.le
   refine R.bind (ih.block false r2 h2.good h2.CD) fun b r3 hb=>?_
   have:=hb.at_;have:=hb.size;have:=hb.B3.le
   have h3:=h2.trans hb.B3
   have hacc':=(hacc.snoc (x:=e) (by omega) he.ord).snoc (x:=b) (by omega) hb.ord
   refine R.ite (fun h=>?_) fun _=>?_
   ·have ht:=h3.tail (AW h)
    have:=ht.le
    have:=(h3.good.tail (AW h)).2.1
    refine R.weak (ih.branches _ lo _ ht.good ht.CD (by omega) hacc') fun l s hl=>?_
    have h7:=hl.size
    simp only [DB,Au] at h7
    exact ⟨(ht.trans hl.B3).weak (by omega),hl.ord,by omega⟩
   refine R.ite (fun h=>?_) fun _=>?_
   ·have ht:=h3.tail (AW h)
    have:=ht.le
    have:=(h3.good.tail (AW h)).2.1
    refine R.bind (ih.block false _ ht.good ht.CD) fun c r4 hc=>?_
    have:=hc.at_;have:=hc.size
    refine R.bind (IT (ht.trans hc.B3)) fun _ r5 ⟨h5,h5'⟩=>R.ok ?_
    exact ⟨h5.weak (by omega),hacc'.snoc (by omega) hc.ord,by simp only [DB,Au];omega⟩
   ·refine R.bind (IT h3) fun _ r5 ⟨h5,h5'⟩=>R.ok ?_
    exact ⟨h5.weak (by omega),hacc',by simp only [DB,Au];omega⟩
  ·intro at_ ts hg ha hat;unfold F9
   refine R.bind (RI (by decide) hg ha) fun n r hn=>?_
   have:=hn.at_;have:=hn.size;have:=hn.B3.le
   refine R.ite (fun h=>?_) fun _=>?_
   ·have ht:=hn.B3.tail (AW h)
    have:=ht.le
    have:=(hn.B3.good.tail (AW h)).2.1
    refine R.bind (ie.exp _ _ (by decide) ht.good ht.CD) fun a r2 h2=>?_
    have:=h2.at_;have:=h2.size
    refine R.bind (IT (ht.trans h2.B3)) fun _ r3 ⟨h3,h3'⟩=>?_
    have:=h3.le
    refine R.bind (ie.exp _ _ (by decide) h3.good h3.CD) fun b r4 h4=>?_
    have:=h4.at_;have:=h4.size;have:=h4.B3.le
    refine R.bind (Q1:=LE 0 at_ [] r4) ?_ fun cs r5 h5=>?_
    ·refine R.ite (fun hc=>?_) fun _=>R.ok ⟨CX.refl h4.B3.good h4.B3.CD,trivial,Nat.le_refl _⟩
     have ht2:=(CX.refl h4.B3.good h4.B3.CD).tail (AW hc)
     have:=ht2.len;have:=ht2.le
     refine R.bind (ie.exp _ _ (by decide) ht2.good ht2.CD) fun c s hc=>R.ok ?_
     have:=hc.at_;have:=hc.size
     exact ⟨(ht2.trans hc.B3).weak (by omega),one (by omega) hc.ord,by simp only [Au];omega⟩
    have h7:=h5.size
    simp only [Au] at h7
    have:=h5.B3.le
    refine R.bind (ih.body r5 h5.B3.good h5.B3.CD) fun bd r6 ⟨h8,h9,h10,h11⟩=>R.ok ?_
    refine ⟨(((h3.trans h4.B3).trans h5.B3).trans h8).weak (by omega),rfl,DS.mk ?_ (by decide),by simp only [sz,DB,Au];omega⟩
    exact ((((one (x:=n) (by omega) hn.ord).snoc (x:=a) (by omega) h2.ord).snoc (x:=b) (by omega) h4.ord).app h5.ord).snoc (x:=bd) (by omega) h10
   refine R.bind (Ae6 f [n] at_ r hn.B3.good hn.B3.CD (by omega) (one (by omega) hn.ord)) fun l r2 hl=>?_
   have h7:=hl.size
   simp only [Au] at h7
   refine R.bind (IT (hn.B3.trans hl.B3)) fun _ r3 ⟨h3,h3'⟩=>?_
   have:=h3.le
   refine R.bind (ie.Do at_ r3 h3.good h3.CD (by omega)) fun es r4 h4=>?_
   have h8:=h4.size
   simp only [Au] at h8
   have:=h4.B3.le
   refine R.bind (ih.body r4 h4.B3.good h4.B3.CD) fun bd r6 ⟨h9,h10,h11,h12⟩=>R.ok ?_
   exact ⟨((h3.trans h4.B3).trans h9).weak (by omega),rfl,DS.mk ((hl.ord.app h4.ord).snoc (x:=bd) (by omega) h11) (by decide),by simp only [sz,DB,Au];omega⟩
  ·intro ts hg ha;unfold FA
   refine R.bind (ie.El ts hg ha) fun e r he=>?_
   have:=he.at_;have:=he.size;have:=he.B3.le
   refine R.ite (fun h=>?_) fun _=>?_
   ·refine R.bind (ih.targets [] (at0 ts) e r he.B3.good he.B3.CD (by omega) trivial (by omega) he.ord) fun l r2 ⟨h1,h2,h3⟩=>?_
    simp only [Au] at h3
    refine R.bind (IT (he.B3.trans h1)) fun _ r3 ⟨h4,h4'⟩=>?_
    have:=h4.le
    refine R.bind (ie.Do (at0 ts) r3 h4.good h4.CD (by omega)) fun es r4 h5=>R.ok ?_
    have h6:=h5.size
    simp only [Au] at h6
    exact ⟨(h4.trans h5.B3).weak (by omega),he.at_,DS.mk ((h2.app h5.ord).weak (by omega)) (by decide),by simp only [sz,DB];omega⟩
   refine R.ite (fun h=>R.ok ?_) fun _=>R.bad
   exact ⟨he.B3,he.at_,DS.mk (one (Int.le_refl _) he.ord) (by decide),by simp only [sz,Au];omega⟩
  ·intro acc lo e ts hg ha hlo hacc he0 he;unfold EZ
   refine R.ite (fun h=>?_) fun _=>R.bad
   have hacc':=hacc.snoc he0 he
   refine R.ite (fun h=>?_) fun _=>R.ok ⟨CX.refl hg ha,hacc',by simp only [DB,Au];omega⟩
   have ht:=(CX.refl hg ha).tail (AW h)
   have:=ht.len;have:=ht.le
   refine R.bind (ie.El _ ht.good ht.CD) fun e' r hx=>?_
   have:=hx.at_;have:=hx.size;have:=hx.B3.le
   refine R.weak (ih.targets _ lo e' r hx.B3.good hx.B3.CD (by omega) hacc' (by omega) hx.ord) fun l s ⟨h1,h2,h3⟩=>?_
   simp only [DB,Au] at h3
   exact ⟨((ht.trans hx.B3).trans h1).weak (by omega),h2,by omega⟩
theorem Bvb {c:Bool} {ts r:List Tk} {b:Tree} (hg:Good ts) (ha:Asc ts) (h:H6 c ts=.ok b r):TB ts b r :=
 (rS _).block c ts hg ha b r ((N6 c hg (by unfold fu;omega:_≤fu ts)).trans (congrArg some h))
end
section
namespace Lx
theorem Afg (f:Nat) (l:Bs) (at_:Nat) (acc:List Tok):Iy (f+1) l at_ acc =
  match Dx (l.drop (BP Cr l)) with
  | .done=>.inr (acc++[⟨6,[],0,at_+BP Cr l⟩])
  | .skip n=>Iy f ((l.drop (BP Cr l)).drop n) (at_+BP Cr l+n) acc
  | .tok kind text n len=>Iy f ((l.drop (BP Cr l)).drop len) (at_+BP Cr l+len) (acc++[⟨kind,text,n,at_+BP Cr l⟩])
  | .bad c r=>.inl (c,(at_+BP Cr l+r:Nat)):=rfl
theorem SL (b:UInt8) (t:Bs) (h:b.toNat < 128):Cl (b :: t)=(b.toNat,1):=by
 unfold Cl
 simp only [List.getD_cons_zero]
 rw [if_pos h]
end Lx
namespace Lx
theorem Li (l:Bs):(∀ n,Dx l=.skip n→1≤n∧n≤l.length)∧(∀ k t n len,Dx l=.tok k t n len→1≤len∧len≤l.length) :=
 ⟨fun n h=>Axj l n h,fun k t n len h=>Axl l k t n len h⟩
theorem Xr:∀ (f g:Nat) (l:Bs) (at_:Nat) (acc:List Tok),l.length < f→l.length < g→Iy f l at_ acc=Iy g l at_ acc
 | 0,_,l,_,_,h,_=>by omega
 | _,0,l,_,_,_,h=>by omega
 | f+1,g+1,l,at_,acc,h,h'=>by
  rw [Afg,Afg]
  have hd:(l.drop (BP Cr l)).length≤l.length:=by rw [BX];omega
  cases hst:Dx (l.drop (BP Cr l)) with
  | done=>rfl
  | bad c r=>rfl
  | skip n =>
   have:=(Li _).1 n hst
   exact Xr f g _ _ _ (by rw [BX];omega) (by rw [BX];omega)
  | tok k t n len =>
   have:=(Li _).2 k t n len hst
   exact Xr f g _ _ _ (by rw [BX];omega) (by rw [BX];omega)
def EO (l:Bs) (at_:Nat) (acc:List Tok):(Int×Int) ⊕ List Tok:=Iy (l.length+1) l at_ acc
theorem IU (l:Bs) (at_:Nat) (acc:List Tok):EO l at_ acc =
  match Dx (l.drop (BP Cr l)) with
  | .done=>.inr (acc++[⟨6,[],0,at_+BP Cr l⟩])
  | .skip n=>EO ((l.drop (BP Cr l)).drop n) (at_+BP Cr l+n) acc
  | .tok kind text n len=>EO ((l.drop (BP Cr l)).drop len) (at_+BP Cr l+len) (acc++[⟨kind,text,n,at_+BP Cr l⟩])
  | .bad c r=>.inl (c,(at_+BP Cr l+r:Nat)):=by
 unfold EO
 rw [Afg]
 have hd:(l.drop (BP Cr l)).length≤l.length:=by rw [BX];omega
 cases hst:Dx (l.drop (BP Cr l)) with
 | done=>rfl
 | bad c r=>rfl
 | skip n =>
  have:=(Li _).1 n hst
  exact Xr _ _ _ _ _ (by rw [BX];omega) (by omega)
 | tok k t n len =>
  have:=(Li _).2 k t n len hst
  exact Xr _ _ _ _ _ (by rw [BX];omega) (by omega)
theorem Yv (x:UInt8) (h:x.toNat < 128):(x.toNat / 64 == 2)=false:=by rw [beq_eq_false_iff_ne];omega
theorem Yy:∀ (l r:Bs),l≠[]→(∀ x t,r=x :: t→x.toNat < 128)→Cl (l++r)=Cl l
 | l,[],_,_=>by rw [List.append_nil]
 | [],_,h,_=>absurd rfl h
 | [a],x :: r,_,h=>by have:=Yv x (h x r rfl);simp [Cl,this]
 | [a,b],x :: r,_,h=>by have:=Yv x (h x r rfl);simp [Cl,this]
 | [a,b,c],x :: r,_,h=>by have:=Yv x (h x r rfl);simp [Cl,this]
 | a :: b :: c :: d :: l,x :: r,_,h=>by simp [Cl]
theorem SM (l r:Bs) (n:Nat) (h:n≤l.length):(l++r).drop n=l.drop n++r:=List.drop_append_of_le_length h
theorem RM (p:Nat→Bool) (r:Bs) (hr:∀ x t,r=x :: t→x.toNat < 128):∀ (n:Nat) (l:Bs),l.length≤n→(BP p l < l.length∨BP p r=0)→BP p (l++r)=BP p l
 | 0,l,h,hp=>by
  have:l=[]:=List.eq_nil_of_length_eq_zero (by omega)
  subst this
  rcases hp with hp | hp
  ·simp at hp
  ·rw [List.nil_append,hp];rfl
 | n+1,l,h,hp=>by
  by_cases hl:l=[]
  ·subst hl
   rcases hp with hp | hp
   ·simp at hp
   ·rw [List.nil_append,hp];rfl
  ·have hw:=JI l
   have hw3:=hw.2.2 hl
   rw [MC p (l++r) (by simp [hl]),Yy l r hl hr,SM _ _ _ hw3]
   rw [MC p l hl] at hp ⊢
   by_cases hq:p (Cl l).1=true
   ·rw [if_pos hq] at hp ⊢
    rw [if_pos hq]
    rw [RM p r hr n _ (by rw [BX];omega) (by rw [BX];rcases hp with hp | hp;exact .inl (by omega);exact .inr hp)]
   ·rw [if_neg hq,if_neg hq]
theorem Xa (s l r:Bs) (hs:s.length≤2) (hl:l≠[]) (hr:∀ x t,r=x :: t→s[1]?≠some x):s.isPrefixOf (l++r)=s.isPrefixOf l:=by
 obtain ⟨c,l,rfl⟩:∃ c l',l=c :: l':=by cases l with | nil=>exact absurd rfl hl | cons c l'=>exact ⟨c,l',rfl⟩
 match s,hs with
 | [],_=>simp
 | [a],_=>simp [List.isPrefixOf]
 | [a,b],_ =>
  cases l with
  | cons d l=>simp [List.isPrefixOf]
  | nil =>
   cases r with
   | nil=>rfl
   | cons x t =>
    have:=hr x t rfl
    have hb:(b == x)=false:=by
     rw [beq_eq_false_iff_ne]
     rintro rfl
     exact this rfl
    simp [List.isPrefixOf,hb]
def Jn (r:Bs):Prop:=∃ x t,r=x :: t∧(x=32∨x=10∨x=41)
theorem Jn.low {r:Bs} (h:Jn r):∀ x t,r=x :: t→x.toNat < 128:=by
 obtain ⟨x,t,rfl,hx⟩:=h
 intro y u e
 cases e
 rcases hx with rfl | rfl | rfl <;> decide
theorem Btu:∀ s ∈ Iz,s.length≤2∧s[1]?≠some 32∧s[1]?≠some 10∧s[1]?≠some 41:=by decide
theorem find_congr {α:Type} (p q:α→Bool):∀ (l:List α),(∀ x ∈ l,p x=q x)→l.find? p=l.find? q
 | [],_=>rfl
 | a :: l,h=>by
  rw [List.find?_cons,List.find?_cons,h a (by simp),find_congr p q l (fun x hx=>h x (by simp [hx]))]
theorem Btq (l r:Bs) (hl:l≠[]) (hr:Jn r):Qa (l++r)=Qa l:=by
 unfold Qa
 refine find_congr _ _ _ fun s hs=>?_
 obtain ⟨h1,h2,h3,h4⟩:=Btu s hs
 refine Xa s l r h1 hl fun x t e=>?_
 obtain ⟨y,u,e2,hy⟩:=hr
 rw [e] at e2
 cases e2
 rcases hy with rfl | rfl | rfl
 ·exact h2
 ·exact h3
 ·exact h4
theorem Bbf (r:Bs) (h:Jn r):∀ m n k,Cv m r n k=(n,k):=by
 obtain ⟨x,t,rfl,hx⟩:=h
 intro m n k
 cases m with
 | zero=>rfl
 | succ m =>
  have:hexD x=none:=by rcases hx with rfl | rfl | rfl <;> decide
  simp [Cv,this]
theorem Za (r:Bs) (hr:Jn r):∀ (m:Nat) (t:Bs) (n k:Nat),Cv m (t++r) n k=Cv m t n k
 | 0,t,n,k=>rfl
 | m+1,[],n,k=>by rw [List.nil_append,Bbf r hr];rfl
 | m+1,b :: t,n,k=>by
  simp only [List.cons_append,Cv]
  split
  ·rfl
  ·exact Za r hr m t _ _
theorem Akr (r:Bs) (hr:Jn r):∀ (m:Nat) (t:Bs) (n k:Nat),ES m (t++r) n k=ES m t n k
 | 0,t,n,k=>rfl
 | m+1,[],n,k=>by
  obtain ⟨x,t,rfl,hx⟩:=hr
  have:¬ (48≤x.toNat∧x.toNat≤57):=by rcases hx with rfl | rfl | rfl <;> decide
  simp only [List.nil_append,ES,if_neg this]
 | m+1,b :: t,n,k=>by
  simp only [List.cons_append,ES]
  split
  ·exact Akr r hr m t _ _
  ·rfl
def uF (t:Bs):Qs :=
 if (Cv 8 t 0 0).2=0∨Utf8.valid (Cv 8 t 0 0).1=false∨(t.drop (Cv 8 t 0 0).2).head?≠some 125 then .GK
 else .ok (bs (Utf8.encode (Cv 8 t 0 0).1)) (4+(Cv 8 t 0 0).2)
theorem Ald (c:UInt8) (t:Bs):Kv (c :: t) =
  if Hw c≠0 then .ok [Hw c] 2
  else if c=120 then
   if (Cv 2 t 0 0).2 < 2 then .GK else .ok [UInt8.ofNat (Cv 2 t 0 0).1] 4
  else if c=117∧t.head? = some 123 then uF t.tail
  else if (ES 3 (c :: t) 0 0).2=0∨(ES 3 (c :: t) 0 0).1 > 255 then .GK
   else .ok [UInt8.ofNat (ES 3 (c :: t) 0 0).1] (1+(ES 3 (c :: t) 0 0).2):=rfl
theorem Alh (t:Bs):Kv (117 :: 123 :: t)=uF t:=by
 rw [Ald,if_neg (by decide),if_neg (by decide),if_pos ⟨rfl,rfl⟩]
 rfl
theorem Bu4 (t r e:Bs) (n:Nat) (hr:Jn r) (h:uF t=.ok e n):uF (t++r)=.ok e n:=by
 unfold uF at h ⊢
 rw [Za r hr]
 split at h
 ·cases h
 ·rename_i h4
  split
  ·rename_i h5
   exfalso
   refine h4 ?_
   rcases h5 with h5 | h5 | h5
   ·exact .inl h5
   ·exact .inr (.inl h5)
   ·refine .inr (.inr fun h6=>h5 ?_)
    have hlen:=Zb 8 t 0 0
    rw [SM _ _ _ (by omega)]
    cases hd:t.drop (Cv 8 t 0 0).2 with
    | nil=>rw [hd] at h6;simp at h6
    | cons y u=>rw [hd] at h6;exact h6
  ·exact h
theorem A5z (l r e:Bs) (n:Nat) (hr:Jn r) (h:Kv l=.ok e n):Kv (l++r)=.ok e n:=by
 cases l with
 | nil=>cases h
 | cons c t =>
  rw [List.cons_append]
  by_cases h3:c=117∧t.head? = some 123
  ·obtain ⟨rfl,h3⟩:=h3
   cases t with
   | nil=>simp at h3
   | cons d t =>
    simp only [List.head?_cons,Option.some.injEq] at h3
    subst h3
    rw [Alh] at h
    rw [List.cons_append,Alh]
    exact Bu4 t r e n hr h
  have h3':¬ (c=117∧(t++r).head? = some 123):=by
   rintro ⟨hc,hh⟩
   cases t with
   | nil =>
    obtain ⟨x,u,rfl,hx⟩:=hr
    rw [List.nil_append,List.head?_cons] at hh
    cases hh
    rcases hx with hx | hx | hx <;> exact absurd hx (by decide)
   | cons d t=>exact h3 ⟨hc,hh⟩
  rw [Ald] at h ⊢
  by_cases h1:Hw c≠0
  ·rw [if_pos h1] at h ⊢;exact h
  rw [if_neg h1] at h ⊢
  by_cases h2:c=120
  ·rw [if_pos h2] at h ⊢
   rw [Za r hr]
   exact h
  rw [if_neg h2] at h ⊢
  rw [if_neg h3] at h
  rw [if_neg h3',show c :: (t++r)=(c :: t)++r from rfl,Akr r hr]
  exact h
theorem Afw (q:UInt8) (r:Bs) (hr:Jn r):∀ (f g:Nat) (l acc:Bs) (i:Nat) (v:Bs) (k:Nat),f≤g→GJ q f l acc i=.ok v k→GJ q g (l++r) acc i=.ok v k
 | 0,_,l,acc,i,v,k,_,h=>by cases h
 | f+1,0,_,_,_,_,_,hf,_=>by omega
 | f+1,g+1,[],acc,i,v,k,_,h=>by cases h
 | f+1,g+1,b :: t,acc,i,v,k,hf,h=>by
  rw [List.cons_append]
  simp only [GJ] at h ⊢
  by_cases h1:b=10
  ·rw [if_pos h1] at h;cases h
  rw [if_neg h1] at h ⊢
  by_cases h2:b=q
  ·rw [if_pos h2] at h ⊢;exact h
  rw [if_neg h2] at h ⊢
  by_cases h3:b=92
  ·rw [if_pos h3] at h ⊢
   cases he:Kv t with
   | ended=>rw [he] at h;cases h
   | GK=>rw [he] at h;cases h
   | ok e n =>
    rw [he] at h
    rw [A5z t r e n hr he]
    simp only at h ⊢
    have hroom:=Alg t e n he
    rw [show b :: (t++r)=(b :: t)++r from rfl,SM _ _ _ (by simp only [AI];omega)]
    exact Afw q r hr f g _ _ _ v k (by omega) h
  ·rw [if_neg h3] at h ⊢
   exact Afw q r hr f g _ _ _ v k (by omega) h
theorem A8m (r:Bs) (hr:Jn r):BP Eu r=0:=by
 obtain ⟨x,t,rfl,hx⟩:=hr
 rw [MC _ _ (by simp),SL x t (by rcases hx with rfl | rfl | rfl <;> decide)]
 rcases hx with rfl | rfl | rfl <;> rfl
theorem Axi (l r:Bs) (hl:l≠[]) (hr:Jn r) (k:Int) (t:Bs) (n:Int) (len:Nat) (h:Dx l=.tok k t n len):Dx (l++r)=.tok k t n len:=by
 have hd:=Yy l r hl hr.low
 have hrun:=RM Eu r hr.low l.length l (Nat.le_refl _) (.inr (A8m r hr))
 have hle:=JW Eu l
 have htk:(l++r).take (BP Eu l)=l.take (BP Eu l):=List.take_append_of_le_length hle
 have hpre:[45,45].isPrefixOf (l++r)=[45,45].isPrefixOf l:=Xa [45,45] l r (by simp) hl fun x t e=>by
  obtain ⟨y,u,e2,hy⟩:=hr
  rw [e] at e2
  cases e2
  rcases hy with rfl | rfl | rfl <;> decide
 unfold Dx at h ⊢
 dsimp only at h ⊢
 rw [if_neg hl] at h
 rw [if_neg (by simp [hl])]
 simp only [hpre,hd,hrun,htk]
 by_cases h1:[45,45].isPrefixOf l=true
 ·rw [if_pos h1] at h;cases h
 rw [if_neg h1] at h ⊢
 by_cases h2:LS (Cl l).1=true
 ·rw [if_pos h2] at h ⊢;exact h
 rw [if_neg h2] at h ⊢
 by_cases h3:JJ (Cl l).1=true
 ·rw [if_pos h3] at h ⊢;exact h
 rw [if_neg h3] at h ⊢
 by_cases h4:(Cl l).1=34∨(Cl l).1=39
 ·rw [if_pos h4] at h ⊢
  cases ht:GJ (UInt8.ofNat (Cl l).1) l.length l.tail [] 1 with
  | bad c r'=>rw [ht] at h;cases h
  | ok v k' =>
   rw [ht] at h
   have htl:(l++r).tail=l.tail++r:=by cases l with | nil=>exact absurd rfl hl | cons=>rfl
   rw [htl,Afw _ r hr l.length (l++r).length l.tail [] 1 v k' (by rw [AV];omega) ht]
   exact h
 ·rw [if_neg h4] at h ⊢
  rw [Btq l r hl hr]
  exact h
theorem Bt4 (l r:Bs) (hl:l≠[]) (hr:Jn r) (n:Nat) (h:Dx l=.skip n) (hn:n < l.length):Dx (l++r)=.skip n:=by
 have hpre:[45,45].isPrefixOf (l++r)=[45,45].isPrefixOf l:=Xa [45,45] l r (by simp) hl fun x t e=>by
  obtain ⟨y,u,e2,hy⟩:=hr
  rw [e] at e2
  cases e2
  rcases hy with rfl | rfl | rfl <;> decide
 unfold Dx at h ⊢
 rw [if_neg hl] at h
 rw [if_neg (by simp [hl]),hpre]
 by_cases h1:[45,45].isPrefixOf l=true
 ·rw [if_pos h1] at h ⊢
  cases h
  rw [RM LJ r hr.low l.length l (Nat.le_refl _) (.inl hn)]
 ·rw [if_neg h1] at h
  exfalso
  dsimp only at h
  (repeat' split at h) <;> cases h
end Lx
end
section
open Go Go.RowKit Lx
def OD:Nat→Nat→List Tok→Prop
 | _,_,[]=>False
 | lo,hi,x :: t=>lo≤x.at_∧x.at_≤hi∧((x.kind=6∧t=[])∨(x.kind≠6∧OD (x.at_+1) hi t))
theorem OD.weak:∀ {t:List Tok} {lo lo' hi:Nat},lo'≤lo→OD lo hi t→OD lo' hi t
 | [],_,_,_,_,h=>h
 | _ :: _,_,_,_,hl,⟨h1,h2,h3⟩=>⟨Nat.le_trans hl h1,h2,h3⟩
theorem Bui (l:Bs) (k:Int) (t:Bs) (n:Int) (len:Nat) (h:Dx l=.tok k t n len):k≠6:=by
 unfold Dx at h
 dsimp only at h
 repeat' split at h
 all_goals first | (cases h;done) | (simp only [Step.tok.injEq] at h;obtain ⟨rfl,_⟩:=h;(repeat' split) <;> decide)
theorem Afh:∀ (f:Nat) (l:Bs) (at_:Nat) (acc t:List Tok),l.length < f→Iy f l at_ acc=.inr t→∃ t',t=acc++t'∧OD at_ (at_+l.length) t'
 | 0,l,_,_,_,hf,_=>absurd hf (Nat.not_lt_zero _)
 | f+1,l,at_,acc,t,hf,h=>by
  unfold Iy at h
  dsimp only at h
  have hk:=JW Cr l
  have hdl:(l.drop (BP Cr l)).length=l.length - BP Cr l:=BX
  cases hst:Dx (l.drop (BP Cr l)) with
  | done =>
   rw [hst] at h
   cases h
   exact ⟨_,rfl,by show at_≤at_+_;omega,by show at_+_≤_;omega,.inl ⟨rfl,rfl⟩⟩
  | bad c r=>rw [hst] at h;cases h
  | skip q =>
   have hq:=(Li _).1 q hst
   rw [hst] at h
   dsimp only at h
   have hlen:((l.drop (BP Cr l)).drop q).length=l.length - BP Cr l - q:=by rw [BX,hdl]
   obtain ⟨t',e,hR⟩:=Afh f _ _ _ _ (by omega) h
   refine ⟨t',e,?_⟩
   rw [show at_+l.length=at_+BP Cr l+q+((l.drop (BP Cr l)).drop q).length by omega]
   exact hR.weak (by omega)
  | tok kd tx x len =>
   have hq:=(Li _).2 _ _ _ _ hst
   rw [hst] at h
   dsimp only at h
   have hlen:((l.drop (BP Cr l)).drop len).length=l.length - BP Cr l - len:=by rw [BX,hdl]
   obtain ⟨t',e,hR⟩:=Afh f _ _ _ _ (by omega) h
   refine ⟨⟨kd,tx,x,at_+BP Cr l⟩ :: t',by rw [e,Ck];rfl,by show at_≤at_+_;omega,by show at_+_≤_;omega,.inr ⟨Bui _ _ _ _ _ hst,?_⟩⟩
   rw [show at_+l.length=at_+BP Cr l+len+((l.drop (BP Cr l)).drop len).length by omega]
   exact hR.weak (by show at_+_+1≤_;omega)
theorem OD.good:∀ {t:List Tok} {lo hi:Nat},OD lo hi t→Good (t.map Ff)∧Asc (t.map Ff)∧(∀ x ∈ t.map Ff,(lo:Int)≤x.2.2.2∧x.2.2.2≤hi)∧lo+t.length≤hi+1
 | [],_,_,h=>h.elim
 | x :: t,lo,hi,⟨h1,h2,h3⟩=>by
  rcases h3 with ⟨h6,rfl⟩ | ⟨h6,hR⟩
  ·refine ⟨h6,List.pairwise_singleton ..,fun y hy=>?_,by simp;omega⟩
   obtain rfl:=F7.1 hy
   exact ⟨by show (lo:Int)≤x.at_;omega,by show (x.at_:Int)≤hi;omega⟩
  ·obtain ⟨g1,g2,g3,g4⟩:=hR.good
   refine ⟨?_,List.pairwise_cons.2 ⟨fun y hy=>?_,g2⟩,fun y hy=>?_,by simp only [AI];omega⟩
   ·cases t with
    | nil=>exact hR.elim
    | cons u t=>exact ⟨h6,g1⟩
   ·have:=(g3 y hy).1
    show (x.at_:Int) < _
    omega
   ·rcases List.mem_cons.1 hy with rfl | hy
    ·exact ⟨by show (lo:Int)≤x.at_;omega,by show (x.at_:Int)≤hi;omega⟩
    ·have:=g3 y hy
     exact ⟨by omega,this.2⟩
structure XX (n:Nat) (ts:List Tk):Prop where
 good:Good ts
 CD:Asc ts
 at_:∀ x ∈ ts,0≤x.2.2.2∧x.2.2.2≤n
 len:ts.length≤20001
theorem U2 (s:ByteArray) (t:List Tok) (h:G4 (bs s)=.inr t):XX s.size (t.map Ff):=by
 unfold G4 at h
 split at h
 ·cases h
 ·rename_i hs
  have hl:(bs s).length=s.size:=C_ s
  obtain ⟨t',e,hR⟩:=Afh _ _ _ _ _ (Nat.lt_succ_self _) h
  rw [List.nil_append] at e
  subst e
  obtain ⟨g1,g2,g3,g4⟩:=hR.good
  refine ⟨g1,g2,fun x hx=>?_,by rw [List.length_map];omega⟩
  have:=g3 x hx
  omega
end
section
open Go Go.RowKit
structure Cx (n:Int) (ts:List Tk):Prop where
 good:Good ts
 CD:Asc ts
 at_:∀ x ∈ ts,0≤x.2.2.2∧x.2.2.2≤n
theorem Cx.suf {n:Int} {ts r:List Tk} (h:Cx n ts) (hg:Good r) (hs:r <:+ ts):Cx n r:=⟨hg,List.Pairwise.sublist hs.sublist h.CD,fun x hx=>h.at_ x (hs.subset hx)⟩
theorem Cx.tail {n:Int} {ts:List Tk} (h:Cx n ts) (h6:(hd ts).1≠6):Cx n ts.tail:=h.suf (h.good.tail h6).1 (h.good.tail h6).2.2
theorem Cx.hd {n:Int} {ts:List Tk} (h:Cx n ts):0≤(hd ts).2.2.2∧(hd ts).2.2.2≤n:=by
 cases ts with
 | nil=>exact h.good.elim
 | cons t ts=>exact h.at_ t (CB ..)
def BB {α:Type} (n:Int) (x:Option (PV α)):Prop:=∀ i,x=some (.bad i)→0≤i∧i≤n
section
variable {α β:Type} {n:Int} {m:Nat} {ts:List Tk} {x y:Option (PV α)} {f:α→List Tk→Option (PV β)}
theorem BB.bind (hC:Cx n ts) (hs:Step m ts x) (h1:BB n x) (h2:∀ a r,x=some (.ok a r)→Cx n r→BB n (f a r)):BB n (PV.bind x f):=fun i h=>by
 rcases bind_some h with ⟨j,hx,he⟩ | ⟨a,r,hx,hf⟩
 ·cases he;exact h1 _ hx
 ·obtain ⟨g1,_,g3⟩:=hs hC.good _ hx
  exact h2 a r hx (hC.suf g1 g3) i hf
theorem BB.ok {a:α} {r:List Tk}:BB n (some (.ok a r)):=fun _ h=>by cases h
theorem BB.bad {i:Int} (h:0≤i∧i≤n):BB n (some (.bad i):Option (PV α)):=fun _ h'=>by cases h';exact h
end
variable {n:Int}
structure GvE (n:Int) (f:Nat):Prop where
 exp:∀ least ts,0≤least→Cx n ts→BB n (D7 f least ts)
 loop:∀ least t ts,0≤least→Cx n ts→BB n (F1 f least t ts)
 operand:∀ ts,Cx n ts→BB n (Fs f ts)
 fields:∀ acc ts,Cx n ts→BB n (Fr f acc ts)
 field:∀ ts,Cx n ts→BB n (F8 f ts)
 El:∀ ts,Cx n ts→BB n (EL f ts)
 DA:∀ at_ t ts,Cx n ts→BB n (EB f at_ t ts)
 Do:∀ ts,Cx n ts→BB n (DT f ts)
 Gz:∀ acc ts,Cx n ts→BB n (F0 f acc ts)
structure GvS (n:Int) (f:Nat):Prop where
 block:∀ c ts,Cx n ts→BB n (DM f c ts)
 Es:∀ c at_ acc ts,Cx n ts→BB n (Dt f c at_ acc ts)
 function:∀ ts,(hd ts).1≠6→Cx n ts→BB n (EY f ts)
 body:∀ ts,Cx n ts→BB n (E9 f ts)
 stat:∀ ts,Cx n ts→BB n (EK f ts)
 branches:∀ acc ts,Cx n ts→BB n (Fz f acc ts)
 for_:∀ at_ ts,Cx n ts→BB n (F9 f at_ ts)
 plain:∀ ts,Cx n ts→BB n (FA f ts)
 targets:∀ acc e ts,Cx n ts→0≤e.at_∧e.at_≤n→BB n (EZ f acc e ts)
end
section
namespace Lx
def OJ (b:UInt8):Bool:=b == 32 || b == 9 || b == 10 || b == 13
theorem A3d {b:UInt8} (h:OJ b=true):b.toNat < 128∧Cr b.toNat=true:=by
 simp only [OJ,Bool.or_eq_true,beq_iff_eq] at h
 rcases h with ((rfl | rfl) | rfl) | rfl <;> decide
theorem A3f {b:UInt8} (h:Cr b.toNat=true):OJ b=true:=by
 simp only [Cr,Bool.or_eq_true,beq_iff_eq] at h
 simp only [OJ,Bool.or_eq_true,beq_iff_eq]
 rcases h with ((h | h) | h) | h
 ·exact .inl (.inl (.inl (UInt8.toNat_inj.1 h)))
 ·exact .inl (.inl (.inr (UInt8.toNat_inj.1 h)))
 ·exact .inl (.inr (UInt8.toNat_inj.1 h))
 ·exact .inr (UInt8.toNat_inj.1 h)
theorem Afe (x:Bs):∀ bl:Bs,(∀ b ∈ bl,OJ b=true)→BP Cr (bl++x)=bl.length+BP Cr x
 | [],_=>by simp
 | b :: bl,h=>by
  have hb:=A3d (h b (by simp))
  rw [List.cons_append,MC _ _ (by simp),SL b _ hb.1]
  simp only [hb.2,if_true,List.drop_succ_cons,List.drop_zero]
  rw [Afe x bl (fun y hy=>h y (by simp [hy]))]
  simp only [AI];omega
theorem Ajy:∀ (n:Nat) (l:Bs),l.length≤n→∀ b ∈ l.take (BP Cr l),OJ b=true
 | 0,l,h=>by
  have:l=[]:=List.eq_nil_of_length_eq_zero (by omega)
  subst this;simp
 | n+1,l,h=>by
  by_cases hl:l=[]
  ·subst hl;simp
  ·obtain ⟨c,t,rfl⟩:∃ c t,l=c :: t:=by cases l with | nil=>exact absurd rfl hl | cons c t=>exact ⟨c,t,rfl⟩
   rw [MC _ _ hl]
   split
   ·rename_i hp
    have hlow:(Cl (c :: t)).1 < 128:=by
     simp only [Cr,Bool.or_eq_true,beq_iff_eq] at hp
     omega
    have hc:c.toNat < 128:=by
     have h1:c.toNat=(Cl (c :: t)).1:=Akv (c :: t) hlow
     omega
    rw [SL c t hc] at hp ⊢
    simp only [List.drop_succ_cons,List.drop_zero]
    rw [Nat.add_comm,List.take_succ_cons]
    intro b hb
    rcases List.mem_cons.1 hb with rfl | hb
    ·exact A3f hp
    ·exact Ajy n t (by simpa using h) b hb
   ·simp
theorem Xs (x:Bs) (at_:Nat) (acc:List Tok) (bl:Bs) (h:∀ b ∈ bl,OJ b=true):EO (bl++x) at_ acc=EO x (at_+bl.length) acc:=by
 rw [IU (bl++x),IU x,Afe x bl h]
 have e:(bl++x).drop (bl.length+BP Cr x)=x.drop (BP Cr x):=by
  rw [← List.drop_drop,List.drop_left']
  rfl
 rw [e,Nat.add_assoc]
def Closed' (a:Bs):Prop:=∀ i,[45,45].isPrefixOf (a.drop i)=true→10 ∈ a.drop i
theorem Closed'.drop {a:Bs} (h:Closed' a) (k:Nat):Closed' (a.drop k):=fun i hi=>by
 rw [List.drop_drop] at hi ⊢
 exact h _ hi
theorem Bt5 {l:Bs} {n:Nat} (h:Dx l=.skip n):l≠[]∧[45,45].isPrefixOf l=true∧n=BP LJ l:=by
 unfold Dx at h
 by_cases h0:l=[]
 ·rw [if_pos h0] at h;cases h
 rw [if_neg h0] at h
 by_cases h1:[45,45].isPrefixOf l=true
 ·rw [if_pos h1] at h
  cases h
  exact ⟨h0,h1,rfl⟩
 ·rw [if_neg h1] at h
  exfalso
  dsimp only at h
  (repeat' split at h) <;> cases h
theorem A5a {l:Bs} (h:Dx l=.done):l=[]:=by
 unfold Dx at h
 by_cases h0:l=[]
 ·exact h0
 ·rw [if_neg h0] at h
  exfalso
  dsimp only at h
  (repeat' split at h) <;> cases h
def shift (d:Nat) (t:Tok):Tok:={ t with at_:=t.at_+d }
theorem Bs9 (d:Nat):∀ (n:Nat) (l:Bs) (at_:Nat) (acc S9:List Tok),l.length≤n →
  EO l (at_+d) (acc++S9.map (shift d))=match EO l at_ S9 with | .inl (c,a)=>.inl (c,a+d) | .inr t=>.inr (acc++t.map (shift d)):=by
 intro n
 induction n with
 | zero =>
  intro l at_ acc S9 hn
  have:l=[]:=List.eq_nil_of_length_eq_zero (by omega)
  subst this
  rw [IU,IU]
  have e0:Dx (([]:Bs).drop (BP Cr []))=.done:=rfl
  rw [e0]
  simp [shift,Xo]
 | succ n ih =>
  intro l at_ acc S9 hn
  rw [IU,IU]
  have hk:=JW Cr l
  cases hst:Dx (l.drop (BP Cr l)) with
  | done=>simp [shift,Nat.add_right_comm]
  | bad c r=>simp;omega
  | skip q =>
   have:=(Li _).1 q hst
   rw [BX] at this
   simp only
   rw [show at_+d+BP Cr l+q=at_+BP Cr l+q+d by omega]
   exact ih _ _ _ _ (by rw [BX,BX];omega)
  | tok kd tx x len =>
   have:=(Li _).2 _ _ _ _ hst
   rw [BX] at this
   simp only
   rw [show at_+d+BP Cr l+len=at_+BP Cr l+len+d by omega]
   have:=ih ((l.drop (BP Cr l)).drop len) (at_+BP Cr l+len) acc (S9++[⟨kd,tx,x,at_+BP Cr l⟩]) (by rw [BX,BX];omega)
   rw [← this]
   congr 1
   simp [shift,Nat.add_right_comm]
theorem A2t (l:Bs) (c:Int) (r:Nat) (h:Dx l=.bad c r):c≠0:=by
 have ht:∀ q f (l acc:Bs) i c r,GJ q f l acc i=.bad c r→c≠0:=by
  intro q f
  induction f with
  | zero=>intro l acc i c r h;cases h;decide
  | succ f ih =>
   intro l acc i c r h
   cases l with
   | nil=>cases h;decide
   | cons b t =>
    simp only [GJ] at h
    split at h
    ·cases h;decide
    split at h
    ·split at h
     ·cases h;decide
     ·cases h
    split at h
    ·split at h
     ·cases h;decide
     ·cases h;decide
     ·exact ih _ _ _ _ _ h
    ·exact ih _ _ _ _ _ h
 unfold Dx at h
 by_cases h0:l=[]
 ·rw [if_pos h0] at h;cases h
 rw [if_neg h0] at h
 by_cases h1:[45,45].isPrefixOf l=true
 ·rw [if_pos h1] at h;cases h
 rw [if_neg h1] at h
 by_cases h2:LS (Cl l).1=true
 ·rw [if_pos h2] at h
  dsimp only at h
  split at h
  ·cases h;decide
  ·cases h
 rw [if_neg h2] at h
 by_cases h3:JJ (Cl l).1=true
 ·rw [if_pos h3] at h
  dsimp only at h
  split at h
  ·rename_i hp
   cases h
   exact hp
  ·cases h
 rw [if_neg h3] at h
 split at h
 ·split at h
  ·rename_i c' r' hx
   cases h
   exact ht _ _ _ _ _ _ _ hx
  ·cases h
 ·split at h
  ·cases h;decide
  ·cases h
theorem Btm:∀ (n:Nat) (l:Bs) (at_:Nat) (acc:List Tok) (c p:Int),l.length≤n→EO l at_ acc=.inl (c,p)→c≠0:=by
 intro n
 induction n with
 | zero =>
  intro l at_ acc c p hn h
  have:l=[]:=List.eq_nil_of_length_eq_zero (by omega)
  subst this
  rw [IU] at h
  have e0:Dx (([]:Bs).drop (BP Cr []))=.done:=rfl
  rw [e0] at h
  cases h
 | succ n ih =>
  intro l at_ acc c p hn h
  rw [IU] at h
  have hk:=JW Cr l
  cases hst:Dx (l.drop (BP Cr l)) with
  | done=>rw [hst] at h;cases h
  | bad c' r =>
   rw [hst] at h
   simp only [Sum.inl.injEq,Prod.mk.injEq] at h
   rw [← h.1]
   exact A2t _ _ _ hst
  | skip q =>
   have:=(Li _).1 q hst
   rw [BX] at this
   rw [hst] at h
   exact ih _ _ _ _ _ (by rw [BX,BX];omega) h
  | tok kd tx x len =>
   have:=(Li _).2 _ _ _ _ hst
   rw [BX] at this
   rw [hst] at h
   exact ih _ _ _ _ _ (by rw [BX,BX];omega) h
theorem Awo (l:Bs) (h:l.length≤20000):G4 l=EO l 0 []:=by
 unfold G4 EO
 rw [if_neg (by omega)]
end Lx
end
section
open Go Go.RowKit Lx
abbrev Out:=Int×ByteArray×Int×Int×List Tree×Int×Int
def M6 (c a:Int):Out:=(0,⟨#[]⟩,0,0,[],c,a)
def JZ (n:Tree):Out:=(n.kind,n.text,n.n,n.at_,n.kids,0,0)
def Iv (s:ByteArray):Out :=
 match G4 (bs s) with
 | .inl (c,a)=>M6 c a
 | .inr t=>match J9 (t.map Ff) with
  | .ok n _=>JZ n
  | .bad i=>M6 4 i
theorem Xq (l:Bs) (c p:Int) (h:G4 l=.inl (c,p)):c≠0:=by
 unfold G4 at h
 split at h
 ·simp only [Sum.inl.injEq,Prod.mk.injEq] at h
  omega
 ·exact Btm l.length l 0 [] c p (Nat.le_refl _) h
theorem Agh {n:Nat} {ts:List Tk} (h:XX n ts):(∃ b r,H6 true ts=.ok b r∧TB ts b r∧((hd r).1=6∧J9 ts=.ok b r∨(hd r).1≠6∧J9 ts=.bad (hd r).2.2.2))∨∃ i,H6 true ts=.bad i∧J9 ts=.bad i:=by
 unfold J9
 cases hb:H6 true ts with
 | bad i=>exact .inr ⟨i,rfl,rfl⟩
 | ok b r =>
  refine .inl ⟨b,r,rfl,Bvb h.good h.CD hb,?_⟩
  by_cases h6:(hd r).1=6
  ·exact .inl ⟨h6,by simp [PV.then,h6]⟩
  ·exact .inr ⟨h6,by simp [PV.then,h6]⟩
theorem Ad2 {s:ByteArray} {c p:Int} (h:G4 (bs s)=.inl (c,p)):Iv s=M6 c p:=by unfold Iv;rw [h]
theorem WU {s:ByteArray} {t:List Tok} {b:Tree} {r:List Tk} (h:G4 (bs s)=.inr t) (hv:J9 (t.map Ff)=.ok b r):Iv s=JZ b:=by unfold Iv;rw [h];simp only [hv]
theorem Uk {s:ByteArray} {t:List Tok} {i:Int} (h:G4 (bs s)=.inr t) (hv:J9 (t.map Ff)=.bad i):Iv s=M6 4 i:=by unfold Iv;rw [h];simp only [hv]
theorem Bie (l:List Tk):ix l l=0:=by unfold ix;omega
theorem Aea (k:Nat) (hk:400000≤k) (s:ByteArray):LY.f k s=some (Iv s):=by
 unfold LY.f TR.f Abk Iv
 simp only [Aj]
 cases hs:G4 (bs s) with
 | inl x =>
  obtain ⟨c,p⟩:=x
  have:=Xq _ _ _ hs
  simp only
  rw [show (c != 0)=true by rw [bne_iff_ne];exact this]
  rfl
 | inr t =>
  have hT:=U2 s t hs
  simp only [bne_self_eq_false,cond_false]
  have hf:=A7q (l:=t.map Ff) (by have:=hT.len;omega) k true hT.good (List.suffix_refl _) (by have:=hT.len;omega)
  rw [Bie] at hf
  rw [hf]
  rcases Agh hT with ⟨b,r,hb,hB,h6⟩ | ⟨i,hb,he⟩
  ·have hw:=L8 true hT.good
   rw [hb] at hw ⊢
   obtain ⟨hg,_,Bf6⟩:=hw
   simp only [conv,PR.elim,BG]
   unfold Et.f
   simp only [eT]
   rw [ZX hg Bf6]
   simp only [Aj]
   rcases h6 with ⟨h6,he⟩ | ⟨h6,he⟩
   ·rw [he,show ((hd r).1 != 6)=false by rw [bne_eq_false_iff_eq];exact h6]
    rfl
   ·rw [he,show ((hd r).1 != 6)=true by rw [bne_iff_ne];exact h6]
    rfl
  ·rw [hb,he]
   rfl
def shp (k n:Int) (t:ByteArray) (l:List Tree):Prop :=
 t.size≤30000∧k≠31∧(k=7→l.length=2)∧(k=25→l.length=2)∧(k=26→4≤l.length)∧(k=21∨k=22→∃ m:Nat,n=m∧m≤l.length)∧(k=27→∃ m:Nat,n=m∧m+1≤l.length)
mutual
def wfT:Tree→Prop
 | .mk k t n _ l=>shp k n t l∧H8 l
def H8:List Tree→Prop
 | []=>True
 | x :: l=>wfT x∧H8 l
end
theorem Qk:∀ {l:List Tree},H8 l ↔ ∀ x ∈ l,wfT x
 | []=>by simp [H8]
 | x :: l=>by simp [H8,Qk (l:=l)]
theorem IZ {l m:List Tree} (h:H8 l) (h':H8 m):H8 (l++m):=by
 rw [Qk] at *
 intro y hy
 exact (EQ.1 hy).elim (h y) (h' y)
theorem wf1 {x:Tree} (h:wfT x):H8 [x]:=⟨h,trivial⟩
def fnT:Tree→Prop
 | .mk k t n _ l=>t.size≤30000∧k=31∧(∃ m:Nat,n=m∧l.length=m+1)∧H8 l
def Ax6 (x:Tree):Prop:=wfT x∨fnT x
def wfC:Tree→Prop
 | .mk k t _ _ l=>k=20∧t.size≤30000∧∀ x ∈ l,Ax6 x
def TT (ts:List Tk):Prop:=∀ x ∈ ts,x.2.1.size≤30000
theorem TT.tail {ts:List Tk} (h:TT ts):TT ts.tail:=fun x hx=>h x (List.mem_of_mem_tail hx)
theorem TT.hd {ts:List Tk} (h:TT ts):(hd ts).2.1.size≤30000:=by
 cases ts with
 | nil=>decide
 | cons x t=>exact h x (CB ..)
abbrev WT (n:Tree) (r:List Tk):Prop:=wfT n∧TT r
abbrev WL (l:List Tree) (r:List Tk):Prop:=H8 l∧TT r
theorem O3 {k:Int} {t:ByteArray} {n a:Int} {l:List Tree} (h1:t.size≤30000) (h2:H8 l) (h3:k≠31) (h4:k=7→l.length=2) (h5:k=25→l.length=2) (h6:k=26→4≤l.length) (h7:k=21∨k=22→∃ m:Nat,n=m∧m≤l.length) (h8:k=27→∃ m:Nat,n=m∧m+1≤l.length):wfT (.mk k t n a l):=⟨⟨h1,h3,h4,h5,h6,h7,h8⟩,h2⟩
theorem wfe {k:Int} {t:ByteArray} {n a:Int} {l:List Tree} (h1:t.size≤30000) (h2:H8 l) (h3:k≠31∧k≠7∧k≠25∧k≠26∧k≠21∧k≠22∧k≠27):wfT (.mk k t n a l):=by
 refine O3 h1 h2 h3.1 ?_ ?_ ?_ ?_ ?_ <;> intro h <;> exfalso
 ·exact h3.2.1 h
 ·exact h3.2.2.1 h
 ·exact h3.2.2.2.1 h
 ·exact h.elim h3.2.2.2.2.1 h3.2.2.2.2.2.1
 ·exact h3.2.2.2.2.2.2 h
theorem nx {p q:Prop} [Decidable p] (h:decide p=false) (hp:p):q:=absurd hp (of_decide_eq_false h)
theorem Gn:noB.size≤30000:=by decide
theorem IY {w:ByteArray} {ts:List Tk} (h:TT ts):R (E_ w ts) fun _ r=>TT r:=R.ite (fun _=>R.ok h.tail) fun _=>R.bad
theorem Sl {k:Int} {ts:List Tk} (hk:k≠31∧k≠7∧k≠25∧k≠26∧k≠21∧k≠22∧k≠27) (h:TT ts):R (It k ts) fun n r=>WT n r∧n.text.size≤30000:=R.ite (fun _=>R.ok ⟨⟨wfe h.hd trivial hk,h.tail⟩,h.hd⟩) fun _=>R.bad
theorem Ags:∀ (f:Nat) (acc:List Tree) (ts:List Tk),TT ts→H8 acc→R (G3 f acc ts) WL
 | 0,_,_,_,_=>R.none
 | f+1,acc,ts,h,ha=>by
  unfold G3
  exact R.ite (fun _=>R.bind (Sl (by decide) h.tail) fun n r hn=>Ags f _ r hn.1.2 (IZ ha (wf1 hn.1.1))) fun _=>R.ok ⟨ha,h⟩
theorem Ayo (f:Nat) {ts:List Tk} (h:TT ts):R (LX f ts) WL:=R.bind (Sl (by decide) h) fun n r hn=>Ags f _ r hn.1.2 (wf1 hn.1.1)
structure WE (f:Nat):Prop where
 exp:∀ least ts,TT ts→R (D7 f least ts) WT
 loop:∀ least n ts,TT ts→wfT n→R (F1 f least n ts) WT
 operand:∀ ts,TT ts→R (Fs f ts) WT
 fields:∀ acc ts,TT ts→H8 acc→R (Fr f acc ts) WL
 field:∀ ts,TT ts→R (F8 f ts) WT
 El:∀ ts,TT ts→R (EL f ts) WT
 DA:∀ at_ n ts,TT ts→wfT n→R (EB f at_ n ts) WT
 Do:∀ ts,TT ts→R (DT f ts) WL
 Gz:∀ acc ts,TT ts→H8 acc→R (F0 f acc ts) WL
theorem wE:∀ f,WE f
 | 0=>by constructor <;> intros <;> (first | rw [D7] | rw [F1] | rw [Fs] | rw [Fr] | rw [F8] | rw [EL] | rw [EB] | rw [DT] | rw [F0]) <;> exact R.none
 | f+1=>by
  have ih:=wE f
  constructor
  ·intro least ts h;unfold D7
   exact R.bind (ih.operand ts h) fun n r hn=>ih.loop _ _ _ hn.2 hn.1
  ·intro least n ts h hw;unfold F1
   refine R.ite (fun _=>R.ok ⟨hw,h⟩) fun _=>R.bind (ih.exp _ _ h.tail) fun m r hm=>ih.loop _ _ _ hm.2 ?_
   exact wfe h.hd ⟨hw,hm.1,trivial⟩ (by decide)
  ·intro ts h;unfold Fs
   refine R.ite (fun _=>R.ok ⟨wfe Gn trivial (by decide),h.tail⟩) fun _=>?_
   refine R.ite (fun _=>R.ok ⟨wfe h.hd trivial (by decide),h.tail⟩) fun _=>?_
   refine R.ite (fun _=>R.ok ⟨wfe Gn trivial (by decide),h.tail⟩) fun _=>?_
   refine R.ite (fun _=>R.ok ⟨wfe Gn trivial (by decide),h.tail⟩) fun _=>?_
   refine R.ite (fun _=>R.ok ⟨wfe Gn trivial (by decide),h.tail⟩) fun _=>?_
   refine R.ite (fun _=>R.bind (ih.exp _ _ h.tail) fun m r hm=>R.ok ⟨wfe h.hd (wf1 hm.1) (by decide),hm.2⟩) fun _=>?_
   refine R.ite (fun _=>R.bind (ih.fields _ _ h.tail trivial) fun l r hl=>R.ok ⟨wfe Gn hl.1 (by decide),hl.2⟩) fun _=>?_
   exact ih.El _ h
  ·intro acc ts h ha;unfold Fr
   refine R.ite (fun _=>R.ok ⟨ha,h.tail⟩) fun _=>R.bind (ih.field ts h) fun x r hx=>?_
   have hs:=IZ ha (wf1 hx.1)
   refine R.ite (fun _=>ih.fields _ _ hx.2.tail hs) fun _=>R.ite (fun _=>ih.fields _ _ hx.2.tail hs) fun _=>?_
   exact R.bind (IY hx.2) fun _ s hr=>R.ok ⟨hs,hr⟩
  ·intro ts h;unfold F8
   refine R.ite (fun _=>?_) fun _=>R.ite (fun _=>?_) fun _=>?_
   ·refine R.bind (ih.exp _ _ h.tail) fun k r hk=>R.bind (IY hk.2) fun _ r hr=>R.bind (IY hr) fun _ r hr=>R.bind (ih.exp _ _ hr) fun v r hv=>R.ok ⟨?_,hv.2⟩
    exact wfe Gn ⟨hk.1,hv.1,trivial⟩ (by decide)
   ·refine R.bind (ih.exp _ _ h.tail.tail) fun v r hv=>R.ok ⟨?_,hv.2⟩
    exact wfe Gn ⟨wfe h.hd trivial (by decide),hv.1,trivial⟩ (by decide)
   ·exact R.bind (ih.exp _ _ h) fun v r hv=>R.ok ⟨wfe Gn (wf1 hv.1) (by decide),hv.2⟩
  ·intro ts h;unfold EL
   refine R.ite (fun _=>?_) fun _=>?_
   ·exact R.bind (ih.exp _ _ h.tail) fun e r he=>R.bind (IY he.2) fun _ r hr=>ih.DA _ _ _ hr (wfe Gn (wf1 he.1) (by decide))
   ·exact R.bind (Sl (by decide) h) fun n r hn=>ih.DA _ _ _ hn.1.2 hn.1.1
  ·intro at_ n ts h hw;unfold EB
   refine R.ite (fun _=>?_) fun _=>R.ite (fun _=>?_) fun _=>R.ite (fun _=>?_) fun _=>R.ok ⟨hw,h⟩
   ·refine R.bind (ih.exp _ _ h.tail) fun e r he=>R.bind (IY he.2) fun _ r hr=>ih.DA _ _ _ hr ?_
    exact O3 Gn ⟨hw,he.1,trivial⟩ (by decide) (fun _=>rfl) (nx rfl) (nx rfl) (nx rfl) (nx rfl)
   ·refine R.bind (Sl (by decide) h.tail) fun e r he=>ih.DA _ _ _ he.1.2 ?_
    exact O3 Gn ⟨hw,he.1.1,trivial⟩ (by decide) (fun _=>rfl) (nx rfl) (nx rfl) (nx rfl) (nx rfl)
   ·refine R.bind (Q1:=WL) (R.ite (fun _=>R.ok ⟨trivial,h.tail⟩) fun _=>ih.Do _ h.tail) fun l r hl=>R.bind (IY hl.2) fun _ r hr=>ih.DA _ _ _ hr ?_
    exact wfe Gn ⟨hw,hl.1⟩ (by decide)
  ·intro ts h;unfold DT
   exact R.bind (ih.exp _ _ h) fun e r he=>ih.Gz _ _ he.2 (wf1 he.1)
  ·intro acc ts h ha;unfold F0
   exact R.ite (fun _=>R.bind (ih.exp _ _ h.tail) fun e r he=>ih.Gz _ _ he.2 (IZ ha (wf1 he.1))) fun _=>R.ok ⟨ha,h⟩
def Pu (c:Bool) (x:Tree):Prop:=wfT x∨(c=true∧fnT x)
structure WS (f:Nat):Prop where
 block:∀ c ts,TT ts→R (DM f c ts) fun n r=>(∃ a l,n=.mk 20 noB 0 a l∧∀ x ∈ l,Pu c x)∧TT r
 Es:∀ c at_ acc ts,TT ts→(∀ x ∈ acc,Pu c x)→R (Dt f c at_ acc ts) fun n r=>(∃ a l,n=.mk 20 noB 0 a l∧∀ x ∈ l,Pu c x)∧TT r
 function:∀ ts,TT ts→R (EY f ts) fun n r=>fnT n∧TT r
 body:∀ ts,TT ts→R (E9 f ts) WT
 stat:∀ ts,TT ts→R (EK f ts) WT
 branches:∀ acc ts,TT ts→H8 acc→R (Fz f acc ts) WL
 for_:∀ at_ ts,TT ts→R (F9 f at_ ts) WT
 plain:∀ ts,TT ts→R (FA f ts) WT
 targets:∀ acc e ts,TT ts→H8 acc→wfT e→R (EZ f acc e ts) WL
theorem Bh4 {a:Int} {l:List Tree} (h:∀ x ∈ l,Pu false x):wfT (.mk 20 noB 0 a l) :=
 wfe Gn (Qk.2 fun x hx=>(h x hx).elim id fun h=>nomatch h.1) (by decide)
theorem ZY {c:Bool} {acc:List Tree} {x:Tree} (h:∀ y ∈ acc,Pu c y) (hx:Pu c x):∀ y ∈ acc++[x],Pu c y:=fun y hy=>by
 rcases EQ.1 hy with hy | hy
 ·exact h y hy
 ·obtain rfl:=F7.1 hy;exact hx
theorem wS:∀ f,WS f
 | 0=>by constructor <;> intros <;> (first | unfold DM | unfold Dt | unfold EY | unfold E9 | unfold EK | unfold Fz | unfold F9 | unfold FA | unfold EZ) <;> exact R.none
 | f+1=>by
  have ih:=wS f
  have ie:=wE f
  have blk:∀ ts,TT ts→R (DM f false ts) WT:=fun ts h=>R.weak (ih.block false ts h) fun n r ⟨⟨a,l,e,hl⟩,hr⟩=>⟨by rw [e];exact Bh4 hl,hr⟩
  constructor
  ·intro c ts h;unfold DM
   exact ih.Es _ _ _ _ h (fun _ hx=>nomatch hx)
  ·intro c at_ acc ts h ha;unfold Dt
   refine R.ite (fun _=>ih.Es _ _ _ _ h.tail ha) fun _=>R.ite (fun _=>?_) fun _=>R.ite (fun hc=>?_) fun _=>R.ite (fun _=>R.ok ⟨⟨_,_,rfl,ha⟩,h⟩) fun _=>?_
   ·refine R.bind (Q1:=WL) (R.ite (fun _=>R.ok ⟨trivial,h.tail⟩) fun _=>ie.Do _ h.tail) fun l r hl=>R.ok ⟨⟨_,_,rfl,?_⟩,?_⟩
    ·exact ZY ha (.inl (wfe Gn hl.1 (by decide)))
    ·split
     ·exact hl.2.tail
     ·exact hl.2
   ·have hc':c=true:=by simp only [Bool.and_eq_true] at hc;exact hc.1
    exact R.bind (ih.function ts h) fun x r hx=>ih.Es _ _ _ _ hx.2 (ZY ha (.inr ⟨hc',hx.1⟩))
   ·exact R.bind (ih.stat ts h) fun x r hx=>ih.Es _ _ _ _ hx.2 (ZY ha (.inl hx.1))
  ·intro ts h;unfold EY
   refine R.bind (Sl (by decide) h.tail) fun nm r hn=>R.bind (IY hn.1.2) fun _ r hr=>R.bind (Q1:=WL) (R.ite (fun _=>R.ok ⟨trivial,hr⟩) fun _=>Ayo f hr) fun ps r hp=>R.bind (IY hp.2) fun _ r hr=>R.bind (blk _ hr) fun b r hb=>R.bind (IY hb.2) fun _ r hr=>R.ok ⟨?_,hr⟩
   exact ⟨hn.2,rfl,⟨ps.length,rfl,by simp⟩,IZ hp.1 (wf1 hb.1)⟩
  ·intro ts h;unfold E9
   exact R.bind (IY h) fun _ r hr=>R.bind (blk _ hr) fun b r hb=>R.bind (IY hb.2) fun _ r hr=>R.ok ⟨hb.1,hr⟩
  ·intro ts h;unfold EK
   refine R.ite (fun _=>?_) fun _=>R.ite (fun _=>?_) fun _=>R.ite (fun _=>?_) fun _=>R.ite (fun _=>ih.for_ _ _ h.tail) fun _=>R.ite (fun _=>?_) fun _=>R.ite (fun _=>R.ok ⟨wfe Gn trivial (by decide),h.tail⟩) fun _=>ih.plain _ h
   ·exact R.bind (ih.body ts h) fun b r hb=>R.ok ⟨wfe Gn (wf1 hb.1) (by decide),hb.2⟩
   ·refine R.bind (ie.exp _ _ h.tail) fun e r he=>R.bind (ih.body _ he.2) fun b r hb=>R.ok ⟨?_,hb.2⟩
    exact O3 Gn ⟨he.1,hb.1,trivial⟩ (by decide) (nx rfl) (fun _=>rfl) (nx rfl) (nx rfl) (nx rfl)
   ·exact R.bind (ih.branches _ _ h.tail trivial) fun l r hl=>R.ok ⟨wfe Gn hl.1 (by decide),hl.2⟩
   ·refine R.bind (Ayo f h.tail) fun l r hl=>R.bind (Q1:=WL) (R.ite (fun _=>ie.Do _ hl.2.tail) fun _=>R.ok ⟨trivial,hl.2⟩) fun es r he=>R.ok ⟨?_,he.2⟩
    exact O3 Gn (IZ hl.1 he.1) (by decide) (nx rfl) (nx rfl) (nx rfl) (fun _=>⟨l.length,rfl,by simp⟩) (nx rfl)
  ·intro acc ts h ha;unfold Fz
   refine R.bind (ie.exp _ _ h) fun e r he=>R.bind (IY he.2) fun _ r hr=>R.bind (blk _ hr) fun b r hb=>?_
   have h2:=IZ (IZ ha (wf1 he.1)) (wf1 hb.1)
   refine R.ite (fun _=>ih.branches _ _ hb.2.tail h2) fun _=>R.ite (fun _=>?_) fun _=>?_
   ·exact R.bind (blk _ hb.2.tail) fun c r hc=>R.bind (IY hc.2) fun _ r hr=>R.ok ⟨IZ h2 (wf1 hc.1),hr⟩
   ·exact R.bind (IY hb.2) fun _ r hr=>R.ok ⟨h2,hr⟩
  ·intro at_ ts h;unfold F9
   refine R.bind (Sl (by decide) h) fun n r hn=>R.ite (fun _=>?_) fun _=>?_
   ·refine R.bind (ie.exp _ _ hn.1.2.tail) fun a r ha=>R.bind (IY ha.2) fun _ r hr=>R.bind (ie.exp _ _ hr) fun b r hb=>R.bind (Q1:=WL) (R.ite (fun _=>R.bind (ie.exp _ _ hb.2.tail) fun c r hc=>R.ok ⟨wf1 hc.1,hc.2⟩) fun _=>R.ok ⟨trivial,hb.2⟩) fun cs r hcs=>R.bind (ih.body _ hcs.2) fun bd r hbd=>R.ok ⟨?_,hbd.2⟩
    exact O3 Gn (IZ (IZ (IZ (IZ (wf1 hn.1.1) (wf1 ha.1)) (wf1 hb.1)) hcs.1) (wf1 hbd.1)) (by decide) (nx rfl) (nx rfl) (fun _=>by simp) (nx rfl) (nx rfl)
   ·refine R.bind (Ags f _ _ hn.1.2 (wf1 hn.1.1)) fun l r hl=>R.bind (IY hl.2) fun _ r hr=>R.bind (ie.Do _ hr) fun es r he=>R.bind (ih.body _ he.2) fun bd r hbd=>R.ok ⟨?_,hbd.2⟩
    exact O3 Gn (IZ (IZ hl.1 he.1) (wf1 hbd.1)) (by decide) (nx rfl) (nx rfl) (nx rfl) (nx rfl) (fun _=>⟨l.length,rfl,by simp⟩)
  ·intro ts h;unfold FA
   refine R.bind (ie.El ts h) fun e r he=>R.ite (fun _=>?_) fun _=>R.ite (fun _=>R.ok ⟨wfe Gn (wf1 he.1) (by decide),he.2⟩) fun _=>R.bad
   refine R.bind (ih.targets _ _ _ he.2 trivial he.1) fun l r hl=>R.bind (IY hl.2) fun _ r hr=>R.bind (ie.Do _ hr) fun es r hes=>R.ok ⟨?_,hes.2⟩
   exact O3 Gn (IZ hl.1 hes.1) (by decide) (nx rfl) (nx rfl) (nx rfl) (fun _=>⟨l.length,rfl,by simp⟩) (nx rfl)
  ·intro acc e ts h ha hw;unfold EZ
   refine R.ite (fun _=>?_) fun _=>R.bad
   exact R.ite (fun _=>R.bind (ie.El _ h.tail) fun e' r he=>ih.targets _ _ _ he.2 (IZ ha (wf1 hw)) he.1) fun _=>R.ok ⟨IZ ha (wf1 hw),h⟩
theorem Afx (q:UInt8):∀ (f:Nat) (l acc:Bs) (i:Nat) (v:Bs) (k:Nat),GJ q f l acc i=.ok v k→v.length≤10000
 | 0,_,_,_,_,_,h=>by unfold GJ at h;cases h
 | f+1,[],_,_,_,_,h=>by unfold GJ at h;cases h
 | f+1,b :: t,acc,i,v,k,h=>by
  unfold GJ at h
  split at h
  ·cases h
  split at h
  ·split at h
   ·cases h
   ·cases h;omega
  split at h
  ·split at h
   ·cases h
   ·cases h
   ·exact Afx q f _ _ _ _ _ h
  ·exact Afx q f _ _ _ _ _ h
theorem Btt:∀ s ∈ Iz,s.length≤20000:=by decide
theorem Buj (l:Bs) (hl:l.length≤20000) (k:Int) (t:Bs) (n:Int) (len:Nat) (h:Dx l=.tok k t n len):t.length≤20000:=by
 unfold Dx at h
 dsimp only at h
 repeat' split at h
 all_goals first
  | (cases h;done)
  | (simp only [Step.tok.injEq] at h;obtain ⟨_,rfl,_⟩:=h;rw [List.length_take];omega)
  | (rename_i hx;simp only [Step.tok.injEq] at h;obtain ⟨_,rfl,_⟩:=h;first | exact Nat.le_trans (Afx _ _ _ _ _ _ _ hx) (by decide) | exact Btt _ (List.mem_of_find?_eq_some hx))
theorem Afi:∀ (f:Nat) (l:Bs) (at_:Nat) (acc t:List Tok),l.length≤20000→(∀ x ∈ acc,x.text.length≤20000)→Iy f l at_ acc=.inr t→∀ x ∈ t,x.text.length≤20000
 | 0,l,at_,acc,t,hl,ha,h=>by
  unfold Iy at h
  cases h
  intro x hx
  rcases EQ.1 hx with hx | hx
  ·exact ha x hx
  ·obtain rfl:=F7.1 hx;exact Nat.zero_le _
 | f+1,l,at_,acc,t,hl,ha,h=>by
  unfold Iy at h
  dsimp only at h
  have hdl:(l.drop (BP Cr l)).length≤20000:=by rw [BX];omega
  cases hst:Dx (l.drop (BP Cr l)) with
  | done =>
   rw [hst] at h
   cases h
   intro x hx
   rcases EQ.1 hx with hx | hx
   ·exact ha x hx
   ·obtain rfl:=F7.1 hx;exact Nat.zero_le _
  | bad c r=>rw [hst] at h;cases h
  | skip q =>
   rw [hst] at h
   exact Afi f _ _ _ _ (by rw [BX];omega) ha h
  | tok kd tx x len =>
   rw [hst] at h
   refine Afi f _ _ _ _ (by rw [BX];omega) (fun y hy=>?_) h
   rcases EQ.1 hy with hy | hy
   ·exact ha y hy
   ·obtain rfl:=F7.1 hy;exact Buj _ hdl _ _ _ _ hst
theorem Awp {s:ByteArray} {t:List Tok} (h:G4 (bs s)=.inr t):TT (t.map Ff):=by
 unfold G4 at h
 split at h
 ·cases h
 intro x hx
 obtain ⟨y,hy,rfl⟩:=List.mem_map.1 hx
 have:=Afi _ _ _ [] _ (by omega) (fun _ hx=>absurd hx (List.not_mem_nil)) h y hy
 show (str y.text).size≤30000
 rw [Qh];omega
theorem val_ok {α:Type} {x:Option (PV α)} {a:α} {r:List Tk} (h:val x=.ok a r):x=some (.ok a r):=by
 cases x with
 | none=>cases h
 | some v=>exact congrArg some h
theorem Bqi (s:ByteArray):(∃ c a,c≠0∧Iv s=M6 c a)∨∃ n,Iv s=JZ n∧wfC n∧sz n≤80010:=by
 cases hs:G4 (bs s) with
 | inl x =>
  obtain ⟨c,p⟩:=x
  exact .inl ⟨c,p,Xq _ _ _ hs,Ad2 hs⟩
 | inr t =>
  have hT:=U2 s t hs
  rcases Agh hT with ⟨b,r,hb,hB,⟨_,he⟩ | ⟨_,he⟩⟩ | ⟨j,hb,he⟩
  ·refine .inr ⟨b,WU hs he,?_,?_⟩
   ·obtain ⟨⟨a,l,rfl,hl⟩,_⟩:=(wS (fu _)).block true _ (Awp hs) _ _ (val_ok hb)
    exact ⟨rfl,Gn,fun x hx=>Or.elim (hl x hx) .inl (fun h=>.inr h.2)⟩
   ·have:=hB.size;have:=hT.len;omega
  ·exact .inl ⟨4,_,by decide,Uk hs he⟩
  ·exact .inl ⟨4,_,by decide,Uk hs he⟩
end
section
open Go Go.RowKit
def Ks.f (_k:Nat) (a0:ByteArray):Option (Bool):=(cond (a0.toList == (⟨#[116,97,98,108,101]⟩:ByteArray).toList) (some true) (some (a0.toList == (⟨#[117,116,102,56]⟩:ByteArray).toList)):Option Bool).bind fun q1=>some (q1)
theorem Ks.ok {k:Nat} {a0:ByteArray} {r:Bool} (h:Ks.f k a0=some r): Ct Tryz.prog 48 #[sv a0] [] [] (fun e l1=>e=.returned (bv r)∧l1=[]):=by
 refine C3 (args:=[sv a0]) Tryz.func48 rfl (By rfl) ?_
 intro A X hh_
 unfold Ks.f at h
 refine ksr (kx 1 (Ad (bnd h fun q1 hq1 h=>?_)))
 refine G_ [(2,bv q1)] (X) ?_ ?_
 ·clear hq1
  refine C9 ?_
  obtain rfl:=As h
  exact kdn rfl
 ·have h:=hq1
  clear hq1
  refine Bu (kx 3 ?_)
  refine Ee 5 h (fun h=>?_) fun h=>?_
  ·exact kx 4 (Ad (Dd ⟨gb (As h),trivial⟩))
  ·exact kx 4 (Ad (Dd ⟨gb (As h),trivial⟩))
def KS (i:Int×Int):Value:=.iface 68 (.agg #[.int .i64 i.1,.int .i64 i.2])
def Hk.f (_k:Nat) (a0:Int) (a1:Int):Option (PR (Unit) (Int×Int)):=some (PR.bad (a0,a1))
theorem Hk.ok {k:Nat} {a0 a1:Int} {r:PR (Unit) (Int×Int)} (h:Hk.f k a0 a1=some r): Ct Tryz.prog 20 #[iv a0,iv a1] [] [] (PR.Post KS (fun (r:Unit) e l1=>e=.returned (.tuple #[])∧l1=[]) r):=by
 refine C3 (args:=[iv a0,iv a1]) Tryz.func20 rfl (By rfl) ?_
 intro A X hh_
 unfold Hk.f at h
 refine Bu (kx 4 ?_)
 obtain rfl:=As h
 exact Ar2 (v:=KS (a0,a1)) (by kernel_rfl) (by kernel_rfl) (by kernel_rfl) (Arw [] (BH PR.Ajm))
def Fm.f (k:Nat) (Ac:Int) (Ag:ByteArray) (Fl:Int) (Af:Int) (At:List Tree) (a1:Int) (a2:Int):Option (PR (Unit) (Int×Int)):=cond (decide (a1 > a2)) (PR.bind (Hk.f k 6 Af) fun r3=>some (PR.ok ())) (some (PR.ok ()))
theorem Fm.ok {k Bt:Nat} {Ac Fl Af a1 a2:Int} {Ag:ByteArray} {At:List Tree} {B9:Ab} {Bm:Aq} {r:PR (Unit) (Int×Int)} (h:Fm.f k Ac Ag Fl Af At a1 a2=some r) (Cj:RdR (AX 54) B9 (Aa Bm At Bt) At): Ct Tryz.prog 33 #[.agg #[iv Ac,sv Ag,iv Fl,iv Af,Aa Bm At Bt],iv a1,iv a2] [] [B9] (PR.Post KS (fun (r:Unit) e l1=>e=.returned (.tuple #[])∧l1=[]) r):=by
 refine C3 (args:=[.agg #[iv Ac,sv Ag,iv Fl,iv Af,Aa Bm At Bt],iv a1,iv a2]) Tryz.func33 rfl (By rfl) ?_
 intro A X hh_
 obtain ⟨Pc,_⟩:=hh_
 unfold Fm.f at h
 refine ksr (knp #[iv Ac,sv Ag,iv Fl,iv Af,Aa Bm At Bt] 54 fun b1=>(Ba (kx 3 (Ad ?_))))
 refine AU h (fun h=>?_) fun h=>?_
 ·refine Bu (kx 1 (kld 0 3 rfl (K.drop (Cb h (fun _ hr3=>(Hk.ok hr3)) rfl trivial (fun _ e=>kpn 0 e rfl) fun r3 h=>?_))))
  rintro _ _ ⟨rfl,rfl⟩
  refine Hb (knl (Cw ?_))
  obtain rfl:=As h
  exact Wk ⟨rfl,rfl⟩ rfl
 ·refine BV (Cw ?_)
  obtain rfl:=As h
  exact K.drop (Wk ⟨rfl,rfl⟩ rfl)
def Fe.l0:Nat→(a0:List ByteArray)→(a1:ByteArray)→(J1:(Unit→Option (Int)))→(x2:Int)→Option (Int)
 | 0,_,_,_,_=>none
 | m3+1,a0,a1,J1,x2=>cond (decide (x2 < ((a0.length:Nat):Int))) ((Bh a0 x2).bind fun x5=>cond (a1.toList == x5.toList) (some (x2)) (Fe.l0 m3 a0 a1 J1 (IntKind.i64.wrap (x2+1)))) (J1 ())
def Fe.f (k:Nat) (a0:List ByteArray) (a1:ByteArray):Option (Int):=BG (fun (_:Unit)=>some ((-1:Int))) (fun J1=>Fe.l0 k a0 a1 J1 0)
theorem Fe.ok {k I9:Nat} {a0:Ae} {a1:ByteArray} {KN:Ab} {I5:Aq} {r:Int} (h:Fe.f k a0 a1=some r) (OC:Bl encS 1 KN (Aa I5 a0 I9) a0): Ct Tryz.prog 90 #[Aa I5 a0 I9,sv a1] [] [KN] (fun e l1=>e=.returned (iv r)∧l1=[]):=by
 refine C3 (args:=[Aa I5 a0 I9,sv a1]) Tryz.func90 rfl (By rfl) ?_
 intro A X hh_
 obtain ⟨Pb,_⟩:=hh_
 unfold Fe.f at h
 refine ksr (kx 1 (Ad ?_))
 obtain ⟨J1,hJ1,h⟩:=De h
 refine Df (τ:=Unit) (fun t=>[]) (fun t=>X) (fun t=>J1 ()=some r) ?_ ?_
 ·rintro ⟨⟩ h
  subst hJ1
  refine ksr (kx 1 (Ad (C9 ?_)))
  obtain rfl:=As h
  exact kdn rfl
 ·skip
  refine ksr (kx 3 (Ad (C1 (Fx (τ:=Int) (fun t=>[(0,Aa I5 a0 I9),(1,sv a1),(7,iv ((a0.length:Nat):Int)),(8,iv t)]) (fun t=>X) (fun m t=>Fe.l0 m a0 a1 J1 t=some r) k 0 h sb rfl ?_))))
  clear h
  rintro m3 x2 h
  cases m3 with
  | zero=>simp [Fe.l0] at h
  | succ m3 =>
   simp only [Fe.l0] at h
   refine ksr (kx 1 (Ad (B8 ?_)))
   refine AU h (fun h=>?_) fun h=>?_
   ·refine BV (AM (B8 (C1 (ksr (kx 2 (Ba (kx 3 (bnd h fun x5 hx5 h=>(GQ (T:=9) (kd:=.i64) Jp rfl hx5 OC fun p6 e7 y8=>?_)))))))))
    have e7:Elem _ p6 [sv x5]:=e7
    refine Ip rfl (by kernel_rfl) (by kernel_rfl) (by kernel_rfl) (by kernel_rfl) e7 Pb (kx 1 (Ad ?_))
    refine AU h (fun h=>?_) fun h=>?_
    ·refine ksr (kx 2 (Ad (C9 (Fu (DH (DH (Fu (DH ?_))))))))
     obtain rfl:=As h
     exact kdn rfl
    ·exact BV (B7 (AM (Bu (kx 2 (Ad (E3 m3 (IntKind.i64.wrap (x2+1)) (Nat.lt_succ_self _) h sb rfl))))))
   ·exact Fv (Dg (Dg (Fw (AM (B4 () h trivial rfl)))))
def Dv (x:Int×Int×ByteArray):List Value:=[.int .i64 x.1,.int .i64 x.2.1,.string x.2.2]
theorem Y4:Fh Dv 3:=⟨fun _=>rfl,fun _=>rfl⟩
def GH.l0:Nat→(a0:List (Int×Int×ByteArray))→(Ao:Int)→(Av:Int)→(Ap:ByteArray)→(J2:(Unit→Option (Int)))→(x3:Int)→Option (Int)
 | 0,_,_,_,_,_,_=>none
 | m4+1,a0,Ao,Av,Ap,J2,x3=>cond (decide (x3 < ((a0.length:Nat):Int))) ((Bh a0 x3).bind fun x6=>cond ((Ao == x6.1) && ((Av == x6.2.1) && ((Ap.toList == x6.2.2.toList) && true))) (some (x3)) (GH.l0 m4 a0 Ao Av Ap J2 (IntKind.i64.wrap (x3+1)))) (J2 ())
def GH.f (k:Nat) (a0:Bg) (Ao:Int) (Av:Int) (Ap:ByteArray):Option (Int):=BG (fun (_:Unit)=>some ((-1:Int))) (fun J2=>GH.l0 k a0 Ao Av Ap J2 0)
theorem GH.ok {k I9:Nat} {a0:Bg} {Ao Av r:Int} {Ap:ByteArray} {KN:Ab} {I5:Aq} (h:GH.f k a0 Ao Av Ap=some r) (OC:Bl Dv 3 KN (Aa I5 a0 I9) a0): Ct Tryz.prog 113 #[Aa I5 a0 I9,.agg #[iv Ao,iv Av,sv Ap]] [] [KN] (fun e l1=>e=.returned (iv r)∧l1=[]):=by
 refine C3 (args:=[Aa I5 a0 I9,.agg #[iv Ao,iv Av,sv Ap]]) Tryz.func113 rfl (By rfl) ?_
 intro A X hh_
 obtain ⟨Pb,_⟩:=hh_
 unfold GH.f at h
 refine ksr (knp #[iv Ao,iv Av,sv Ap] 78 fun b1=>(kx 1 (Ad ?_)))
 obtain ⟨J2,hJ2,h⟩:=De h
 refine Df (τ:=Unit) (fun t=>[]) (fun t=>X) (fun t=>J2 ()=some r) ?_ ?_
 ·rintro ⟨⟩ h
  subst hJ2
  refine ksr (kx 1 (Ad (C9 ?_)))
  obtain rfl:=As h
  exact kdn rfl
 ·skip
  refine ksr (kx 3 (Ad (C1 (Fx (τ:=Int) (fun t=>[(0,Aa I5 a0 I9),(3,pt b1),(7,iv ((a0.length:Nat):Int)),(8,iv t)]) (fun t=>bk b1 #[iv Ao,iv Av,sv Ap] 78 :: X) (fun m t=>GH.l0 m a0 Ao Av Ap J2 t=some r) k 0 h sb rfl ?_))))
  clear h
  rintro m4 x3 h
  cases m4 with
  | zero=>simp [GH.l0] at h
  | succ m4 =>
   simp only [GH.l0] at h
   refine ksr (kx 1 (Ad (B8 ?_)))
   refine AU h (fun h=>?_) fun h=>?_
   ·refine BV (AM (B8 (C1 (ksr (kx 2 (Ad (B8 (Js [(0,3),(1,0),(2,0),(3,0),(4,3)] [bk b1 #[iv Ao,iv Av,sv Ap] 78,KN] (fun w h_=>⟨h_.sat.on _ (.head _),h_.sat.on _ (.tail _ Pb),trivial⟩) (GR 0 0 3 rfl (Ar 2 ?_))))))))))
    refine bnd h fun x6 hx6 h=>(TH (T:=78) (kd:=.i64) Y4 rfl hx6 OC fun p7 e8 y9=>?_)
    have e8:Elem _ p7 [iv x6.1,iv x6.2.1,sv x6.2.2]:=e8
    refine IE rfl e8 (fun w h_=>h_.mem _ (.tail _ (.head _))) (Ca (Rb (r:=((Ao == x6.1) && ((Av == x6.2.1) && ((Ap.toList == x6.2.2.toList) && true)))) (xs:=#[iv Ao,iv Av,sv Ap]) (ys:=#[iv x6.1,iv x6.2.1,sv x6.2.2]) false (by kernel_rfl) rfl (by kernel_rfl) (by kernel_rfl) (by kernel_rfl) (by kernel_rfl) (by kernel_rfl) (by kernel_rfl) (by kernel_rfl) (Ad ?_)))
    refine AU h (fun h=>?_) fun h=>?_
    ·refine ksr (kx 2 (Ad (C9 (Fu (DH (DH (Fu (DH ?_))))))))
     obtain rfl:=As h
     exact K.drop (kdn rfl)
    ·exact BV (B7 (AM (Bu (kx 2 (Ad (E3 m4 (IntKind.i64.wrap (x3+1)) (Nat.lt_succ_self _) h sb rfl))))))
   ·exact Fv (Dg (Dg (Fw (AM (K.drop (B4 () h trivial rfl))))))
def Mf.f (k:Nat) (a0:List ByteArray) (a1:ByteArray):Option (Bool):=(Fe.f k a0 a1).bind fun r1=>some (decide (r1 ≥ 0))
theorem Mf.ok {k I9:Nat} {a0:Ae} {a1:ByteArray} {KN:Ab} {I5:Aq} {r:Bool} (h:Mf.f k a0 a1=some r) (OC:Bl encS 1 KN (Aa I5 a0 I9) a0): Ct Tryz.prog 88 #[Aa I5 a0 I9,sv a1] [] [KN] (fun e l1=>e=.returned (bv r)∧l1=[]):=by
 refine C3 (args:=[Aa I5 a0 I9,sv a1]) Tryz.func88 rfl (By rfl) ?_
 intro A X hh_
 obtain ⟨Pb,_⟩:=hh_
 unfold Mf.f at h
 refine ksr (kx 1 (Ba (kx 2 (bnd h fun r1 hr1 h=>(G2 (Fe.ok hr1 OC) ⟨Pb,trivial⟩ (kx 2 (Ad (C9 ?_))))))))
 obtain rfl:=As h
 exact kdn rfl
def Qb.f (k:Nat) (a0:List (Int×Int×ByteArray)) (Ao:Int) (Av:Int) (Ap:ByteArray):Option (Bool):=(GH.f k a0 Ao Av Ap).bind fun r2=>some (decide (r2 ≥ 0))
theorem Qb.ok {k I9:Nat} {a0:Bg} {Ao Av:Int} {Ap:ByteArray} {KN:Ab} {I5:Aq} {r:Bool} (h:Qb.f k a0 Ao Av Ap=some r) (OC:Bl Dv 3 KN (Aa I5 a0 I9) a0): Ct Tryz.prog 89 #[Aa I5 a0 I9,.agg #[iv Ao,iv Av,sv Ap]] [] [KN] (fun e l1=>e=.returned (bv r)∧l1=[]):=by
 refine C3 (args:=[Aa I5 a0 I9,.agg #[iv Ao,iv Av,sv Ap]]) Tryz.func89 rfl (By rfl) ?_
 intro A X hh_
 obtain ⟨Pb,_⟩:=hh_
 unfold Qb.f at h
 refine ksr (knp #[iv Ao,iv Av,sv Ap] 78 fun b1=>(kx 1 (Ba (kx 1 (CV 0 0 3 rfl (K.drop (bnd h fun r2 hr2 h=>(G2 (GH.ok hr2 OC) ⟨Pb,trivial⟩ (kx 2 (Ad ?_))))))))))
 refine C9 ?_
 obtain rfl:=As h
 exact kdn rfl
def MZ.f (k:Nat) (a0:ByteArray):Option (Int):=cond (a0.toList == (⟨#[45]⟩:ByteArray).toList) (some (0)) ((strings_Fields.f k (⟨#[112,114,105,110,116,32,116,121,112,101,32,116,111,115,116,114,105,110,103,32,116,111,110,117,109,98,101,114,32,110,101,120,116,32,112,97,105,114,115,32,105,112,97,105,114,115,32,114,97,119,108,101,110,32,115,116,97,116,115,32,112,114,111,98,101,115,32,45,32,116,97,98,108,101,46,105,110,115,101,114,116,32,116,97,98,108,101,46,114,101,109,111,118,101,32,116,97,98,108,101,46,99,111,110,99,97,116,32,116,97,98,108,101,46,117,110,112,97,99,107,32,116,97,98,108,101,46,109,111,118,101,32,116,97,98,108,101,46,115,111,114,116,32,117,116,102,56,46,108,101,110,32,117,116,102,56,46,99,104,97,114,32,117,116,102,56,46,99,111,100,101,112,111,105,110,116,32,117,116,102,56,46,111,102,102,115,101,116,32,117,116,102,56,46,99,111,100,101,115,32,45]⟩:ByteArray)).bind fun r2=>(Fe.f k r2 a0).bind fun r7=>some (IntKind.i64.wrap (r7+1)))
theorem MZ.ok {k:Nat} {a0:ByteArray} {G:Ab} {r:Int} (h:MZ.f k a0=some r) (hG:EE G): Ct Tryz.prog 52 #[sv a0] [] [G] (fun e l1=>e=.returned (iv r)∧l1=[]):=by
 refine C3 (args:=[sv a0]) Tryz.func52 rfl (By rfl) ?_
 intro A X hh_
 obtain ⟨BU,_⟩:=hh_
 unfold MZ.f at h
 refine ksr (kx 1 (Ad (B8 (ksr (kx 2 (Ad ?_))))))
 refine AU h (fun h=>?_) fun h=>?_
 ·refine ksr (kx 1 (Ad (C9 (DH ?_))))
  obtain rfl:=As h
  exact kdn rfl
 ·refine BV (AM (ksr (bnd h fun r2 hr2 h=>(Bz (strings_Fields.ok hr2 hG) rfl ⟨BU,trivial⟩ ?_))))
  rintro _ _ ⟨h3,A4,k5,o6,rfl,rfl⟩
  refine Fy (kx 1 (bnd h fun r7 hr7 h=>(G2 (Fe.ok hr7 (Ah.rd o6)) ⟨(.head _),trivial⟩ (K.drop (kx 2 (Ad (C9 ?_)))))))
  obtain rfl:=As h
  exact kdn rfl
theorem A4b (p q:Value) (w:World) :
  CallsD Tryz.prog 19 #[p,q] .returning w fun e u' w'=>e=.returned (.tuple #[])∧u'=.returning∧w=w':=by
 refine callsD_of_wpS Tryz.func19 rfl fun c₀ cs hu=>?_
 apply wpS_seq
 apply wpS_region
 simp [wpOpsS,go_sem,recoverD,hu,Tryz.ntmps19,Exit.thenS,Array.replicate_succ]
 refine wpS_of_wp ?_
 go_wp2
 cases c₀
 simp_all [bodyPostS,results,Tryz.results19]
theorem Akm {A w:World} {X:List Ab} {p q:Nat} {x0 x1 y0 y1:Value} {i:Int×Int} (hw:St A (blk p (.cells #[x0,x1] 33 (0,0)) :: blk q (.cells #[y0,y1] 28 (0,0)) :: X) w) :
  CallsD Tryz.prog 19 #[.pointer (some ⟨p,0,none⟩),.pointer (some ⟨q,0,none⟩)] (.panicking [{ v:=KS i,recovered:=false }]) w fun e u' w'=>e=.returned (.tuple #[])∧settle u'=.returning∧St A (blk p (.cells #[.slice none 0 0,.slice none 0 0] 33 (0,0)) :: blk q (.cells #[.int .i64 i.1,.int .i64 i.2] 28 (0,0)) :: X) w':=by
 refine callsD_of_wpS Tryz.func19 rfl fun c₀ cs hu=>?_
 apply wpS_seq
 apply wpS_region
 simp [wpOpsS,go_sem,recoverD,hu,Tryz.ntmps19,Exit.thenS,Array.replicate_succ]
 refine wpS_of_wp ?_
 refine (?_:K [] A Tryz.f19.ntmps [(0,.pointer (some ⟨p,0,none⟩)),(1,.pointer (some ⟨q,0,none⟩)),(5,.iface 68 (.agg #[.int .i64 i.1,.int .i64 i.2]))] (blk p (.cells #[x0,x1] 33 (0,0)) :: blk q (.cells #[y0,y1] 28 (0,0)) :: X) _) _ w ⟨rfl,rfl,?_⟩ hw
 rotate_left
 ·intro j v hj
  simp only [Env.get] at hj
  match j with
  | 0=>cases hj;rfl
  | 1=>cases hj;rfl
  | 2=>cases hj
  | 3=>cases hj
  | 4=>cases hj
  | 5=>cases hj;rfl
  | j+6=>cases hj
 refine C1 ?_
 refine B8 ?_
 refine Bu ?_
 refine Wr 1 [(0,.pointer (some ⟨p,0,none⟩)),(1,.pointer (some ⟨q,0,none⟩)),(5,.iface 68 (.agg #[.int .i64 i.1,.int .i64 i.2])),(7,.bool false)] (by kernel_rfl) ?_
 refine KX ?_
 refine AM ?_
 refine Wf (by kernel_rfl) ?_
 refine B8 ?_
 refine Bu ?_
 refine Wr 3 [(0,.pointer (some ⟨p,0,none⟩)),(1,.pointer (some ⟨q,0,none⟩)),(5,.iface 68 (.agg #[.int .i64 i.1,.int .i64 i.2])),(9,.bool true),(10,.agg #[.int .i64 i.1,.int .i64 i.2])] (by kernel_rfl) ?_
 refine KX ?_
 refine AM ?_
 refine Wg (by kernel_rfl) ?_
 refine B8 ?_
 refine Bu ?_
 refine Wq (.cells #[.int .i64 (0:Int),.int .i64 (0:Int)] 68 (0,0)) (fun b=>.pointer (some ⟨b,0,none⟩)) (by kernel_rfl) (by kernel_rfl) (fun _=>by kernel_rfl) fun b1=>?_
 refine TF (cs':=#[.int .i64 i.1,.int .i64 i.2]) [.st ⟨b1,0,none⟩ (.int .i64 i.1),.st ⟨b1,1,none⟩ (.int .i64 i.2)] (by kernel_rfl) (by kernel_rfl) (by kernel_rfl) ⟨rfl,rfl,trivial⟩ (by kernel_rfl) ?_
 refine KX ?_
 refine AM ?_
 refine TC [(0,0),(1,3),(2,1)] (fun w=>Fj [blk b1 (.cells #[.int .i64 i.1,.int .i64 i.2] 68 (0,0))] w) (by kernel_rfl) (by kernel_rfl) (fun _ _ d _ _ h=>by cases d <;> exact h) (fun w h_=>⟨h_.sat.on _ (.head _),trivial⟩) ?_
 simp only [Eg,List.filterMap_cons,List.filterMap_nil,List.getElem?_toArray,List.getElem?_cons_zero,List.getElem?_cons_succ,Option.map_some,List.drop_succ_cons,List.drop_zero,AI,Br]
 refine Ar8 1 [(0,.pointer (some ⟨p,0,none⟩)),(1,.pointer (some ⟨q,0,none⟩)),(3,.pointer (some ⟨b1,0,none⟩)),(11,.agg #[.slice none 0 0,.slice none 0 0])] (by kernel_rfl) (by kernel_rfl) ?_
 refine Wt (v:=.agg #[.int .i64 i.1,.int .i64 i.2]) [blk b1 (.cells #[.int .i64 i.1,.int .i64 i.2] 68 (0,0))] [.val (.int .i64 i.1),.val (.int .i64 i.2)] [.ld ⟨b1,0,none⟩ (.int .i64 i.1),.ld ⟨b1,1,none⟩ (.int .i64 i.2)] (by kernel_rfl) (by kernel_rfl) (by kernel_rfl) (fun _ h=>h) ⟨⟨0,_,_,_,rfl,rfl,rfl⟩,⟨0,_,_,_,rfl,rfl,rfl⟩,trivial⟩ ?_
 refine Aa7 (by kernel_rfl) ?_
 refine K.An ?_
 refine WI (cs':=#[.slice none 0 0,.slice none 0 0]) [.st ⟨p,0,none⟩ (.slice none 0 0),.st ⟨p,1,none⟩ (.slice none 0 0)] (by kernel_rfl) (by kernel_rfl) ⟨rfl,rfl,trivial⟩ (by kernel_rfl) ?_
 refine P1 (fun w h_=>⟨h_.sat.on _ (.tail _ (.head _)),trivial⟩) ?_
 refine Aa4 ?_
 refine K.Al ?_
 refine TF (cs':=#[.int .i64 i.1,.int .i64 i.2]) [.st ⟨q,0,none⟩ (.int .i64 i.1),.st ⟨q,1,none⟩ (.int .i64 i.2)] (by kernel_rfl) (by kernel_rfl) (by kernel_rfl) ⟨rfl,rfl,trivial⟩ (by kernel_rfl) ?_
 refine K.Al ?_
 refine K.drop ?_
 refine KX ?_
 refine B7 ?_
 refine K.An ?_
 intro a' w' ha' hw'
 have hd:=ha'.defers
 simp [bodyPostS,results,Tryz.results19,hd,settle]
 exact hw'
def FU:FX (ByteArray×Int×Int×Int×List (Int×Int×ByteArray)):=rS1 4 (fun x=>[.string x.1,.int .i64 x.2.1,.int .i64 x.2.2.1,.int .i64 x.2.2.2.1]) (fun _=>⟨rfl,rfl⟩) Dv 78 3 (fun x=>x.2.2.2.2)
theorem Xm {x:ByteArray×Int×Int×Int×Bg} {H:Ab} {A:Aq} {c:Nat} (h:Ah Dv 78 3 H (.slice A (x.2.2.2.2).length c) (x.2.2.2.2)):FU.own x H [sv x.1,iv x.2.1,iv x.2.2.1,iv x.2.2.2.1,.slice A (x.2.2.2.2).length c]:=⟨A,c,rfl,h⟩
theorem Bsm {x:ByteArray×Int×Int×Int×Bg} {H:Ab} {cs:List Value} (h:FU.rd x H cs):∃ A c,cs=[sv x.1,iv x.2.1,iv x.2.2.1,iv x.2.2.2.1,.slice A (x.2.2.2.2).length c]∧Bl Dv 3 H (.slice A (x.2.2.2.2).length c) (x.2.2.2.2):=h
theorem SN:Gy Tryz.prog 23 9 1 16 Tryz.t9 (sv noS):=⟨by kernel_rfl,by kernel_rfl,by kernel_rfl,by kernel_rfl,by kernel_rfl,by kernel_rfl,by decide⟩
def Na.f (k:Nat) (Ac:CZ) (Ag:Ae) (Bn:ByteArray) (Bo:Int) (Bp:Int) (BO:Int) (Bq:Bg) (B6:Ae) (BQ:Int) (AZ:Ae) (a1:ByteArray):Option Ae:=(Mf.f k Ag a1).bind fun r1=>cond (!r1) ((apd 16 Ag [a1]).bind fun l4=>some (l4)) (some (Ag))
theorem Na.ok {k b0 Ax C0 Bj Cq CC Ce:Nat} {Ac:CZ} {Ag B6 AZ r:Ae} {Bn a1:ByteArray} {Bo Bp BO BQ:Int} {Bq:Bg} {B5 CI Da Ds Fi:Ab} {Aw Cz Cp CA Cc:Aq} (h:Na.f k Ac Ag Bn Bo Bp BO Bq B6 BQ AZ a1=some r) (AJ:RdR FU B5 (Aa Aw Ac Ax) Ac) (D8:Ah encS 9 1 CI (Aa Cz Ag C0) Ag) (DG:Bl Dv 3 Da (Aa Cp Bq Cq) Bq) (Ej:Bl encS 1 Ds (Aa CA B6 CC) B6) (Ex:Bl encS 1 Fi (Aa Cc AZ Ce) AZ): Ct Tryz.prog 49 #[pt b0,sv a1] [bk b0 #[Aa Aw Ac Ax,Aa Cz Ag C0,pt Bj] 75,CI,bk Bj #[sv Bn,iv Bo,iv Bp,iv BO,Aa Cp Bq Cq,Aa CA B6 CC,iv BQ,Aa Cc AZ Ce] 73] [B5,Da,Ds,Fi] (fun e l1=>∃ (H0_:Ab) (A0_:Aq) (c0_:Nat),Ah encS 9 1 H0_ (Aa A0_ r c0_) r∧e=.returned (.tuple #[])∧l1=[bk b0 #[Aa Aw Ac Ax,Aa A0_ r c0_,pt Bj] 75,H0_,bk Bj #[sv Bn,iv Bo,iv Bp,iv BO,Aa Cp Bq Cq,Aa CA B6 CC,iv BQ,Aa Cc AZ Ce] 73]):=by
 refine C3 (args:=[pt b0,sv a1]) Tryz.func49 rfl (By rfl) ?_
 intro A X hh_
 obtain ⟨AY,Zh,VU,Ft,_⟩:=hh_
 unfold Na.f at h
 refine K.eq (env':=[(0,pt b0),(1,sv a1)]) (l':=bk b0 #[Aa Aw Ac Ax,Aa Cz Ag C0,pt Bj] 75 :: CI :: bk Bj #[sv Bn,iv Bo,iv Bp,iv BO,Aa Cp Bq Cq,Aa CA B6 CC,iv BQ,Aa Cc AZ Ce] 73 :: X) rfl rfl (ksr (kx 4 (kld 0 1 rfl (kx 1 (bnd h fun r1 hr1 h=>(G2 (Mf.ok hr1 (Ah.rd D8)) ⟨(.tail _ (.head _)),trivial⟩ (kx 1 (Ad ?_))))))))
 refine AU h (fun h=>?_) fun h=>?_
 ·refine Bu (kx 5 (kld 0 1 rfl (kx 1 (Dh #[sv a1] 9 1 fun b3=>(K.Al (bnd h fun l4 hl4 h=>(Wj (ys:=[a1]) Jp rfl SN hl4 D8 (Qd (n:=1) Jp [a1] (by kernel_rfl) rfl (by decide) 1 rfl) fun h5 A6 k7 o8=>(K.An (K.drop (kx 3 ?_))))))))))
  refine K.An (AQ 1 1 #[Aa Aw Ac Ax,Aa A6 l4 k7,pt Bj] (knl (Cw ?_)))
  obtain rfl:=As h
  exact kdv (.tuple #[]) [bk b0 #[Aa Aw Ac Ax,Aa A6 l4 k7,pt Bj] 75,h5,bk Bj #[sv Bn,iv Bo,iv Bp,iv BO,Aa Cp Bq Cq,Aa CA B6 CC,iv BQ,Aa Cc AZ Ce] 73] (BH ⟨h5,A6,k7,o8,rfl,rfl⟩)
 ·refine BV (Cw ?_)
  obtain rfl:=As h
  exact kdv (.tuple #[]) [bk b0 #[Aa Aw Ac Ax,Aa Cz Ag C0,pt Bj] 75,CI,bk Bj #[sv Bn,iv Bo,iv Bp,iv BO,Aa Cp Bq Cq,Aa CA B6 CC,iv BQ,Aa Cc AZ Ce] 73] (BH ⟨CI,Cz,C0,D8,rfl,rfl⟩)
def OO.f (k:Nat) (Ac:CZ) (Ag:Ae) (Bn:ByteArray) (Bo:Int) (Bp:Int) (BO:Int) (Bq:Bg) (B6:Ae) (BQ:Int) (AZ:Ae) (Ao:Int) (Av:ByteArray) (Ap:Int) (AF:Int) (Ak:List Tree):Option (PR Ae (Int×Int)):=(Ks.f k Av).bind fun r2=>cond r2 (PR.bind (Hk.f k 5 AF) fun r4=>some (PR.ok (Ag))) ((Mf.f k B6 Av).bind fun r6=>cond r6 (some (PR.ok (Ag))) ((Mf.f k AZ Av).bind fun r8=>cond r8 (PR.bind (Hk.f k 5 AF) fun r10=>some (PR.ok (Ag))) ((Na.f k Ac Ag Bn Bo Bp BO Bq B6 BQ AZ Av).bind fun r12=>some (PR.ok (r12)))))
theorem OO.ok {k b0 Ax C0 Bj Cq CC Ce Be:Nat} {Ac:CZ} {Ag B6 AZ:Ae} {Bn Av:ByteArray} {Bo Bp BO BQ Ao Ap AF:Int} {Bq:Bg} {Ak:List Tree} {B5 CI Da Ds Fi Cs:Ab} {Aw Cz Cp CA Cc Bc:Aq} {r:PR Ae (Int×Int)} (h:OO.f k Ac Ag Bn Bo Bp BO Bq B6 BQ AZ Ao Av Ap AF Ak=some r) (AJ:RdR FU B5 (Aa Aw Ac Ax) Ac) (D8:Ah encS 9 1 CI (Aa Cz Ag C0) Ag) (DG:Bl Dv 3 Da (Aa Cp Bq Cq) Bq) (Ej:Bl encS 1 Ds (Aa CA B6 CC) B6) (Ex:Bl encS 1 Fi (Aa Cc AZ Ce) AZ) (BE:RdR (AX 54) Cs (Aa Bc Ak Be) Ak): Ct Tryz.prog 51 #[pt b0,.agg #[iv Ao,sv Av,iv Ap,iv AF,Aa Bc Ak Be]] [bk b0 #[Aa Aw Ac Ax,Aa Cz Ag C0,pt Bj] 75,CI,bk Bj #[sv Bn,iv Bo,iv Bp,iv BO,Aa Cp Bq Cq,Aa CA B6 CC,iv BQ,Aa Cc AZ Ce] 73] [B5,Da,Ds,Fi,Cs] (PR.Post KS (fun (r:Ae) e l1=>∃ (H0_:Ab) (A0_:Aq) (c0_:Nat),Ah encS 9 1 H0_ (Aa A0_ r c0_) r∧e=.returned (.tuple #[])∧l1=[bk b0 #[Aa Aw Ac Ax,Aa A0_ r c0_,pt Bj] 75,H0_,bk Bj #[sv Bn,iv Bo,iv Bp,iv BO,Aa Cp Bq Cq,Aa CA B6 CC,iv BQ,Aa Cc AZ Ce] 73]) r):=by
 refine C3 (args:=[pt b0,.agg #[iv Ao,sv Av,iv Ap,iv AF,Aa Bc Ak Be]]) Tryz.func51 rfl (By rfl) ?_
 intro A X hh_
 obtain ⟨AY,Zh,VU,Ft,BC,_⟩:=hh_
 unfold OO.f at h
 refine K.eq (env':=[(0,pt b0),(1,.agg #[iv Ao,sv Av,iv Ap,iv AF,Aa Bc Ak Be])]) (l':=bk b0 #[Aa Aw Ac Ax,Aa Cz Ag C0,pt Bj] 75 :: CI :: bk Bj #[sv Bn,iv Bo,iv Bp,iv BO,Aa Cp Bq Cq,Aa CA B6 CC,iv BQ,Aa Cc AZ Ce] 73 :: X) rfl rfl (ksr (knp #[iv Ao,sv Av,iv Ap,iv AF,Aa Bc Ak Be] 54 fun b1=>(Ad (C1 (ksr (kx 1 (kld 0 1 rfl (bnd h fun r2 hr2 h=>(G2 (Ks.ok hr2) trivial (kx 1 ?_))))))))))
 refine Ad ?_
 refine AU h (fun h=>?_) fun h=>?_
 ·refine Bu (kx 1 (kld 0 3 rfl (K.drop (Cb h (fun _ hr4=>(Hk.ok hr4)) rfl trivial (fun _ e=>B_ (kpn 3 e rfl)) fun r4 h=>?_))))
  rintro _ _ ⟨rfl,rfl⟩
  refine Hb (knl (B7 (Cw ?_)))
  obtain rfl:=As h
  exact kdv (.tuple #[]) [bk b0 #[Aa Aw Ac Ax,Aa Cz Ag C0,pt Bj] 75,CI,bk Bj #[sv Bn,iv Bo,iv Bp,iv BO,Aa Cp Bq Cq,Aa CA B6 CC,iv BQ,Aa Cc AZ Ce] 73] (BH (PR.okI ⟨CI,Cz,C0,D8,rfl,rfl⟩))
 ·refine B8 (kpr [(0,0),(1,0),(2,0),(3,3),(4,0),(5,0),(6,3),(7,0),(8,3)] [0,1,3] (Ar 3 (AP 1 2 rfl (Ar 2 (AP 2 5 rfl (Ar 1 (AP 0 1 rfl (Ca (bnd h fun r6 Nh h=>(G2 (Mf.ok Nh Ej) ⟨(t4 VU),trivial⟩ ?_))))))))))
  refine kx 1 (Ad ?_)
  refine AU h (fun h=>?_) fun h=>?_
  ·refine BV (B7 (Cw ?_))
   obtain rfl:=As h
   exact kdv (.tuple #[]) [bk b0 #[Aa Aw Ac Ax,Aa Cz Ag C0,pt Bj] 75,CI,bk Bj #[sv Bn,iv Bo,iv Bp,iv BO,Aa Cp Bq Cq,Aa CA B6 CC,iv BQ,Aa Cc AZ Ce] 73] (K.drop (BH (PR.okI ⟨CI,Cz,C0,D8,rfl,rfl⟩)))
  ·refine B8 (kpr [(0,0),(1,0),(2,0),(3,3),(4,0),(5,0),(6,3),(7,0),(8,3)] [0,1,3] (Ar 3 (AP 1 2 rfl (Ar 2 (AP 2 7 rfl (Ar 1 (AP 0 1 rfl (Ca (bnd h fun r8 hr8 h=>(G2 (Mf.ok hr8 Ex) ⟨(t4 Ft),trivial⟩ ?_))))))))))
   refine kx 1 (Ad ?_)
   refine AU h (fun h=>?_) fun h=>?_
   ·refine Bu (kx 1 (kld 0 3 rfl (K.drop (Cb h (fun _ LF=>(Hk.ok LF)) rfl trivial (fun _ e=>B_ (kpn 3 e rfl)) fun r10 h=>?_))))
    rintro _ _ ⟨rfl,rfl⟩
    refine Hb (knl (B7 (Cw ?_)))
    obtain rfl:=As h
    exact kdv (.tuple #[]) [bk b0 #[Aa Aw Ac Ax,Aa Cz Ag C0,pt Bj] 75,CI,bk Bj #[sv Bn,iv Bo,iv Bp,iv BO,Aa Cp Bq Cq,Aa CA B6 CC,iv BQ,Aa Cc AZ Ce] 73] (BH (PR.okI ⟨CI,Cz,C0,D8,rfl,rfl⟩))
   ·refine Bu (kx 2 (kld 0 1 rfl (K.drop (K.Al (K.Al (K.Al (bnd h fun r12 Zv h=>(Bz (Na.ok Zv AJ D8 DG Ej Ex) rfl ⟨AY,Zh,VU,Ft,trivial⟩ ?_))))))))
    rintro _ _ ⟨h13,Hf,k15,o16,rfl,rfl⟩
    refine Ok (knl (B7 (Cw ?_)))
    obtain rfl:=As h
    exact kdv (.tuple #[]) [bk b0 #[Aa Aw Ac Ax,Aa Hf r12 k15,pt Bj] 75,h13,bk Bj #[sv Bn,iv Bo,iv Bp,iv BO,Aa Cp Bq Cq,Aa CA B6 CC,iv BQ,Aa Cc AZ Ce] 73] (BH (PR.okI ⟨h13,Hf,k15,o16,rfl,rfl⟩))
theorem A6u:Gy Tryz.prog 38 78 3 32 Tryz.t78 (.agg #[iv 0,iv 0,sv noS]):=⟨by kernel_rfl,by kernel_rfl,by kernel_rfl,by kernel_rfl,by kernel_rfl,by kernel_rfl,by decide⟩
def M_.f (k:Nat) (Ac:CZ) (Ag:Ae) (Bn:ByteArray) (Bo:Int) (Bp:Int) (BO:Int) (Bq:Bg) (B6:Ae) (BQ:Int) (AZ:Ae) (Ao:Int) (Av:ByteArray) (Ap:Int) (AF:Int) (Ak:List Tree) (Er:Int) (Lu:Int) (Lv:ByteArray):Option (PR Bg (Int×Int)):=(Qb.f k Bq Er Lu Lv).bind fun r3=>cond (!r3) (PR.bind (Fm.f k Ao Av Ap AF Ak (IntKind.i64.wrap (((Bq.length:Nat):Int)+1)) 250) fun r5=>(apd 32 Bq [(Er,Lu,Lv)]).bind fun l8=>some (PR.ok (l8))) (some (PR.ok (Bq)))
theorem M_.ok {k b0 Ax C0 Bj Cq CC Ce Be:Nat} {Ac:CZ} {Ag B6 AZ:Ae} {Bn Av Lv:ByteArray} {Bo Bp BO BQ Ao Ap AF Er Lu:Int} {Bq:Bg} {Ak:List Tree} {B5 CI Da Ds Fi Cs:Ab} {Aw Cz Cp CA Cc Bc:Aq} {r:PR Bg (Int×Int)} (h:M_.f k Ac Ag Bn Bo Bp BO Bq B6 BQ AZ Ao Av Ap AF Ak Er Lu Lv=some r) (AJ:RdR FU B5 (Aa Aw Ac Ax) Ac) (D8:Bl encS 1 CI (Aa Cz Ag C0) Ag) (DG:Ah Dv 78 3 Da (Aa Cp Bq Cq) Bq) (Ej:Bl encS 1 Ds (Aa CA B6 CC) B6) (Ex:Bl encS 1 Fi (Aa Cc AZ Ce) AZ) (BE:RdR (AX 54) Cs (Aa Bc Ak Be) Ak): Ct Tryz.prog 50 #[pt b0,.agg #[iv Ao,sv Av,iv Ap,iv AF,Aa Bc Ak Be],.agg #[iv Er,iv Lu,sv Lv]] [bk b0 #[Aa Aw Ac Ax,Aa Cz Ag C0,pt Bj] 75,bk Bj #[sv Bn,iv Bo,iv Bp,iv BO,Aa Cp Bq Cq,Aa CA B6 CC,iv BQ,Aa Cc AZ Ce] 73,Da] [B5,CI,Ds,Fi,Cs] (PR.Post KS (fun (r:Bg) e l1=>∃ (H0_:Ab) (A0_:Aq) (c0_:Nat),Ah Dv 78 3 H0_ (Aa A0_ r c0_) r∧e=.returned (.tuple #[])∧l1=[bk b0 #[Aa Aw Ac Ax,Aa Cz Ag C0,pt Bj] 75,bk Bj #[sv Bn,iv Bo,iv Bp,iv BO,Aa A0_ r c0_,Aa CA B6 CC,iv BQ,Aa Cc AZ Ce] 73,H0_]) r):=by
 refine C3 (args:=[pt b0,.agg #[iv Ao,sv Av,iv Ap,iv AF,Aa Bc Ak Be],.agg #[iv Er,iv Lu,sv Lv]]) Tryz.func50 rfl (By rfl) ?_
 intro A X hh_
 obtain ⟨AY,Bcw,VU,Ft,BC,_⟩:=hh_
 unfold M_.f at h
 refine K.eq (env':=[(0,pt b0),(1,.agg #[iv Ao,sv Av,iv Ap,iv AF,Aa Bc Ak Be]),(2,.agg #[iv Er,iv Lu,sv Lv])]) (l':=bk b0 #[Aa Aw Ac Ax,Aa Cz Ag C0,pt Bj] 75 :: bk Bj #[sv Bn,iv Bo,iv Bp,iv BO,Aa Cp Bq Cq,Aa CA B6 CC,iv BQ,Aa Cc AZ Ce] 73 :: Da :: X) rfl rfl (ksr (knp #[iv Ao,sv Av,iv Ap,iv AF,Aa Bc Ak Be] 54 fun b1=>(knp #[iv Er,iv Lu,sv Lv] 78 fun b2=>(Ad (B8 (kpr [(0,0),(1,0),(2,0),(3,3),(4,0),(5,0),(6,0),(7,3),(8,3)] [0,2,3] (Ar 3 (AP 1 2 rfl (Ar 3 (AP 2 4 rfl ?_))))))))))
 refine GR 0 0 3 rfl (Ca (bnd h fun r3 hr3 h=>(G2 (Qb.ok hr3 (Ah.rd DG)) ⟨(.tail _ (.tail _ (.tail _ (.tail _ (.head _))))),trivial⟩ (kx 1 (Ad ?_)))))
 refine AU h (fun h=>?_) fun h=>?_
 ·refine B8 (kpr [(0,3),(1,0),(2,0),(3,0),(4,3),(5,0),(6,0),(7,0),(8,3),(9,0),(10,0)] [1,2,3] (GR 0 0 5 rfl (Ar 3 (AP 1 2 rfl (Ar 3 (AP 2 4 rfl (Ar 2 (Ca (Cb h (fun _ hr5=>(Fm.ok hr5 BE)) rfl ⟨(t5 BC),trivial⟩ (fun _ e=>Bf (kpn 5 e rfl)) fun r5 h=>?_)))))))))
  rintro _ _ ⟨rfl,rfl⟩
  refine Hb (K.An (K.drop (Ad (kpr [(0,0),(1,0),(2,0),(3,3),(4,0),(5,0),(6,0),(7,3),(8,0),(9,0),(10,0),(11,3),(12,3),(13,1),(14,1)] [0,1,2] (Ar 3 (AP 1 2 rfl (Ar 3 (AP 1 2 rfl (Ar 3 (AP 2 4 rfl ?_))))))))))
  refine GR 0 0 3 rfl (kpt (HY #[iv Er,iv Lu,sv Lv] 78 1 fun b7=>(Dm [1,2,3] rfl (kpt (K.Bx (bnd h fun l8 hl8 h=>(Adk (ys:=[(Er,Lu,Lv)]) Y4 rfl A6u (by kernel_rfl) (by kernel_rfl) (by kernel_rfl) (by kernel_rfl) hl8 DG (Qd (n:=1) Y4 [(Er,Lu,Lv)] (by kernel_rfl) rfl (by decide) 1 rfl) fun h9 F5 k11 Ht=>(Dm [2,3,4] rfl (Ca (kx 3 ?_))))))))))
  refine K.Bx (AQ 4 1 #[sv Bn,iv Bo,iv Bp,iv BO,Aa F5 l8 k11,Aa CA B6 CC,iv BQ,Aa Cc AZ Ce] (K.Al (K.drop (K.Al (K.drop (knl (Cw ?_)))))))
  obtain rfl:=As h
  exact kdv (.tuple #[]) [bk b0 #[Aa Aw Ac Ax,Aa Cz Ag C0,pt Bj] 75,bk Bj #[sv Bn,iv Bo,iv Bp,iv BO,Aa F5 l8 k11,Aa CA B6 CC,iv BQ,Aa Cc AZ Ce] 73,h9] (K.An (K.An (K.Al (BH (PR.okI ⟨h9,F5,k11,Ht,rfl,rfl⟩)))))
 ·refine BV (Cw ?_)
  obtain rfl:=As h
  exact kdv (.tuple #[]) [bk b0 #[Aa Aw Ac Ax,Aa Cz Ag C0,pt Bj] 75,bk Bj #[sv Bn,iv Bo,iv Bp,iv BO,Aa Cp Bq Cq,Aa CA B6 CC,iv BQ,Aa Cc AZ Ce] 73,Da] (K.drop (K.drop (BH (PR.okI ⟨Da,Cp,Cq,DG,rfl,rfl⟩))))
def Hj.l0:Nat→(a2:List Tree)→(J7:(List ByteArray)→Option (PR (Int×List ByteArray) (Int×Int)))→(x10:Int)→(LO:List ByteArray)→Option (PR (Int×List ByteArray) (Int×Int))
 | 0,_,_,_,_=>none
 | m16+1,a2,J7,x10,LO=>cond (decide (x10 < ((a2.length:Nat):Int))) ((Bh a2 x10).bind fun x18=>BG (fun (_:Unit)=>(apd 16 LO [x18.text]).bind fun Jt=>Hj.l0 m16 a2 J7 (IntKind.i64.wrap (x10+1)) Jt) (fun J28=>(Ks.f m16 x18.text).bind fun Iw=>cond Iw (PR.bind (Hk.f m16 5 x18.at_) fun Ix=>J28 ()) (J28 ()))) (J7 LO)
def Hj.f (k:Nat) (Ac:CZ) (Ag:Ae) (Bn:ByteArray) (Bo:Int) (Bp:Int) (BO:Int) (Bq:Bg) (B6:Ae) (BQ:Int) (AZ:Ae) (Ao:Int) (Av:ByteArray) (Ap:Int) (AF:Int) (Ak:List Tree) (a2:List Tree):Option (PR (Int×Ae) (Int×Int)):=BG (fun (l2:Ae)=>PR.bind (Fm.f k Ao Av Ap AF Ak ((l2.length:Nat):Int) 60) fun r8=>some (PR.ok ((if ((l2.length:Nat):Int) > BO then ((l2.length:Nat):Int) else BO),l2))) (fun J7=>Hj.l0 k a2 J7 0 B6)
theorem Hj.ok {k b0 Ax C0 Bj Cq CC Ce Be Gj:Nat} {Ac:CZ} {Ag B6 AZ:Ae} {Bn Av:ByteArray} {Bo Bp BO BQ Ao Ap AF:Int} {Bq:Bg} {Ak a2:List Tree} {B5 CI Da Ds Fi Cs Kn:Ab} {Aw Cz Cp CA Cc Bc Gi:Aq} {r:PR (Int×Ae) (Int×Int)} (h:Hj.f k Ac Ag Bn Bo Bp BO Bq B6 BQ AZ Ao Av Ap AF Ak a2=some r) (AJ:RdR FU B5 (Aa Aw Ac Ax) Ac) (D8:Bl encS 1 CI (Aa Cz Ag C0) Ag) (DG:Bl Dv 3 Da (Aa Cp Bq Cq) Bq) (Ej:Ah encS 9 1 Ds (Aa CA B6 CC) B6) (Ex:Bl encS 1 Fi (Aa Cc AZ Ce) AZ) (BE:RdR (AX 54) Cs (Aa Bc Ak Be) Ak) (NP:RdR (AX 54) Kn (Aa Gi a2 Gj) a2): Ct Tryz.prog 34 #[pt b0,.agg #[iv Ao,sv Av,iv Ap,iv AF,Aa Bc Ak Be],Aa Gi a2 Gj] [bk b0 #[Aa Aw Ac Ax,Aa Cz Ag C0,pt Bj] 75,bk Bj #[sv Bn,iv Bo,iv Bp,iv BO,Aa Cp Bq Cq,Aa CA B6 CC,iv BQ,Aa Cc AZ Ce] 73,Ds] [B5,CI,Da,Fi,Cs,Kn] (PR.Post KS (fun (r:Int×Ae) e l1=>∃ (H0_:Ab) (A0_:Aq) (c0_:Nat),Ah encS 9 1 H0_ (Aa A0_ r.2 c0_) r.2∧e=.returned (.tuple #[])∧l1=[bk b0 #[Aa Aw Ac Ax,Aa Cz Ag C0,pt Bj] 75,bk Bj #[sv Bn,iv Bo,iv Bp,iv r.1,Aa Cp Bq Cq,Aa A0_ r.2 c0_,iv BQ,Aa Cc AZ Ce] 73,H0_]) r):=by
 refine C3 (args:=[pt b0,.agg #[iv Ao,sv Av,iv Ap,iv AF,Aa Bc Ak Be],Aa Gi a2 Gj]) Tryz.func34 rfl (By rfl) ?_
 intro A X hh_
 obtain ⟨AY,Bcw,Zh,Ft,BC,Nf,_⟩:=hh_
 unfold Hj.f at h
 refine K.eq (env':=[(0,pt b0),(1,.agg #[iv Ao,sv Av,iv Ap,iv AF,Aa Bc Ak Be]),(2,Aa Gi a2 Gj)]) (l':=bk b0 #[Aa Aw Ac Ax,Aa Cz Ag C0,pt Bj] 75 :: bk Bj #[sv Bn,iv Bo,iv Bp,iv BO,Aa Cp Bq Cq,Aa CA B6 CC,iv BQ,Aa Cc AZ Ce] 73 :: Ds :: X) rfl rfl (ksr (knp #[iv Ao,sv Av,iv Ap,iv AF,Aa Bc Ak Be] 54 fun b1=>(Ad ?_)))
 obtain ⟨J7,hJ7,h⟩:=De h
 refine Df (τ:=Ae×Ab×Aq×Nat) (fun t=>[(0,pt b0),(4,pt b1)]) (fun t=>bk b1 #[iv Ao,sv Av,iv Ap,iv AF,Aa Bc Ak Be] 54 :: bk b0 #[Aa Aw Ac Ax,Aa Cz Ag C0,pt Bj] 75 :: bk Bj #[sv Bn,iv Bo,iv Bp,iv BO,Aa Cp Bq Cq,Aa t.2.2.1 t.1 t.2.2.2,iv BQ,Aa Cc AZ Ce] 73 :: t.2.1 :: X) (fun t=>J7 t.1=some r∧Ah encS 9 1 t.2.1 (Aa t.2.2.1 t.1 t.2.2.2) t.1) ?_ ?_
 ·rintro ⟨l2,h3,A4,k5⟩ ⟨h,o6⟩
  subst hJ7
  refine B8 (kpr [(0,3),(1,0),(2,0),(3,0),(4,3),(5,0),(6,0),(7,3),(8,0)] [0,1,2] (GR 0 0 5 rfl (Ar 3 (AP 1 2 rfl (Ar 2 (AP 2 5 rfl (Ar 1 (Ca (Cb h (fun _ hr8=>(Fm.ok hr8 BE)) rfl ⟨(t4 BC),trivial⟩ (fun _ e=>Bf (kpn 4 e rfl)) fun r8 h=>?_)))))))))
  rintro _ _ ⟨rfl,rfl⟩
  refine Hb (K.drop (Ad (kpr [(0,0),(1,0),(2,0),(3,3),(4,0),(5,0),(6,0),(7,3),(8,0),(9,0),(10,0),(11,3),(12,0),(13,0),(14,0),(15,3),(16,0),(17,0),(18,3),(19,0),(20,0)] [0,1] (Ar 3 (AP 0 2 rfl (Ar 3 (AP 0 2 rfl (Ar 3 (AP 1 3 rfl (Ar 3 ?_))))))))))
  refine AP 0 2 rfl (Ar 2 (AP 1 5 rfl (Ar 2 (Ca (kx 3 (K.An (AQ 3 1 #[sv Bn,iv Bo,iv Bp,iv (if ((l2.length:Nat):Int) > BO then ((l2.length:Nat):Int) else BO),Aa Cp Bq Cq,Aa A4 l2 k5,iv BQ,Aa Cc AZ Ce] (knl (Cw ?_)))))))))
  obtain rfl:=As h
  exact kdv (.tuple #[]) [bk b0 #[Aa Aw Ac Ax,Aa Cz Ag C0,pt Bj] 75,bk Bj #[sv Bn,iv Bo,iv Bp,iv (if ((l2.length:Nat):Int) > BO then ((l2.length:Nat):Int) else BO),Aa Cp Bq Cq,Aa A4 l2 k5,iv BQ,Aa Cc AZ Ce] 73,h3] (K.Al (K.An (K.Al (BH (PR.okI ⟨h3,A4,k5,o6,rfl,rfl⟩)))))
 ·skip
  refine ksr (kx 3 (Ad (C1 (Fx (τ:=Int×Ae×Ab×Aq×Nat) (fun t=>[(0,pt b0),(4,pt b1),(8,Aa Gi a2 Gj),(9,iv ((a2.length:Nat):Int)),(10,iv t.1)]) (fun t=>bk b1 #[iv Ao,sv Av,iv Ap,iv AF,Aa Bc Ak Be] 54 :: bk b0 #[Aa Aw Ac Ax,Aa Cz Ag C0,pt Bj] 75 :: bk Bj #[sv Bn,iv Bo,iv Bp,iv BO,Aa Cp Bq Cq,Aa t.2.2.2.1 t.2.1 t.2.2.2.2,iv BQ,Aa Cc AZ Ce] 73 :: t.2.2.1 :: X) (fun m t=>Hj.l0 m a2 J7 t.1 t.2.1=some r∧Ah encS 9 1 t.2.2.1 (Aa t.2.2.2.1 t.2.1 t.2.2.2.2) t.2.1) k (0,B6,Ds,CA,CC) ⟨h,Ej⟩ sb rfl ?_))))
  clear h
  rintro m16 ⟨x10,LO,h12,KJ,k14⟩ ⟨h,o15⟩
  cases m16 with
  | zero=>simp [Hj.l0] at h
  | succ m16 =>
   simp only [Hj.l0] at h
   refine ksr (kx 1 (Ad (B8 ?_)))
   refine AU h (fun h=>?_) fun h=>?_
   ·refine BV (AM (B8 (C1 (ksr (bnd h fun x18 Bgv h=>(DI (T:=54) (kd:=.i64) (R:=(AX 54)) rfl Bgv NP fun p19 u22 q23 e20 y21=>?_))))))
    obtain ⟨FF,k25,rfl,JS⟩:=DF 54 q23
    refine Fq rfl e20 (t4 Nf) (knp #[iv 0,sv noS,iv 0,iv 0,nS] 54 fun b27=>(AQ 0 5 #[iv x18.kind,sv x18.text,iv x18.n,iv x18.at_,Aa FF x18.kids k25] (Ad ?_)))
    obtain ⟨J28,YW,h⟩:=De h
    refine Df (τ:=Unit) (fun t=>[(0,pt b0),(4,pt b1),(7,pt b27),(8,Aa Gi a2 Gj),(9,iv ((a2.length:Nat):Int)),(10,iv x10)]) (fun t=>bk b27 #[iv x18.kind,sv x18.text,iv x18.n,iv x18.at_,Aa FF x18.kids k25] 54 :: bk b1 #[iv Ao,sv Av,iv Ap,iv AF,Aa Bc Ak Be] 54 :: bk b0 #[Aa Aw Ac Ax,Aa Cz Ag C0,pt Bj] 75 :: bk Bj #[sv Bn,iv Bo,iv Bp,iv BO,Aa Cp Bq Cq,Aa KJ LO k14,iv BQ,Aa Cc AZ Ce] 73 :: h12 :: X) (fun t=>J28 ()=some r) ?_ ?_
    ·rintro ⟨⟩ h
     subst YW
     refine kpr [(0,0),(1,0),(2,0),(3,3),(4,0),(5,0),(6,0),(7,3),(8,0),(9,0),(10,3),(11,0),(12,3),(13,1),(14,1)] [0,2,3] (Ar 3 (AP 1 2 rfl (Ar 3 (AP 1 2 rfl (Ar 2 (AP 2 5 rfl (Ar 1 (AP 0 1 rfl (kpt (HY #[sv x18.text] 9 1 fun b29=>?_))))))))))
     refine Dm [1,3,4] rfl (kpt (K.mv5 (bnd h fun Jt Zg h=>(Adk (ys:=[x18.text]) Jp rfl SN (by kernel_rfl) (by kernel_rfl) (by kernel_rfl) (by kernel_rfl) Zg o15 (Qd (n:=1) Jp [x18.text] (by kernel_rfl) rfl (by decide) 1 rfl) fun h31 MN k33 Is=>(Dm [2,4,5] rfl (Ca (kx 2 (K.mv5 (AQ 5 1 #[sv Bn,iv Bo,iv Bp,iv BO,Aa Cp Bq Cq,Aa MN Jt k33,iv BQ,Aa Cc AZ Ce] (K.Al ?_))))))))))
     refine K.drop (K.Al (K.drop (knl (B7 (AM (Bu (kx 2 (Ad (K.An (K.An ?_))))))))))
     exact K.mv3 (K.mv3 (E3 m16 (IntKind.i64.wrap (x10+1),Jt,h31,MN,k33) (Nat.lt_succ_self _) ⟨h,Is⟩ sb rfl))
    ·skip
     refine ksr (kx 1 (kld 0 1 rfl (bnd h fun Iw Pj h=>(G2 (Ks.ok Pj) trivial (Ad ?_)))))
     refine AU h (fun h=>?_) fun h=>?_
     ·refine Bu (kx 1 (kld 0 3 rfl (Cb h (fun _ Pk=>(Hk.ok Pk)) rfl trivial (fun _ e=>Bf (B_ (Bf (Bf (B_ (Bf (kpn 5 e rfl))))))) fun Ix h=>?_)))
      rintro _ _ ⟨rfl,rfl⟩
      exact Hb (Ad (B4 () h sb rfl))
     ·exact BV (AM (B4 () h sb rfl))
   ·exact Fv (Dg (Dg (Fw (AM (B4 (LO,h12,KJ,k14) ⟨h,o15⟩ sb rfl)))))
end
end Go.Proofs.YtkdjiehclahliaaGreatDoor
