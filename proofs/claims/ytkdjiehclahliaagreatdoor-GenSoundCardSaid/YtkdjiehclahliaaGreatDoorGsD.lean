/- Texts of mine for genSound_card, part 4. -/
import Derived.Test.YtkdjiehclahliaaGreatDoorGsC
set_option linter.unusedSimpArgs false
set_option linter.unusedVariables false
set_option linter.unusedSectionVars false
namespace Go.Proofs.YtkdjiehclahliaaGreatDoor
set_option maxRecDepth 100000
section
open Go Go.RowKit
def Le {α:Type} (x y:Option α):Prop:=∀ v,x=some v→y=some v
section
variable {α β:Type}
theorem Le.refl (x:Option α):Le x x:=fun _ h=>h
theorem Le.none (x:Option α):Le none x:=fun _ h=>by cases h
theorem Le.trans {x y z:Option α} (h1:Le x y) (h2:Le y z):Le x z:=fun v h=>h2 v (h1 v h)
theorem Le.bind {x y:Option (PV α)} {f g:α→List Tk→Option (PV β)} (h:Le x y) (hf:∀ a r,Le (f a r) (g a r)):Le (PV.bind x f) (PV.bind y g):=fun v hv=>by
 rcases bind_some hv with ⟨i,hx,rfl⟩ | ⟨a,r,hx,h2⟩
 ·rw [h _ hx];rfl
 ·rw [h _ hx];exact hf a r _ h2
theorem Le.ite {c:Prop} [Decidable c] {x y x' y':Option α} (h1:Le x x') (h2:Le y y'):Le (if c then x else y) (if c then x' else y'):=by
 by_cases h:c
 ·rw [if_pos h,if_pos h];exact h1
 ·rw [if_neg h,if_neg h];exact h2
end
theorem Bnd:∀ (f:Nat) (acc:List Tree) (ts:List Tk),Le (Apm f acc ts) (Apm (f+1) acc ts)
 | 0,_,_=>Le.none _
 | f+1,acc,ts=>by
  rw [Apm,Apm]
  exact Le.ite (Le.bind (Le.refl _) fun _ _=>Bnd f _ _) (Le.refl _)
theorem Cgg (f:Nat) (ts:List Tk):Le (A2r f ts) (A2r (f+1) ts):=Le.bind (Le.refl _) fun _ _=>Bnd f _ _
structure LeE (f:Nat):Prop where
 exp:∀ least ts,Le (Aie f least ts) (Aie (f+1) least ts)
 loop:∀ least n ts,Le (Anh f least n ts) (Anh (f+1) least n ts)
 operand:∀ ts,Le (Amq f ts) (Amq (f+1) ts)
 fields:∀ acc ts,Le (Amo f acc ts) (Amo (f+1) acc ts)
 field:∀ ts,Le (Anx f ts) (Anx (f+1) ts)
 Akv:∀ ts,Le (Alq f ts) (Alq (f+1) ts)
 Aiv:∀ at_ n ts,Le (Alp f at_ n ts) (Alp (f+1) at_ n ts)
 Ahv:∀ ts,Le (Alm f ts) (Alm (f+1) ts)
 Aph:∀ acc ts,Le (Anb f acc ts) (Anb (f+1) acc ts)
theorem leE:∀ f,LeE f
 | 0=>by constructor <;> intros <;> (first | rw [Aie] | rw [Anh] | rw [Amq] | rw [Amo] | rw [Anx] | rw [Alq] | rw [Alp] | rw [Alm] | rw [Anb]) <;> exact Le.none _
 | f+1=>by
  have ih:=leE f
  constructor
  ·intro least ts;rw [Aie,Aie]
   exact Le.bind (ih.operand _) fun _ _=>ih.loop _ _ _
  ·intro least n ts;rw [Anh,Anh]
   exact Le.ite (Le.refl _) (Le.bind (ih.exp _ _) fun _ _=>ih.loop _ _ _)
  ·intro ts;rw [Amq,Amq]
   exact Le.ite (Le.refl _) (Le.ite (Le.refl _) (Le.ite (Le.refl _) (Le.ite (Le.refl _) (Le.ite (Le.refl _) (Le.ite (Le.bind (ih.exp _ _) fun _ _=>Le.refl _) (Le.ite (Le.bind (ih.fields _ _) fun _ _=>Le.refl _) (ih.Akv _)))))))
  ·intro acc ts;rw [Amo,Amo]
   exact Le.ite (Le.refl _) (Le.bind (ih.field _) fun _ _=>Le.ite (ih.fields _ _) (Le.ite (ih.fields _ _) (Le.refl _)))
  ·intro ts;rw [Anx,Anx]
   exact Le.ite (Le.bind (ih.exp _ _) fun _ _=>Le.bind (Le.refl _) fun _ _=>Le.bind (Le.refl _) fun _ _=>Le.bind (ih.exp _ _) fun _ _=>Le.refl _) (Le.ite (Le.bind (ih.exp _ _) fun _ _=>Le.refl _) (Le.bind (ih.exp _ _) fun _ _=>Le.refl _))
  ·intro ts;rw [Alq,Alq]
   exact Le.ite (Le.bind (ih.exp _ _) fun _ _=>Le.bind (Le.refl _) fun _ _=>ih.Aiv _ _ _) (Le.bind (Le.refl _) fun _ _=>ih.Aiv _ _ _)
  ·intro at_ n ts;rw [Alp,Alp]
   exact Le.ite (Le.bind (ih.exp _ _) fun _ _=>Le.bind (Le.refl _) fun _ _=>ih.Aiv _ _ _) (Le.ite (Le.bind (Le.refl _) fun _ _=>ih.Aiv _ _ _) (Le.ite (Le.bind (Le.ite (Le.refl _) (ih.Ahv _)) fun _ _=>Le.bind (Le.refl _) fun _ _=>ih.Aiv _ _ _) (Le.refl _)))
  ·intro ts;rw [Alm,Alm]
   exact Le.bind (ih.exp _ _) fun _ _=>ih.Aph _ _
  ·intro acc ts;rw [Anb,Anb]
   exact Le.ite (Le.bind (ih.exp _ _) fun _ _=>ih.Aph _ _) (Le.refl _)
structure LeS (f:Nat):Prop where
 block:∀ c ts,Le (Ald f c ts) (Ald (f+1) c ts)
 Akn:∀ c at_ acc ts,Le (Alk f c at_ acc ts) (Alk (f+1) c at_ acc ts)
 function:∀ ts,Le (An1 f ts) (An1 (f+1) ts)
 body:∀ ts,Le (Alv f ts) (Alv (f+1) ts)
 stat:∀ ts,Le (An4 f ts) (An4 (f+1) ts)
 branches:∀ acc ts,Le (Ana f acc ts) (Ana (f+1) acc ts)
 for_:∀ at_ ts,Le (An0 f at_ ts) (An0 (f+1) at_ ts)
 plain:∀ ts,Le (An2 f ts) (An2 (f+1) ts)
 targets:∀ acc e ts,Le (Anj f acc e ts) (Anj (f+1) acc e ts)
theorem leS:∀ f,LeS f
 | 0=>by constructor <;> intros <;> (first | rw [Ald] | rw [Alk] | rw [An1] | rw [Alv] | rw [An4] | rw [Ana] | rw [An0] | rw [An2] | rw [Anj]) <;> exact Le.none _
 | f+1=>by
  have ih:=leS f
  have ie:=leE f
  constructor
  ·intro c ts;rw [Ald,Ald];exact ih.Akn _ _ _ _
  ·intro c at_ acc ts;rw [Alk,Alk]
   exact Le.ite (ih.Akn _ _ _ _) (Le.ite (Le.bind (Le.ite (Le.refl _) (ie.Ahv _)) fun _ _=>Le.refl _) (Le.ite (Le.bind (ih.function _) fun _ _=>ih.Akn _ _ _ _) (Le.ite (Le.refl _) (Le.bind (ih.stat _) fun _ _=>ih.Akn _ _ _ _))))
  ·intro ts;rw [An1,An1]
   exact Le.bind (Le.refl _) fun _ _=>Le.bind (Le.refl _) fun _ _=>Le.bind (Le.ite (Le.refl _) (Cgg _ _)) fun _ _=>Le.bind (Le.refl _) fun _ _=>Le.bind (ih.block _ _) fun _ _=>Le.refl _
  ·intro ts;rw [Alv,Alv]
   exact Le.bind (Le.refl _) fun _ _=>Le.bind (ih.block _ _) fun _ _=>Le.refl _
  ·intro ts;rw [An4,An4]
   exact Le.ite (Le.bind (ih.body _) fun _ _=>Le.refl _) (Le.ite (Le.bind (ie.exp _ _) fun _ _=>Le.bind (ih.body _) fun _ _=>Le.refl _) (Le.ite (Le.bind (ih.branches _ _) fun _ _=>Le.refl _) (Le.ite (ih.for_ _ _) (Le.ite (Le.bind (Cgg _ _) fun _ _=>Le.bind (Le.ite (ie.Ahv _) (Le.refl _)) fun _ _=>Le.refl _) (Le.ite (Le.refl _) (ih.plain _))))))
  ·intro acc ts;rw [Ana,Ana]
   exact Le.bind (ie.exp _ _) fun _ _=>Le.bind (Le.refl _) fun _ _=>Le.bind (ih.block _ _) fun _ _=>Le.ite (ih.branches _ _) (Le.ite (Le.bind (ih.block _ _) fun _ _=>Le.refl _) (Le.refl _))
  ·intro at_ ts;rw [An0,An0]
   exact Le.bind (Le.refl _) fun _ _=>Le.ite (Le.bind (ie.exp _ _) fun _ _=>Le.bind (Le.refl _) fun _ _=>Le.bind (ie.exp _ _) fun _ _=>Le.bind (Le.ite (Le.bind (ie.exp _ _) fun _ _=>Le.refl _) (Le.refl _)) fun _ _=>Le.bind (ih.body _) fun _ _=>Le.refl _) (Le.bind (Bnd _ _ _) fun _ _=>Le.bind (Le.refl _) fun _ _=>Le.bind (ie.Ahv _) fun _ _=>Le.bind (ih.body _) fun _ _=>Le.refl _)
  ·intro ts;rw [An2,An2]
   exact Le.bind (ie.Akv _) fun _ _=>Le.ite (Le.bind (ih.targets _ _ _) fun _ _=>Le.bind (Le.refl _) fun _ _=>Le.bind (ie.Ahv _) fun _ _=>Le.refl _) (Le.refl _)
  ·intro acc e ts;rw [Anj,Anj]
   exact Le.ite (Le.ite (Le.bind (ie.Akv _) fun _ _=>ih.targets _ _ _) (Le.refl _)) (Le.refl _)
theorem Cgi {α:Type} {p:Nat→Option α} (h:∀ f,Le (p f) (p (f+1))) {f f':Nat} (h0:f≤f'):Le (p f) (p f'):=by
 induction f' with
 | zero=>rw [Nat.le_zero.1 h0];exact Le.refl _
 | succ f' ih =>
  rcases Nat.lt_or_ge f (f'+1) with h1 | h1
  ·exact (ih (by omega)).trans (h f')
  ·rw [show f=f'+1 by omega];exact Le.refl _
def val {α:Type} (x:Option (PV α)):PV α:=x.getD (.bad 0)
def fu (ts:List Tk):Nat:=16 * ts.length+16
theorem Aqk {α:Type} {p:Nat→Option (PV α)} (h:∀ f,Le (p f) (p (f+1))) {f f0:Nat} (h1:∃ v,p f=some v) (h2:∃ v,p f0=some v):p f=some (val (p f0)):=by
 obtain ⟨v,hv⟩:=h1
 obtain ⟨v0,hv0⟩:=h2
 rcases Nat.le_total f f0 with h' | h'
 ·have:=Cgi h h' v hv
  rw [hv,this];rfl
 ·have:=Cgi h h' v0 hv0
  rw [this,hv0];rfl
def Aza (acc:List Tree) (ts:List Tk):PV (List Tree):=val (Apm (fu ts) acc ts)
def Aoj (least:Int) (ts:List Tk):PV Tree:=val (Aie (fu ts) least ts)
def Bc2 (least:Int) (n:Tree) (ts:List Tk):PV Tree:=val (Anh (fu ts) least n ts)
def Bc5 (ts:List Tk):PV Tree:=val (Amq (fu ts) ts)
def A0f (acc:List Tree) (ts:List Tk):PV (List Tree):=val (Amo (fu ts) acc ts)
def Bcz (ts:List Tk):PV Tree:=val (Anx (fu ts) ts)
def A0i (ts:List Tk):PV Tree:=val (Alq (fu ts) ts)
def A3d (at_:Int) (n:Tree) (ts:List Tk):PV Tree:=val (Alp (fu ts) at_ n ts)
def Arc (ts:List Tk):PV (List Tree):=val (Alm (fu ts) ts)
def Bcw (acc:List Tree) (ts:List Tk):PV (List Tree):=val (Anb (fu ts) acc ts)
def Aqj (c:Bool) (ts:List Tk):PV Tree:=val (Ald (fu ts) c ts)
def A5h (c:Bool) (at_:Int) (acc:List Tree) (ts:List Tk):PV Tree:=val (Alk (fu ts) c at_ acc ts)
def Bc0 (ts:List Tk):PV Tree:=val (An1 (fu ts) ts)
def Ay9 (ts:List Tk):PV Tree:=val (Alv (fu ts) ts)
def Bc6 (ts:List Tk):PV Tree:=val (An4 (fu ts) ts)
def A5i (acc:List Tree) (ts:List Tk):PV (List Tree):=val (Ana (fu ts) acc ts)
def Bjv (at_:Int) (ts:List Tk):PV Tree:=val (An0 (fu ts) at_ ts)
def Bjw (ts:List Tk):PV Tree:=val (An2 (fu ts) ts)
def Bdc (acc:List Tree) (e:Tree) (ts:List Tk):PV (List Tree):=val (Anj (fu ts) acc e ts)
def Ajy (w:ByteArray) (ts:List Tk):PV Unit:=if isH w ts then .ok () ts.tail else .bad (hd ts).2.2.2
def Atq (kind:Int) (ts:List Tk):PV Tree:=if (hd ts).1=1 then .ok (.mk kind (hd ts).2.1 0 (hd ts).2.2.2 []) ts.tail else .bad (hd ts).2.2.2
section
variable {ts:List Tk} {f:Nat}
theorem Aq3 (w:ByteArray) (ts:List Tk):Aoe w ts=some (Ajy w ts):=by unfold Aoe Ajy;split <;> rfl
theorem A8z (k:Int) (ts:List Tk):Atn k ts=some (Atq k ts):=by unfold Atn Atq;split <;> rfl
theorem Bhz (acc:List Tree) (hg:Good ts) (hf:16 * ts.length+1≤f):Apm f acc ts=some (Aza acc ts):=Aqk (p:=fun f=>Apm f acc ts) (fun f=>Bnd f acc ts) (Bcr _ _ _ hg hf) (Bcr _ _ _ hg (by unfold fu;omega))
theorem Ar5 {least:Int} (hl:0≤least) (hg:Good ts) (hf:16 * ts.length+5≤f):Aie f least ts=some (Aoj least ts):=Aqk (p:=fun f=>Aie f least ts) (fun f=>(leE f).exp _ _) ((Ap2 _).exp _ _ hl hg hf) ((Ap2 _).exp _ _ hl hg (by unfold fu;omega))
theorem Bz5 {least:Int} (n:Tree) (hl:0≤least) (hg:Good ts) (hf:16 * ts.length+1≤f):Anh f least n ts=some (Bc2 least n ts):=Aqk (p:=fun f=>Anh f least n ts) (fun f=>(leE f).loop _ _ _) ((Ap2 _).loop _ _ _ hl hg hf) ((Ap2 _).loop _ _ _ hl hg (by unfold fu;omega))
theorem Bz6 (hg:Good ts) (hf:16 * ts.length+4≤f):Amq f ts=some (Bc5 ts):=Aqk (p:=fun f=>Amq f ts) (fun f=>(leE f).operand _) ((Ap2 _).operand _ hg hf) ((Ap2 _).operand _ hg (by unfold fu;omega))
theorem Bhx (acc:List Tree) (hg:Good ts) (hf:16 * ts.length+7≤f):Amo f acc ts=some (A0f acc ts):=Aqk (p:=fun f=>Amo f acc ts) (fun f=>(leE f).fields _ _) ((Ap2 _).fields _ _ hg hf) ((Ap2 _).fields _ _ hg (by unfold fu;omega))
theorem Bz3 (hg:Good ts) (hf:16 * ts.length+6≤f):Anx f ts=some (Bcz ts):=Aqk (p:=fun f=>Anx f ts) (fun f=>(leE f).field _) ((Ap2 _).field _ hg hf) ((Ap2 _).field _ hg (by unfold fu;omega))
theorem Bh0 (hg:Good ts) (hf:16 * ts.length+3≤f):Alq f ts=some (A0i ts):=Aqk (p:=fun f=>Alq f ts) (fun f=>(leE f).Akv _) ((Ap2 _).Akv _ hg hf) ((Ap2 _).Akv _ hg (by unfold fu;omega))
theorem Bca (at_:Int) (n:Tree) (hg:Good ts) (hf:16 * ts.length+1≤f):Alp f at_ n ts=some (A3d at_ n ts):=Aqk (p:=fun f=>Alp f at_ n ts) (fun f=>(leE f).Aiv _ _ _) ((Ap2 _).Aiv _ _ _ hg hf) ((Ap2 _).Aiv _ _ _ hg (by unfold fu;omega))
theorem A8x (hg:Good ts) (hf:16 * ts.length+6≤f):Alm f ts=some (Arc ts):=Aqk (p:=fun f=>Alm f ts) (fun f=>(leE f).Ahv _) ((Ap2 _).Ahv _ hg hf) ((Ap2 _).Ahv _ hg (by unfold fu;omega))
theorem Bz2 (acc:List Tree) (hg:Good ts) (hf:16 * ts.length+1≤f):Anb f acc ts=some (Bcw acc ts):=Aqk (p:=fun f=>Anb f acc ts) (fun f=>(leE f).Aph _ _) ((Ap2 _).Aph _ _ hg hf) ((Ap2 _).Aph _ _ hg (by unfold fu;omega))
theorem A8w (c:Bool) (hg:Good ts) (hf:16 * ts.length+9≤f):Ald f c ts=some (Aqj c ts):=Aqk (p:=fun f=>Ald f c ts) (fun f=>(leS f).block _ _) ((Aqc _).block _ _ hg hf) ((Aqc _).block _ _ hg (by unfold fu;omega))
theorem Bhv (c:Bool) (at_:Int) (acc:List Tree) (hg:Good ts) (hf:16 * ts.length+8≤f):Alk f c at_ acc ts=some (A5h c at_ acc ts):=Aqk (p:=fun f=>Alk f c at_ acc ts) (fun f=>(leS f).Akn _ _ _ _) ((Aqc _).Akn _ _ _ _ hg hf) ((Aqc _).Akn _ _ _ _ hg (by unfold fu;omega))
theorem Bz4 (h6:(hd ts).1≠6) (hg:Good ts) (hf:16 * ts.length+7≤f):An1 f ts=some (Bc0 ts):=Aqk (p:=fun f=>An1 f ts) (fun f=>(leS f).function _) ((Aqc _).function _ h6 hg hf) ((Aqc _).function _ h6 hg (by unfold fu;omega))
theorem Bb8 (hg:Good ts) (hf:16 * ts.length+6≤f):Alv f ts=some (Ay9 ts):=Aqk (p:=fun f=>Alv f ts) (fun f=>(leS f).body _) ((Aqc _).body _ hg hf) ((Aqc _).body _ hg (by unfold fu;omega))
theorem Bz7 (hg:Good ts) (hf:16 * ts.length+7≤f):An4 f ts=some (Bc6 ts):=Aqk (p:=fun f=>An4 f ts) (fun f=>(leS f).stat _) ((Aqc _).stat _ hg hf) ((Aqc _).stat _ hg (by unfold fu;omega))
theorem Bn6 (acc:List Tree) (hg:Good ts) (hf:16 * ts.length+6≤f):Ana f acc ts=some (A5i acc ts):=Aqk (p:=fun f=>Ana f acc ts) (fun f=>(leS f).branches _ _) ((Aqc _).branches _ _ hg hf) ((Aqc _).branches _ _ hg (by unfold fu;omega))
theorem Cik (at_:Int) (hg:Good ts) (hf:16 * ts.length+1≤f):An0 f at_ ts=some (Bjv at_ ts):=Aqk (p:=fun f=>An0 f at_ ts) (fun f=>(leS f).for_ _ _) ((Aqc _).for_ _ _ hg hf) ((Aqc _).for_ _ _ hg (by unfold fu;omega))
theorem Cim (hg:Good ts) (hf:16 * ts.length+6≤f):An2 f ts=some (Bjw ts):=Aqk (p:=fun f=>An2 f ts) (fun f=>(leS f).plain _) ((Aqc _).plain _ hg hf) ((Aqc _).plain _ hg (by unfold fu;omega))
theorem Bn7 (acc:List Tree) (e:Tree) (hg:Good ts) (hf:16 * ts.length+1≤f):Anj f acc e ts=some (Bdc acc e ts):=Aqk (p:=fun f=>Anj f acc e ts) (fun f=>(leS f).targets _ _ _) ((Aqc _).targets _ _ _ hg hf) ((Aqc _).targets _ _ _ hg (by unfold fu;omega))
theorem Ajo (w:ByteArray) (hg:Good ts):Fwd 1 ts (Ajy w ts):=Ajv w ts hg _ (Aq3 w ts)
theorem fName (k:Int) (hg:Good ts):Fwd 1 ts (Atq k ts):=Auk k ts hg _ (A8z k ts)
theorem B80 (acc:List Tree) (hg:Good ts):Fwd 0 ts (Aza acc ts):=Bi6 _ _ ts hg _ (Bhz acc hg (by unfold fu;omega:_≤fu ts))
theorem Aj7 {least:Int} (hl:0≤least) (hg:Good ts):Fwd 1 ts (Aoj least ts):=(Az7 _).exp _ _ hg _ (Ar5 hl hg (by unfold fu;omega:_≤fu ts))
theorem B81 (hg:Good ts):Fwd 1 ts (Bc5 ts):=(Az7 _).operand _ hg _ (Bz6 hg (by unfold fu;omega:_≤fu ts))
theorem B8y (acc:List Tree) (hg:Good ts):Fwd 1 ts (A0f acc ts):=(Az7 _).fields _ _ hg _ (Bhx acc hg (by unfold fu;omega:_≤fu ts))
theorem B8x (hg:Good ts):Fwd 1 ts (Bcz ts):=(Az7 _).field _ hg _ (Bz3 hg (by unfold fu;omega:_≤fu ts))
theorem Be1 (hg:Good ts):Fwd 1 ts (A0i ts):=(Az7 _).Akv _ hg _ (Bh0 hg (by unfold fu;omega:_≤fu ts))
theorem A3u (hg:Good ts):Fwd 1 ts (Arc ts):=(Az7 _).Ahv _ hg _ (A8x hg (by unfold fu;omega:_≤fu ts))
theorem Azo (c:Bool) (hg:Good ts):Fwd 0 ts (Aqj c ts):=(stepS _).block _ _ hg _ (A8w c hg (by unfold fu;omega:_≤fu ts))
theorem B8z (h6:(hd ts).1≠6) (hg:Good ts):Fwd 1 ts (Bc0 ts):=(stepS _).function _ h6 hg _ (Bz4 h6 hg (by unfold fu;omega:_≤fu ts))
theorem Blk (hg:Good ts):Fwd 1 ts (Ay9 ts):=(stepS _).body _ hg _ (Bb8 hg (by unfold fu;omega:_≤fu ts))
theorem B83 (hg:Good ts):Fwd 1 ts (Bc6 ts):=(stepS _).stat _ hg _ (Bz7 hg (by unfold fu;omega:_≤fu ts))
theorem B8t (acc:List Tree) (hg:Good ts):Fwd 1 ts (A5i acc ts):=(stepS _).branches _ _ hg _ (Bn6 acc hg (by unfold fu;omega:_≤fu ts))
theorem Cs9 (acc:List Tree) (e:Tree) (hg:Good ts):Fwd 0 ts (Bdc acc e ts):=(stepS _).targets _ _ _ hg _ (Bn7 acc e hg (by unfold fu;omega:_≤fu ts))
end
def PV.then {α β:Type}:PV α→(α→List Tk→PV β)→PV β
 | .ok a r,f=>f a r
 | .bad i,_=>.bad i
section
variable {α β:Type} {n:Nat} {ts:List Tk}
theorem Agd {x:Option (PV α)} {vx:PV α} {f:α→List Tk→Option (PV β)} {g:α→List Tk→PV β} (hx:x=some vx) (hw:Fwd n ts vx) (hf:∀ a r,Good r→r.length+n≤ts.length→f a r=some (g a r)):PV.bind x f=some (vx.then g):=by
 subst hx
 cases vx with
 | bad i=>rfl
 | ok a r=>exact hf a r hw.1 hw.2.1
theorem Aik {c:Prop} [Decidable c] {y z:Option α} {y' z':α} (h1:c→y=some y') (h2:¬ c→z=some z'):(if c then y else z)=some (if c then y' else z'):=by
 by_cases h:c
 ·rw [if_pos h,if_pos h];exact h1 h
 ·rw [if_neg h,if_neg h];exact h2 h
theorem Be6 {c:Prop} [Decidable c] {y z:PV α} (h1:c→Fwd n ts y) (h2:¬ c→Fwd n ts z):Fwd n ts (if c then y else z):=by
 by_cases h:c
 ·rw [if_pos h];exact h1 h
 ·rw [if_neg h];exact h2 h
theorem Be7 {m:Nat} {x:PV α} (h:Fwd n ts x) (hm:m≤n):Fwd m ts x:=by
 cases x with
 | bad=>trivial
 | ok a r=>exact ⟨h.1,by have:=h.2.1;omega,h.2.2⟩
theorem Ba5 {a:α} (hg:Good ts):Fwd 0 ts (.ok a ts):=⟨hg,Nat.le_refl _,List.suffix_refl _⟩
theorem B9e {x:PV α} (hg:Good ts) (h6:(hd ts).1≠6) (h:Fwd n ts.tail x):Fwd (n+1) ts x:=by
 obtain ⟨g1,g2,g3⟩:=hg.tail h6
 cases x with
 | bad=>trivial
 | ok a r=>exact ⟨h.1,by have:=h.2.1;omega,h.2.2.trans g3⟩
theorem B9j {m:Nat} {x:PV α} {f:α→List Tk→PV β} (h1:Fwd n ts x) (h2:∀ a r,Good r→r.length+n≤ts.length→Fwd m r (f a r)):Fwd (n+m) ts (x.then f):=by
 cases x with
 | bad=>trivial
 | ok a r =>
  obtain ⟨g1,g2,g3⟩:=h1
  have:=h2 a r g1 g2
  show Fwd (n+m) ts (f a r)
  cases hf:f a r with
  | bad=>trivial
  | ok b s =>
   rw [hf] at this
   exact ⟨this.1,by have:=this.2.1;omega,this.2.2.trans g3⟩
end
section
variable {ts:List Tk}
theorem or3 {a b c:Bool} {ts:List Tk} {x y z:ByteArray} (ha:a=isH x ts) (hb:b=isH y ts) (hc:c=isH z ts) (h:(a || b || c)=true):(hd ts).1≠6:=by
 subst ha hb hc
 simp only [Bool.or_eq_true] at h
 rcases h with (h | h) | h <;> exact Abq h
theorem Bc3 (acc:List Tree) (hg:Good ts):Aza acc ts=if isH Aoz ts then (Atq 6 ts.tail).then fun n r=>Aza (acc++[n]) r else .ok acc ts:=by
 have h:=Bhz acc hg (f:=fu ts+1) (by unfold fu;omega)
 rw [Apm] at h
 refine Aam (h.symm.trans (Aik (fun hc=>?_) fun _=>rfl))
 obtain ⟨g1,g2,_⟩:=hg.tail (Abq hc)
 exact Agd (A8z _ _) (fName 6 g1) fun a r hr hn=>Bhz _ hr (by unfold fu;omega)
def Aw5 (ts:List Tk):PV (List Tree):=(Atq 6 ts).then fun n r=>Aza [n] r
theorem Cil {f:Nat} (hg:Good ts) (hf:16 * ts.length+1≤f):A2r f ts=some (Aw5 ts):=Agd (A8z _ _) (fName 6 hg) fun a r hr hn=>Bhz _ hr (by omega)
theorem Be0 (hg:Good ts):Fwd 1 ts (Aw5 ts):=B9j (fName 6 hg) fun _ _ hr _=>B80 _ hr
theorem Dfh {least:Int} (hl:0≤least) (hg:Good ts):Aoj least ts=(Bc5 ts).then fun n r=>Bc2 least n r:=by
 have h:=Ar5 hl hg (f:=fu ts+1) (by unfold fu;omega)
 rw [Aie] at h
 exact Aam (h.symm.trans (Agd (Bz6 hg (by unfold fu;omega)) (B81 hg) fun a r hr hn=>Bz5 _ hl hr (by unfold fu;omega)))
theorem Dfq {least:Int} (n:Tree) (hl:0≤least) (hg:Good ts):Bc2 least n ts=if Alu ts≤least then .ok n ts else (Aoj (if Alu ts=4 then 3 else Alu ts) ts.tail).then fun m r=>Bc2 least (.mk 11 (hd ts).2.1 0 n.at_ [n,m]) r:=by
 have h:=Bz5 n hl hg (f:=fu ts+1) (by unfold fu;omega)
 rw [Anh] at h
 refine Aam (h.symm.trans (Aik (fun _=>rfl) fun hb=>?_))
 obtain ⟨g1,g2,_⟩:=hg.tail (Baz (by omega))
 have hq:(0:Int)≤(if Alu ts=4 then 3 else Alu ts):=by split <;> omega
 exact Agd (Ar5 hq g1 (by unfold fu;omega)) (Aj7 hq g1) fun a r hr hn=>Bz5 _ hl hr (by unfold fu;omega)
theorem Dfr (hg:Good ts):Bc5 ts =
  if (hd ts).1=3 then .ok (.mk 4 noB (hd ts).2.2.1 (hd ts).2.2.2 []) ts.tail
  else if (hd ts).1=4 then .ok (.mk 5 (hd ts).2.1 0 (hd ts).2.2.2 []) ts.tail
  else if isH Cet ts then .ok (.mk 1 noB 0 (hd ts).2.2.2 []) ts.tail
  else if isH Ce4 ts then .ok (.mk 2 noB 0 (hd ts).2.2.2 []) ts.tail
  else if isH Cem ts then .ok (.mk 3 noB 0 (hd ts).2.2.2 []) ts.tail
  else if isH Bgu ts || isH Bgt ts || isH A8c ts then (Aoj 7 ts.tail).then fun m r=>.ok (.mk 10 (hd ts).2.1 0 (hd ts).2.2.2 [m]) r
  else if isH kLc ts then (A0f [] ts.tail).then fun l r=>.ok (.mk 12 noB 0 (hd ts).2.2.2 l) r
  else A0i ts:=by
 have h:=Bz6 hg (f:=fu ts+1) (by unfold fu;omega)
 rw [Amq] at h
 refine Aam (h.symm.trans (Aik (fun _=>rfl) fun _=>Aik (fun _=>rfl) fun _=>Aik (fun _=>rfl) fun _=>Aik (fun _=>rfl) fun _=>Aik (fun _=>rfl) fun _=>Aik (fun hc=>?_) fun _=>Aik (fun hc=>?_) fun _=>Bh0 hg (by unfold fu;omega)))
 ·obtain ⟨g1,g2,_⟩:=hg.tail (or3 rfl rfl rfl hc)
  exact Agd (Ar5 (by omega) g1 (by unfold fu;omega)) (Aj7 (by omega) g1) fun _ _ _ _=>rfl
 ·obtain ⟨g1,g2,_⟩:=hg.tail (Abq hc)
  exact Agd (Bhx _ g1 (by unfold fu;omega)) (B8y _ g1) fun _ _ _ _=>rfl
theorem Dfl (acc:List Tree) (hg:Good ts):A0f acc ts =
  if isH kRc ts then .ok acc ts.tail
  else (Bcz ts).then fun x r =>
   if isH Aoz r then A0f (acc++[x]) r.tail
   else if isH At1 r then A0f (acc++[x]) r.tail
   else (Ajy kRc r).then fun _ r=>.ok (acc++[x]) r:=by
 have h:=Bhx acc hg (f:=fu ts+1) (by unfold fu;omega)
 rw [Amo] at h
 refine Aam (h.symm.trans (Aik (fun _=>rfl) fun _=>Agd (Bz3 hg (by unfold fu;omega)) (B8x hg) fun x r hr hn=>Aik (fun hc=>?_) fun _=>Aik (fun hc=>?_) fun _=>Agd (Aq3 _ _) (Ajo _ hr) fun _ _ _ _=>rfl))
 ·obtain ⟨g1,g2,_⟩:=hr.tail (Abq hc)
  exact Bhx _ g1 (by unfold fu;omega)
 ·obtain ⟨g1,g2,_⟩:=hr.tail (Abq hc)
  exact Bhx _ g1 (by unfold fu;omega)
theorem Dfj (hg:Good ts):Bcz ts =
  if isH kLb ts then
   (Aoj 0 ts.tail).then fun k r=>(Ajy kRb r).then fun _ r=>(Ajy kEq r).then fun _ r=>(Aoj 0 r).then fun v r=>.ok (.mk 14 noB 0 (hd ts).2.2.2 [k,v]) r
  else if (hd ts).1=1∧(hd ts.tail).1=5∧(hd ts.tail).2.1.toList=kEq.toList then
   (Aoj 0 ts.tail.tail).then fun v r=>.ok (.mk 14 noB 0 (hd ts).2.2.2 [.mk 5 (hd ts).2.1 0 (hd ts).2.2.2 [],v]) r
  else (Aoj 0 ts).then fun v r=>.ok (.mk 13 noB 0 (hd ts).2.2.2 [v]) r:=by
 have h:=Bz3 hg (f:=fu ts+1) (by unfold fu;omega)
 rw [Anx] at h
 refine Aam (h.symm.trans (Aik (fun hc=>?_) fun _=>Aik (fun hc=>?_) fun _=>Agd (Ar5 (by omega) hg (by unfold fu;omega)) (Aj7 (by omega) hg) fun _ _ _ _=>rfl))
 ·obtain ⟨g1,g2,_⟩:=hg.tail (Abq hc)
  exact Agd (Ar5 (by omega) g1 (by unfold fu;omega)) (Aj7 (by omega) g1) fun _ r hr hn=>Agd (Aq3 _ _) (Ajo _ hr) fun _ r2 hr2 hn2=>Agd (Aq3 _ _) (Ajo _ hr2) fun _ r3 hr3 hn3=>Agd (Ar5 (by omega) hr3 (by unfold fu;omega)) (Aj7 (by omega) hr3) fun _ _ _ _=>rfl
 ·obtain ⟨h1,h2,_⟩:=hc
  obtain ⟨g1,g2,_⟩:=hg.tail (by omega)
  obtain ⟨g3,g4,_⟩:=g1.tail (by omega)
  exact Agd (Ar5 (by omega) g3 (by unfold fu;omega)) (Aj7 (by omega) g3) fun _ _ _ _=>rfl
theorem Dfx (hg:Good ts):A0i ts =
  if isH kLp ts then (Aoj 0 ts.tail).then fun e r=>(Ajy kRp r).then fun _ r=>A3d (hd ts).2.2.2 (.mk 9 noB 0 (hd ts).2.2.2 [e]) r
  else (Atq 6 ts).then fun n r=>A3d (hd ts).2.2.2 n r:=by
 have h:=Bh0 hg (f:=fu ts+1) (by unfold fu;omega)
 rw [Alq] at h
 refine Aam (h.symm.trans (Aik (fun hc=>?_) fun _=>Agd (A8z _ _) (fName _ hg) fun _ r hr hn=>Bca _ _ hr (by unfold fu;omega)))
 obtain ⟨g1,g2,_⟩:=hg.tail (Abq hc)
 exact Agd (Ar5 (by omega) g1 (by unfold fu;omega)) (Aj7 (by omega) g1) fun _ r hr hn=>Agd (Aq3 _ _) (Ajo _ hr) fun _ r2 hr2 hn2=>Bca _ _ hr2 (by unfold fu;omega)
def B20 (ts:List Tk):PV (List Tree):=if isH kRp ts then .ok [] ts else Arc ts
theorem fArgs (hg:Good ts):Fwd 0 ts (B20 ts):=Be6 (fun _=>Ba5 hg) fun _=>Be7 (A3u hg) (by omega)
theorem Dfw (at_:Int) (n:Tree) (hg:Good ts):A3d at_ n ts =
  if isH kLb ts then (Aoj 0 ts.tail).then fun e r=>(Ajy kRb r).then fun _ r=>A3d at_ (.mk 7 noB 0 at_ [n,e]) r
  else if isH Cej ts then (Atq 5 ts.tail).then fun e r=>A3d at_ (.mk 7 noB 0 at_ [n,e]) r
  else if isH kLp ts then (B20 ts.tail).then fun l r=>(Ajy kRp r).then fun _ r=>A3d at_ (.mk 8 noB 0 at_ (n :: l)) r
  else .ok n ts:=by
 have h:=Bca at_ n hg (f:=fu ts+1) (by unfold fu;omega)
 rw [Alp] at h
 refine Aam (h.symm.trans (Aik (fun hc=>?_) fun _=>Aik (fun hc=>?_) fun _=>Aik (fun hc=>?_) fun _=>rfl))
 ·obtain ⟨g1,g2,_⟩:=hg.tail (Abq hc)
  exact Agd (Ar5 (by omega) g1 (by unfold fu;omega)) (Aj7 (by omega) g1) fun _ r hr hn=>Agd (Aq3 _ _) (Ajo _ hr) fun _ r2 hr2 hn2=>Bca _ _ hr2 (by unfold fu;omega)
 ·obtain ⟨g1,g2,_⟩:=hg.tail (Abq hc)
  exact Agd (A8z _ _) (fName _ g1) fun _ r hr hn=>Bca _ _ hr (by unfold fu;omega)
 ·obtain ⟨g1,g2,_⟩:=hg.tail (Abq hc)
  exact Agd (Aik (fun _=>rfl) fun _=>A8x g1 (by unfold fu;omega)) (fArgs g1) fun _ r hr hn=>Agd (Aq3 _ _) (Ajo _ hr) fun _ r2 hr2 hn2=>Bca _ _ hr2 (by unfold fu;omega)
theorem Cl9 (hg:Good ts):Arc ts=(Aoj 0 ts).then fun e r=>Bcw [e] r:=by
 have h:=A8x hg (f:=fu ts+1) (by unfold fu;omega)
 rw [Alm] at h
 exact Aam (h.symm.trans (Agd (Ar5 (by omega) hg (by unfold fu;omega)) (Aj7 (by omega) hg) fun a r hr hn=>Bz2 _ hr (by unfold fu;omega)))
theorem Cl8 (acc:List Tree) (hg:Good ts):Bcw acc ts=if isH Aoz ts then (Aoj 0 ts.tail).then fun e r=>Bcw (acc++[e]) r else .ok acc ts:=by
 have h:=Bz2 acc hg (f:=fu ts+1) (by unfold fu;omega)
 rw [Anb] at h
 refine Aam (h.symm.trans (Aik (fun hc=>?_) fun _=>rfl))
 obtain ⟨g1,g2,_⟩:=hg.tail (Abq hc)
 exact Agd (Ar5 (by omega) g1 (by unfold fu;omega)) (Aj7 (by omega) g1) fun a r hr hn=>Bz2 _ hr (by unfold fu;omega)
theorem Dfc (c:Bool) (hg:Good ts):Aqj c ts=A5h c (hd ts).2.2.2 [] ts:=by
 have h:=A8w c hg (f:=fu ts+1) (by unfold fu;omega)
 rw [Ald] at h
 exact Aam (h.symm.trans (Bhv _ _ _ hg (by unfold fu;omega)))
def B22 (ts:List Tk):PV (List Tree):=if A6f ts || isH At1 ts then .ok [] ts else Arc ts
theorem Cs4 (hg:Good ts):Fwd 0 ts (B22 ts):=Be6 (fun _=>Ba5 hg) fun _=>Be7 (A3u hg) (by omega)
theorem Dfa (c:Bool) (at_:Int) (acc:List Tree) (hg:Good ts):A5h c at_ acc ts =
  if isH At1 ts then A5h c at_ acc ts.tail
  else if isH Cew ts then (B22 ts.tail).then fun l r=>.ok (.mk 20 noB 0 at_ (acc++[.mk 30 noB 0 (hd ts).2.2.2 l])) (if isH At1 r then r.tail else r)
  else if c && isH Bgs ts then (Bc0 ts).then fun x r=>A5h c at_ (acc++[x]) r
  else if A6f ts then .ok (.mk 20 noB 0 at_ acc) ts
  else (Bc6 ts).then fun x r=>A5h c at_ (acc++[x]) r:=by
 have h:=Bhv c at_ acc hg (f:=fu ts+1) (by unfold fu;omega)
 rw [Alk] at h
 refine Aam (h.symm.trans (Aik (fun hc=>?_) fun _=>Aik (fun hc=>?_) fun _=>Aik (fun hc=>?_) fun _=>Aik (fun _=>rfl) fun _=>?_))
 ·obtain ⟨g1,g2,_⟩:=hg.tail (Abq hc)
  exact Bhv _ _ _ g1 (by unfold fu;omega)
 ·obtain ⟨g1,g2,_⟩:=hg.tail (Abq hc)
  exact Agd (Aik (fun _=>rfl) fun _=>A8x g1 (by unfold fu;omega)) (Cs4 g1) fun _ r hr hn=>rfl
 ·simp only [Bool.and_eq_true] at hc
  exact Agd (Bz4 (Abq hc.2) hg (by unfold fu;omega)) (B8z (Abq hc.2) hg) fun _ r hr hn=>Bhv _ _ _ hr (by unfold fu;omega)
 ·exact Agd (Bz7 hg (by unfold fu;omega)) (B83 hg) fun _ r hr hn=>Bhv _ _ _ hr (by unfold fu;omega)
def B21 (ts:List Tk):PV (List Tree):=if isH kRp ts then .ok [] ts else Aw5 ts
theorem Cs3 (hg:Good ts):Fwd 0 ts (B21 ts):=Be6 (fun _=>Ba5 hg) fun _=>Be7 (Be0 hg) (by omega)
theorem Dfn (h6:(hd ts).1≠6) (hg:Good ts):Bc0 ts =
  (Atq 6 ts.tail).then fun nm r=>(Ajy kLp r).then fun _ r=>(B21 r).then fun ps r=>(Ajy kRp r).then fun _ r=>(Aqj false r).then fun b r=>(Ajy Atz r).then fun _ r=>.ok (.mk 31 nm.text ps.length (hd ts).2.2.2 (ps++[b])) r:=by
 have h:=Bz4 h6 hg (f:=fu ts+1) (by unfold fu;omega)
 rw [An1] at h
 obtain ⟨g1,g2,_⟩:=hg.tail h6
 exact Aam (h.symm.trans (Agd (A8z _ _) (fName _ g1) fun _ r hr hn=>Agd (Aq3 _ _) (Ajo _ hr) fun _ r2 hr2 hn2=>Agd (Aik (fun _=>rfl) fun _=>Cil hr2 (by unfold fu;omega)) (Cs3 hr2) fun _ r3 hr3 hn3=>Agd (Aq3 _ _) (Ajo _ hr3) fun _ r4 hr4 hn4=>Agd (A8w _ hr4 (by unfold fu;omega)) (Azo _ hr4) fun _ r5 hr5 hn5=>Agd (Aq3 _ _) (Ajo _ hr5) fun _ _ _ _=>rfl))
theorem Cl5 (hg:Good ts):Ay9 ts=(Ajy kDo ts).then fun _ r=>(Aqj false r).then fun b r=>(Ajy Atz r).then fun _ r=>.ok b r:=by
 have h:=Bb8 hg (f:=fu ts+1) (by unfold fu;omega)
 rw [Alv] at h
 exact Aam (h.symm.trans (Agd (Aq3 _ _) (Ajo _ hg) fun _ r2 hr2 hn2=>Agd (A8w _ hr2 (by unfold fu;omega)) (Azo _ hr2) fun _ r5 hr5 hn5=>Agd (Aq3 _ _) (Ajo _ hr5) fun _ _ _ _=>rfl))
def Bpk (ts:List Tk):PV (List Tree):=if isH kEq ts then Arc ts.tail else .ok [] ts
theorem Cs2 (hg:Good ts):Fwd 0 ts (Bpk ts):=Be6 (fun hc=>Be7 (B9e hg (Abq hc) (A3u (hg.tail (Abq hc)).1)) (by omega)) fun _=>Ba5 hg
theorem Dfu (hg:Good ts):Bc6 ts =
  if isH kDo ts then (Ay9 ts).then fun b r=>.ok (.mk 28 noB 0 (hd ts).2.2.2 [b]) r
  else if isH Ce7 ts then (Aoj 0 ts.tail).then fun e r=>(Ay9 r).then fun b r=>.ok (.mk 25 noB 0 (hd ts).2.2.2 [e,b]) r
  else if isH kIf ts then (A5i [] ts.tail).then fun l r=>.ok (.mk 24 noB 0 (hd ts).2.2.2 l) r
  else if isH Cer ts then Bjv (hd ts).2.2.2 ts.tail
  else if isH Ces ts then (Aw5 ts.tail).then fun l r=>(Bpk r).then fun es r=>.ok (.mk 21 noB l.length (hd ts).2.2.2 (l++es)) r
  else if isH Cec ts then .ok (.mk 29 noB 0 (hd ts).2.2.2 []) ts.tail
  else Bjw ts:=by
 have h:=Bz7 hg (f:=fu ts+1) (by unfold fu;omega)
 rw [An4] at h
 refine Aam (h.symm.trans (Aik (fun hc=>?_) fun _=>Aik (fun hc=>?_) fun _=>Aik (fun hc=>?_) fun _=>Aik (fun hc=>?_) fun _=>Aik (fun hc=>?_) fun _=>Aik (fun hc=>rfl) fun _=>Cim hg (by unfold fu;omega)))
 ·exact Agd (Bb8 hg (by unfold fu;omega)) (Blk hg) fun _ _ _ _=>rfl
 ·obtain ⟨g1,g2,_⟩:=hg.tail (Abq hc)
  exact Agd (Ar5 (by omega) g1 (by unfold fu;omega)) (Aj7 (by omega) g1) fun _ r hr hn=>Agd (Bb8 hr (by unfold fu;omega)) (Blk hr) fun _ _ _ _=>rfl
 ·obtain ⟨g1,g2,_⟩:=hg.tail (Abq hc)
  exact Agd (Bn6 _ g1 (by unfold fu;omega)) (B8t _ g1) fun _ _ _ _=>rfl
 ·obtain ⟨g1,g2,_⟩:=hg.tail (Abq hc)
  exact Cik _ g1 (by unfold fu;omega)
 ·obtain ⟨g1,g2,_⟩:=hg.tail (Abq hc)
  refine Agd (Cil g1 (by unfold fu;omega)) (Be0 g1) fun _ r hr hn=>Agd (Aik (fun hc=>?_) fun _=>rfl) (Cs2 hr) fun _ _ _ _=>rfl
  obtain ⟨g3,g4,_⟩:=hr.tail (Abq hc)
  exact A8x g3 (by unfold fu;omega)
theorem Dfg (acc:List Tree) (hg:Good ts):A5i acc ts =
  (Aoj 0 ts).then fun e r=>(Ajy Ce2 r).then fun _ r=>(Aqj false r).then fun b r =>
   if isH Bgr r then A5i (acc++[e]++[b]) r.tail
   else if isH Bgp r then (Aqj false r.tail).then fun c r=>(Ajy Atz r).then fun _ r=>.ok (acc++[e]++[b]++[c]) r
   else (Ajy Atz r).then fun _ r=>.ok (acc++[e]++[b]) r:=by
 have h:=Bn6 acc hg (f:=fu ts+1) (by unfold fu;omega)
 rw [Ana] at h
 refine Aam (h.symm.trans (Agd (Ar5 (by omega) hg (by unfold fu;omega)) (Aj7 (by omega) hg) fun _ r hr hn=>Agd (Aq3 _ _) (Ajo _ hr) fun _ r2 hr2 hn2=>Agd (A8w _ hr2 (by unfold fu;omega)) (Azo _ hr2) fun _ r3 hr3 hn3=>Aik (fun hc=>?_) fun _=>Aik (fun hc=>?_) fun _=>Agd (Aq3 _ _) (Ajo _ hr3) fun _ _ _ _=>rfl))
 ·obtain ⟨g1,g2,_⟩:=hr3.tail (Abq hc)
  exact Bn6 _ g1 (by unfold fu;omega)
 ·obtain ⟨g1,g2,_⟩:=hr3.tail (Abq hc)
  exact Agd (A8w _ g1 (by unfold fu;omega)) (Azo _ g1) fun _ r4 hr4 hn4=>Agd (Aq3 _ _) (Ajo _ hr4) fun _ _ _ _=>rfl
def Bpl (ts:List Tk):PV (List Tree):=if isH Aoz ts then (Aoj 0 ts.tail).then fun c r=>.ok [c] r else .ok [] ts
theorem Cs8 (hg:Good ts):Fwd 0 ts (Bpl ts):=Be6 (fun hc=>Be7 (B9e hg (Abq hc) (B9j (Aj7 (by omega) (hg.tail (Abq hc)).1) fun _ _ hr _=>Ba5 hr)) (by omega)) fun _=>Ba5 hg
theorem Dfm (at_:Int) (hg:Good ts):Bjv at_ ts =
  (Atq 6 ts).then fun n r =>
   if isH kEq r then
    (Aoj 0 r.tail).then fun a r=>(Ajy Aoz r).then fun _ r=>(Aoj 0 r).then fun b r=>(Bpl r).then fun cs r=>(Ay9 r).then fun bd r=>.ok (.mk 26 noB 0 at_ ([n]++[a]++[b]++cs++[bd])) r
   else
    (Aza [n] r).then fun l r=>(Ajy kIn r).then fun _ r=>(Arc r).then fun es r=>(Ay9 r).then fun bd r=>.ok (.mk 27 noB l.length at_ (l++es++[bd])) r:=by
 have h:=Cik at_ hg (f:=fu ts+1) (by unfold fu;omega)
 rw [An0] at h
 refine Aam (h.symm.trans (Agd (A8z _ _) (fName _ hg) fun n r hr hn=>Aik (fun hc=>?_) fun _=>?_))
 ·obtain ⟨g1,g2,_⟩:=hr.tail (Abq hc)
  refine Agd (Ar5 (by omega) g1 (by unfold fu;omega)) (Aj7 (by omega) g1) fun _ r2 hr2 hn2=>Agd (Aq3 _ _) (Ajo _ hr2) fun _ r3 hr3 hn3=>Agd (Ar5 (by omega) hr3 (by unfold fu;omega)) (Aj7 (by omega) hr3) fun _ r4 hr4 hn4=>Agd (vx:=Bpl r4) (Aik (fun hc=>?_) fun _=>rfl) (Cs8 hr4) fun _ r5 hr5 hn5=>Agd (Bb8 hr5 (by unfold fu;omega)) (Blk hr5) fun _ _ _ _=>rfl
  obtain ⟨g3,g4,_⟩:=hr4.tail (Abq hc)
  exact Agd (Ar5 (by omega) g3 (by unfold fu;omega)) (Aj7 (by omega) g3) fun _ _ _ _=>rfl
 ·exact Agd (Bhz _ hr (by unfold fu;omega)) (B80 _ hr) fun _ r2 hr2 hn2=>Agd (Aq3 _ _) (Ajo _ hr2) fun _ r3 hr3 hn3=>Agd (A8x hr3 (by unfold fu;omega)) (A3u hr3) fun _ r4 hr4 hn4=>Agd (Bb8 hr4 (by unfold fu;omega)) (Blk hr4) fun _ _ _ _=>rfl
theorem Dfs (hg:Good ts):Bjw ts =
  (A0i ts).then fun e r =>
   if isH kEq r || isH Aoz r then (Bdc [] e r).then fun l r=>(Ajy kEq r).then fun _ r=>(Arc r).then fun es r=>.ok (.mk 22 noB l.length e.at_ (l++es)) r
   else if e.kind=8 then .ok (.mk 23 noB 0 e.at_ [e]) r else .bad (hd r).2.2.2:=by
 have h:=Cim hg (f:=fu ts+1) (by unfold fu;omega)
 rw [An2] at h
 refine Aam (h.symm.trans (Agd (Bh0 hg (by unfold fu;omega)) (Be1 hg) fun e r hr hn=>Aik (fun hc=>?_) fun _=>Aik (fun _=>rfl) fun _=>rfl))
 exact Agd (Bn7 _ _ hr (by unfold fu;omega)) (Cs9 _ _ hr) fun _ r2 hr2 hn2=>Agd (Aq3 _ _) (Ajo _ hr2) fun _ r3 hr3 hn3=>Agd (A8x hr3 (by unfold fu;omega)) (A3u hr3) fun _ _ _ _=>rfl
theorem Df0 (acc:List Tree) (e:Tree) (hg:Good ts):Bdc acc e ts =
  if e.kind=6∨e.kind=7 then
   if isH Aoz ts then (A0i ts.tail).then fun e' r=>Bdc (acc++[e]) e' r else .ok (acc++[e]) ts
  else .bad e.at_:=by
 have h:=Bn7 acc e hg (f:=fu ts+1) (by unfold fu;omega)
 rw [Anj] at h
 refine Aam (h.symm.trans (Aik (fun _=>Aik (fun hc=>?_) fun _=>rfl) fun _=>rfl))
 obtain ⟨g1,g2,_⟩:=hg.tail (Abq hc)
 exact Agd (Bh0 g1 (by unfold fu;omega)) (Be1 g1) fun _ r hr hn=>Bn7 _ _ hr (by unfold fu;omega)
end
def Baf (ts:List Tk):PV Tree:=(Aqj true ts).then fun b r=>if (hd r).1=6 then .ok b r else .bad (hd r).2.2.2
theorem then_assoc {α β γ:Type} (x:PV α) (f:α→List Tk→PV β) (g:β→List Tk→PV γ):(x.then f).then g=x.then fun a r=>(f a r).then g:=by cases x <;> rfl
theorem Clr {α β:Type} {n:Nat} {ts:List Tk} {x:PV α} (hw:Fwd n ts x) {f g:α→List Tk→PV β} (h:∀ a r,Good r→r.length+n≤ts.length→f a r=g a r):x.then f=x.then g:=by
 cases x with
 | bad=>rfl
 | ok a r=>exact h a r hw.1 hw.2.1
theorem then_ok {α β:Type} {x:PV α} {f:α→List Tk→PV β} {b:β} {r:List Tk} (h:x.then f=.ok b r):∃ a s,x=.ok a s∧f a s=.ok b r:=by
 cases x with
 | bad=>cases h
 | ok a s=>exact ⟨a,s,rfl,h⟩
theorem Cgl:∀ (n:Nat) (acc:List Tree) (ts:List Tk),ts.length≤n→Good ts→∀ l r,Aza acc ts=.ok l r→l.length+r.length≤acc.length+ts.length
 | 0,_,[],_,hg,_,_,_=>hg.elim
 | n+1,acc,ts,hn,hg,l,r,h=>by
  rw [Bc3 acc hg] at h
  split at h
  ·rename_i hc
   obtain ⟨g1,g2,_⟩:=hg.tail (Abq hc)
   obtain ⟨a,s,h1,h2⟩:=then_ok h
   have hf:=fName 6 g1
   rw [h1] at hf
   have:=Cgl n (acc++[a]) s (by have:=hf.2.1;omega) hf.1 l r h2
   have:=hf.2.1
   simp only [Abj,Aa4,Acg] at *
   omega
  ·cases h;omega
theorem Bxt {ts:List Tk} (hg:Good ts) {l:List Tree} {r:List Tk} (h:Aw5 ts=.ok l r):l.length+r.length≤ts.length:=by
 obtain ⟨a,s,h1,h2⟩:=then_ok h
 have hf:=fName 6 hg
 rw [h1] at hf
 have:=Cgl _ [a] s (Nat.le_refl _) hf.1 l r h2
 have:=hf.2.1
 simp only [Aa4,Acg] at *
 omega
theorem Cgk:∀ (n:Nat) (acc:List Tree) (ts:List Tk),ts.length≤n→Good ts→∀ l r,Bcw acc ts=.ok l r→l.length+r.length≤acc.length+ts.length
 | 0,_,[],_,hg,_,_,_=>hg.elim
 | n+1,acc,ts,hn,hg,l,r,h=>by
  rw [Cl8 acc hg] at h
  split at h
  ·rename_i hc
   obtain ⟨g1,g2,_⟩:=hg.tail (Abq hc)
   obtain ⟨a,s,h1,h2⟩:=then_ok h
   have hf:=Aj7 (least:=0) (by omega) g1
   rw [h1] at hf
   have:=Cgk n (acc++[a]) s (by have:=hf.2.1;omega) hf.1 l r h2
   have:=hf.2.1
   simp only [Abj,Aa4,Acg] at *
   omega
  ·cases h;omega
theorem Bne {ts:List Tk} (hg:Good ts) {l:List Tree} {r:List Tk} (h:Arc ts=.ok l r):l.length+r.length≤ts.length:=by
 rw [Cl9 hg] at h
 obtain ⟨a,s,h1,h2⟩:=then_ok h
 have hf:=Aj7 (least:=0) (by omega) hg
 rw [h1] at hf
 have:=Cgk _ [a] s (Nat.le_refl _) hf.1 l r h2
 have:=hf.2.1
 simp only [Aa4,Acg] at *
 omega
def ix (l ts:List Tk):Int:=(l.length:Int) - (ts.length:Int)
theorem wrapM (x:Int) (h1:-9223372036854775808≤x) (h2:x≤9223372036854775807):IntKind.i64.wrap x=x:=by
 unfold IntKind.wrap;simp [IntKind.bits,IntKind.signed];omega
section
variable {l ts:List Tk}
theorem Crh (hs:ts <:+ l):l.drop (l.length - ts.length)=ts:=by
 obtain ⟨p,rfl⟩:=hs
 simp
theorem Bwh (hg:Good ts) (hs:ts <:+ l):Ack l (ix l ts)=some (hd ts):=by
 have hle:=hs.length_le
 unfold Ack ix
 rw [if_pos (by omega),show ((l.length:Int) - (ts.length:Int)).toNat=l.length - ts.length by omega]
 have:=Crh hs
 rw [← List.head?_drop,this]
 cases ts with
 | nil=>exact hg.elim
 | cons t ts=>rfl
theorem A2d (hl:l.length≤1000000) (hg:Good ts) (hs:ts <:+ l) (h6:(hd ts).1≠6):IntKind.i64.wrap (ix l ts+1)=ix l ts.tail:=by
 obtain ⟨_,g2,_⟩:=hg.tail h6
 have hle:=hs.length_le
 unfold ix
 rw [wrapM _ (by omega) (by omega)]
 omega
def conv {α β:Type} (l:List Tk) (e:α→Int→β):PV α→PR β
 | .ok a r=>.ok (e a (ix l r))
 | .bad i=>.bad i
def eT (n:Tree) (i:Int):Int×ByteArray×Int×Int×List Tree×Int:=(n.kind,n.text,n.n,n.at_,n.kids,i)
def eL (n:List Tree) (i:Int):List Tree×Int:=(n,i)
def eU (_:Unit) (i:Int):Int:=i
theorem Alh (n:Tree):Tree.mk n.kind n.text n.n n.at_ n.kids=n:=by cases n;rfl
theorem Ahc {α β α' β':Type} {e:α→Int→α'} {e':β→Int→β'} {x:PV α} {F:α'→Option (PR β')} {g:α→List Tk→PV β} {n:Nat} (hw:Fwd n ts x) (h:∀ a r,Good r→r <:+ ts→r.length+n≤ts.length→F (e a (ix l r))=some (conv l e' (g a r))) :
  PR.bind (some (conv l e x)) F=some (conv l e' (x.then g)):=by
 cases x with
 | bad i=>rfl
 | ok a r=>exact h a r hw.1 hw.2.2 hw.2.1
theorem Al5 {β β':Type} {e':β→Int→β'} {c:Prop} [Decidable c] {b:Bool} {x y:Option (PR β')} {x' y':PV β} (hb:b=decide c) (h1:c→x=some (conv l e' x')) (h2:¬ c→y=some (conv l e' y')):cond b x y=some (conv l e' (if c then x' else y')):=by
 subst hb
 by_cases h:c
 ·rw [if_pos h,decide_eq_true h];exact h1 h
 ·rw [if_neg h,decide_eq_false h];exact h2 h
theorem Bkx (a b:Int):(a == b)=decide (a=b):=by
 by_cases h:a=b
 ·rw [decide_eq_true h,beq_iff_eq];exact h
 ·rw [decide_eq_false h,beq_eq_false_iff_ne];exact h
theorem Aov (b:Bool):b=decide (b=true):=by cases b <;> rfl
variable (k:Nat) (hl:l.length≤1000000) (hg:Good ts) (hs:ts <:+ l)
include hg hs
theorem Av2:Ajg.f k l (ix l ts)=some (hd ts):=by
 unfold Ajg.f
 rw [Bwh hg hs]
 rfl
theorem A1y (w:ByteArray):Akh.f k l (ix l ts) w=some (isH w ts):=by
 unfold Akh.f
 rw [Av2 k hg hs]
 simp only [Aai,isH,isT]
 cases (hd ts).1 == (2:Int) <;> cases (hd ts).1 == (5:Int) <;> rfl
include hl
theorem got_eq (w:ByteArray):Af0.f k l (ix l ts) w=some (isH w ts,ix l (if isH w ts then ts.tail else ts)):=by
 unfold Af0.f
 rw [A1y k hg hs]
 simp only [Aai]
 cases h:isH w ts with
 | true=>simp only [cond_true,if_true,A2d hl hg hs (Abq h)]
 | false=>rfl
theorem Ap3 (w:ByteArray):Ag2.f k l (ix l ts) w=some (conv l eU (Ajy w ts)):=by
 unfold Ag2.f Ajy
 rw [got_eq k hl hg hs]
 simp only [Aai]
 cases h:isH w ts with
 | true=>rfl
 | false =>
  simp only [Bool.not_false,cond_true,Bool.false_eq_true,if_false]
  rw [Av2 k hg hs]
  rfl
theorem name_eq:Ap0.f k l (ix l ts)=some (conv l eT (Atq 6 ts)):=by
 unfold Ap0.f Atq
 rw [Av2 k hg hs]
 simp only [Aai,Adj]
 by_cases h:(hd ts).1=1
 ·rw [if_pos h,h,A2d hl hg hs (by omega)]
  rfl
 ·rw [if_neg h,show ((hd ts).1 != 1)=true by rw [bne_iff_ne];exact h]
  rfl
omit hl
theorem B75:A2t.f k l (ix l ts)=some (A6f ts):=by
 unfold A2t.f A6f
 simp only [Av2 k hg hs,A1y k hg hs,Aai,Atz,Bgp,Bgr]
 generalize ((hd ts).1 == (6:Int))=b1
 generalize isH (⟨#[101,110,100]⟩:ByteArray) ts=b2
 generalize isH (⟨#[101,108,115,101]⟩:ByteArray) ts=b3
 generalize isH (⟨#[101,108,115,101,105,102]⟩:ByteArray) ts=b4
 cases b1 <;> cases b2 <;> cases b3 <;> cases b4 <;> rfl
end
theorem Cpw (k:Nat) (ts:List Tk):A85.f k (hd ts).1 (hd ts).2.1 (hd ts).2.2.1 (hd ts).2.2.2=some (Alu ts):=by
 unfold A85.f Alu isH isT
 simp only [Adj,kOr,Cea,kLt,kGt,kLe,kGe,kNe,Cek,Ceg,Cev,A8c,Cez,Cey,Ceu]
 generalize (hd ts).1=kd
 generalize (hd ts).2.1.toList=tx
 have hsw:(cond (kd != (5:Int)) (some (kd != (2:Int))) (some false):Option Bool)=some (!(kd == 2 || kd == 5)):=by
  rw [bne,bne]
  cases kd == (5:Int) <;> cases kd == (2:Int) <;> rfl
 rw [hsw]
 simp only [Aai]
 cases (kd == 2 || kd == 5) with
 | false=>simp
 | true =>
  simp only [Bool.not_true,cond_false,Bool.true_and]
  generalize (tx == (⟨#[111,114]⟩:ByteArray).toList)=b
  cases b with
  | true=>rfl
  | false =>
  generalize (tx == (⟨#[97,110,100]⟩:ByteArray).toList)=b
  cases b with
  | true=>rfl
  | false =>
  generalize (tx == (⟨#[60]⟩:ByteArray).toList)=b1
  generalize (tx == (⟨#[62]⟩:ByteArray).toList)=b2
  generalize (tx == (⟨#[60,61]⟩:ByteArray).toList)=b3
  generalize (tx == (⟨#[62,61]⟩:ByteArray).toList)=b4
  generalize (tx == (⟨#[126,61]⟩:ByteArray).toList)=b5
  generalize (tx == (⟨#[61,61]⟩:ByteArray).toList)=b6
  generalize (tx == (⟨#[46,46]⟩:ByteArray).toList)=b7
  generalize (tx == (⟨#[43]⟩:ByteArray).toList)=b8
  generalize (tx == (⟨#[45]⟩:ByteArray).toList)=b9
  generalize (tx == (⟨#[42]⟩:ByteArray).toList)=c1
  generalize (tx == (⟨#[47,47]⟩:ByteArray).toList)=c2
  generalize (tx == (⟨#[37]⟩:ByteArray).toList)=c3
  cases b1 with
  | true=>rfl
  | false =>
  cases b2 with
  | true=>rfl
  | false =>
  cases b3 with
  | true=>rfl
  | false =>
  cases b4 with
  | true=>rfl
  | false =>
  cases b5 with
  | true=>rfl
  | false =>
  cases b6 with
  | true=>rfl
  | false =>
  cases b7 with
  | true=>rfl
  | false =>
  cases b8 <;> cases b9 <;> cases c1 <;> cases c2 <;> cases c3 <;> rfl
section
variable {l:List Tk}
theorem C6w (a b:List UInt8):(a == b)=decide (a=b):=by
 by_cases h:a=b
 ·rw [decide_eq_true h,beq_iff_eq];exact h
 ·rw [decide_eq_false h,beq_eq_false_iff_ne];exact h
theorem Dfv {ts:List Tk}:Atq 5 ts=(Atq 6 ts).then fun n r=>.ok (.mk 5 n.text n.n n.at_ n.kids) r:=by
 unfold Atq
 split <;> rfl
theorem Aoq {α:Type} {b:Nat} {xs ys:List α} (h:(xs.length+ys.length) * b≤140737488355328):apd b xs ys=some (xs++ys):=by
 unfold apd
 rw [decide_eq_true h]
 rfl
variable (hl:l.length≤1000000)
include hl
theorem Cg1 (J:List Tree→Int→Option (PR (List Tree×Int))) (hJ:∀ a i,J a i=some (.ok (a,i))):∀ (m:Nat) (acc:List Tree) (ts:List Tk),Good ts→ts <:+ l→ts.length < m→acc.length+ts.length≤1000000 →
  Aqa.l0 m l J acc (ix l ts)=some (conv l eL (Aza acc ts))
 | 0,_,_,_,_,h,_=>by omega
 | m+1,acc,ts,hg,hs,hm,ha=>by
  rw [Aqa.l0,got_eq m hl hg hs,Bc3 acc hg]
  simp only [Aai]
  refine Al5 (Aov _) (fun hc=>?_) fun hc=>?_
  ·simp only [hc,if_true]
   obtain ⟨g1,g2,g3⟩:=hg.tail (Abq hc)
   rw [name_eq m hl g1 (g3.trans hs)]
   refine Ahc (fName 6 g1) fun n r hr hrs hn=>?_
   simp only [eT,Alh]
   rw [Aoq (by simp only [Aa4,Acg];omega)]
   simp only [Aai]
   exact Cg1 J hJ m _ r hr (hrs.trans (g3.trans hs)) (by omega) (by simp only [Abj,Aa4,Acg];omega)
  ·simp only [if_neg hc,hJ]
   rfl
theorem Bx7 (k:Nat) {ts:List Tk} (hg:Good ts) (hs:ts <:+ l) (hk:ts.length≤k):Aqa.f k l (ix l ts)=some (conv l eL (Aw5 ts)):=by
 unfold Aqa.f Aw5
 rw [name_eq k hl hg hs]
 refine Ahc (fName 6 hg) fun n r hr hrs hn=>?_
 simp only [Adj,eT,Alh]
 have:=hrs.length_le
 have:=hs.length_le
 exact Cg1 hl _ (fun _ _=>rfl) k _ r hr (hrs.trans hs) (by omega) (by simp only [Aa4,Acg];omega)
end
structure AE (l:List Tk) (k:Nat):Prop where
 exp:∀ least ts,0≤least→Good ts→ts <:+ l→16 * ts.length+5≤k→(PE.at k).Agw l (ix l ts) least=some (conv l eT (Aoj least ts))
 operand:∀ ts,Good ts→ts <:+ l→16 * ts.length+4≤k→(PE.at k).Asb l (ix l ts)=some (conv l eT (Bc5 ts))
 Akv:∀ ts,Good ts→ts <:+ l→16 * ts.length+3≤k→(PE.at k).Aiu l (ix l ts)=some (conv l eT (A0i ts))
 fields:∀ ts,Good ts→ts <:+ l→16 * ts.length+7≤k→(PE.at k).Anl l (ix l ts)=some (conv l eL (A0f [] ts))
 field:∀ ts,Good ts→ts <:+ l→16 * ts.length+6≤k→(PE.at k).Ar8 l (ix l ts)=some (conv l eT (Bcz ts))
 Ahv:∀ ts,Good ts→ts <:+ l→16 * ts.length+6≤k→(PE.at k).Aim l (ix l ts)=some (conv l eL (Arc ts))
section
variable {l:List Tk} (hl:l.length≤1000000) {k:Nat} (ih:AE l k)
include hl ih
theorem Cgq (least:Int) (h0:0≤least) (r2:Int×ByteArray×Int×Int×List Tree×Int):∀ (m:Nat) (n:Tree) (ts:List Tk),n.at_=r2.2.2.2.1→Good ts→ts <:+ l→ts.length < m→16 * ts.length≤k →
  Agw.l0 m (PE.at k) l least r2 n.kind n.text n.n n.kids (ix l ts)=some (conv l eT (Bc2 least n ts))
 | 0,_,_,_,_,_,h,_=>by omega
 | m+1,n,ts,hn,hg,hs,hm,hk=>by
  rw [Agw.l0,Av2 m hg hs,Dfq n h0 hg]
  simp only [Aai,Cpw]
  refine Al5 rfl (fun hc=>?_) fun hc=>?_
  ·rw [← hn];rfl
  ·obtain ⟨g1,g2,g3⟩:=hg.tail (Baz (by omega))
   have hb:=B6u ts
   simp only [Adj]
   rw [A2d hl hg hs (Baz (by omega)),wrapM (Alu ts - 1) (by omega) (by omega)]
   have hq:(0:Int)≤(if Alu ts=4 then 3 else Alu ts):=by split <;> omega
   have key:∀ q:Int,q=(if Alu ts=4 then 3 else Alu ts)→PR.bind ((PE.at k).Agw l (ix l ts.tail) q) (fun r25=>Agw.l0 m (PE.at k) l least r2 (11:Int) (hd ts).2.1 (0:Int) ([(Tree.mk n.kind n.text n.n r2.2.2.2.1 n.kids),(Tree.mk r25.1 r25.2.1 r25.2.2.1 r25.2.2.2.1 r25.2.2.2.2.1)]) r25.2.2.2.2.2)=some (conv l eT ((Aoj (if Alu ts=4 then 3 else Alu ts) ts.tail).then fun m r=>Bc2 least (.mk 11 (hd ts).2.1 0 n.at_ [n,m]) r)):=by
    intro q hqe
    subst hqe
    rw [ih.exp _ _ hq g1 (g3.trans hs) (by omega)]
    refine Ahc (Aj7 hq g1) fun x r hr hrs hrn=>?_
    simp only [eT,Alh]
    rw [← hn,Alh]
    exact Cgq least h0 r2 m (.mk 11 (hd ts).2.1 0 n.at_ [n,x]) r hn hr (hrs.trans (g3.trans hs)) (by omega) (by omega)
   by_cases h4:Alu ts=4
   ·rw [show (Alu ts == (4:Int))=true by rw [beq_iff_eq];exact h4]
    exact key _ (by rw [if_pos h4,h4];rfl)
   ·rw [show (Alu ts == (4:Int))=false by rw [beq_eq_false_iff_ne];exact h4]
    exact key _ (by rw [if_neg h4])
theorem exp_eq (least:Int) (h0:0≤least) {ts:List Tk} (hg:Good ts) (hs:ts <:+ l) (hk:16 * ts.length+4≤k):Agw.g (PE.at k) k l (ix l ts) least=some (conv l eT (Aoj least ts)):=by
 unfold Agw.g
 rw [ih.operand ts hg hs hk,Dfh h0 hg]
 refine Ahc (B81 hg) fun n r hr hrs hn=>?_
 exact Cgq hl ih least h0 (eT n (ix l r)) k n r rfl hr (hrs.trans hs) (by omega) (by omega)
theorem operand_eq {ts:List Tk} (hg:Good ts) (hs:ts <:+ l) (hk:16 * ts.length+3≤k):Asb.g (PE.at k) k l (ix l ts)=some (conv l eT (Bc5 ts)):=by
 unfold Asb.g
 rw [Av2 k hg hs,Dfr hg]
 simp only [Aai,Adj,A1y k hg hs,got_eq k hl hg hs]
 refine Al5 (Bkx _ _) (fun hc=>?_) fun h3=>?_
 ·rw [A2d hl hg hs (by omega)];rfl
 refine Al5 (Bkx _ _) (fun hc=>?_) fun h4=>?_
 ·rw [A2d hl hg hs (by omega)];rfl
 refine Al5 (Aov _) (fun hc=>?_) fun h5=>?_
 ·rw [A2d hl hg hs (Abq hc)];rfl
 refine Al5 (Aov _) (fun hc=>?_) fun h6=>?_
 ·rw [A2d hl hg hs (Abq hc)];rfl
 refine Al5 (Aov _) (fun hc=>?_) fun h7=>?_
 ·rw [A2d hl hg hs (Abq hc)];rfl
 have hun:∀ (h8:(isH Bgu ts || isH Bgt ts || isH A8c ts)=true),PR.bind ((PE.at k).Agw l (ix l ts.tail) (7:Int)) (fun r21=>some (PR.ok ((10:Int),(hd ts).2.1,(0:Int),(hd ts).2.2.2,[(Tree.mk r21.1 r21.2.1 r21.2.2.1 r21.2.2.2.1 r21.2.2.2.2.1)],r21.2.2.2.2.2)))=some (conv l eT ((Aoj 7 ts.tail).then fun m r=>.ok (.mk 10 (hd ts).2.1 0 (hd ts).2.2.2 [m]) r)):=fun h8=>by
  obtain ⟨g1,g2,g3⟩:=hg.tail (or3 rfl rfl rfl h8)
  rw [ih.exp 7 _ (by omega) g1 (g3.trans hs) (by omega)]
  refine Ahc (Aj7 (by omega) g1) fun x r hr hrs hn=>?_
  simp only [eT,Alh]
  rfl
 cases hA:isH Bgu ts with
 | true =>
  have h8:(isH Bgu ts || isH Bgt ts || isH A8c ts)=true:=by rw [hA];rfl
  rw [hA] at h8
  simp only [cond_true,if_true,h8]
  exact hun (by rw [hA];rfl)
 | false =>
 simp only [Bool.false_eq_true,if_false,cond_false,Bool.false_or,got_eq k hl hg hs,Aai]
 cases hB:isH Bgt ts with
 | true =>
  simp only [cond_true,if_true,Bool.true_or]
  exact hun (by rw [hB];simp)
 | false =>
 simp only [Bool.false_eq_true,if_false,cond_false,Bool.false_or,got_eq k hl hg hs,Aai]
 cases hC:isH A8c ts with
 | true =>
  simp only [cond_true,if_true]
  exact hun (by rw [hC];simp)
 | false =>
 simp only [Bool.false_eq_true,if_false,cond_false,got_eq k hl hg hs,Aai]
 refine Al5 (Aov _) (fun hc=>?_) fun h9=>?_
 ·simp only [hc,if_true]
  obtain ⟨g1,g2,g3⟩:=hg.tail (Abq hc)
  rw [ih.fields _ g1 (g3.trans hs) (by omega)]
  refine Ahc (B8y _ g1) fun x r hr hrs hn=>?_
  rfl
 ·simp only [if_neg h9]
  rw [ih.Akv _ hg hs (by omega)]
  have:=Ahc (e':=eT) (F:=fun r38:Int×ByteArray×Int×Int×List Tree×Int=>some (PR.ok (r38.1,r38.2.1,r38.2.2.1,r38.2.2.2.1,r38.2.2.2.2.1,r38.2.2.2.2.2))) (g:=fun n r=>.ok n r) (l:=l) (Be1 hg) (e:=eT) (fun n r _ _ _=>rfl)
  rw [this]
  cases A0i ts <;> rfl
theorem B8r (J:List Tree→Int→Option (PR (List Tree×Int))) (hJ:∀ a i,J a i=some (.ok (a,i))):∀ (m:Nat) (acc:List Tree) (ts:List Tk),Good ts→ts <:+ l→ts.length < m→acc.length+ts.length≤1000000→16 * ts.length≤k →
  Aim.l0 m (PE.at k) l J acc (ix l ts)=some (conv l eL (Bcw acc ts))
 | 0,_,_,_,_,h,_,_=>by omega
 | m+1,acc,ts,hg,hs,hm,ha,hk=>by
  rw [Aim.l0,got_eq m hl hg hs,Cl8 acc hg]
  simp only [Aai]
  refine Al5 (Aov _) (fun hc=>?_) fun hc=>?_
  ·simp only [hc,if_true]
   obtain ⟨g1,g2,g3⟩:=hg.tail (Abq hc)
   rw [ih.exp 0 _ (by omega) g1 (g3.trans hs) (by omega)]
   refine Ahc (Aj7 (by omega) g1) fun n r hr hrs hn=>?_
   simp only [eT,Alh]
   rw [Aoq (by simp only [Aa4,Acg];omega)]
   simp only [Aai]
   exact B8r J hJ m _ r hr (hrs.trans (g3.trans hs)) (by omega) (by simp only [Abj,Aa4,Acg];omega) (by omega)
  ·simp only [if_neg hc,hJ]
   rfl
theorem B8s {ts:List Tk} (hg:Good ts) (hs:ts <:+ l) (hk:16 * ts.length+5≤k):Aim.g (PE.at k) k l (ix l ts)=some (conv l eL (Arc ts)):=by
 unfold Aim.g
 rw [ih.exp 0 ts (by omega) hg hs hk,Cl9 hg]
 refine Ahc (Aj7 (by omega) hg) fun n r hr hrs hn=>?_
 simp only [Adj,eT,Alh]
 have:=hs.length_le
 exact B8r hl ih _ (fun _ _=>rfl) k _ r hr (hrs.trans hs) (by omega) (by simp only [Aa4,Acg];omega) (by omega)
theorem B85 (J:List Tree→Int→Option (PR (List Tree×Int))) (hJ:∀ a r,Good r→r <:+ l→J a (ix l r)=some (conv l eL ((Ajy kRc r).then fun _ r=>.ok a r))):∀ (m:Nat) (acc:List Tree) (ts:List Tk),Good ts→ts <:+ l→ts.length < m→acc.length+ts.length≤1000000→16 * ts.length+6≤k →
  Anl.l0 m (PE.at k) l J acc (ix l ts)=some (conv l eL (A0f acc ts))
 | 0,_,_,_,_,h,_,_=>by omega
 | m+1,acc,ts,hg,hs,hm,ha,hk=>by
  rw [Anl.l0,A1y m hg hs,Dfl acc hg]
  simp only [Aai]
  by_cases hR:isH kRc ts=true
  ·rw [if_pos hR,show isH (⟨#[125]⟩:ByteArray) ts=true from hR]
   simp only [Bool.not_true,cond_false]
   rw [hJ acc ts hg hs]
   unfold Ajy
   rw [if_pos hR]
   rfl
  ·rw [if_neg hR,show isH (⟨#[125]⟩:ByteArray) ts=false from by simpa using hR]
   simp only [Bool.not_false,cond_true]
   rw [ih.field ts hg hs hk]
   refine Ahc (B8x hg) fun x r hr hrs hn=>?_
   simp only [eT,Alh]
   rw [Aoq (by simp only [Aa4,Acg];omega)]
   have hrl:=hrs.trans hs
   simp only [Aai,Adj,got_eq m hl hr hrl]
   have more:∀ {w:ByteArray},isH w r=true→Anl.l0 m (PE.at k) l J (acc++[x]) (ix l r.tail)=some (conv l eL (A0f (acc++[x]) r.tail)):=fun hc=>by
    obtain ⟨g1,g2,g3⟩:=hr.tail (Abq hc)
    exact B85 J hJ m _ _ g1 (g3.trans hrl) (by omega) (by simp only [Abj,Aa4,Acg];omega) (by omega)
   by_cases hc:isH Aoz r=true
   ·rw [if_pos hc,show isH (⟨#[44]⟩:ByteArray) r=true from hc]
    simp only [Bool.not_true,cond_false,if_true]
    exact more hc
   ·rw [if_neg hc,show isH (⟨#[44]⟩:ByteArray) r=false from by simpa using hc]
    simp only [Bool.not_false,cond_true,Bool.false_eq_true,if_false,got_eq m hl hr hrl,Aai]
    by_cases hd:isH At1 r=true
    ·rw [if_pos hd,show isH (⟨#[59]⟩:ByteArray) r=true from hd]
     simp only [Bool.not_true,cond_false,if_true]
     exact more hd
    ·rw [if_neg hd,show isH (⟨#[59]⟩:ByteArray) r=false from by simpa using hd]
     simp only [Bool.not_false,cond_true,Bool.false_eq_true,if_false]
     exact hJ _ _ hr hrl
theorem fields_eq {ts:List Tk} (hg:Good ts) (hs:ts <:+ l) (hk:16 * ts.length+6≤k):Anl.g (PE.at k) k l (ix l ts)=some (conv l eL (A0f [] ts)):=by
 unfold Anl.g
 simp only [Adj]
 have:=hs.length_le
 refine B85 hl ih _ (fun a r hr hrs=>?_) k [] ts hg hs (by omega) (by simp only [Acg];omega) hk
 rw [Ap3 k hl hr hrs]
 exact Ahc (Ajo _ hr) fun _ r2 hr2 _ _=>rfl
theorem Ctb {ts:List Tk} (hg:Good ts) (hs:ts <:+ l) (hk:16 * ts.length+5≤k):Ar8.g (PE.at k) k l (ix l ts)=some (conv l eT (Bcz ts)):=by
 unfold Ar8.g
 rw [Av2 k hg hs,Dfj hg]
 simp only [Aai,Adj,got_eq k hl hg hs]
 refine Al5 (Aov _) (fun hc=>?_) fun h1=>?_
 ·simp only [hc,if_true]
  obtain ⟨g1,g2,g3⟩:=hg.tail (Abq hc)
  rw [ih.exp 0 _ (by omega) g1 (g3.trans hs) (by omega)]
  refine Ahc (Aj7 (by omega) g1) fun x r hr hrs hn=>?_
  simp only [eT,Alh]
  have h1:=hrs.trans (g3.trans hs)
  rw [Ap3 k hl hr h1]
  refine Ahc (Ajo _ hr) fun _ r2 hr2 As7 hn2=>?_
  simp only [eU]
  rw [Ap3 k hl hr2 (As7.trans h1)]
  refine Ahc (Ajo _ hr2) fun _ r3 hr3 Ayd hn3=>?_
  simp only [eU]
  rw [ih.exp 0 _ (by omega) hr3 (Ayd.trans (As7.trans h1)) (by omega)]
  refine Ahc (Aj7 (by omega) hr3) fun y r4 hr4 Bmd hn4=>?_
  simp only [eT,Alh]
  rw [Aoq (by simp)]
  rfl
 simp only [if_neg h1]
 have hq:((cond ((hd ts).1 == (1:Int)) ((Ack l (IntKind.i64.wrap (ix l ts+(1:Int)))).bind fun x57=>cond (x57.1 == (5:Int)) ((Ack l (IntKind.i64.wrap (ix l ts+(1:Int)))).bind fun x65=>some (x65.2.1.toList == (⟨#[61]⟩:ByteArray).toList)) (some false)) (some false)):Option Bool)=some (decide ((hd ts).1=1∧(hd ts.tail).1=5∧(hd ts.tail).2.1.toList=kEq.toList)):=by
  by_cases h:(hd ts).1=1
  ·obtain ⟨g1,g2,g3⟩:=hg.tail (by omega)
   rw [A2d hl hg hs (by omega),Bwh g1 (g3.trans hs),h]
   simp only [beq_self_eq_true,cond_true,Aai,true_and]
   by_cases h5:(hd ts.tail).1=5
   ·rw [h5]
    simp only [beq_self_eq_true,cond_true,true_and]
    exact congrArg some (C6w _ _)
   ·rw [show ((hd ts.tail).1 == (5:Int))=false by rw [beq_eq_false_iff_ne];exact h5]
    simp [h5]
  ·rw [show ((hd ts).1 == (1:Int))=false by rw [beq_eq_false_iff_ne];exact h]
   simp [h]
 rw [hq]
 simp only [Aai]
 refine Al5 rfl (fun hc=>?_) fun h2=>?_
 ·obtain ⟨h1,h5,he⟩:=hc
  obtain ⟨g1,g2,g3⟩:=hg.tail (by omega)
  obtain ⟨g4,g5,g6⟩:=g1.tail (by omega)
  rw [name_eq k hl hg hs]
  unfold Atq
  rw [if_pos h1]
  simp only [conv,PR.bind,eT,Tree.kind,Tree.text,Tree.n,Tree.at_,Tree.kids]
  have hE:isH kEq ts.tail=true:=by unfold isH isT;rw [h5,he];simp
  rw [Ap3 k hl g1 (g3.trans hs)]
  unfold Ajy
  rw [if_pos hE]
  simp only [conv,eU]
  rw [ih.exp 0 _ (by omega) g4 (g6.trans (g3.trans hs)) (by omega)]
  have:=Ahc (l:=l) (e:=eT) (e':=eT) (x:=Aoj 0 ts.tail.tail) (F:=fun r13=>(apd 64 [Tree.mk 5 (hd ts).2.1 0 (hd ts).2.2.2 []] [(Tree.mk r13.1 r13.2.1 r13.2.2.1 r13.2.2.2.1 r13.2.2.2.2.1)]).bind fun l22=>some (PR.ok ((14:Int),(⟨#[]⟩:ByteArray),(0:Int),(hd ts).2.2.2,l22,r13.2.2.2.2.2))) (g:=fun v r=>.ok (.mk 14 noB 0 (hd ts).2.2.2 [.mk 5 (hd ts).2.1 0 (hd ts).2.2.2 [],v]) r) (Aj7 (by omega) g4) (fun y r4 hr4 Bmd hn4=>by
   simp only [eT,Alh]
   rw [Aoq (by simp)]
   rfl)
  exact this
 ·rw [ih.exp 0 _ (by omega) hg hs (by omega)]
  refine Ahc (Aj7 (by omega) hg) fun y r4 hr4 Bmd hn4=>?_
  simp only [eT,Alh]
  rw [Aoq (by simp)]
  rfl
theorem Bjc (r2:Tk):∀ (m:Nat) (n:Tree) (ts:List Tk),Good ts→ts <:+ l→ts.length < m→16 * ts.length≤k →
  Aiu.l0 m (PE.at k) l r2 n.kind n.text n.n n.at_ n.kids (ix l ts)=some (conv l eT (A3d r2.2.2.2 n ts))
 | 0,_,_,_,_,h,_=>by omega
 | m+1,n,ts,hg,hs,hm,hk=>by
  rw [Aiu.l0,got_eq m hl hg hs,Dfw _ n hg]
  simp only [Aai,Alh]
  refine Al5 (Aov _) (fun hc=>?_) fun h1=>?_
  ·simp only [hc,if_true]
   obtain ⟨g1,g2,g3⟩:=hg.tail (Abq hc)
   rw [ih.exp 0 _ (by omega) g1 (g3.trans hs) (by omega)]
   refine Ahc (Aj7 (by omega) g1) fun x r hr hrs hn=>?_
   simp only [eT,Alh]
   have hrl:=hrs.trans (g3.trans hs)
   rw [Ap3 m hl hr hrl]
   refine Ahc (Ajo _ hr) fun _ r2' hr2 As7 hn2=>?_
   exact Bjc r2 m (.mk 7 noB 0 r2.2.2.2 [n,x]) r2' hr2 (As7.trans hrl) (by omega) (by omega)
  simp only [if_neg h1,got_eq m hl hg hs,Aai]
  refine Al5 (Aov _) (fun hc=>?_) fun h2=>?_
  ·simp only [hc,if_true]
   obtain ⟨g1,g2,g3⟩:=hg.tail (Abq hc)
   rw [name_eq m hl g1 (g3.trans hs),Dfv,then_assoc]
   refine Ahc (fName 6 g1) fun x r hr hrs hn=>?_
   exact Bjc r2 m (.mk 7 noB 0 r2.2.2.2 [n,.mk 5 x.text x.n x.at_ x.kids]) r hr (hrs.trans (g3.trans hs)) (by omega) (by omega)
  simp only [if_neg h2,got_eq m hl hg hs,Aai]
  refine Al5 (Aov _) (fun hc=>?_) fun h3=>?_
  ·simp only [hc,if_true]
   obtain ⟨g1,g2,g3⟩:=hg.tail (Abq hc)
   have gs:=g3.trans hs
   have hlen:=hs.length_le
   simp only [Adj,A1y m g1 gs,Aai]
   unfold B20
   have tl:∀ (xs:List Tree) (r:List Tk),Good r→r <:+ l→r.length≤ts.tail.length→PR.bind (Ag2.f m l (ix l r) (⟨#[41]⟩:ByteArray)) (fun r63=>Aiu.l0 m (PE.at k) l r2 (8:Int) (⟨#[]⟩:ByteArray) (0:Int) r2.2.2.2 (n :: xs) r63)=some (conv l eT ((Ajy kRp r).then fun _ r=>A3d r2.2.2.2 (.mk 8 noB 0 r2.2.2.2 (n :: xs)) r)):=fun xs r hr hrl hn=>by
    rw [Ap3 m hl hr hrl]
    refine Ahc (Ajo _ hr) fun _ r2' hr2 As7 hn2=>?_
    exact Bjc r2 m (.mk 8 noB 0 r2.2.2.2 (n :: xs)) r2' hr2 (As7.trans hrl) (by omega) (by omega)
   by_cases hR:isH kRp ts.tail=true
   ·rw [if_pos hR,show isH (⟨#[41]⟩:ByteArray) ts.tail=true from hR]
    exact tl [] _ g1 gs (Nat.le_refl _)
   ·rw [if_neg hR,show isH (⟨#[41]⟩:ByteArray) ts.tail=false from by simpa using hR]
    simp only [Bool.not_false,cond_true]
    rw [ih.Ahv _ g1 gs (by omega)]
    cases hv:Arc ts.tail with
    | bad i=>rfl
    | ok xs r =>
     have hf:=A3u g1
     rw [hv] at hf
     have hxl:=Bne g1 hv
     show (apd 64 [n] xs).bind _=_
     rw [Aoq (by simp only [Aa4,Acg];omega)]
     exact tl xs r hf.1 (hf.2.2.trans gs) (by have:=hf.2.1;omega)
  ·simp only [if_neg h3]
   rfl
theorem Cle {ts:List Tk} (hg:Good ts) (hs:ts <:+ l) (hk:16 * ts.length+2≤k):Aiu.g (PE.at k) k l (ix l ts)=some (conv l eT (A0i ts)):=by
 unfold Aiu.g
 rw [Av2 k hg hs,Dfx hg]
 simp only [Aai,Adj,got_eq k hl hg hs]
 refine Al5 (Aov _) (fun hc=>?_) fun h1=>?_
 ·simp only [hc,if_true]
  obtain ⟨g1,g2,g3⟩:=hg.tail (Abq hc)
  rw [ih.exp 0 _ (by omega) g1 (g3.trans hs) (by omega)]
  refine Ahc (Aj7 (by omega) g1) fun x r hr hrs hn=>?_
  simp only [eT,Alh]
  have hrl:=hrs.trans (g3.trans hs)
  rw [Ap3 k hl hr hrl]
  refine Ahc (Ajo _ hr) fun _ r2' hr2 As7 hn2=>?_
  exact Bjc hl ih (hd ts) k (.mk 9 noB 0 (hd ts).2.2.2 [x]) r2' hr2 (As7.trans hrl) (by omega) (by omega)
 ·simp only [if_neg h1]
  rw [name_eq k hl hg hs]
  refine Ahc (fName 6 hg) fun n r hr hrs hn=>?_
  exact Bjc hl ih (hd ts) k n r hr (hrs.trans hs) (by omega) (by omega)
end
theorem aE {l:List Tk} (hl:l.length≤1000000):∀ k,AE l k
 | 0=>by constructor <;> intros <;> omega
 | k+1=>by
  have ih:=aE hl k
  exact ⟨fun least ts h0 hg hs h=>exp_eq hl ih least h0 hg hs (by omega),fun ts hg hs h=>operand_eq hl ih hg hs (by omega),fun ts hg hs h=>Cle hl ih hg hs (by omega),fun ts hg hs h=>fields_eq hl ih hg hs (by omega),fun ts hg hs h=>Ctb hl ih hg hs (by omega),fun ts hg hs h=>B8s hl ih hg hs (by omega)⟩
theorem Cmb (pre:List Tree):∀ (n:Nat) (acc:List Tree) (ts:List Tk),ts.length≤n→Good ts→Aza (pre++acc) ts=(Aza acc ts).then fun xs r=>.ok (pre++xs) r
 | 0,_,[],_,hg=>hg.elim
 | n+1,acc,ts,hn,hg=>by
  rw [Bc3 _ hg,Bc3 acc hg]
  by_cases hc:isH Aoz ts=true
  ·rw [if_pos hc,if_pos hc,then_assoc]
   obtain ⟨g1,g2,g3⟩:=hg.tail (Abq hc)
   refine Clr (fName 6 g1) fun x r hr hl=>?_
   rw [Aep]
   exact Cmb pre n _ r (by omega) hr
  ·rw [if_neg hc,if_neg hc];rfl
structure AS (l:List Tk) (k:Nat):Prop where
 block:∀ c ts,Good ts→ts <:+ l→16 * ts.length+9≤k→(PS.at k).Ahi l (ix l ts) c=some (conv l eT (Aqj c ts))
 function:∀ ts,isH Bgs ts=true→Good ts→ts <:+ l→16 * ts.length+7≤k→(PS.at k).Ar9 l (ix l ts)=some (conv l eT (Bc0 ts))
 stat:∀ ts,Good ts→ts <:+ l→16 * ts.length+7≤k→(PS.at k).Ase l (ix l ts)=some (conv l eT (Bc6 ts))
 branches:∀ ts,Good ts→ts <:+ l→16 * ts.length+6≤k→(PS.at k).An6 l (ix l ts)=some (conv l eL (A5i [] ts))
 loop:∀ at_ ts,Good ts→ts <:+ l→16 * ts.length+8≤k→(PS.at k).Asa l (ix l ts) at_=some (conv l eT (Bjv at_ ts))
 plain:∀ ts,Good ts→ts <:+ l→16 * ts.length+6≤k→(PS.at k).An7 l (ix l ts)=some (conv l eT (Bjw ts))
section
variable {l:List Tk} (hl:l.length≤1000000)
include hl
theorem Be4 (k:Nat) {ts:List Tk} (hg:Good ts) (hs:ts <:+ l) (hk:16 * ts.length+4≤k):Agw.f k l (ix l ts) 0=some (conv l eT (Aoj 0 ts)):=exp_eq hl (aE hl k) 0 (by omega) hg hs hk
theorem Bll (k:Nat) {ts:List Tk} (hg:Good ts) (hs:ts <:+ l) (hk:16 * ts.length+5≤k):Aim.f k l (ix l ts)=some (conv l eL (Arc ts)):=B8s hl (aE hl k) hg hs hk
theorem B9d (k:Nat) {ts:List Tk} (hg:Good ts) (hs:ts <:+ l) (hk:16 * ts.length+2≤k):Aiu.f k l (ix l ts)=some (conv l eT (A0i ts)):=Cle hl (aE hl k) hg hs hk
omit hl in
theorem Cp2 {ts:List Tk} (h:isH kDo ts=true) (hg:Good ts):Ay9 ts=(Aqj false ts.tail).then fun b r=>(Ajy Atz r).then fun _ r=>.ok b r:=by
 rw [Cl5 hg]
 unfold Ajy
 rw [if_pos h]
 rfl
variable {k:Nat} (ih:AS l k)
include ih
theorem Cml (F:Tree→Option (List Tree)) (G:List Tree→Int→Option (PR (Int×ByteArray×Int×Int×List Tree×Int))) (g:Tree→Tree) {ts:List Tk} (hg:Good ts) (hs:ts <:+ l) (hk:16 * ts.length+9≤k+16)
  (hG:∀ b r,Good r→r <:+ l→∃ xs,F b=some xs∧G xs (ix l r)=some (conv l eT (.ok (g b) r))) :
  PR.bind (Ag2.f k l (ix l ts) (⟨#[100,111]⟩:ByteArray)) (fun r36=>PR.bind ((PS.at k).Ahi l r36 false) fun r38=>(F (Tree.mk r38.1 r38.2.1 r38.2.2.1 r38.2.2.2.1 r38.2.2.2.2.1)).bind fun l49=>PR.bind (Ag2.f k l r38.2.2.2.2.2 (⟨#[101,110,100]⟩:ByteArray)) fun r54=>G l49 r54) =
   some (conv l eT ((Ay9 ts).then fun b r=>.ok (g b) r)):=by
 rw [Ap3 k hl hg hs,Cl5 hg,then_assoc]
 refine Ahc (Ajo _ hg) fun _ r hr hrs hn=>?_
 simp only [eU]
 have h1:=hrs.trans hs
 rw [ih.block false r hr h1 (by omega),then_assoc]
 refine Ahc (Azo false hr) fun b r2 hr2 As7 hn2=>?_
 simp only [eT,Alh]
 have h2:=As7.trans h1
 obtain ⟨xs,hF,_⟩:=hG b r2 hr2 h2
 rw [hF,then_assoc]
 simp only [Aai]
 rw [Ap3 k hl hr2 h2]
 refine Ahc (Ajo _ hr2) fun _ r3 hr3 Ayd hn3=>?_
 obtain ⟨xs',hF',hG'⟩:=hG b r3 hr3 (Ayd.trans h2)
 rw [hF] at hF'
 cases hF'
 exact hG'
theorem Brs (chunk:Bool) (r2:Tk):∀ (m:Nat) (acc:List Tree) (ts:List Tk),Good ts→ts <:+ l→16 * ts.length+6 < m→acc.length+ts.length≤1000000→16 * ts.length+8≤k →
  Ahi.l0 m (PS.at k) l chunk r2 acc (ix l ts)=some (conv l eT (A5h chunk r2.2.2.2 acc ts))
 | 0,_,_,_,_,h,_,_=>by omega
 | m+1,acc,ts,hg,hs,hm,ha,hk=>by
  rw [Ahi.l0,Av2 m hg hs,Dfa chunk _ acc hg]
  simp only [Aai,got_eq m hl hg hs]
  refine Al5 (Aov _) (fun hc=>?_) fun h1=>?_
  ·simp only [hc,if_true]
   obtain ⟨g1,g2,g3⟩:=hg.tail (Abq hc)
   exact Brs chunk r2 m acc _ g1 (g3.trans hs) (by omega) (by omega) (by omega)
  simp only [if_neg h1,got_eq m hl hg hs,Aai]
  refine Al5 (Aov _) (fun hc=>?_) fun h2=>?_
  ·simp only [hc,if_true]
   obtain ⟨g1,g2,g3⟩:=hg.tail (Abq hc)
   have gs:=g3.trans hs
   have hend:∀ (xs:List Tree) (r:List Tk),Good r→r <:+ l→(Af0.f m l (ix l r) (⟨#[59]⟩:ByteArray)).bind (fun r25=>(apd 64 acc [(Tree.mk (30:Int) (⟨#[]⟩:ByteArray) (0:Int) (hd ts).2.2.2 xs)]).bind fun l29=>some (PR.ok ((20:Int),(⟨#[]⟩:ByteArray),(0:Int),r2.2.2.2,l29,r25.2)))=some (conv l eT (.ok (.mk 20 noB 0 r2.2.2.2 (acc++[.mk 30 noB 0 (hd ts).2.2.2 xs])) (if isH At1 r then r.tail else r))):=fun xs r hr hrl=>by
    rw [got_eq m hl hr hrl,Aoq (by simp only [Aa4,Acg];omega)]
    rfl
   simp only [Adj,B75 m g1 gs,A1y m g1 gs,Aai]
   unfold B22
   cases hE:A6f ts.tail with
   | true =>
    simp only [Bool.not_true,cond_false,Aai,Bool.true_or,if_true]
    exact hend [] _ g1 gs
   | false =>
    simp only [Bool.not_false,cond_true,Aai,Bool.false_or]
    by_cases hS:isH At1 ts.tail=true
    ·rw [if_pos hS,show isH (⟨#[59]⟩:ByteArray) ts.tail=true from hS]
     exact hend [] _ g1 gs
    ·rw [if_neg hS,show isH (⟨#[59]⟩:ByteArray) ts.tail=false from by simpa using hS]
     simp only [Bool.not_false,cond_true]
     rw [Bll hl m g1 gs (by omega)]
     refine Ahc (A3u g1) fun xs r hr hrs hn=>?_
     exact hend xs r hr (hrs.trans gs)
  simp only [if_neg h2,A1y m hg hs,B75 m hg hs,Aai]
  have hq:(cond chunk (some (isH (⟨#[102,117,110,99,116,105,111,110]⟩:ByteArray) ts)) (some false):Option Bool)=some (chunk && isH Bgs ts):=by cases chunk <;> rfl
  rw [hq]
  simp only [Aai]
  have more:∀ (x:Tree) (r:List Tk),Good r→r <:+ ts→r.length+1≤ts.length→((apd 64 acc [x]).bind fun l56=>Ahi.l0 m (PS.at k) l chunk r2 l56 (ix l r))=some (conv l eT (A5h chunk r2.2.2.2 (acc++[x]) r)):=fun x r hr hrs hn=>by
   rw [Aoq (by simp only [Aa4,Acg];omega)]
   exact Brs chunk r2 m _ r hr (hrs.trans hs) (by omega) (by simp only [Abj,Aa4,Acg];omega) (by omega)
  refine Al5 (Aov _) (fun hc=>?_) fun h3=>?_
  ·simp only [Bool.and_eq_true] at hc
   rw [ih.function ts hc.2 hg hs (by omega)]
   refine Ahc (B8z (Abq hc.2) hg) fun x r hr hrs hn=>?_
   simp only [eT,Alh]
   exact more x r hr hrs hn
  refine Al5 (Aov _) (fun hc=>rfl) fun h4=>?_
  rw [ih.stat ts hg hs (by omega)]
  refine Ahc (B83 hg) fun x r hr hrs hn=>?_
  simp only [eT,Alh]
  exact more x r hr hrs hn
theorem B6x (c:Bool) {ts:List Tk} (hg:Good ts) (hs:ts <:+ l) (hk:16 * ts.length+8≤k):Ahi.g (PS.at k) k l (ix l ts) c=some (conv l eT (Aqj c ts)):=by
 unfold Ahi.g
 rw [Av2 k hg hs,Dfc c hg]
 simp only [Aai]
 have:=hs.length_le
 exact Brs hl ih c (hd ts) k [] ts hg hs (by omega) (by simp only [Acg];omega) hk
theorem Ctr {ts:List Tk} (hf:isH Bgs ts=true) (hg:Good ts) (hs:ts <:+ l) (hk:16 * ts.length+6≤k):Ar9.g (PS.at k) k l (ix l ts)=some (conv l eT (Bc0 ts)):=by
 unfold Ar9.g
 rw [Av2 k hg hs,Dfn (Abq hf) hg]
 simp only [Aai]
 rw [Ap3 k hl hg hs]
 unfold Ajy
 rw [if_pos hf]
 obtain ⟨g1,g2,g3⟩:=hg.tail (Abq hf)
 have gs:=g3.trans hs
 have hle:=hs.length_le
 show PR.bind (Ap0.f k l (ix l ts.tail)) _=_
 rw [name_eq k hl g1 gs]
 refine Ahc (fName 6 g1) fun nm r hr hrs hn=>?_
 simp only [eT]
 have h1:=hrs.trans gs
 rw [Ap3 k hl hr h1]
 refine Ahc (Ajo _ hr) fun _ r2 hr2 As7 hn2=>?_
 simp only [eU,Adj]
 have h2:=As7.trans h1
 have tl:∀ (ps:List Tree) (r:List Tk),Good r→r <:+ l→r.length+1≤ts.length→ps.length≤1000000→PR.bind (Ag2.f k l (ix l r) (⟨#[41]⟩:ByteArray)) (fun r21=>PR.bind ((PS.at k).Ahi l r21 false) fun r23=>(apd 64 ps [(Tree.mk r23.1 r23.2.1 r23.2.2.1 r23.2.2.2.1 r23.2.2.2.2.1)]).bind fun l32=>PR.bind (Ag2.f k l r23.2.2.2.2.2 (⟨#[101,110,100]⟩:ByteArray)) fun r37=>some (PR.ok ((31:Int),nm.text,((ps.length:Nat):Int),(hd ts).2.2.2,l32,r37))) =
   some (conv l eT ((Ajy kRp r).then fun _ r=>(Aqj false r).then fun b r=>(Ajy Atz r).then fun _ r=>.ok (.mk 31 nm.text ps.length (hd ts).2.2.2 (ps++[b])) r)):=fun ps r hr hrl hn hps=>by
  rw [Ap3 k hl hr hrl]
  refine Ahc (Ajo _ hr) fun _ s hs1 hss hn'=>?_
  simp only [eU]
  have h3:=hss.trans hrl
  rw [ih.block false s hs1 h3 (by omega)]
  refine Ahc (Azo false hs1) fun b s2 hs2 Bv2 Dj3=>?_
  simp only [eT,Alh]
  rw [Aoq (by simp only [Aa4,Acg];omega)]
  simp only [Aai]
  rw [Ap3 k hl hs2 (Bv2.trans h3)]
  exact Ahc (Ajo _ hs2) fun _ s3 _ _ _=>rfl
 rw [A1y k hr2 h2]
 simp only [Aai]
 unfold B21
 by_cases hR:isH kRp r2=true
 ·rw [if_pos hR,show isH (⟨#[41]⟩:ByteArray) r2=true from hR]
  exact tl [] r2 hr2 h2 (by omega) (by simp)
 ·rw [if_neg hR,show isH (⟨#[41]⟩:ByteArray) r2=false from by simpa using hR]
  simp only [Bool.not_false,cond_true]
  rw [Bx7 hl k hr2 h2 (by omega)]
  cases hv:Aw5 r2 with
  | bad i=>rfl
  | ok ps s =>
   have hf:=Be0 hr2
   rw [hv] at hf
   have hln:=Bxt hr2 hv
   exact tl ps s hf.1 (hf.2.2.trans h2) (by have:=hf.2.1;omega) (by omega)
theorem B64 (J:List Tree→Int→Option (PR (List Tree×Int))) (hJ:∀ a r,Good r→r <:+ l→16 * r.length+9≤k→a.length≤1000000→J a (ix l r)=some (conv l eL (if isH Bgp r then (Aqj false r.tail).then fun c r=>(Ajy Atz r).then fun _ r=>.ok (a++[c]) r else (Ajy Atz r).then fun _ r=>.ok a r))) :
  ∀ (m:Nat) (acc:List Tree) (ts:List Tk),Good ts→ts <:+ l→16 * ts.length+4 < m→acc.length+2 * ts.length≤1000000→16 * ts.length≤k→An6.l0 m (PS.at k) l J acc (ix l ts)=some (conv l eL (A5i acc ts))
 | 0,_,_,_,_,h,_,_=>by omega
 | m+1,acc,ts,hg,hs,hm,ha,hk=>by
  rw [An6.l0,Be4 hl m hg hs (by omega),Dfg acc hg]
  refine Ahc (Aj7 (by omega) hg) fun e r hr hrs hn=>?_
  simp only [eT,Alh]
  have h1:=hrs.trans hs
  rw [Aoq (by simp only [Aa4,Acg];omega)]
  simp only [Aai]
  rw [Ap3 m hl hr h1]
  refine Ahc (Ajo _ hr) fun _ r2 hr2 As7 hn2=>?_
  simp only [eU]
  have h2:=As7.trans h1
  rw [ih.block false r2 hr2 h2 (by omega)]
  refine Ahc (Azo false hr2) fun b r3 hr3 Ayd hn3=>?_
  simp only [eT,Alh]
  have h3:=Ayd.trans h2
  rw [Aoq (by simp only [Abj,Aa4,Acg];omega)]
  simp only [Aai,got_eq m hl hr3 h3]
  by_cases hc:isH Bgr r3=true
  ·rw [if_pos hc,show isH (⟨#[101,108,115,101,105,102]⟩:ByteArray) r3=true from hc]
   simp only [Bool.not_true,cond_false,if_true]
   obtain ⟨g1,g2,g3⟩:=hr3.tail (Abq hc)
   exact B64 J hJ m _ _ g1 (g3.trans h3) (by omega) (by simp only [Abj,Aa4,Acg];omega) (by omega)
  ·rw [if_neg hc,show isH (⟨#[101,108,115,101,105,102]⟩:ByteArray) r3=false from by simpa using hc]
   simp only [Bool.not_false,cond_true,Bool.false_eq_true,if_false]
   exact hJ _ r3 hr3 h3 (by omega) (by simp only [Abj,Aa4,Acg];omega)
theorem Cp3 {ts:List Tk} (hg:Good ts) (hs:ts <:+ l) (hk:16 * ts.length+5≤k) (hl2:l.length≤400000):An6.g (PS.at k) k l (ix l ts)=some (conv l eL (A5i [] ts)):=by
 unfold An6.g
 simp only [Adj]
 have hle:=hs.length_le
 refine B64 hl ih _ (fun a r hr hrl hk2 ha=>?_) k [] ts hg hs (by omega) (by simp only [Acg];omega) (by omega)
 rw [got_eq k hl hr hrl]
 simp only [Aai]
 refine Al5 (Aov _) (fun hc=>?_) fun h1=>?_
 ·simp only [hc,if_true]
  obtain ⟨g1,g2,g3⟩:=hr.tail (Abq hc)
  have gs:=g3.trans hrl
  rw [ih.block false _ g1 gs (by omega)]
  refine Ahc (Azo false g1) fun c r3 hr3 Ayd hn3=>?_
  simp only [eT,Alh]
  rw [Aoq (by simp only [Aa4,Acg];omega)]
  simp only [Aai]
  rw [Ap3 k hl hr3 (Ayd.trans gs)]
  exact Ahc (Ajo _ hr3) fun _ _ _ _ _=>rfl
 ·simp only [if_neg h1]
  rw [Ap3 k hl hr hrl]
  exact Ahc (Ajo _ hr) fun _ _ _ _ _=>rfl
theorem Ctk (at_:Int) {ts:List Tk} (hg:Good ts) (hs:ts <:+ l) (hk:16 * ts.length+7≤k):Asa.g (PS.at k) k l (ix l ts) at_=some (conv l eT (Bjv at_ ts)):=by
 unfold Asa.g
 rw [name_eq k hl hg hs,Dfm at_ hg]
 refine Ahc (fName 6 hg) fun n r hr hrs hn=>?_
 simp only [eT,Alh,Adj]
 have h1:=hrs.trans hs
 have hle:=hs.length_le
 have tl:∀ (kd nn:Int) (xs:List Tree) (r:List Tk),Good r→r <:+ l→r.length+1≤ts.length→xs.length≤1000000→PR.bind (Ag2.f k l (ix l r) (⟨#[100,111]⟩:ByteArray)) (fun r19=>PR.bind ((PS.at k).Ahi l r19 false) fun r21=>(apd 64 xs [(Tree.mk r21.1 r21.2.1 r21.2.2.1 r21.2.2.2.1 r21.2.2.2.2.1)]).bind fun l30=>PR.bind (Ag2.f k l r21.2.2.2.2.2 (⟨#[101,110,100]⟩:ByteArray)) fun r35=>some (PR.ok (kd,(⟨#[]⟩:ByteArray),nn,at_,l30,r35))) =
   some (conv l eT ((Ay9 r).then fun bd r=>.ok (.mk kd noB nn at_ (xs++[bd])) r)):=fun kd nn xs r hr hrl hn hxs =>
  Cml hl ih (fun b=>apd 64 xs [b]) (fun l30 r35=>some (PR.ok (kd,(⟨#[]⟩:ByteArray),nn,at_,l30,r35))) (fun bd=>.mk kd noB nn at_ (xs++[bd])) hr hrl (by omega) fun b s hs1 hsl=>⟨_,Aoq (by simp only [Aa4,Acg];omega),rfl⟩
 rw [got_eq k hl hr h1]
 simp only [Aai]
 refine Al5 (Aov _) (fun hc=>?_) fun hne=>?_
 ·simp only [hc,if_true]
  obtain ⟨g1,g2,g3⟩:=hr.tail (Abq hc)
  have gs:=g3.trans h1
  rw [Be4 hl k g1 gs (by omega)]
  refine Ahc (Aj7 (by omega) g1) fun a r2 hr2 As7 hn2=>?_
  simp only [eT,Alh]
  have h2:=As7.trans gs
  rw [Aoq (by simp)]
  simp only [Aai]
  rw [Ap3 k hl hr2 h2]
  refine Ahc (Ajo _ hr2) fun _ r3 hr3 Ayd hn3=>?_
  simp only [eU]
  have h3:=Ayd.trans h2
  rw [Be4 hl k hr3 h3 (by omega)]
  refine Ahc (Aj7 (by omega) hr3) fun b r4 hr4 Bmd hn4=>?_
  simp only [eT,Alh]
  have h4:=Bmd.trans h3
  rw [Aoq (by simp)]
  simp only [Aai,got_eq k hl hr4 h4]
  unfold Bpl
  by_cases hC:isH Aoz r4=true
  ·rw [if_pos hC,show isH (⟨#[44]⟩:ByteArray) r4=true from hC]
   simp only [cond_true,if_true]
   obtain ⟨g5,g6,g7⟩:=hr4.tail (Abq hC)
   have gs5:=g7.trans h4
   rw [Be4 hl k g5 gs5 (by omega),then_assoc]
   refine Ahc (Aj7 (by omega) g5) fun c r5 hr5 C0u hn5=>?_
   simp only [eT,Alh]
   rw [Aoq (by simp)]
   exact tl 26 0 _ r5 hr5 (C0u.trans gs5) (by omega) (by simp)
  ·rw [if_neg hC,show isH (⟨#[44]⟩:ByteArray) r4=false from by simpa using hC]
   simp only [cond_false,Bool.false_eq_true,if_false]
   have:=tl 26 0 ([n]++[a]++[b]) r4 hr4 h4 (by omega) (by simp)
   simp only [PV.then,List.append_nil]
   exact this
 ·simp only [if_neg hne,got_eq k hl hr h1,Aai]
  have tl2:∀ (xs:List Tree) (r:List Tk),Good r→r <:+ l→r.length+1≤ts.length→xs.length+r.length≤ts.length+1→PR.bind (Ag2.f k l (ix l r) (⟨#[105,110]⟩:ByteArray)) (fun r94=>PR.bind (Aim.f k l r94) fun r96=>(apd 64 xs r96.1).bind fun Bbr=>PR.bind (Ag2.f k l r96.2 (⟨#[100,111]⟩:ByteArray)) fun r19=>PR.bind ((PS.at k).Ahi l r19 false) fun r21=>(apd 64 Bbr [(Tree.mk r21.1 r21.2.1 r21.2.2.1 r21.2.2.2.1 r21.2.2.2.2.1)]).bind fun l30=>PR.bind (Ag2.f k l r21.2.2.2.2.2 (⟨#[101,110,100]⟩:ByteArray)) fun r35=>some (PR.ok ((27:Int),(⟨#[]⟩:ByteArray),((xs.length:Nat):Int),at_,l30,r35))) =
    some (conv l eT ((Ajy kIn r).then fun _ r=>(Arc r).then fun es r=>(Ay9 r).then fun bd r=>.ok (.mk 27 noB xs.length at_ (xs++es++[bd])) r)):=fun xs r hr hrl hn hx=>by
   rw [Ap3 k hl hr hrl]
   refine Ahc (Ajo _ hr) fun _ r3 hr3 Ayd hn3=>?_
   simp only [eU]
   have h3:=Ayd.trans hrl
   rw [Bll hl k hr3 h3 (by omega)]
   cases hv:Arc r3 with
   | bad i=>rfl
   | ok es s =>
    have hf:=A3u hr3
    rw [hv] at hf
    have hln:=Bne hr3 hv
    show (apd 64 xs es).bind _=_
    rw [Aoq (by omega)]
    exact tl 27 xs.length (xs++es) s hf.1 (hf.2.2.trans h3) (by have:=hf.2.1;omega) (by simp only [Abj];omega)
  by_cases hC:isH Aoz r=true
  ·rw [show isH (⟨#[44]⟩:ByteArray) r=true from hC]
   simp only [cond_true,if_true]
   obtain ⟨g1,g2,g3⟩:=hr.tail (Abq hC)
   have gs:=g3.trans h1
   rw [Bx7 hl k g1 gs (by omega)]
   have e:Aza [n] r=(Aw5 r.tail).then fun xs r=>.ok ([n]++xs) r:=by
    rw [Bc3 _ hr,if_pos hC]
    unfold Aw5
    rw [then_assoc]
    exact Clr (fName 6 g1) fun x s hs1 _=>Cmb [n] _ [x] s (Nat.le_refl _) hs1
   rw [e,then_assoc]
   cases hv:Aw5 r.tail with
   | bad i=>rfl
   | ok xs s =>
    have hf:=Be0 g1
    rw [hv] at hf
    have hln:=Bxt g1 hv
    show (apd 64 [n] xs).bind _=_
    rw [Aoq (by simp only [Aa4,Acg];omega)]
    exact tl2 ([n]++xs) s hf.1 (hf.2.2.trans gs) (by have:=hf.2.1;omega) (by simp only [Abj,Aa4,Acg];omega)
  ·rw [show isH (⟨#[44]⟩:ByteArray) r=false from by simpa using hC]
   simp only [cond_false,Bool.false_eq_true,if_false]
   rw [Bc3 _ hr,if_neg hC]
   exact tl2 [n] r hr h1 (by omega) (by simp only [Aa4,Acg];omega)
theorem Dei {ts:List Tk} (hg:Good ts) (hs:ts <:+ l) (hk:16 * ts.length+6≤k):Ase.g (PS.at k) k l (ix l ts)=some (conv l eT (Bc6 ts)):=by
 unfold Ase.g
 rw [Av2 k hg hs,Dfu hg]
 simp only [Aai,Adj,got_eq k hl hg hs]
 have hle:=hs.length_le
 refine Al5 (Aov _) (fun hc=>?_) fun h1=>?_
 ·simp only [hc,if_true]
  obtain ⟨g1,g2,g3⟩:=hg.tail (Abq hc)
  have gs:=g3.trans hs
  rw [Cp2 hc hg,then_assoc,ih.block false _ g1 gs (by omega)]
  refine Ahc (Azo false g1) fun b r hr hrs hn=>?_
  simp only [eT,Alh]
  rw [Ap3 k hl hr (hrs.trans gs),then_assoc]
  exact Ahc (Ajo _ hr) fun _ _ _ _ _=>rfl
 simp only [if_neg h1,got_eq k hl hg hs,Aai]
 refine Al5 (Aov _) (fun hc=>?_) fun h2=>?_
 ·simp only [hc,if_true]
  obtain ⟨g1,g2,g3⟩:=hg.tail (Abq hc)
  have gs:=g3.trans hs
  rw [Be4 hl k g1 gs (by omega)]
  refine Ahc (Aj7 (by omega) g1) fun e r hr hrs hn=>?_
  simp only [eT,Alh]
  exact Cml hl ih (fun b=>apd 64 [e] [b]) (fun l49 r54=>some (PR.ok ((25:Int),(⟨#[]⟩:ByteArray),(0:Int),(hd ts).2.2.2,l49,r54))) (fun b=>.mk 25 noB 0 (hd ts).2.2.2 [e,b]) hr (hrs.trans gs) (by omega) fun b s _ _=>⟨_,Aoq (by simp),rfl⟩
 simp only [if_neg h2,got_eq k hl hg hs,Aai]
 refine Al5 (Aov _) (fun hc=>?_) fun h3=>?_
 ·simp only [hc,if_true]
  obtain ⟨g1,g2,g3⟩:=hg.tail (Abq hc)
  rw [ih.branches _ g1 (g3.trans hs) (by omega)]
  exact Ahc (B8t _ g1) fun _ _ _ _ _=>rfl
 simp only [if_neg h3,got_eq k hl hg hs,Aai]
 have same:∀ {x:PV Tree},(PR.bind (some (conv l eT x)) fun r66=>some (PR.ok (r66.1,r66.2.1,r66.2.2.1,r66.2.2.2.1,r66.2.2.2.2.1,r66.2.2.2.2.2)))=some (conv l eT x):=fun {x}=>by cases x <;> rfl
 refine Al5 (Aov _) (fun hc=>?_) fun h4=>?_
 ·simp only [hc,if_true]
  obtain ⟨g1,g2,g3⟩:=hg.tail (Abq hc)
  rw [ih.loop _ _ g1 (g3.trans hs) (by omega)]
  exact same
 simp only [if_neg h4,got_eq k hl hg hs,Aai]
 refine Al5 (Aov _) (fun hc=>?_) fun h5=>?_
 ·simp only [hc,if_true]
  obtain ⟨g1,g2,g3⟩:=hg.tail (Abq hc)
  have gs:=g3.trans hs
  rw [Bx7 hl k g1 gs (by omega)]
  cases hv:Aw5 ts.tail with
  | bad i=>rfl
  | ok xs r =>
   have hf:=Be0 g1
   rw [hv] at hf
   have hln:=Bxt g1 hv
   have hrl:=hf.2.2.trans gs
   show (Af0.f k l (ix l r) _).bind _=some (conv l eT ((Bpk r).then _))
   rw [got_eq k hl hf.1 hrl]
   unfold Bpk
   simp only [Aai,eL]
   by_cases hE:isH kEq r=true
   ·rw [if_pos hE,show isH (⟨#[61]⟩:ByteArray) r=true from hE]
    simp only [cond_true,if_true]
    obtain ⟨g4,g5,g6⟩:=hf.1.tail (Abq hE)
    have h6:=hf.2.1
    rw [Bll hl k g4 (g6.trans hrl) (by omega)]
    cases hv2:Arc r.tail with
    | bad i=>rfl
    | ok es s =>
     have Djz:=Bne g4 hv2
     show (apd 64 xs es).bind _=_
     rw [Aoq (by omega)]
     rfl
   ·rw [if_neg hE,show isH (⟨#[61]⟩:ByteArray) r=false from by simpa using hE]
    simp only [cond_false,Bool.false_eq_true,if_false,PV.then,List.append_nil]
    rfl
 simp only [if_neg h5,got_eq k hl hg hs,Aai]
 refine Al5 (Aov _) (fun hc=>?_) fun h6=>?_
 ·simp only [hc,if_true]
  rfl
 simp only [if_neg h6]
 rw [ih.plain _ hg hs (by omega)]
 exact same
omit ih in
theorem targets_eq (J:List Tree→Int→Option (PR (Int×ByteArray×Int×Int×List Tree×Int))) (g:List Tree→List Tk→PV Tree) (N:Nat) (hJ:∀ a r,Good r→r <:+ l→r.length≤N→a.length+r.length≤1000000→J a (ix l r)=some (conv l eT (g a r))) :
  ∀ (m:Nat) (acc:List Tree) (e:Tree) (ts:List Tk),Good ts→ts <:+ l→16 * ts.length+2 < m→ts.length≤N→acc.length+ts.length+1≤1000000→An7.l0 m l J e.kind e.text e.n e.at_ e.kids acc (ix l ts)=some (conv l eT ((Bdc acc e ts).then g))
 | 0,_,_,_,_,_,h,_,_=>by omega
 | m+1,acc,e,ts,hg,hs,hm,hN,ha=>by
  rw [An7.l0,Df0 acc e hg]
  simp only [Adj,Alh]
  have ht:A9a.f m e.kind e.text e.n e.at_ e.kids=some (decide (e.kind=6∨e.kind=7)):=by
   unfold A9a.f
   rw [Bkx,Bkx]
   by_cases h6:e.kind=6
   ·simp [h6]
   ·simp [h6]
  rw [ht]
  simp only [Aai]
  by_cases hk:e.kind=6∨e.kind=7
  ·rw [if_pos hk,decide_eq_true hk]
   simp only [Bool.not_true,cond_false]
   rw [Aoq (by simp only [Aa4,Acg];omega)]
   simp only [Aai,got_eq m hl hg hs]
   by_cases hc:isH Aoz ts=true
   ·rw [show isH (⟨#[44]⟩:ByteArray) ts=true from hc]
    simp only [Bool.not_true,cond_false,if_true]
    rw [then_assoc]
    obtain ⟨g1,g2,g3⟩:=hg.tail (Abq hc)
    have gs:=g3.trans hs
    rw [B9d hl m g1 gs (by omega)]
    refine Ahc (Be1 g1) fun x r hr hrs hn=>?_
    exact targets_eq J g N hJ m _ x r hr (hrs.trans gs) (by omega) (by omega) (by simp only [Abj,Aa4,Acg];omega)
   ·rw [show isH (⟨#[44]⟩:ByteArray) ts=false from by simpa using hc]
    simp only [Bool.not_false,cond_true,Bool.false_eq_true,if_false]
    exact hJ _ ts hg hs (by omega) (by simp only [Abj,Aa4,Acg];omega)
  ·rw [if_neg hk,decide_eq_false hk]
   rfl
omit ih in
theorem Dbx (k:Nat) {ts:List Tk} (hg:Good ts) (hs:ts <:+ l) (hk:16 * ts.length+5≤k):An7.g (PS.at k) k l (ix l ts)=some (conv l eT (Bjw ts)):=by
 unfold An7.g
 rw [B9d hl k hg hs (by omega),Dfs hg]
 have hle:=hs.length_le
 refine Ahc (Be1 hg) fun e r hr hrs hn=>?_
 have h1:=hrs.trans hs
 simp only [eT,Alh,A1y k hr h1,Aai,Adj]
 have hq:(cond (!isH (⟨#[61]⟩:ByteArray) r) (some (!isH (⟨#[44]⟩:ByteArray) r)) (some false):Option Bool)=some (!(isH kEq r || isH Aoz r)):=by
  show (cond (!isH kEq r) (some (!isH Aoz r)) (some false):Option Bool)=_
  cases isH kEq r <;> cases isH Aoz r <;> rfl
 rw [hq]
 simp only [Aai]
 cases hb:(isH kEq r || isH Aoz r) with
 | true =>
  simp only [Bool.not_true,cond_false,if_true]
  refine targets_eq hl _ (fun l r=>(Ajy kEq r).then fun _ r=>(Arc r).then fun es r=>.ok (.mk 22 noB l.length e.at_ (l++es)) r) r.length (fun a s hs1 hsl hsn ha=>?_) k [] e r hr h1 (by omega) (Nat.le_refl _) (by simp only [Acg];omega)
  rw [Ap3 k hl hs1 hsl]
  refine Ahc (Ajo _ hs1) fun _ s2 hs2 Bv2 hn2=>?_
  simp only [eU]
  have h2:=Bv2.trans hsl
  have hkey:16 * s2.length+5≤k:=by have:=hs2;omega
  rw [Bll hl k hs2 h2 hkey]
  cases hv:Arc s2 with
  | bad i=>rfl
  | ok es s3 =>
   have hln:=Bne hs2 hv
   show (apd 64 a es).bind _=_
   rw [Aoq (by omega)]
   rfl
 | false =>
  simp only [Bool.not_false,cond_true,Bool.false_eq_true,if_false]
  by_cases h8:e.kind=8
  ·rw [if_pos h8,h8]
   rfl
  ·rw [if_neg h8,show (e.kind != 8)=true by rw [bne_iff_ne];exact h8]
   simp only [cond_true,Av2 k hr h1,Aai]
   rfl
end
theorem aS {l:List Tk} (hl:l.length≤400000):∀ k,AS l k
 | 0=>by constructor <;> intros <;> omega
 | k+1=>by
  have ih:=aS hl k
  have h1:l.length≤1000000:=by omega
  exact ⟨fun c ts hg hs h=>B6x h1 ih c hg hs (by omega),fun ts hf hg hs h=>Ctr h1 ih hf hg hs (by omega),fun ts hg hs h=>Dei h1 ih hg hs (by omega),fun ts hg hs h=>Cp3 h1 ih hg hs (by omega) hl,fun at_ ts hg hs h=>Ctk h1 ih at_ hg hs (by omega),fun ts hg hs h=>Dbx h1 k hg hs (by omega)⟩
theorem Cta {l:List Tk} (hl:l.length≤400000) (k:Nat) (c:Bool) {ts:List Tk} (hg:Good ts) (hs:ts <:+ l) (hk:16 * ts.length+8≤k):Ahi.f k l (ix l ts) c=some (conv l eT (Aqj c ts)):=B6x (by omega) (aS hl k) c hg hs hk
mutual
def sz:Tree→Nat
 | .mk _ _ _ _ l=>szs l+1
def szs:List Tree→Nat
 | []=>0
 | x :: l=>sz x+szs l
end
mutual
/-- Nodes begin in order. -/
def Air:Tree→Prop
 | .mk k _ _ a l=>Anw a l∧(k=20→l.Pairwise fun x y=>x.at_ < y.at_)
def Anw (a:Int):List Tree→Prop
 | []=>True
 | x :: l=>(a≤x.at_∧Air x)∧Anw a l
end
theorem Bn5 {a:Int}:∀ {l:List Tree},Anw a l ↔ ∀ x ∈ l,a≤x.at_∧Air x
 | []=>by simp [Anw]
 | x :: l=>by simp [Anw,Bn5 (l:=l)]
theorem Ah6:∀ (l m:List Tree),szs (l++m)=szs l+szs m
 | [],m=>by simp [szs]
 | x :: l,m=>by simp only [List.cons_append,szs,Ah6 l m];omega
theorem Akl:∀ (l:List Tree),l.length≤szs l
 | []=>Nat.zero_le _
 | .mk _ _ _ _ _ :: l=>by
  have:=Akl l
  simp only [Aa4,szs,sz]
  omega
def Asc (ts:List Tk):Prop:=ts.Pairwise fun a b=>a.2.2.2 < b.2.2.2
def at0 (ts:List Tk):Int:=(hd ts).2.2.2
structure Aft (n:Nat) (ts r:List Tk):Prop where
 good:Good r
 asc:Asc r
 len:r.length+n≤ts.length
 le:at0 ts≤at0 r
 lt:r.length < ts.length→at0 ts < at0 r
theorem Aft.refl {ts:List Tk} (hg:Good ts) (ha:Asc ts):Aft 0 ts ts:=⟨hg,ha,Nat.le_refl _,Int.le_refl _,fun h=>absurd h (Nat.lt_irrefl _)⟩
theorem Aft.trans {n m:Nat} {ts r s:List Tk} (h:Aft n ts r) (h':Aft m r s):Aft (n+m) ts s:=by
 refine ⟨h'.good,h'.asc,?_,?_,fun hl=>?_⟩
 ·have:=h.len;have:=h'.len;omega
 ·have:=h.le;have:=h'.le;omega
 ·by_cases hr:r.length < ts.length
  ·have:=h.lt hr;have:=h'.le;omega
  ·have:=h'.lt (by omega);have:=h.le;omega
theorem Aft.weak {n m:Nat} {ts r:List Tk} (h:Aft n ts r) (hm:m≤n):Aft m ts r:=⟨h.good,h.asc,by have:=h.len;omega,h.le,h.lt⟩
theorem Aft.tail {n:Nat} {ts r:List Tk} (h:Aft n ts r) (h6:(hd r).1≠6):Aft (n+1) ts r.tail:=by
 obtain ⟨g1,g2,_⟩:=h.good.tail h6
 refine h.trans (m:=1) ⟨g1,?_,by omega,?_,?_⟩
 ·cases r with
  | nil=>exact h.asc
  | cons t r=>exact (List.pairwise_cons.1 h.asc).2
 all_goals
  cases r with
  | nil=>exact h.good.elim
  | cons t r =>
   cases r with
   | nil=>exact g1.elim
   | cons u r =>
    have:=(List.pairwise_cons.1 h.asc).1 u (Af5 ..)
    simp only [at0,hd,List.tail_cons,List.headD_cons]
    omega
def R {α:Type} (x:Option (PV α)) (Q:α→List Tk→Prop):Prop:=∀ a r,x=some (.ok a r)→Q a r
section
variable {α β:Type} {x y:Option (PV α)} {f:α→List Tk→Option (PV β)} {Q Q1:α→List Tk→Prop} {Q2:β→List Tk→Prop}
theorem R.bind (h1:R x Q1) (h2:∀ a r,Q1 a r→R (f a r) Q2):R (PV.bind x f) Q2:=fun a r h=>by
 rcases bind_some h with ⟨i,_,he⟩ | ⟨a',r',hx,hf⟩
 ·cases he
 ·exact h2 a' r' (h1 a' r' hx) a r hf
theorem R.none:R (none:Option (PV α)) Q:=fun _ _ h=>by cases h
theorem R.bad {i:Int}:R (some (.bad i):Option (PV α)) Q:=fun _ _ h=>by cases h
theorem R.ok {a:α} {r:List Tk} (h:Q a r):R (some (.ok a r)) Q:=fun _ _ h'=>by cases h';exact h
theorem R.ite {c:Prop} [Decidable c] (h1:c→R x Q) (h2:¬ c→R y Q):R (if c then x else y) Q:=by
 by_cases h:c
 ·rw [if_pos h];exact h1 h
 ·rw [if_neg h];exact h2 h
theorem R.weak (h:R x Q1) (h2:∀ a r,Q1 a r→Q a r):R x Q:=fun a r h'=>h2 a r (h a r h')
end
structure TE (b:Nat) (ts:List Tk) (n:Tree) (r:List Tk):Prop where
 aft:Aft 1 ts r
 at_:n.at_=at0 ts
 ord:Air n
 size:sz n+b+4 * r.length≤4 * ts.length
structure LE (m:Nat) (lo:Int) (acc:List Tree) (ts:List Tk) (l:List Tree) (r:List Tk):Prop where
 aft:Aft m ts r
 ord:Anw lo l
 size:szs l+4 * r.length≤szs acc+4 * ts.length
theorem Anw.snoc {lo:Int} {l:List Tree} {x:Tree} (h:Anw lo l) (h1:lo≤x.at_) (h2:Air x):Anw lo (l++[x]):=by
 rw [Bn5] at h ⊢
 intro y hy
 rcases Agb.1 hy with hy | hy
 ·exact h y hy
 ·obtain rfl:=Ag1.1 hy;exact ⟨h1,h2⟩
theorem Anw.app {lo:Int} {l m:List Tree} (h:Anw lo l) (h':Anw lo m):Anw lo (l++m):=by
 rw [Bn5] at *
 intro y hy
 exact (Agb.1 hy).elim (h y) (h' y)
theorem Anw.weak {lo lo':Int} {l:List Tree} (h:Anw lo l) (h1:lo'≤lo):Anw lo' l:=by
 rw [Bn5] at *
 exact fun y hy=>⟨Int.le_trans h1 (h y hy).1,(h y hy).2⟩
theorem Air.mk {k:Int} {t:ByteArray} {n a:Int} {l:List Tree} (h:Anw a l) (hk:k≠20):Air (.mk k t n a l):=⟨h,fun e=>absurd e hk⟩
theorem one {lo:Int} {x:Tree} (h1:lo≤x.at_) (h2:Air x):Anw lo [x]:=⟨⟨h1,h2⟩,trivial⟩
theorem Asl {w:ByteArray} {n:Nat} {ts s:List Tk} (h:Aft n ts s):R (Aoe w s) fun _ r=>Aft (n+1) ts r∧r.length+1=s.length:=by
 refine R.ite (fun hc=>R.ok ⟨h.tail (Abq hc),?_⟩) fun _=>R.bad
 exact (h.good.tail (Abq hc)).2.1
theorem Bce {k:Int} {ts:List Tk} (hk:k≠20) (hg:Good ts) (ha:Asc ts):R (Atn k ts) (TE 1 ts):=by
 refine R.ite (fun hc=>R.ok ?_) fun _=>R.bad
 have h6:(hd ts).1≠6:=by omega
 have:=(hg.tail h6).2.1
 exact ⟨((Aft.refl hg ha).tail h6).weak (by omega),rfl,Air.mk trivial hk,by simp only [sz,szs];omega⟩
theorem B05:∀ (f:Nat) (acc:List Tree) (lo:Int) (ts:List Tk),Good ts→Asc ts→lo≤at0 ts→Anw lo acc→R (Apm f acc ts) (LE 0 lo acc ts)
 | 0,_,_,_,_,_,_,_=>R.none
 | f+1,acc,lo,ts,hg,ha,hlo,hacc=>by
  unfold Apm
  refine R.ite (fun hc=>?_) fun _=>R.ok ⟨Aft.refl hg ha,hacc,Nat.le_refl _⟩
  have ht:=(Aft.refl hg ha).tail (Abq hc)
  have:=ht.len;have:=ht.le
  refine R.bind (Bce (by decide) ht.good ht.asc) fun n r hn=>?_
  have:=hn.at_;have:=hn.size
  refine R.weak (B05 f _ lo r hn.aft.good hn.aft.asc (by have:=hn.aft.le;omega) (hacc.snoc (by omega) hn.ord)) fun l s hl=>?_
  have:=hl.size
  rw [Ah6] at this
  simp only [szs] at this
  exact ⟨((ht.trans hn.aft).trans hl.aft).weak (by omega),hl.ord,by omega⟩
theorem Cjm (f:Nat) {lo:Int} {ts:List Tk} (hg:Good ts) (ha:Asc ts) (hlo:lo≤at0 ts):R (A2r f ts) (LE 1 lo [] ts):=by
 refine R.bind (Bce (by decide) hg ha) fun n r hn=>?_
 have:=hn.at_;have:=hn.size
 refine R.weak (B05 f _ lo r hn.aft.good hn.aft.asc (by have:=hn.aft.le;omega) (one (by omega) hn.ord)) fun l s hl=>?_
 have:=hl.size
 simp only [szs] at this ⊢
 exact ⟨(hn.aft.trans hl.aft).weak (by omega),hl.ord,by simp only [szs];omega⟩
structure OE (f:Nat):Prop where
 exp:∀ least ts,0≤least→Good ts→Asc ts→R (Aie f least ts) (TE 1 ts)
 loop:∀ least n ts,0≤least→Good ts→Asc ts→Air n→n.at_≤at0 ts→R (Anh f least n ts) fun n' r=>Aft 0 ts r∧n'.at_=n.at_∧Air n'∧sz n'+4 * r.length≤sz n+4 * ts.length
 operand:∀ ts,Good ts→Asc ts→R (Amq f ts) (TE 1 ts)
 fields:∀ acc lo ts,Good ts→Asc ts→lo≤at0 ts→Anw lo acc→R (Amo f acc ts) (LE 1 lo acc ts)
 field:∀ ts,Good ts→Asc ts→R (Anx f ts) (TE 0 ts)
 Akv:∀ ts,Good ts→Asc ts→R (Alq f ts) (TE 1 ts)
 Aiv:∀ at_ n ts,Good ts→Asc ts→Air n→at_=n.at_→n.at_≤at0 ts→R (Alp f at_ n ts) fun n' r=>Aft 0 ts r∧n'.at_=n.at_∧Air n'∧sz n'+4 * r.length≤sz n+4 * ts.length
 Ahv:∀ lo ts,Good ts→Asc ts→lo≤at0 ts→R (Alm f ts) (LE 1 lo [] ts)
 Aph:∀ acc lo ts,Good ts→Asc ts→lo≤at0 ts→Anw lo acc→R (Anb f acc ts) (LE 0 lo acc ts)
theorem Bbw {k:Int} {t:ByteArray} {n:Int} {ts:List Tk} (hk:k≠20) (hg:Good ts) (ha:Asc ts) (h6:(hd ts).1≠6):TE 1 ts (.mk k t n (hd ts).2.2.2 []) ts.tail:=by
 have:=(hg.tail h6).2.1
 exact ⟨((Aft.refl hg ha).tail h6).weak (by omega),rfl,Air.mk trivial hk,by simp only [sz,szs];omega⟩
theorem rE:∀ f,OE f
 | 0=>by constructor <;> intros <;> (first | unfold Aie | unfold Anh | unfold Amq | unfold Amo | unfold Anx | unfold Alq | unfold Alp | unfold Alm | unfold Anb) <;> exact R.none
 | f+1=>by
  have ih:=rE f
  constructor
  ·intro least ts hl hg ha;unfold Aie
   refine R.bind (ih.operand ts hg ha) fun n r hn=>?_
   have:=hn.at_;have:=hn.size;have:=hn.aft.le
   refine R.weak (ih.loop least n r hl hn.aft.good hn.aft.asc hn.ord (by omega)) fun n' s ⟨h1,h2,h3,h4⟩=>?_
   exact ⟨(hn.aft.trans h1).weak (by omega),by omega,h3,by omega⟩
  ·intro least n ts hl hg ha hn hat;unfold Anh
   refine R.ite (fun _=>R.ok ⟨Aft.refl hg ha,rfl,hn,Nat.le_refl _⟩) fun hc=>?_
   have hb:=B6u ts
   have ht:=(Aft.refl hg ha).tail (Baz (by omega))
   have:=ht.len;have:=ht.le
   refine R.bind (ih.exp _ _ (by split <;> omega) ht.good ht.asc) fun m r hm=>?_
   have:=hm.at_;have:=hm.size;have:=hm.aft.le
   refine R.weak (ih.loop least _ r hl hm.aft.good hm.aft.asc (Air.mk ⟨⟨Int.le_refl _,hn⟩,⟨by omega,hm.ord⟩,trivial⟩ (by decide)) (show n.at_≤_ by omega)) fun n' s ⟨h1,h2,h3,h4⟩=>?_
   simp only [sz,szs] at h4
   exact ⟨((ht.trans hm.aft).trans h1).weak (by omega),h2,h3,by omega⟩
  ·intro ts hg ha;unfold Amq
   refine R.ite (fun h=>R.ok (Bbw (by decide) hg ha (by omega))) fun _=>?_
   refine R.ite (fun h=>R.ok (Bbw (by decide) hg ha (by omega))) fun _=>?_
   refine R.ite (fun h=>R.ok (Bbw (by decide) hg ha (Abq h))) fun _=>?_
   refine R.ite (fun h=>R.ok (Bbw (by decide) hg ha (Abq h))) fun _=>?_
   refine R.ite (fun h=>R.ok (Bbw (by decide) hg ha (Abq h))) fun _=>?_
   refine R.ite (fun h=>?_) fun _=>?_
   ·have h6:(hd ts).1≠6:=by
     simp only [Bool.or_eq_true] at h
     rcases h with (h | h) | h <;> exact Abq h
    have ht:=(Aft.refl hg ha).tail h6
    have:=ht.len;have:=ht.le
    refine R.bind (ih.exp _ _ (by decide) ht.good ht.asc) fun m r hm=>R.ok ?_
    have:=hm.at_;have:=hm.size;have:=hm.aft.le
    exact ⟨(ht.trans hm.aft).weak (by omega),rfl,Air.mk (one (show at0 ts≤_ by omega) hm.ord) (by decide),by simp only [sz,szs];omega⟩
   refine R.ite (fun h=>?_) fun _=>ih.Akv ts hg ha
   have ht:=(Aft.refl hg ha).tail (Abq h)
   have:=ht.len;have:=ht.le
   refine R.bind (ih.fields [] (at0 ts) _ ht.good ht.asc (by omega) trivial) fun l r hl=>R.ok ?_
   have h5:=hl.size
   simp only [szs] at h5
   exact ⟨(ht.trans hl.aft).weak (by omega),rfl,Air.mk hl.ord (by decide),by simp only [sz];omega⟩
  ·intro acc lo ts hg ha hlo hacc;unfold Amo
   refine R.ite (fun h=>?_) fun _=>?_
   ·have ht:=(Aft.refl hg ha).tail (Abq h)
    have:=ht.len
    exact R.ok ⟨ht.weak (by omega),hacc,by omega⟩
   refine R.bind (ih.field ts hg ha) fun x r hx=>?_
   have:=hx.at_;have:=hx.size;have:=hx.aft.le
   have hacc':=hacc.snoc (x:=x) (by omega) hx.ord
   refine R.ite (fun h=>?_) fun _=>?_
   ·have ht:=hx.aft.tail (Abq h)
    have:=ht.len;have:=ht.le
    have:=(hx.aft.good.tail (Abq h)).2.1
    refine R.weak (ih.fields _ lo _ ht.good ht.asc (by omega) hacc') fun l s hl=>?_
    have h5:=hl.size
    simp only [Ah6,szs] at h5
    exact ⟨(ht.trans hl.aft).weak (by omega),hl.ord,by omega⟩
   refine R.ite (fun h=>?_) fun _=>?_
   ·have ht:=hx.aft.tail (Abq h)
    have:=ht.len;have:=ht.le
    have:=(hx.aft.good.tail (Abq h)).2.1
    refine R.weak (ih.fields _ lo _ ht.good ht.asc (by omega) hacc') fun l s hl=>?_
    have h5:=hl.size
    simp only [Ah6,szs] at h5
    exact ⟨(ht.trans hl.aft).weak (by omega),hl.ord,by omega⟩
   refine R.bind (Asl hx.aft) fun _ s ⟨hs,hs2⟩=>R.ok ?_
   exact ⟨hs.weak (by omega),hacc',by simp only [Ah6,szs];omega⟩
  ·intro ts hg ha;unfold Anx
   refine R.ite (fun h=>?_) fun _=>?_
   ·have ht:=(Aft.refl hg ha).tail (Abq h)
    have:=ht.len;have:=ht.le
    refine R.bind (ih.exp _ _ (by decide) ht.good ht.asc) fun k r hk=>?_
    have:=hk.at_;have:=hk.size;have:=hk.aft.le
    refine R.bind (Asl (ht.trans hk.aft)) fun _ r2 ⟨h2,h2'⟩=>?_
    refine R.bind (Asl h2) fun _ r3 ⟨h3,h3'⟩=>?_
    have:=h3.le
    refine R.bind (ih.exp _ _ (by decide) h3.good h3.asc) fun v r4 hv=>R.ok ?_
    have:=hv.at_;have:=hv.size
    exact ⟨(h3.trans hv.aft).weak (by omega),rfl,Air.mk ⟨⟨show at0 ts≤_ by omega,hk.ord⟩,⟨show at0 ts≤_ by omega,hv.ord⟩,trivial⟩ (by decide),by simp only [sz,szs];omega⟩
   refine R.ite (fun h=>?_) fun _=>?_
   ·obtain ⟨h1,h2,_⟩:=h
    have ht:=((Aft.refl hg ha).tail (by omega)).tail (by omega)
    have:=ht.len;have:=ht.le
    refine R.bind (ih.exp _ _ (by decide) ht.good ht.asc) fun v r hv=>R.ok ?_
    have:=hv.at_;have:=hv.size
    exact ⟨(ht.trans hv.aft).weak (by omega),rfl,Air.mk ⟨⟨Int.le_refl _,Air.mk trivial (by decide)⟩,⟨show at0 ts≤_ by omega,hv.ord⟩,trivial⟩ (by decide),by simp only [sz,szs];omega⟩
   ·refine R.bind (ih.exp _ _ (by decide) hg ha) fun v r hv=>R.ok ?_
    have:=hv.at_;have:=hv.size
    exact ⟨hv.aft,rfl,Air.mk (one (show at0 ts≤_ by omega) hv.ord) (by decide),by simp only [sz,szs];omega⟩
  ·intro ts hg ha;unfold Alq
   refine R.ite (fun h=>?_) fun _=>?_
   ·have ht:=(Aft.refl hg ha).tail (Abq h)
    have:=ht.len;have:=ht.le
    refine R.bind (ih.exp _ _ (by decide) ht.good ht.asc) fun e r he=>?_
    have:=he.at_;have:=he.size
    refine R.bind (Asl (ht.trans he.aft)) fun _ r2 ⟨h2,h2'⟩=>?_
    have:=h2.le
    refine R.weak (ih.Aiv _ _ r2 h2.good h2.asc (Air.mk (one (show at0 ts≤_ by omega) he.ord) (by decide)) rfl (show at0 ts≤_ by omega)) fun n' s ⟨h3,h4,h5,h6⟩=>?_
    simp only [sz,szs] at h6
    exact ⟨(h2.trans h3).weak (by omega),h4,h5,by omega⟩
   ·refine R.bind (Bce (by decide) hg ha) fun n r hn=>?_
    have:=hn.at_;have:=hn.size;have:=hn.aft.le
    refine R.weak (ih.Aiv _ _ r hn.aft.good hn.aft.asc hn.ord hn.at_.symm (by omega)) fun n' s ⟨h3,h4,h5,h6⟩=>?_
    exact ⟨(hn.aft.trans h3).weak (by omega),by omega,h5,by omega⟩
  ·intro at_ n ts hg ha hn he hat;unfold Alp
   subst he
   refine R.ite (fun h=>?_) fun _=>?_
   ·have ht:=(Aft.refl hg ha).tail (Abq h)
    have:=ht.len;have:=ht.le
    refine R.bind (ih.exp _ _ (by decide) ht.good ht.asc) fun e r he=>?_
    have:=he.at_;have:=he.size
    refine R.bind (Asl (ht.trans he.aft)) fun _ r2 ⟨h2,h2'⟩=>?_
    have:=h2.le
    refine R.weak (ih.Aiv _ _ r2 h2.good h2.asc (Air.mk ⟨⟨Int.le_refl _,hn⟩,⟨by omega,he.ord⟩,trivial⟩ (by decide)) rfl (show n.at_≤_ by omega)) fun n' s ⟨h3,h4,h5,h6⟩=>?_
    simp only [sz,szs] at h6
    exact ⟨(h2.trans h3).weak (by omega),h4,h5,by omega⟩
   refine R.ite (fun h=>?_) fun _=>?_
   ·have ht:=(Aft.refl hg ha).tail (Abq h)
    have:=ht.len;have:=ht.le
    refine R.bind (Bce (by decide) ht.good ht.asc) fun e r he=>?_
    have:=he.at_;have:=he.size;have:=he.aft.le
    refine R.weak (ih.Aiv _ _ r he.aft.good he.aft.asc (Air.mk ⟨⟨Int.le_refl _,hn⟩,⟨by omega,he.ord⟩,trivial⟩ (by decide)) rfl (show n.at_≤_ by omega)) fun n' s ⟨h3,h4,h5,h6⟩=>?_
    simp only [sz,szs] at h6
    exact ⟨((ht.trans he.aft).trans h3).weak (by omega),h4,h5,by omega⟩
   refine R.ite (fun h=>?_) fun _=>R.ok ⟨Aft.refl hg ha,rfl,hn,Nat.le_refl _⟩
   have ht:=(Aft.refl hg ha).tail (Abq h)
   have:=ht.len;have:=ht.le
   refine R.bind (Q1:=LE 0 n.at_ [] ts.tail) ?_ fun l r hl=>?_
   ·refine R.ite (fun _=>R.ok ⟨Aft.refl ht.good ht.asc,trivial,Nat.le_refl _⟩) fun _=>?_
    exact R.weak (ih.Ahv n.at_ _ ht.good ht.asc (by omega)) fun l r hl=>⟨hl.aft.weak (by omega),hl.ord,hl.size⟩
   refine R.bind (Asl (ht.trans hl.aft)) fun _ r2 ⟨h2,h2'⟩=>?_
   have:=h2.le
   have h7:=hl.size
   simp only [szs] at h7
   refine R.weak (ih.Aiv _ _ r2 h2.good h2.asc (Air.mk ⟨⟨Int.le_refl _,hn⟩,hl.ord⟩ (by decide)) rfl (show n.at_≤_ by omega)) fun n' s ⟨h3,h4,h5,h6⟩=>?_
   simp only [sz,szs] at h6
   exact ⟨(h2.trans h3).weak (by omega),h4,h5,by omega⟩
  ·intro lo ts hg ha hlo;unfold Alm
   refine R.bind (ih.exp _ _ (by decide) hg ha) fun e r he=>?_
   have:=he.at_;have:=he.size;have:=he.aft.le
   refine R.weak (ih.Aph _ lo r he.aft.good he.aft.asc (by omega) (one (by omega) he.ord)) fun l s hl=>?_
   have h7:=hl.size
   simp only [szs] at h7
   exact ⟨(he.aft.trans hl.aft).weak (by omega),hl.ord,by simp only [szs];omega⟩
  ·intro acc lo ts hg ha hlo hacc;unfold Anb
   refine R.ite (fun h=>?_) fun _=>R.ok ⟨Aft.refl hg ha,hacc,Nat.le_refl _⟩
   have ht:=(Aft.refl hg ha).tail (Abq h)
   have:=ht.len;have:=ht.le
   refine R.bind (ih.exp _ _ (by decide) ht.good ht.asc) fun e r he=>?_
   have:=he.at_;have:=he.size;have:=he.aft.le
   refine R.weak (ih.Aph _ lo r he.aft.good he.aft.asc (by omega) (hacc.snoc (by omega) he.ord)) fun l s hl=>?_
   have h7:=hl.size
   simp only [Ah6,szs] at h7
   exact ⟨((ht.trans he.aft).trans hl.aft).weak (by omega),hl.ord,by omega⟩
structure TB (ts:List Tk) (n:Tree) (r:List Tk):Prop where
 aft:Aft 0 ts r
 at_:n.at_=at0 ts
 ord:Air n
 size:sz n+4 * r.length≤4 * ts.length+1
 kind:n.kind=20
structure OS (f:Nat):Prop where
 block:∀ c ts,Good ts→Asc ts→R (Ald f c ts) (TB ts)
 Akn:∀ c at_ acc ts,Good ts→Asc ts→at_≤at0 ts→Anw at_ acc→(acc.Pairwise fun x y=>x.at_ < y.at_)→(∀ x ∈ acc,x.at_ < at0 ts)→R (Alk f c at_ acc ts) fun n r=>Aft 0 ts r∧n.at_=at_∧Air n∧sz n+4 * r.length≤szs acc+4 * ts.length+1∧n.kind=20
 function:∀ ts,(hd ts).1≠6→Good ts→Asc ts→R (An1 f ts) (TE 0 ts)
 body:∀ ts,Good ts→Asc ts→R (Alv f ts) fun b r=>Aft 2 ts r∧at0 ts≤b.at_∧Air b∧sz b+4 * r.length+7≤4 * ts.length
 stat:∀ ts,Good ts→Asc ts→R (An4 f ts) (TE 0 ts)
 branches:∀ acc lo ts,Good ts→Asc ts→lo≤at0 ts→Anw lo acc→R (Ana f acc ts) (LE 1 lo acc ts)
 for_:∀ at_ ts,Good ts→Asc ts→at_≤at0 ts→R (An0 f at_ ts) fun n r=>Aft 1 ts r∧n.at_=at_∧Air n∧sz n+4 * r.length≤4 * ts.length
 plain:∀ ts,Good ts→Asc ts→R (An2 f ts) (TE 0 ts)
 targets:∀ acc lo e ts,Good ts→Asc ts→lo≤at0 ts→Anw lo acc→lo≤e.at_→Air e→R (Anj f acc e ts) fun l r=>Aft 0 ts r∧Anw lo l∧szs l+4 * r.length≤szs acc+sz e+4 * ts.length
theorem Ci4 {acc:List Tree} {x:Tree} (h:acc.Pairwise fun x y=>x.at_ < y.at_) (h2:∀ y ∈ acc,y.at_ < x.at_):(acc++[x]).Pairwise fun x y=>x.at_ < y.at_:=by
 refine List.pairwise_append.2 ⟨h,List.pairwise_singleton ..,fun y hy z hz=>?_⟩
 obtain rfl:=Ag1.1 hz
 exact h2 y hy
theorem rS:∀ f,OS f
 | 0=>by constructor <;> intros <;> (first | unfold Ald | unfold Alk | unfold An1 | unfold Alv | unfold An4 | unfold Ana | unfold An0 | unfold An2 | unfold Anj) <;> exact R.none
 | f+1=>by
  have ih:=rS f
  have ie:=rE f
  constructor
  ·intro c ts hg ha;unfold Ald
   refine R.weak (ih.Akn c _ [] ts hg ha (Int.le_refl _) trivial List.Pairwise.nil (fun _ h=>by cases h)) fun n r ⟨h1,h2,h3,h4,h5⟩=>?_
   simp only [szs] at h4
   exact ⟨h1,h2,h3,by omega,h5⟩
  ·intro c at_ acc ts hg ha hat hacc hp hlt;unfold Alk
   have next:∀ x r,TE 0 ts x r→R (Alk f c at_ (acc++[x]) r) fun n r=>Aft 0 ts r∧n.at_=at_∧Air n∧sz n+4 * r.length≤szs acc+4 * ts.length+1∧n.kind=20:=fun x r hx=>by
    have:=hx.at_;have:=hx.size;have:=hx.aft.len
    have h9:=hx.aft.lt (by omega)
    refine R.weak (ih.Akn c at_ (acc++[x]) r hx.aft.good hx.aft.asc (by omega) (hacc.snoc (by omega) hx.ord) (Ci4 hp fun y hy=>by have:=hlt y hy;omega) fun y hy=>?_) fun n s ⟨h1,h2,h3,h4,h5⟩=>?_
    ·rcases Agb.1 hy with hy | hy
     ·have:=hlt y hy;omega
     ·obtain rfl:=Ag1.1 hy;omega
    ·simp only [Ah6,szs] at h4
     exact ⟨(hx.aft.trans h1).weak (by omega),h2,h3,by omega,h5⟩
   refine R.ite (fun h=>?_) fun _=>?_
   ·have ht:=(Aft.refl hg ha).tail (Abq h)
    have:=ht.len;have:=ht.le
    refine R.weak (ih.Akn c at_ acc _ ht.good ht.asc (by omega) hacc hp fun x hx=>by have:=hlt x hx;omega) fun n s ⟨h1,h2,h3,h4,h5⟩=>?_
    exact ⟨(ht.trans h1).weak (by omega),h2,h3,by omega,h5⟩
   refine R.ite (fun h=>?_) fun _=>?_
   ·have ht:=(Aft.refl hg ha).tail (Abq h)
    have:=ht.len;have:=ht.le
    refine R.bind (Q1:=LE 0 (at0 ts) [] ts.tail) ?_ fun l r hl=>?_
    ·refine R.ite (fun _=>R.ok ⟨Aft.refl ht.good ht.asc,trivial,Nat.le_refl _⟩) fun _=>?_
     exact R.weak (ie.Ahv (at0 ts) _ ht.good ht.asc (by omega)) fun l r hl=>⟨hl.aft.weak (by omega),hl.ord,hl.size⟩
    have h7:=hl.size
    simp only [szs] at h7
    have hr:Aft 0 ts (if isH At1 r=true then r.tail else r)∧(if isH At1 r=true then r.tail else r).length≤r.length:=by
     split
     ·rename_i hc
      have:=(hl.aft.good.tail (Abq hc)).2.1
      exact ⟨((ht.trans hl.aft).tail (Abq hc)).weak (by omega),by omega⟩
     ·exact ⟨(ht.trans hl.aft).weak (by omega),Nat.le_refl _⟩
    have:=hr.2
    refine R.ok ⟨hr.1,rfl,⟨hacc.snoc (show at_≤at0 ts by omega) (Air.mk hl.ord (by decide)),fun _=>Ci4 hp fun y hy=>hlt y hy⟩,?_,rfl⟩
    simp only [sz,szs,Ah6]
    omega
   refine R.ite (fun h=>?_) fun _=>?_
   ·simp only [Bool.and_eq_true] at h
    exact R.bind (ih.function ts (Abq h.2) hg ha) next
   refine R.ite (fun h=>?_) fun _=>R.bind (ih.stat ts hg ha) next
   refine R.ok ⟨Aft.refl hg ha,rfl,⟨hacc,fun _=>hp⟩,?_,rfl⟩
   simp only [sz];omega
  ·intro ts h6 hg ha;unfold An1
   have ht:=(Aft.refl hg ha).tail h6
   have:=ht.len;have:=ht.le
   refine R.bind (Bce (by decide) ht.good ht.asc) fun nm r hn=>?_
   have:=hn.size
   have hnp:1≤sz nm:=by cases nm;simp only [sz];omega
   refine R.bind (Asl (ht.trans hn.aft)) fun _ r2 ⟨h2,h2'⟩=>?_
   have:=h2.le
   refine R.bind (Q1:=LE 0 (at0 ts) [] r2) ?_ fun ps r3 hl=>?_
   ·refine R.ite (fun _=>R.ok ⟨Aft.refl h2.good h2.asc,trivial,Nat.le_refl _⟩) fun _=>?_
    exact R.weak (Cjm f h2.good h2.asc (by omega)) fun l r hl=>⟨hl.aft.weak (by omega),hl.ord,hl.size⟩
   refine R.bind (Asl (h2.trans hl.aft)) fun _ r4 ⟨h4,h4'⟩=>?_
   have h7:=hl.size
   simp only [szs] at h7
   have:=h4.le
   refine R.bind (ih.block false r4 h4.good h4.asc) fun b r5 hb=>?_
   have:=hb.at_;have:=hb.size
   refine R.bind (Asl (h4.trans hb.aft)) fun _ r6 ⟨h8,h8'⟩=>R.ok ?_
   refine ⟨h8.weak (by omega),rfl,Air.mk (hl.ord.snoc (show at0 ts≤_ by omega) hb.ord) (by decide),?_⟩
   simp only [sz,szs,Ah6]
   omega
  ·intro ts hg ha;unfold Alv
   refine R.bind (Asl (Aft.refl hg ha)) fun _ r ⟨h1,h1'⟩=>?_
   have:=h1.le
   refine R.bind (ih.block false r h1.good h1.asc) fun b r2 hb=>?_
   have:=hb.at_;have:=hb.size
   refine R.bind (Asl (h1.trans hb.aft)) fun _ r3 ⟨h3,h3'⟩=>R.ok ?_
   exact ⟨h3.weak (by omega),by omega,hb.ord,by omega⟩
  ·intro ts hg ha;unfold An4
   refine R.ite (fun h=>?_) fun _=>?_
   ·refine R.bind (ih.body ts hg ha) fun b r ⟨h1,h2,h3,h4⟩=>R.ok ?_
    exact ⟨h1.weak (by omega),rfl,Air.mk (one (show at0 ts≤_ by omega) h3) (by decide),by simp only [sz,szs];omega⟩
   refine R.ite (fun h=>?_) fun _=>?_
   ·have ht:=(Aft.refl hg ha).tail (Abq h)
    have:=ht.len;have:=ht.le
    refine R.bind (ie.exp _ _ (by decide) ht.good ht.asc) fun e r he=>?_
    have:=he.at_;have:=he.size;have:=he.aft.le
    refine R.bind (ih.body r he.aft.good he.aft.asc) fun b r ⟨h1,h2,h3,h4⟩=>R.ok ?_
    exact ⟨((ht.trans he.aft).trans h1).weak (by omega),rfl,Air.mk ⟨⟨show at0 ts≤_ by omega,he.ord⟩,⟨show at0 ts≤_ by omega,h3⟩,trivial⟩ (by decide),by simp only [sz,szs];omega⟩
   refine R.ite (fun h=>?_) fun _=>?_
   ·have ht:=(Aft.refl hg ha).tail (Abq h)
    have:=ht.len;have:=ht.le
    refine R.bind (ih.branches [] (at0 ts) _ ht.good ht.asc (by omega) trivial) fun l r hl=>R.ok ?_
    have h7:=hl.size
    simp only [szs] at h7
    exact ⟨(ht.trans hl.aft).weak (by omega),rfl,Air.mk hl.ord (by decide),by simp only [sz];omega⟩
   refine R.ite (fun h=>?_) fun _=>?_
   ·have ht:=(Aft.refl hg ha).tail (Abq h)
    have:=ht.len;have:=ht.le
    refine R.weak (ih.for_ (at0 ts) _ ht.good ht.asc (by omega)) fun n r ⟨h1,h2,h3,h4⟩=>?_
    exact ⟨(ht.trans h1).weak (by omega),h2,h3,by omega⟩
   refine R.ite (fun h=>?_) fun _=>?_
   ·have ht:=(Aft.refl hg ha).tail (Abq h)
    have:=ht.len;have:=ht.le
    refine R.bind (Cjm f ht.good ht.asc (lo:=at0 ts) (by omega)) fun l r hl=>?_
    have:=hl.aft.le
    have h7:=hl.size
    simp only [szs] at h7
    refine R.bind (Q1:=LE 0 (at0 ts) [] r) ?_ fun es r2 he=>R.ok ?_
    ·refine R.ite (fun hc=>?_) fun _=>R.ok ⟨Aft.refl hl.aft.good hl.aft.asc,trivial,Nat.le_refl _⟩
     have ht2:=(Aft.refl hl.aft.good hl.aft.asc).tail (Abq hc)
     have:=ht2.len;have:=ht2.le
     exact R.weak (ie.Ahv (at0 ts) _ ht2.good ht2.asc (by omega)) fun l r hl=>⟨(ht2.trans hl.aft).weak (by omega),hl.ord,by have:=hl.size;omega⟩
    have h8:=he.size
    simp only [szs] at h8
    exact ⟨((ht.trans hl.aft).trans he.aft).weak (by omega),rfl,Air.mk (hl.ord.app he.ord) (by decide),by simp only [sz,Ah6];omega⟩
   refine R.ite (fun h=>?_) fun _=>ih.plain ts hg ha
   have:=Bbw (k:=29) (t:=noB) (n:=0) (by decide) hg ha (Abq h)
   exact R.ok ⟨this.aft,this.at_,this.ord,by have:=this.size;omega⟩
  ·intro acc lo ts hg ha hlo hacc;unfold Ana
   refine R.bind (ie.exp _ _ (by decide) hg ha) fun e r he=>?_
   have:=he.at_;have:=he.size;have:=he.aft.le
   refine R.bind (Asl he.aft) fun _ r2 ⟨h2,h2'⟩=>?_
   have:=h2.le
   refine R.bind (ih.block false r2 h2.good h2.asc) fun b r3 hb=>?_
   have:=hb.at_;have:=hb.size;have:=hb.aft.le
   have h3:=h2.trans hb.aft
   have hacc':=(hacc.snoc (x:=e) (by omega) he.ord).snoc (x:=b) (by omega) hb.ord
   refine R.ite (fun h=>?_) fun _=>?_
   ·have ht:=h3.tail (Abq h)
    have:=ht.le
    have:=(h3.good.tail (Abq h)).2.1
    refine R.weak (ih.branches _ lo _ ht.good ht.asc (by omega) hacc') fun l s hl=>?_
    have h7:=hl.size
    simp only [Ah6,szs] at h7
    exact ⟨(ht.trans hl.aft).weak (by omega),hl.ord,by omega⟩
   refine R.ite (fun h=>?_) fun _=>?_
   ·have ht:=h3.tail (Abq h)
    have:=ht.le
    have:=(h3.good.tail (Abq h)).2.1
    refine R.bind (ih.block false _ ht.good ht.asc) fun c r4 hc=>?_
    have:=hc.at_;have:=hc.size
    refine R.bind (Asl (ht.trans hc.aft)) fun _ r5 ⟨h5,h5'⟩=>R.ok ?_
    exact ⟨h5.weak (by omega),hacc'.snoc (by omega) hc.ord,by simp only [Ah6,szs];omega⟩
   ·refine R.bind (Asl h3) fun _ r5 ⟨h5,h5'⟩=>R.ok ?_
    exact ⟨h5.weak (by omega),hacc',by simp only [Ah6,szs];omega⟩
  ·intro at_ ts hg ha hat;unfold An0
   refine R.bind (Bce (by decide) hg ha) fun n r hn=>?_
   have:=hn.at_;have:=hn.size;have:=hn.aft.le
   refine R.ite (fun h=>?_) fun _=>?_
   ·have ht:=hn.aft.tail (Abq h)
    have:=ht.le
    have:=(hn.aft.good.tail (Abq h)).2.1
    refine R.bind (ie.exp _ _ (by decide) ht.good ht.asc) fun a r2 h2=>?_
    have:=h2.at_;have:=h2.size
    refine R.bind (Asl (ht.trans h2.aft)) fun _ r3 ⟨h3,h3'⟩=>?_
    have:=h3.le
    refine R.bind (ie.exp _ _ (by decide) h3.good h3.asc) fun b r4 h4=>?_
    have:=h4.at_;have:=h4.size;have:=h4.aft.le
    refine R.bind (Q1:=LE 0 at_ [] r4) ?_ fun cs r5 h5=>?_
    ·refine R.ite (fun hc=>?_) fun _=>R.ok ⟨Aft.refl h4.aft.good h4.aft.asc,trivial,Nat.le_refl _⟩
     have ht2:=(Aft.refl h4.aft.good h4.aft.asc).tail (Abq hc)
     have:=ht2.len;have:=ht2.le
     refine R.bind (ie.exp _ _ (by decide) ht2.good ht2.asc) fun c s hc=>R.ok ?_
     have:=hc.at_;have:=hc.size
     exact ⟨(ht2.trans hc.aft).weak (by omega),one (by omega) hc.ord,by simp only [szs];omega⟩
    have h7:=h5.size
    simp only [szs] at h7
    have:=h5.aft.le
    refine R.bind (ih.body r5 h5.aft.good h5.aft.asc) fun bd r6 ⟨h8,h9,h10,h11⟩=>R.ok ?_
    refine ⟨(((h3.trans h4.aft).trans h5.aft).trans h8).weak (by omega),rfl,Air.mk ?_ (by decide),by simp only [sz,Ah6,szs];omega⟩
    exact ((((one (x:=n) (by omega) hn.ord).snoc (x:=a) (by omega) h2.ord).snoc (x:=b) (by omega) h4.ord).app h5.ord).snoc (x:=bd) (by omega) h10
   refine R.bind (B05 f [n] at_ r hn.aft.good hn.aft.asc (by omega) (one (by omega) hn.ord)) fun l r2 hl=>?_
   have h7:=hl.size
   simp only [szs] at h7
   refine R.bind (Asl (hn.aft.trans hl.aft)) fun _ r3 ⟨h3,h3'⟩=>?_
   have:=h3.le
   refine R.bind (ie.Ahv at_ r3 h3.good h3.asc (by omega)) fun es r4 h4=>?_
   have h8:=h4.size
   simp only [szs] at h8
   have:=h4.aft.le
   refine R.bind (ih.body r4 h4.aft.good h4.aft.asc) fun bd r6 ⟨h9,h10,h11,h12⟩=>R.ok ?_
   exact ⟨((h3.trans h4.aft).trans h9).weak (by omega),rfl,Air.mk ((hl.ord.app h4.ord).snoc (x:=bd) (by omega) h11) (by decide),by simp only [sz,Ah6,szs];omega⟩
  ·intro ts hg ha;unfold An2
   refine R.bind (ie.Akv ts hg ha) fun e r he=>?_
   have:=he.at_;have:=he.size;have:=he.aft.le
   refine R.ite (fun h=>?_) fun _=>?_
   ·refine R.bind (ih.targets [] (at0 ts) e r he.aft.good he.aft.asc (by omega) trivial (by omega) he.ord) fun l r2 ⟨h1,h2,h3⟩=>?_
    simp only [szs] at h3
    refine R.bind (Asl (he.aft.trans h1)) fun _ r3 ⟨h4,h4'⟩=>?_
    have:=h4.le
    refine R.bind (ie.Ahv (at0 ts) r3 h4.good h4.asc (by omega)) fun es r4 h5=>R.ok ?_
    have h6:=h5.size
    simp only [szs] at h6
    exact ⟨(h4.trans h5.aft).weak (by omega),he.at_,Air.mk ((h2.app h5.ord).weak (by omega)) (by decide),by simp only [sz,Ah6];omega⟩
   refine R.ite (fun h=>R.ok ?_) fun _=>R.bad
   exact ⟨he.aft,he.at_,Air.mk (one (Int.le_refl _) he.ord) (by decide),by simp only [sz,szs];omega⟩
  ·intro acc lo e ts hg ha hlo hacc he0 he;unfold Anj
   refine R.ite (fun h=>?_) fun _=>R.bad
   have hacc':=hacc.snoc he0 he
   refine R.ite (fun h=>?_) fun _=>R.ok ⟨Aft.refl hg ha,hacc',by simp only [Ah6,szs];omega⟩
   have ht:=(Aft.refl hg ha).tail (Abq h)
   have:=ht.len;have:=ht.le
   refine R.bind (ie.Akv _ ht.good ht.asc) fun e' r hx=>?_
   have:=hx.at_;have:=hx.size;have:=hx.aft.le
   refine R.weak (ih.targets _ lo e' r hx.aft.good hx.aft.asc (by omega) hacc' (by omega) hx.ord) fun l s ⟨h1,h2,h3⟩=>?_
   simp only [Ah6,szs] at h3
   exact ⟨((ht.trans hx.aft).trans h1).weak (by omega),h2,by omega⟩
theorem Dfd {c:Bool} {ts r:List Tk} {b:Tree} (hg:Good ts) (ha:Asc ts) (h:Aqj c ts=.ok b r):TB ts b r :=
 (rS _).block c ts hg ha b r ((A8w c hg (by unfold fu;omega:_≤fu ts)).trans (congrArg some h))
end
section
namespace Lx
theorem B1l (f:Nat) (l:Bs) (at_:Nat) (acc:List Tok):Aq8 (f+1) l at_ acc =
  match Aku (l.drop (Afj Ahk l)) with
  | .done=>.inr (acc++[⟨6,[],0,at_+Afj Ahk l⟩])
  | .skip n=>Aq8 f ((l.drop (Afj Ahk l)).drop n) (at_+Afj Ahk l+n) acc
  | .tok kind text n len=>Aq8 f ((l.drop (Afj Ahk l)).drop len) (at_+Afj Ahk l+len) (acc++[⟨kind,text,n,at_+Afj Ahk l⟩])
  | .bad c r=>.inl (c,(at_+Afj Ahk l+r:Nat)):=rfl
end Lx
namespace Lx
theorem A4v (l:Bs):(∀ n,Aku l=.skip n→1≤n∧n≤l.length)∧(∀ k t n len,Aku l=.tok k t n len→1≤len∧len≤l.length) :=
 ⟨fun n h=>Clb l n h,fun k t n len h=>Clc l k t n len h⟩
theorem Bo7:∀ (f g:Nat) (l:Bs) (at_:Nat) (acc:List Tok),l.length < f→l.length < g→Aq8 f l at_ acc=Aq8 g l at_ acc
 | 0,_,l,_,_,h,_=>by omega
 | _,0,l,_,_,_,h=>by omega
 | f+1,g+1,l,at_,acc,h,h'=>by
  rw [B1l,B1l]
  have hd:(l.drop (Afj Ahk l)).length≤l.length:=by rw [Afe];omega
  cases hst:Aku (l.drop (Afj Ahk l)) with
  | done=>rfl
  | bad c r=>rfl
  | skip n =>
   have:=(A4v _).1 n hst
   exact Bo7 f g _ _ _ (by rw [Afe];omega) (by rw [Afe];omega)
  | tok k t n len =>
   have:=(A4v _).2 k t n len hst
   exact Bo7 f g _ _ _ (by rw [Afe];omega) (by rw [Afe];omega)
def Bil (l:Bs) (at_:Nat) (acc:List Tok):(Int×Int) ⊕ List Tok:=Aq8 (l.length+1) l at_ acc
theorem Ckh (l:Bs) (at_:Nat) (acc:List Tok):Bil l at_ acc =
  match Aku (l.drop (Afj Ahk l)) with
  | .done=>.inr (acc++[⟨6,[],0,at_+Afj Ahk l⟩])
  | .skip n=>Bil ((l.drop (Afj Ahk l)).drop n) (at_+Afj Ahk l+n) acc
  | .tok kind text n len=>Bil ((l.drop (Afj Ahk l)).drop len) (at_+Afj Ahk l+len) (acc++[⟨kind,text,n,at_+Afj Ahk l⟩])
  | .bad c r=>.inl (c,(at_+Afj Ahk l+r:Nat)):=by
 unfold Bil
 rw [B1l]
 have hd:(l.drop (Afj Ahk l)).length≤l.length:=by rw [Afe];omega
 cases hst:Aku (l.drop (Afj Ahk l)) with
 | done=>rfl
 | bad c r=>rfl
 | skip n =>
  have:=(A4v _).1 n hst
  exact Bo7 _ _ _ _ _ (by rw [Afe];omega) (by omega)
 | tok k t n len =>
  have:=(A4v _).2 k t n len hst
  exact Bo7 _ _ _ _ _ (by rw [Afe];omega) (by omega)
end Lx
end
section
open Go Go.RowKit Lx
def A5v:Nat→Nat→List Tok→Prop
 | _,_,[]=>False
 | lo,hi,x :: t=>lo≤x.at_∧x.at_≤hi∧((x.kind=6∧t=[])∨(x.kind≠6∧A5v (x.at_+1) hi t))
theorem A5v.weak:∀ {t:List Tok} {lo lo' hi:Nat},lo'≤lo→A5v lo hi t→A5v lo' hi t
 | [],_,_,_,_,h=>h
 | _ :: _,_,_,_,hl,⟨h1,h2,h3⟩=>⟨Nat.le_trans hl h1,h2,h3⟩
theorem Dek (l:Bs) (k:Int) (t:Bs) (n:Int) (len:Nat) (h:Aku l=.tok k t n len):k≠6:=by
 unfold Aku at h
 dsimp only at h
 repeat' split at h
 all_goals first | (cases h;done) | (simp only [Step.tok.injEq] at h;obtain ⟨rfl,_⟩:=h;(repeat' split) <;> decide)
theorem B1p:∀ (f:Nat) (l:Bs) (at_:Nat) (acc t:List Tok),l.length < f→Aq8 f l at_ acc=.inr t→∃ t',t=acc++t'∧A5v at_ (at_+l.length) t'
 | 0,l,_,_,_,hf,_=>absurd hf (Nat.not_lt_zero _)
 | f+1,l,at_,acc,t,hf,h=>by
  unfold Aq8 at h
  dsimp only at h
  have hk:=Ay3 Ahk l
  have hdl:(l.drop (Afj Ahk l)).length=l.length - Afj Ahk l:=Afe
  cases hst:Aku (l.drop (Afj Ahk l)) with
  | done =>
   rw [hst] at h
   cases h
   exact ⟨_,rfl,by show at_≤at_+_;omega,by show at_+_≤_;omega,.inl ⟨rfl,rfl⟩⟩
  | bad c r=>rw [hst] at h;cases h
  | skip q =>
   have hq:=(A4v _).1 q hst
   rw [hst] at h
   dsimp only at h
   have hlen:((l.drop (Afj Ahk l)).drop q).length=l.length - Afj Ahk l - q:=by rw [Afe,hdl]
   obtain ⟨t',e,hR⟩:=B1p f _ _ _ _ (by omega) h
   refine ⟨t',e,?_⟩
   rw [show at_+l.length=at_+Afj Ahk l+q+((l.drop (Afj Ahk l)).drop q).length by omega]
   exact hR.weak (by omega)
  | tok kd tx x len =>
   have hq:=(A4v _).2 _ _ _ _ hst
   rw [hst] at h
   dsimp only at h
   have hlen:((l.drop (Afj Ahk l)).drop len).length=l.length - Afj Ahk l - len:=by rw [Afe,hdl]
   obtain ⟨t',e,hR⟩:=B1p f _ _ _ _ (by omega) h
   refine ⟨⟨kd,tx,x,at_+Afj Ahk l⟩ :: t',by rw [e,Aep];rfl,by show at_≤at_+_;omega,by show at_+_≤_;omega,.inr ⟨Dek _ _ _ _ _ hst,?_⟩⟩
   rw [show at_+l.length=at_+Afj Ahk l+len+((l.drop (Afj Ahk l)).drop len).length by omega]
   exact hR.weak (by show at_+_+1≤_;omega)
theorem A5v.good:∀ {t:List Tok} {lo hi:Nat},A5v lo hi t→Good (t.map Awa)∧Asc (t.map Awa)∧(∀ x ∈ t.map Awa,(lo:Int)≤x.2.2.2∧x.2.2.2≤hi)∧lo+t.length≤hi+1
 | [],_,_,h=>h.elim
 | x :: t,lo,hi,⟨h1,h2,h3⟩=>by
  rcases h3 with ⟨h6,rfl⟩ | ⟨h6,hR⟩
  ·refine ⟨h6,List.pairwise_singleton ..,fun y hy=>?_,by simp;omega⟩
   obtain rfl:=Ag1.1 hy
   exact ⟨by show (lo:Int)≤x.at_;omega,by show (x.at_:Int)≤hi;omega⟩
  ·obtain ⟨g1,g2,g3,g4⟩:=hR.good
   refine ⟨?_,List.pairwise_cons.2 ⟨fun y hy=>?_,g2⟩,fun y hy=>?_,by simp only [Aa4];omega⟩
   ·cases t with
    | nil=>exact hR.elim
    | cons u t=>exact ⟨h6,g1⟩
   ·have:=(g3 y hy).1
    show (x.at_:Int) < _
    omega
   ·rcases List.mem_cons.1 hy with rfl | hy
    ·exact ⟨by show (lo:Int)≤x.at_;omega,by show (x.at_:Int)≤hi;omega⟩
    ·have:=g3 y hy
     exact ⟨by omega,this.2⟩
structure B5w (n:Nat) (ts:List Tk):Prop where
 good:Good ts
 asc:Asc ts
 at_:∀ x ∈ ts,0≤x.2.2.2∧x.2.2.2≤n
 len:ts.length≤20001
theorem B1r (s:ByteArray) (t:List Tok) (h:Aq7 (bs s)=.inr t):B5w s.size (t.map Awa):=by
 unfold Aq7 at h
 split at h
 ·cases h
 ·rename_i hs
  have hl:(bs s).length=s.size:=Agx s
  obtain ⟨t',e,hR⟩:=B1p _ _ _ _ _ (Nat.lt_succ_self _) h
  rw [List.nil_append] at e
  subst e
  obtain ⟨g1,g2,g3,g4⟩:=hR.good
  refine ⟨g1,g2,fun x hx=>?_,by rw [List.length_map];omega⟩
  have:=g3 x hx
  omega
end
section
open Go Go.RowKit
structure Cx (n:Int) (ts:List Tk):Prop where
 good:Good ts
 asc:Asc ts
 at_:∀ x ∈ ts,0≤x.2.2.2∧x.2.2.2≤n
theorem Cx.suf {n:Int} {ts r:List Tk} (h:Cx n ts) (hg:Good r) (hs:r <:+ ts):Cx n r:=⟨hg,List.Pairwise.sublist hs.sublist h.asc,fun x hx=>h.at_ x (hs.subset hx)⟩
theorem Cx.tail {n:Int} {ts:List Tk} (h:Cx n ts) (h6:(hd ts).1≠6):Cx n ts.tail:=h.suf (h.good.tail h6).1 (h.good.tail h6).2.2
theorem Cx.hd {n:Int} {ts:List Tk} (h:Cx n ts):0≤(hd ts).2.2.2∧(hd ts).2.2.2≤n:=by
 cases ts with
 | nil=>exact h.good.elim
 | cons t ts=>exact h.at_ t (Af5 ..)
def BB {α:Type} (n:Int) (x:Option (PV α)):Prop:=∀ i,x=some (.bad i)→0≤i∧i≤n
section
variable {α β:Type} {n:Int} {m:Nat} {ts:List Tk} {x y:Option (PV α)} {f:α→List Tk→Option (PV β)}
theorem BB.bind (hC:Cx n ts) (hs:Step m ts x) (h1:BB n x) (h2:∀ a r,x=some (.ok a r)→Cx n r→BB n (f a r)):BB n (PV.bind x f):=fun i h=>by
 rcases bind_some h with ⟨j,hx,he⟩ | ⟨a,r,hx,hf⟩
 ·cases he;exact h1 _ hx
 ·obtain ⟨g1,_,g3⟩:=hs hC.good _ hx
  exact h2 a r hx (hC.suf g1 g3) i hf
theorem BB.ok {a:α} {r:List Tk}:BB n (some (.ok a r)):=fun _ h=>by cases h
theorem BB.bad {i:Int} (h:0≤i∧i≤n):BB n (some (.bad i):Option (PV α)):=fun _ h'=>by cases h';exact h
end
variable {n:Int}
structure GvE (n:Int) (f:Nat):Prop where
 exp:∀ least ts,0≤least→Cx n ts→BB n (Aie f least ts)
 loop:∀ least t ts,0≤least→Cx n ts→BB n (Anh f least t ts)
 operand:∀ ts,Cx n ts→BB n (Amq f ts)
 fields:∀ acc ts,Cx n ts→BB n (Amo f acc ts)
 field:∀ ts,Cx n ts→BB n (Anx f ts)
 Akv:∀ ts,Cx n ts→BB n (Alq f ts)
 Aiv:∀ at_ t ts,Cx n ts→BB n (Alp f at_ t ts)
 Ahv:∀ ts,Cx n ts→BB n (Alm f ts)
 Aph:∀ acc ts,Cx n ts→BB n (Anb f acc ts)
structure GvS (n:Int) (f:Nat):Prop where
 block:∀ c ts,Cx n ts→BB n (Ald f c ts)
 Akn:∀ c at_ acc ts,Cx n ts→BB n (Alk f c at_ acc ts)
 function:∀ ts,(hd ts).1≠6→Cx n ts→BB n (An1 f ts)
 body:∀ ts,Cx n ts→BB n (Alv f ts)
 stat:∀ ts,Cx n ts→BB n (An4 f ts)
 branches:∀ acc ts,Cx n ts→BB n (Ana f acc ts)
 for_:∀ at_ ts,Cx n ts→BB n (An0 f at_ ts)
 plain:∀ ts,Cx n ts→BB n (An2 f ts)
 targets:∀ acc e ts,Cx n ts→0≤e.at_∧e.at_≤n→BB n (Anj f acc e ts)
end
section
namespace Lx
def Closed' (a:Bs):Prop:=∀ i,[45,45].isPrefixOf (a.drop i)=true→10 ∈ a.drop i
theorem Closed'.drop {a:Bs} (h:Closed' a) (k:Nat):Closed' (a.drop k):=fun i hi=>by
 rw [List.drop_drop] at hi ⊢
 exact h _ hi
theorem Cpr (l:Bs) (c:Int) (r:Nat) (h:Aku l=.bad c r):c≠0:=by
 have ht:∀ q f (l acc:Bs) i c r,Aqb q f l acc i=.bad c r→c≠0:=by
  intro q f
  induction f with
  | zero=>intro l acc i c r h;cases h;decide
  | succ f ih =>
   intro l acc i c r h
   cases l with
   | nil=>cases h;decide
   | cons b t =>
    simp only [Aqb] at h
    split at h
    ·cases h;decide
    split at h
    ·split at h
     ·cases h;decide
     ·cases h
    split at h
    ·split at h
     ·cases h;decide
     ·cases h;decide
     ·exact ih _ _ _ _ _ h
    ·exact ih _ _ _ _ _ h
 unfold Aku at h
 by_cases h0:l=[]
 ·rw [if_pos h0] at h;cases h
 rw [if_neg h0] at h
 by_cases h1:[45,45].isPrefixOf l=true
 ·rw [if_pos h1] at h;cases h
 rw [if_neg h1] at h
 by_cases h2:Azv (Afw l).1=true
 ·rw [if_pos h2] at h
  dsimp only at h
  split at h
  ·cases h;decide
  ·cases h
 rw [if_neg h2] at h
 by_cases h3:Avl (Afw l).1=true
 ·rw [if_pos h3] at h
  dsimp only at h
  split at h
  ·rename_i hp
   cases h
   exact hp
  ·cases h
 rw [if_neg h3] at h
 split at h
 ·split at h
  ·rename_i c' r' hx
   cases h
   exact ht _ _ _ _ _ _ _ hx
  ·cases h
 ·split at h
  ·cases h;decide
  ·cases h
theorem Ddm:∀ (n:Nat) (l:Bs) (at_:Nat) (acc:List Tok) (c p:Int),l.length≤n→Bil l at_ acc=.inl (c,p)→c≠0:=by
 intro n
 induction n with
 | zero =>
  intro l at_ acc c p hn h
  have:l=[]:=List.eq_nil_of_length_eq_zero (by omega)
  subst this
  rw [Ckh] at h
  have e0:Aku (([]:Bs).drop (Afj Ahk []))=.done:=rfl
  rw [e0] at h
  cases h
 | succ n ih =>
  intro l at_ acc c p hn h
  rw [Ckh] at h
  have hk:=Ay3 Ahk l
  cases hst:Aku (l.drop (Afj Ahk l)) with
  | done=>rw [hst] at h;cases h
  | bad c' r =>
   rw [hst] at h
   simp only [Sum.inl.injEq,Prod.mk.injEq] at h
   rw [← h.1]
   exact Cpr _ _ _ hst
  | skip q =>
   have:=(A4v _).1 q hst
   rw [Afe] at this
   rw [hst] at h
   exact ih _ _ _ _ _ (by rw [Afe,Afe];omega) h
  | tok kd tx x len =>
   have:=(A4v _).2 _ _ _ _ hst
   rw [Afe] at this
   rw [hst] at h
   exact ih _ _ _ _ _ (by rw [Afe,Afe];omega) h
end Lx
end
section
open Go Go.RowKit Lx
abbrev Out:=Int×ByteArray×Int×Int×List Tree×Int×Int
def A2o (c a:Int):Out:=(0,⟨#[]⟩,0,0,[],c,a)
def Bae (n:Tree):Out:=(n.kind,n.text,n.n,n.at_,n.kids,0,0)
def At9 (s:ByteArray):Out :=
 match Aq7 (bs s) with
 | .inl (c,a)=>A2o c a
 | .inr t=>match Baf (t.map Awa) with
  | .ok n _=>Bae n
  | .bad i=>A2o 4 i
theorem B1k (l:Bs) (c p:Int) (h:Aq7 l=.inl (c,p)):c≠0:=by
 unfold Aq7 at h
 split at h
 ·simp only [Sum.inl.injEq,Prod.mk.injEq] at h
  omega
 ·exact Ddm l.length l 0 [] c p (Nat.le_refl _) h
theorem B2y {n:Nat} {ts:List Tk} (h:B5w n ts):(∃ b r,Aqj true ts=.ok b r∧TB ts b r∧((hd r).1=6∧Baf ts=.ok b r∨(hd r).1≠6∧Baf ts=.bad (hd r).2.2.2))∨∃ i,Aqj true ts=.bad i∧Baf ts=.bad i:=by
 unfold Baf
 cases hb:Aqj true ts with
 | bad i=>exact .inr ⟨i,rfl,rfl⟩
 | ok b r =>
  refine .inl ⟨b,r,rfl,Dfd h.good h.asc hb,?_⟩
  by_cases h6:(hd r).1=6
  ·exact .inl ⟨h6,by simp [PV.then,h6]⟩
  ·exact .inr ⟨h6,by simp [PV.then,h6]⟩
theorem Cir {s:ByteArray} {c p:Int} (h:Aq7 (bs s)=.inl (c,p)):At9 s=A2o c p:=by unfold At9;rw [h]
theorem Ciu {s:ByteArray} {t:List Tok} {b:Tree} {r:List Tk} (h:Aq7 (bs s)=.inr t) (hv:Baf (t.map Awa)=.ok b r):At9 s=Bae b:=by unfold At9;rw [h];simp only [hv]
theorem Bn9 {s:ByteArray} {t:List Tok} {i:Int} (h:Aq7 (bs s)=.inr t) (hv:Baf (t.map Awa)=.bad i):At9 s=A2o 4 i:=by unfold At9;rw [h];simp only [hv]
theorem C3c (l:List Tk):ix l l=0:=by unfold ix;omega
theorem Ciz (k:Nat) (hk:400000≤k) (s:ByteArray):A2s.f k s=some (At9 s):=by
 unfold A2s.f Bhc.f Bxu At9
 simp only [Aai]
 cases hs:Aq7 (bs s) with
 | inl x =>
  obtain ⟨c,p⟩:=x
  have:=B1k _ _ _ hs
  simp only
  rw [show (c != 0)=true by rw [bne_iff_ne];exact this]
  rfl
 | inr t =>
  have hT:=B1r s t hs
  simp only [bne_self_eq_false,cond_false]
  have hf:=Cta (l:=t.map Awa) (by have:=hT.len;omega) k true hT.good (List.suffix_refl _) (by have:=hT.len;omega)
  rw [C3c] at hf
  rw [hf]
  rcases B2y hT with ⟨b,r,hb,hB,h6⟩ | ⟨i,hb,he⟩
  ·have hw:=Azo true hT.good
   rw [hb] at hw ⊢
   obtain ⟨hg,_,C1f⟩:=hw
   simp only [conv,PR.elim,Adj]
   unfold Ajg.f
   simp only [eT]
   rw [Bwh hg C1f]
   simp only [Aai]
   rcases h6 with ⟨h6,he⟩ | ⟨h6,he⟩
   ·rw [he,show ((hd r).1 != 6)=false by rw [bne_eq_false_iff_eq];exact h6]
    rfl
   ·rw [he,show ((hd r).1 != 6)=true by rw [bne_iff_ne];exact h6]
    rfl
  ·rw [hb,he]
   rfl
def shp (k n:Int) (t:ByteArray) (l:List Tree):Prop :=
 t.size≤30000∧k≠31∧(k=7→l.length=2)∧(k=25→l.length=2)∧(k=26→4≤l.length)∧(k=21∨k=22→∃ m:Nat,n=m∧m≤l.length)∧(k=27→∃ m:Nat,n=m∧m+1≤l.length)
mutual
def wfT:Tree→Prop
 | .mk k t n _ l=>shp k n t l∧Akw l
def Akw:List Tree→Prop
 | []=>True
 | x :: l=>wfT x∧Akw l
end
theorem Ajz:∀ {l:List Tree},Akw l ↔ ∀ x ∈ l,wfT x
 | []=>by simp [Akw]
 | x :: l=>by simp [Akw,Ajz (l:=l)]
theorem As3 {l m:List Tree} (h:Akw l) (h':Akw m):Akw (l++m):=by
 rw [Ajz] at *
 intro y hy
 exact (Agb.1 hy).elim (h y) (h' y)
theorem wf1 {x:Tree} (h:wfT x):Akw [x]:=⟨h,trivial⟩
def fnT:Tree→Prop
 | .mk k t n _ l=>t.size≤30000∧k=31∧(∃ m:Nat,n=m∧l.length=m+1)∧Akw l
def Bpi (x:Tree):Prop:=wfT x∨fnT x
def wfC:Tree→Prop
 | .mk k t _ _ l=>k=20∧t.size≤30000∧∀ x ∈ l,Bpi x
def TT (ts:List Tk):Prop:=∀ x ∈ ts,x.2.1.size≤30000
theorem TT.tail {ts:List Tk} (h:TT ts):TT ts.tail:=fun x hx=>h x (List.mem_of_mem_tail hx)
theorem TT.hd {ts:List Tk} (h:TT ts):(hd ts).2.1.size≤30000:=by
 cases ts with
 | nil=>decide
 | cons x t=>exact h x (Af5 ..)
abbrev WT (n:Tree) (r:List Tk):Prop:=wfT n∧TT r
abbrev WL (l:List Tree) (r:List Tk):Prop:=Akw l∧TT r
theorem A5j {k:Int} {t:ByteArray} {n a:Int} {l:List Tree} (h1:t.size≤30000) (h2:Akw l) (h3:k≠31) (h4:k=7→l.length=2) (h5:k=25→l.length=2) (h6:k=26→4≤l.length) (h7:k=21∨k=22→∃ m:Nat,n=m∧m≤l.length) (h8:k=27→∃ m:Nat,n=m∧m+1≤l.length):wfT (.mk k t n a l):=⟨⟨h1,h3,h4,h5,h6,h7,h8⟩,h2⟩
theorem wfe {k:Int} {t:ByteArray} {n a:Int} {l:List Tree} (h1:t.size≤30000) (h2:Akw l) (h3:k≠31∧k≠7∧k≠25∧k≠26∧k≠21∧k≠22∧k≠27):wfT (.mk k t n a l):=by
 refine A5j h1 h2 h3.1 ?_ ?_ ?_ ?_ ?_ <;> intro h <;> exfalso
 ·exact h3.2.1 h
 ·exact h3.2.2.1 h
 ·exact h3.2.2.2.1 h
 ·exact h.elim h3.2.2.2.2.1 h3.2.2.2.2.2.1
 ·exact h3.2.2.2.2.2.2 h
theorem nx {p q:Prop} [Decidable p] (h:decide p=false) (hp:p):q:=absurd hp (of_decide_eq_false h)
theorem Anr:noB.size≤30000:=by decide
theorem As1 {w:ByteArray} {ts:List Tk} (h:TT ts):R (Aoe w ts) fun _ r=>TT r:=R.ite (fun _=>R.ok h.tail) fun _=>R.bad
theorem Bdf {k:Int} {ts:List Tk} (hk:k≠31∧k≠7∧k≠25∧k≠26∧k≠21∧k≠22∧k≠27) (h:TT ts):R (Atn k ts) fun n r=>WT n r∧n.text.size≤30000:=R.ite (fun _=>R.ok ⟨⟨wfe h.hd trivial hk,h.tail⟩,h.hd⟩) fun _=>R.bad
theorem B26:∀ (f:Nat) (acc:List Tree) (ts:List Tk),TT ts→Akw acc→R (Apm f acc ts) WL
 | 0,_,_,_,_=>R.none
 | f+1,acc,ts,h,ha=>by
  unfold Apm
  exact R.ite (fun _=>R.bind (Bdf (by decide) h.tail) fun n r hn=>B26 f _ r hn.1.2 (As3 ha (wf1 hn.1.1))) fun _=>R.ok ⟨ha,h⟩
theorem Cme (f:Nat) {ts:List Tk} (h:TT ts):R (A2r f ts) WL:=R.bind (Bdf (by decide) h) fun n r hn=>B26 f _ r hn.1.2 (wf1 hn.1.1)
structure WE (f:Nat):Prop where
 exp:∀ least ts,TT ts→R (Aie f least ts) WT
 loop:∀ least n ts,TT ts→wfT n→R (Anh f least n ts) WT
 operand:∀ ts,TT ts→R (Amq f ts) WT
 fields:∀ acc ts,TT ts→Akw acc→R (Amo f acc ts) WL
 field:∀ ts,TT ts→R (Anx f ts) WT
 Akv:∀ ts,TT ts→R (Alq f ts) WT
 Aiv:∀ at_ n ts,TT ts→wfT n→R (Alp f at_ n ts) WT
 Ahv:∀ ts,TT ts→R (Alm f ts) WL
 Aph:∀ acc ts,TT ts→Akw acc→R (Anb f acc ts) WL
theorem wE:∀ f,WE f
 | 0=>by constructor <;> intros <;> (first | rw [Aie] | rw [Anh] | rw [Amq] | rw [Amo] | rw [Anx] | rw [Alq] | rw [Alp] | rw [Alm] | rw [Anb]) <;> exact R.none
 | f+1=>by
  have ih:=wE f
  constructor
  ·intro least ts h;unfold Aie
   exact R.bind (ih.operand ts h) fun n r hn=>ih.loop _ _ _ hn.2 hn.1
  ·intro least n ts h hw;unfold Anh
   refine R.ite (fun _=>R.ok ⟨hw,h⟩) fun _=>R.bind (ih.exp _ _ h.tail) fun m r hm=>ih.loop _ _ _ hm.2 ?_
   exact wfe h.hd ⟨hw,hm.1,trivial⟩ (by decide)
  ·intro ts h;unfold Amq
   refine R.ite (fun _=>R.ok ⟨wfe Anr trivial (by decide),h.tail⟩) fun _=>?_
   refine R.ite (fun _=>R.ok ⟨wfe h.hd trivial (by decide),h.tail⟩) fun _=>?_
   refine R.ite (fun _=>R.ok ⟨wfe Anr trivial (by decide),h.tail⟩) fun _=>?_
   refine R.ite (fun _=>R.ok ⟨wfe Anr trivial (by decide),h.tail⟩) fun _=>?_
   refine R.ite (fun _=>R.ok ⟨wfe Anr trivial (by decide),h.tail⟩) fun _=>?_
   refine R.ite (fun _=>R.bind (ih.exp _ _ h.tail) fun m r hm=>R.ok ⟨wfe h.hd (wf1 hm.1) (by decide),hm.2⟩) fun _=>?_
   refine R.ite (fun _=>R.bind (ih.fields _ _ h.tail trivial) fun l r hl=>R.ok ⟨wfe Anr hl.1 (by decide),hl.2⟩) fun _=>?_
   exact ih.Akv _ h
  ·intro acc ts h ha;unfold Amo
   refine R.ite (fun _=>R.ok ⟨ha,h.tail⟩) fun _=>R.bind (ih.field ts h) fun x r hx=>?_
   have hs:=As3 ha (wf1 hx.1)
   refine R.ite (fun _=>ih.fields _ _ hx.2.tail hs) fun _=>R.ite (fun _=>ih.fields _ _ hx.2.tail hs) fun _=>?_
   exact R.bind (As1 hx.2) fun _ s hr=>R.ok ⟨hs,hr⟩
  ·intro ts h;unfold Anx
   refine R.ite (fun _=>?_) fun _=>R.ite (fun _=>?_) fun _=>?_
   ·refine R.bind (ih.exp _ _ h.tail) fun k r hk=>R.bind (As1 hk.2) fun _ r hr=>R.bind (As1 hr) fun _ r hr=>R.bind (ih.exp _ _ hr) fun v r hv=>R.ok ⟨?_,hv.2⟩
    exact wfe Anr ⟨hk.1,hv.1,trivial⟩ (by decide)
   ·refine R.bind (ih.exp _ _ h.tail.tail) fun v r hv=>R.ok ⟨?_,hv.2⟩
    exact wfe Anr ⟨wfe h.hd trivial (by decide),hv.1,trivial⟩ (by decide)
   ·exact R.bind (ih.exp _ _ h) fun v r hv=>R.ok ⟨wfe Anr (wf1 hv.1) (by decide),hv.2⟩
  ·intro ts h;unfold Alq
   refine R.ite (fun _=>?_) fun _=>?_
   ·exact R.bind (ih.exp _ _ h.tail) fun e r he=>R.bind (As1 he.2) fun _ r hr=>ih.Aiv _ _ _ hr (wfe Anr (wf1 he.1) (by decide))
   ·exact R.bind (Bdf (by decide) h) fun n r hn=>ih.Aiv _ _ _ hn.1.2 hn.1.1
  ·intro at_ n ts h hw;unfold Alp
   refine R.ite (fun _=>?_) fun _=>R.ite (fun _=>?_) fun _=>R.ite (fun _=>?_) fun _=>R.ok ⟨hw,h⟩
   ·refine R.bind (ih.exp _ _ h.tail) fun e r he=>R.bind (As1 he.2) fun _ r hr=>ih.Aiv _ _ _ hr ?_
    exact A5j Anr ⟨hw,he.1,trivial⟩ (by decide) (fun _=>rfl) (nx rfl) (nx rfl) (nx rfl) (nx rfl)
   ·refine R.bind (Bdf (by decide) h.tail) fun e r he=>ih.Aiv _ _ _ he.1.2 ?_
    exact A5j Anr ⟨hw,he.1.1,trivial⟩ (by decide) (fun _=>rfl) (nx rfl) (nx rfl) (nx rfl) (nx rfl)
   ·refine R.bind (Q1:=WL) (R.ite (fun _=>R.ok ⟨trivial,h.tail⟩) fun _=>ih.Ahv _ h.tail) fun l r hl=>R.bind (As1 hl.2) fun _ r hr=>ih.Aiv _ _ _ hr ?_
    exact wfe Anr ⟨hw,hl.1⟩ (by decide)
  ·intro ts h;unfold Alm
   exact R.bind (ih.exp _ _ h) fun e r he=>ih.Aph _ _ he.2 (wf1 he.1)
  ·intro acc ts h ha;unfold Anb
   exact R.ite (fun _=>R.bind (ih.exp _ _ h.tail) fun e r he=>ih.Aph _ _ he.2 (As3 ha (wf1 he.1))) fun _=>R.ok ⟨ha,h⟩
def A7w (c:Bool) (x:Tree):Prop:=wfT x∨(c=true∧fnT x)
structure WS (f:Nat):Prop where
 block:∀ c ts,TT ts→R (Ald f c ts) fun n r=>(∃ a l,n=.mk 20 noB 0 a l∧∀ x ∈ l,A7w c x)∧TT r
 Akn:∀ c at_ acc ts,TT ts→(∀ x ∈ acc,A7w c x)→R (Alk f c at_ acc ts) fun n r=>(∃ a l,n=.mk 20 noB 0 a l∧∀ x ∈ l,A7w c x)∧TT r
 function:∀ ts,TT ts→R (An1 f ts) fun n r=>fnT n∧TT r
 body:∀ ts,TT ts→R (Alv f ts) WT
 stat:∀ ts,TT ts→R (An4 f ts) WT
 branches:∀ acc ts,TT ts→Akw acc→R (Ana f acc ts) WL
 for_:∀ at_ ts,TT ts→R (An0 f at_ ts) WT
 plain:∀ ts,TT ts→R (An2 f ts) WT
 targets:∀ acc e ts,TT ts→Akw acc→wfT e→R (Anj f acc e ts) WL
theorem C24 {a:Int} {l:List Tree} (h:∀ x ∈ l,A7w false x):wfT (.mk 20 noB 0 a l) :=
 wfe Anr (Ajz.2 fun x hx=>(h x hx).elim id fun h=>nomatch h.1) (by decide)
theorem Bwi {c:Bool} {acc:List Tree} {x:Tree} (h:∀ y ∈ acc,A7w c y) (hx:A7w c x):∀ y ∈ acc++[x],A7w c y:=fun y hy=>by
 rcases Agb.1 hy with hy | hy
 ·exact h y hy
 ·obtain rfl:=Ag1.1 hy;exact hx
theorem wS:∀ f,WS f
 | 0=>by constructor <;> intros <;> (first | unfold Ald | unfold Alk | unfold An1 | unfold Alv | unfold An4 | unfold Ana | unfold An0 | unfold An2 | unfold Anj) <;> exact R.none
 | f+1=>by
  have ih:=wS f
  have ie:=wE f
  have blk:∀ ts,TT ts→R (Ald f false ts) WT:=fun ts h=>R.weak (ih.block false ts h) fun n r ⟨⟨a,l,e,hl⟩,hr⟩=>⟨by rw [e];exact C24 hl,hr⟩
  constructor
  ·intro c ts h;unfold Ald
   exact ih.Akn _ _ _ _ h (fun _ hx=>nomatch hx)
  ·intro c at_ acc ts h ha;unfold Alk
   refine R.ite (fun _=>ih.Akn _ _ _ _ h.tail ha) fun _=>R.ite (fun _=>?_) fun _=>R.ite (fun hc=>?_) fun _=>R.ite (fun _=>R.ok ⟨⟨_,_,rfl,ha⟩,h⟩) fun _=>?_
   ·refine R.bind (Q1:=WL) (R.ite (fun _=>R.ok ⟨trivial,h.tail⟩) fun _=>ie.Ahv _ h.tail) fun l r hl=>R.ok ⟨⟨_,_,rfl,?_⟩,?_⟩
    ·exact Bwi ha (.inl (wfe Anr hl.1 (by decide)))
    ·split
     ·exact hl.2.tail
     ·exact hl.2
   ·have hc':c=true:=by simp only [Bool.and_eq_true] at hc;exact hc.1
    exact R.bind (ih.function ts h) fun x r hx=>ih.Akn _ _ _ _ hx.2 (Bwi ha (.inr ⟨hc',hx.1⟩))
   ·exact R.bind (ih.stat ts h) fun x r hx=>ih.Akn _ _ _ _ hx.2 (Bwi ha (.inl hx.1))
  ·intro ts h;unfold An1
   refine R.bind (Bdf (by decide) h.tail) fun nm r hn=>R.bind (As1 hn.1.2) fun _ r hr=>R.bind (Q1:=WL) (R.ite (fun _=>R.ok ⟨trivial,hr⟩) fun _=>Cme f hr) fun ps r hp=>R.bind (As1 hp.2) fun _ r hr=>R.bind (blk _ hr) fun b r hb=>R.bind (As1 hb.2) fun _ r hr=>R.ok ⟨?_,hr⟩
   exact ⟨hn.2,rfl,⟨ps.length,rfl,by simp⟩,As3 hp.1 (wf1 hb.1)⟩
  ·intro ts h;unfold Alv
   exact R.bind (As1 h) fun _ r hr=>R.bind (blk _ hr) fun b r hb=>R.bind (As1 hb.2) fun _ r hr=>R.ok ⟨hb.1,hr⟩
  ·intro ts h;unfold An4
   refine R.ite (fun _=>?_) fun _=>R.ite (fun _=>?_) fun _=>R.ite (fun _=>?_) fun _=>R.ite (fun _=>ih.for_ _ _ h.tail) fun _=>R.ite (fun _=>?_) fun _=>R.ite (fun _=>R.ok ⟨wfe Anr trivial (by decide),h.tail⟩) fun _=>ih.plain _ h
   ·exact R.bind (ih.body ts h) fun b r hb=>R.ok ⟨wfe Anr (wf1 hb.1) (by decide),hb.2⟩
   ·refine R.bind (ie.exp _ _ h.tail) fun e r he=>R.bind (ih.body _ he.2) fun b r hb=>R.ok ⟨?_,hb.2⟩
    exact A5j Anr ⟨he.1,hb.1,trivial⟩ (by decide) (nx rfl) (fun _=>rfl) (nx rfl) (nx rfl) (nx rfl)
   ·exact R.bind (ih.branches _ _ h.tail trivial) fun l r hl=>R.ok ⟨wfe Anr hl.1 (by decide),hl.2⟩
   ·refine R.bind (Cme f h.tail) fun l r hl=>R.bind (Q1:=WL) (R.ite (fun _=>ie.Ahv _ hl.2.tail) fun _=>R.ok ⟨trivial,hl.2⟩) fun es r he=>R.ok ⟨?_,he.2⟩
    exact A5j Anr (As3 hl.1 he.1) (by decide) (nx rfl) (nx rfl) (nx rfl) (fun _=>⟨l.length,rfl,by simp⟩) (nx rfl)
  ·intro acc ts h ha;unfold Ana
   refine R.bind (ie.exp _ _ h) fun e r he=>R.bind (As1 he.2) fun _ r hr=>R.bind (blk _ hr) fun b r hb=>?_
   have h2:=As3 (As3 ha (wf1 he.1)) (wf1 hb.1)
   refine R.ite (fun _=>ih.branches _ _ hb.2.tail h2) fun _=>R.ite (fun _=>?_) fun _=>?_
   ·exact R.bind (blk _ hb.2.tail) fun c r hc=>R.bind (As1 hc.2) fun _ r hr=>R.ok ⟨As3 h2 (wf1 hc.1),hr⟩
   ·exact R.bind (As1 hb.2) fun _ r hr=>R.ok ⟨h2,hr⟩
  ·intro at_ ts h;unfold An0
   refine R.bind (Bdf (by decide) h) fun n r hn=>R.ite (fun _=>?_) fun _=>?_
   ·refine R.bind (ie.exp _ _ hn.1.2.tail) fun a r ha=>R.bind (As1 ha.2) fun _ r hr=>R.bind (ie.exp _ _ hr) fun b r hb=>R.bind (Q1:=WL) (R.ite (fun _=>R.bind (ie.exp _ _ hb.2.tail) fun c r hc=>R.ok ⟨wf1 hc.1,hc.2⟩) fun _=>R.ok ⟨trivial,hb.2⟩) fun cs r hcs=>R.bind (ih.body _ hcs.2) fun bd r hbd=>R.ok ⟨?_,hbd.2⟩
    exact A5j Anr (As3 (As3 (As3 (As3 (wf1 hn.1.1) (wf1 ha.1)) (wf1 hb.1)) hcs.1) (wf1 hbd.1)) (by decide) (nx rfl) (nx rfl) (fun _=>by simp) (nx rfl) (nx rfl)
   ·refine R.bind (B26 f _ _ hn.1.2 (wf1 hn.1.1)) fun l r hl=>R.bind (As1 hl.2) fun _ r hr=>R.bind (ie.Ahv _ hr) fun es r he=>R.bind (ih.body _ he.2) fun bd r hbd=>R.ok ⟨?_,hbd.2⟩
    exact A5j Anr (As3 (As3 hl.1 he.1) (wf1 hbd.1)) (by decide) (nx rfl) (nx rfl) (nx rfl) (nx rfl) (fun _=>⟨l.length,rfl,by simp⟩)
  ·intro ts h;unfold An2
   refine R.bind (ie.Akv ts h) fun e r he=>R.ite (fun _=>?_) fun _=>R.ite (fun _=>R.ok ⟨wfe Anr (wf1 he.1) (by decide),he.2⟩) fun _=>R.bad
   refine R.bind (ih.targets _ _ _ he.2 trivial he.1) fun l r hl=>R.bind (As1 hl.2) fun _ r hr=>R.bind (ie.Ahv _ hr) fun es r hes=>R.ok ⟨?_,hes.2⟩
   exact A5j Anr (As3 hl.1 hes.1) (by decide) (nx rfl) (nx rfl) (nx rfl) (fun _=>⟨l.length,rfl,by simp⟩) (nx rfl)
  ·intro acc e ts h ha hw;unfold Anj
   refine R.ite (fun _=>?_) fun _=>R.bad
   exact R.ite (fun _=>R.bind (ie.Akv _ h.tail) fun e' r he=>ih.targets _ _ _ he.2 (As3 ha (wf1 hw)) he.1) fun _=>R.ok ⟨As3 ha (wf1 hw),h⟩
theorem B16 (q:UInt8):∀ (f:Nat) (l acc:Bs) (i:Nat) (v:Bs) (k:Nat),Aqb q f l acc i=.ok v k→v.length≤10000
 | 0,_,_,_,_,_,h=>by unfold Aqb at h;cases h
 | f+1,[],_,_,_,_,h=>by unfold Aqb at h;cases h
 | f+1,b :: t,acc,i,v,k,h=>by
  unfold Aqb at h
  split at h
  ·cases h
  split at h
  ·split at h
   ·cases h
   ·cases h;omega
  split at h
  ·split at h
   ·cases h
   ·cases h
   ·exact B16 q f _ _ _ _ _ h
  ·exact B16 q f _ _ _ _ _ h
theorem Ddu:∀ s ∈ Asm,s.length≤20000:=by decide
theorem Dem (l:Bs) (hl:l.length≤20000) (k:Int) (t:Bs) (n:Int) (len:Nat) (h:Aku l=.tok k t n len):t.length≤20000:=by
 unfold Aku at h
 dsimp only at h
 repeat' split at h
 all_goals first
  | (cases h;done)
  | (simp only [Step.tok.injEq] at h;obtain ⟨_,rfl,_⟩:=h;rw [List.length_take];omega)
  | (rename_i hx;simp only [Step.tok.injEq] at h;obtain ⟨_,rfl,_⟩:=h;first | exact Nat.le_trans (B16 _ _ _ _ _ _ _ hx) (by decide) | exact Ddu _ (List.mem_of_find?_eq_some hx))
theorem B1q:∀ (f:Nat) (l:Bs) (at_:Nat) (acc t:List Tok),l.length≤20000→(∀ x ∈ acc,x.text.length≤20000)→Aq8 f l at_ acc=.inr t→∀ x ∈ t,x.text.length≤20000
 | 0,l,at_,acc,t,hl,ha,h=>by
  unfold Aq8 at h
  cases h
  intro x hx
  rcases Agb.1 hx with hx | hx
  ·exact ha x hx
  ·obtain rfl:=Ag1.1 hx;exact Nat.zero_le _
 | f+1,l,at_,acc,t,hl,ha,h=>by
  unfold Aq8 at h
  dsimp only at h
  have hdl:(l.drop (Afj Ahk l)).length≤20000:=by rw [Afe];omega
  cases hst:Aku (l.drop (Afj Ahk l)) with
  | done =>
   rw [hst] at h
   cases h
   intro x hx
   rcases Agb.1 hx with hx | hx
   ·exact ha x hx
   ·obtain rfl:=Ag1.1 hx;exact Nat.zero_le _
  | bad c r=>rw [hst] at h;cases h
  | skip q =>
   rw [hst] at h
   exact B1q f _ _ _ _ (by rw [Afe];omega) ha h
  | tok kd tx x len =>
   rw [hst] at h
   refine B1q f _ _ _ _ (by rw [Afe];omega) (fun y hy=>?_) h
   rcases Agb.1 hy with hy | hy
   ·exact ha y hy
   ·obtain rfl:=Ag1.1 hy;exact Dem _ hdl _ _ _ _ hst
theorem Ckj {s:ByteArray} {t:List Tok} (h:Aq7 (bs s)=.inr t):TT (t.map Awa):=by
 unfold Aq7 at h
 split at h
 ·cases h
 intro x hx
 obtain ⟨y,hy,rfl⟩:=List.mem_map.1 hx
 have:=B1q _ _ _ [] _ (by omega) (fun _ hx=>absurd hx (List.not_mem_nil)) h y hy
 show (str y.text).size≤30000
 rw [Bi8];omega
theorem val_ok {α:Type} {x:Option (PV α)} {a:α} {r:List Tk} (h:val x=.ok a r):x=some (.ok a r):=by
 cases x with
 | none=>cases h
 | some v=>exact congrArg some h
theorem Dbo (s:ByteArray):(∃ c a,c≠0∧At9 s=A2o c a)∨∃ n,At9 s=Bae n∧wfC n∧sz n≤80010:=by
 cases hs:Aq7 (bs s) with
 | inl x =>
  obtain ⟨c,p⟩:=x
  exact .inl ⟨c,p,B1k _ _ _ hs,Cir hs⟩
 | inr t =>
  have hT:=B1r s t hs
  rcases B2y hT with ⟨b,r,hb,hB,⟨_,he⟩ | ⟨_,he⟩⟩ | ⟨j,hb,he⟩
  ·refine .inr ⟨b,Ciu hs he,?_,?_⟩
   ·obtain ⟨⟨a,l,rfl,hl⟩,_⟩:=(wS (fu _)).block true _ (Ckj hs) _ _ (val_ok hb)
    exact ⟨rfl,Anr,fun x hx=>Or.elim (hl x hx) .inl (fun h=>.inr h.2)⟩
   ·have:=hB.size;have:=hT.len;omega
  ·exact .inl ⟨4,_,by decide,Bn9 hs he⟩
  ·exact .inl ⟨4,_,by decide,Bn9 hs he⟩
end
section
open Go Go.RowKit
def Avh.f (_k:Nat) (a0:ByteArray):Option (Bool):=(cond (a0.toList == (⟨#[116,97,98,108,101]⟩:ByteArray).toList) (some true) (some (a0.toList == (⟨#[117,116,102,56]⟩:ByteArray).toList)):Option Bool).bind fun q1=>some (q1)
theorem Avh.ok {k:Nat} {a0:ByteArray} {r:Bool} (h:Avh.f k a0=some r): Ct Tryz.prog 48 #[sv a0] [] [] (fun e l1=>e=.returned (bv r)∧l1=[]):=by
 refine Afi (args:=[sv a0]) Tryz.func48 rfl (Ac0 rfl) ?_
 intro A X hh_
 unfold Avh.f at h
 refine ksr (kx 1 (knt (bnd h fun q1 hq1 h=>?_)))
 refine Ak3 [(2,bv q1)] (X) ?_ ?_
 ·clear hq1
  refine Aem ?_
  obtain rfl:=Aam h
  exact kdn rfl
 ·have h:=hq1
  clear hq1
  refine Ab6 (kx 3 ?_)
  refine kcs 5 h (fun h=>?_) fun h=>?_
  ·exact kx 4 (knt (Afa ⟨gb (Aam h),trivial⟩))
  ·exact kx 4 (knt (Afa ⟨gb (Aam h),trivial⟩))
def Awr (i:Int×Int):Value:=.iface 68 (.agg #[.int .i64 i.1,.int .i64 i.2])
def Apv.f (_k:Nat) (a0:Int) (a1:Int):Option (PR (Unit) (Int×Int)):=some (PR.bad (a0,a1))
theorem Apv.ok {k:Nat} {a0 a1:Int} {r:PR (Unit) (Int×Int)} (h:Apv.f k a0 a1=some r): Ct Tryz.prog 20 #[iv a0,iv a1] [] [] (PR.Post Awr (fun (r:Unit) e l1=>e=.returned (.tuple #[])∧l1=[]) r):=by
 refine Afi (args:=[iv a0,iv a1]) Tryz.func20 rfl (Ac0 rfl) ?_
 intro A X hh_
 unfold Apv.f at h
 refine Ab6 (kx 4 ?_)
 obtain rfl:=Aam h
 exact Cfq (v:=Awr (a0,a1)) (by kernel_rfl) (by kernel_rfl) (by kernel_rfl) (Cfg [] (Adq PR.B6q))
def Akz.f (k:Nat) (Aac:Int) (Aad:ByteArray) (Aj3:Int) (Aae:Int) (Aax:List Tree) (a1:Int) (a2:Int):Option (PR (Unit) (Int×Int)):=cond (decide (a1 > a2)) (PR.bind (Apv.f k 6 Aae) fun r3=>some (PR.ok ())) (some (PR.ok ()))
theorem Akz.ok {k Ac3:Nat} {Aac Aj3 Aae a1 a2:Int} {Aad:ByteArray} {Aax:List Tree} {Adk:Aaa} {Ac2:TyO} {r:PR (Unit) (Int×Int)} (h:Akz.f k Aac Aad Aj3 Aae Aax a1 a2=some r) (Aeo:RdR (Abt 54) Adk (slW Ac2 Aax Ac3) Aax): Ct Tryz.prog 33 #[.agg #[iv Aac,sv Aad,iv Aj3,iv Aae,slW Ac2 Aax Ac3],iv a1,iv a2] [] [Adk] (PR.Post Awr (fun (r:Unit) e l1=>e=.returned (.tuple #[])∧l1=[]) r):=by
 refine Afi (args:=[.agg #[iv Aac,sv Aad,iv Aj3,iv Aae,slW Ac2 Aax Ac3],iv a1,iv a2]) Tryz.func33 rfl (Ac0 rfl) ?_
 intro A X hh_
 obtain ⟨Bfo,_⟩:=hh_
 unfold Akz.f at h
 refine ksr (knp #[iv Aac,sv Aad,iv Aj3,iv Aae,slW Ac2 Aax Ac3] 54 fun b1=>(Abz (kx 3 (knt ?_))))
 refine kcn h (fun h=>?_) fun h=>?_
 ·refine Ab6 (kx 1 (kld 0 3 rfl (K.drop (kcp h (fun _ hr3=>(Apv.ok hr3)) rfl trivial (fun _ e=>kpn 0 e rfl) fun r3 h=>?_))))
  rintro _ _ ⟨rfl,rfl⟩
  refine Apk (knl (Afg ?_))
  obtain rfl:=Aam h
  exact Bmv ⟨rfl,rfl⟩ rfl
 ·refine Adl (Afg ?_)
  obtain rfl:=Aam h
  exact K.drop (Bmv ⟨rfl,rfl⟩ rfl)
def Akt.l0:Nat→(a0:List ByteArray)→(a1:ByteArray)→(J1:(Unit→Option (Int)))→(x2:Int)→Option (Int)
 | 0,_,_,_,_=>none
 | m3+1,a0,a1,J1,x2=>cond (decide (x2 < ((a0.length:Nat):Int))) ((Ack a0 x2).bind fun x5=>cond (a1.toList == x5.toList) (some (x2)) (Akt.l0 m3 a0 a1 J1 (IntKind.i64.wrap (x2+1)))) (J1 ())
def Akt.f (k:Nat) (a0:List ByteArray) (a1:ByteArray):Option (Int):=Adj (fun (_:Unit)=>some ((-1:Int))) (fun J1=>Akt.l0 k a0 a1 J1 0)
theorem Akt.ok {k Al3:Nat} {a0:TyC} {a1:ByteArray} {Aps:Aaa} {Alz:TyO} {r:Int} (h:Akt.f k a0 a1=some r) (Axi:RdT encS 1 Aps (slW Alz a0 Al3) a0): Ct Tryz.prog 90 #[slW Alz a0 Al3,sv a1] [] [Aps] (fun e l1=>e=.returned (iv r)∧l1=[]):=by
 refine Afi (args:=[slW Alz a0 Al3,sv a1]) Tryz.func90 rfl (Ac0 rfl) ?_
 intro A X hh_
 obtain ⟨Ax6,_⟩:=hh_
 unfold Akt.f at h
 refine ksr (kx 1 (knt ?_))
 obtain ⟨J1,hJ1,h⟩:=Ags h
 refine Agt (τ:=Unit) (fun t=>[]) (fun t=>X) (fun t=>J1 ()=some r) ?_ ?_
 ·rintro ⟨⟩ h
  subst hJ1
  refine ksr (kx 1 (knt (Aem ?_)))
  obtain rfl:=Aam h
  exact kdn rfl
 ·skip
  refine ksr (kx 3 (knt (Aez (Akb (τ:=Int) (fun t=>[(0,slW Alz a0 Al3),(1,sv a1),(7,iv ((a0.length:Nat):Int)),(8,iv t)]) (fun t=>X) (fun m t=>Akt.l0 m a0 a1 J1 t=some r) k 0 h sb rfl ?_))))
  clear h
  rintro m3 x2 h
  cases m3 with
  | zero=>simp [Akt.l0] at h
  | succ m3 =>
   simp only [Akt.l0] at h
   refine ksr (kx 1 (knt (Acx ?_)))
   refine kcn h (fun h=>?_) fun h=>?_
   ·refine Adl (Abi (Acx (Aez (ksr (kx 2 (Abz (kx 3 (bnd h fun x5 hx5 h=>(Anq (T:=9) (kd:=.i64) Arv rfl hx5 Axi fun p6 e7 y8=>?_)))))))))
    have e7:Elem _ p6 [sv x5]:=e7
    refine Aqx rfl (by kernel_rfl) (by kernel_rfl) (by kernel_rfl) (by kernel_rfl) e7 Ax6 (kx 1 (knt ?_))
    refine kcn h (fun h=>?_) fun h=>?_
    ·refine ksr (kx 2 (knt (Aem (Ahj (Afx (Afx (Ahj (Afx ?_))))))))
     obtain rfl:=Aam h
     exact kdn rfl
    ·exact Adl (Ade (Abi (Ab6 (kx 2 (knt (Ai4 m3 (IntKind.i64.wrap (x2+1)) (Nat.lt_succ_self _) h sb rfl))))))
   ·exact Aj9 (Agh (Agh (Aka (Abi (Ac1 () h trivial rfl)))))
def e78 (x:Int×Int×ByteArray):List Value:=[.int .i64 x.1,.int .i64 x.2.1,.string x.2.2]
theorem Bey:Akx e78 3:=⟨fun _=>rfl,fun _=>rfl⟩
def Ao3.l0:Nat→(a0:List (Int×Int×ByteArray))→(Aan:Int)→(Aar:Int)→(Aao:ByteArray)→(J2:(Unit→Option (Int)))→(x3:Int)→Option (Int)
 | 0,_,_,_,_,_,_=>none
 | m4+1,a0,Aan,Aar,Aao,J2,x3=>cond (decide (x3 < ((a0.length:Nat):Int))) ((Ack a0 x3).bind fun x6=>cond ((Aan == x6.1) && ((Aar == x6.2.1) && ((Aao.toList == x6.2.2.toList) && true))) (some (x3)) (Ao3.l0 m4 a0 Aan Aar Aao J2 (IntKind.i64.wrap (x3+1)))) (J2 ())
def Ao3.f (k:Nat) (a0:TyB) (Aan:Int) (Aar:Int) (Aao:ByteArray):Option (Int):=Adj (fun (_:Unit)=>some ((-1:Int))) (fun J2=>Ao3.l0 k a0 Aan Aar Aao J2 0)
theorem Ao3.ok {k Al3:Nat} {a0:TyB} {Aan Aar r:Int} {Aao:ByteArray} {Aps:Aaa} {Alz:TyO} (h:Ao3.f k a0 Aan Aar Aao=some r) (Axi:RdT e78 3 Aps (slW Alz a0 Al3) a0): Ct Tryz.prog 113 #[slW Alz a0 Al3,.agg #[iv Aan,iv Aar,sv Aao]] [] [Aps] (fun e l1=>e=.returned (iv r)∧l1=[]):=by
 refine Afi (args:=[slW Alz a0 Al3,.agg #[iv Aan,iv Aar,sv Aao]]) Tryz.func113 rfl (Ac0 rfl) ?_
 intro A X hh_
 obtain ⟨Ax6,_⟩:=hh_
 unfold Ao3.f at h
 refine ksr (knp #[iv Aan,iv Aar,sv Aao] 78 fun b1=>(kx 1 (knt ?_)))
 obtain ⟨J2,hJ2,h⟩:=Ags h
 refine Agt (τ:=Unit) (fun t=>[]) (fun t=>X) (fun t=>J2 ()=some r) ?_ ?_
 ·rintro ⟨⟩ h
  subst hJ2
  refine ksr (kx 1 (knt (Aem ?_)))
  obtain rfl:=Aam h
  exact kdn rfl
 ·skip
  refine ksr (kx 3 (knt (Aez (Akb (τ:=Int) (fun t=>[(0,slW Alz a0 Al3),(3,pt b1),(7,iv ((a0.length:Nat):Int)),(8,iv t)]) (fun t=>bk b1 #[iv Aan,iv Aar,sv Aao] 78 :: X) (fun m t=>Ao3.l0 m a0 Aan Aar Aao J2 t=some r) k 0 h sb rfl ?_))))
  clear h
  rintro m4 x3 h
  cases m4 with
  | zero=>simp [Ao3.l0] at h
  | succ m4 =>
   simp only [Ao3.l0] at h
   refine ksr (kx 1 (knt (Acx ?_)))
   refine kcn h (fun h=>?_) fun h=>?_
   ·refine Adl (Abi (Acx (Aez (ksr (kx 2 (knt (Acx (Arz [(0,3),(1,0),(2,0),(3,0),(4,3)] [bk b1 #[iv Aan,iv Aar,sv Aao] 78,Aps] (fun w h_=>⟨h_.sat.on _ (.head _),h_.sat.on _ (.tail _ Ax6),trivial⟩) (kpa 0 0 3 rfl (kpx 2 ?_))))))))))
    refine bnd h fun x6 hx6 h=>(A4h (T:=78) (kd:=.i64) Bey rfl hx6 Axi fun p7 e8 y9=>?_)
    have e8:Elem _ p7 [iv x6.1,iv x6.2.1,sv x6.2.2]:=e8
    refine Aqy rfl e8 (fun w h_=>h_.mem _ (.tail _ (.head _))) (kpz (Bbp (r:=((Aan == x6.1) && ((Aar == x6.2.1) && ((Aao.toList == x6.2.2.toList) && true)))) (xs:=#[iv Aan,iv Aar,sv Aao]) (ys:=#[iv x6.1,iv x6.2.1,sv x6.2.2]) false (by kernel_rfl) rfl (by kernel_rfl) (by kernel_rfl) (by kernel_rfl) (by kernel_rfl) (by kernel_rfl) (by kernel_rfl) (by kernel_rfl) (knt ?_)))
    refine kcn h (fun h=>?_) fun h=>?_
    ·refine ksr (kx 2 (knt (Aem (Ahj (Afx (Afx (Ahj (Afx ?_))))))))
     obtain rfl:=Aam h
     exact K.drop (kdn rfl)
    ·exact Adl (Ade (Abi (Ab6 (kx 2 (knt (Ai4 m4 (IntKind.i64.wrap (x3+1)) (Nat.lt_succ_self _) h sb rfl))))))
   ·exact Aj9 (Agh (Agh (Aka (Abi (K.drop (Ac1 () h trivial rfl))))))
def Ay5.f (k:Nat) (a0:List ByteArray) (a1:ByteArray):Option (Bool):=(Akt.f k a0 a1).bind fun r1=>some (decide (r1 ≥ 0))
theorem Ay5.ok {k Al3:Nat} {a0:TyC} {a1:ByteArray} {Aps:Aaa} {Alz:TyO} {r:Bool} (h:Ay5.f k a0 a1=some r) (Axi:RdT encS 1 Aps (slW Alz a0 Al3) a0): Ct Tryz.prog 88 #[slW Alz a0 Al3,sv a1] [] [Aps] (fun e l1=>e=.returned (bv r)∧l1=[]):=by
 refine Afi (args:=[slW Alz a0 Al3,sv a1]) Tryz.func88 rfl (Ac0 rfl) ?_
 intro A X hh_
 obtain ⟨Ax6,_⟩:=hh_
 unfold Ay5.f at h
 refine ksr (kx 1 (Abz (kx 2 (bnd h fun r1 hr1 h=>(kcv (Akt.ok hr1 Axi) ⟨Ax6,trivial⟩ (kx 2 (knt (Aem ?_))))))))
 obtain rfl:=Aam h
 exact kdn rfl
def A9s.f (k:Nat) (a0:List (Int×Int×ByteArray)) (Aan:Int) (Aar:Int) (Aao:ByteArray):Option (Bool):=(Ao3.f k a0 Aan Aar Aao).bind fun r2=>some (decide (r2 ≥ 0))
theorem A9s.ok {k Al3:Nat} {a0:TyB} {Aan Aar:Int} {Aao:ByteArray} {Aps:Aaa} {Alz:TyO} {r:Bool} (h:A9s.f k a0 Aan Aar Aao=some r) (Axi:RdT e78 3 Aps (slW Alz a0 Al3) a0): Ct Tryz.prog 89 #[slW Alz a0 Al3,.agg #[iv Aan,iv Aar,sv Aao]] [] [Aps] (fun e l1=>e=.returned (bv r)∧l1=[]):=by
 refine Afi (args:=[slW Alz a0 Al3,.agg #[iv Aan,iv Aar,sv Aao]]) Tryz.func89 rfl (Ac0 rfl) ?_
 intro A X hh_
 obtain ⟨Ax6,_⟩:=hh_
 unfold A9s.f at h
 refine ksr (knp #[iv Aan,iv Aar,sv Aao] 78 fun b1=>(kx 1 (Abz (kx 1 (kla 0 0 3 rfl (K.drop (bnd h fun r2 hr2 h=>(kcv (Ao3.ok hr2 Axi) ⟨Ax6,trivial⟩ (kx 2 (knt ?_))))))))))
 refine Aem ?_
 obtain rfl:=Aam h
 exact kdn rfl
def A06.f (k:Nat) (a0:ByteArray):Option (Int):=cond (a0.toList == (⟨#[45]⟩:ByteArray).toList) (some (0)) ((strings_Fields.f k (⟨#[112,114,105,110,116,32,116,121,112,101,32,116,111,115,116,114,105,110,103,32,116,111,110,117,109,98,101,114,32,110,101,120,116,32,112,97,105,114,115,32,105,112,97,105,114,115,32,114,97,119,108,101,110,32,115,116,97,116,115,32,112,114,111,98,101,115,32,45,32,116,97,98,108,101,46,105,110,115,101,114,116,32,116,97,98,108,101,46,114,101,109,111,118,101,32,116,97,98,108,101,46,99,111,110,99,97,116,32,116,97,98,108,101,46,117,110,112,97,99,107,32,116,97,98,108,101,46,109,111,118,101,32,116,97,98,108,101,46,115,111,114,116,32,117,116,102,56,46,108,101,110,32,117,116,102,56,46,99,104,97,114,32,117,116,102,56,46,99,111,100,101,112,111,105,110,116,32,117,116,102,56,46,111,102,102,115,101,116,32,117,116,102,56,46,99,111,100,101,115,32,45]⟩:ByteArray)).bind fun r2=>(Akt.f k r2 a0).bind fun r7=>some (IntKind.i64.wrap (r7+1)))
theorem A06.ok {k:Nat} {a0:ByteArray} {G:Aaa} {r:Int} (h:A06.f k a0=some r) (hG:GlP G): Ct Tryz.prog 52 #[sv a0] [] [G] (fun e l1=>e=.returned (iv r)∧l1=[]):=by
 refine Afi (args:=[sv a0]) Tryz.func52 rfl (Ac0 rfl) ?_
 intro A X hh_
 obtain ⟨Ad1,_⟩:=hh_
 unfold A06.f at h
 refine ksr (kx 1 (knt (Acx (ksr (kx 2 (knt ?_))))))
 refine kcn h (fun h=>?_) fun h=>?_
 ·refine ksr (kx 1 (knt (Aem (Afx ?_))))
  obtain rfl:=Aam h
  exact kdn rfl
 ·refine Adl (Abi (ksr (bnd h fun r2 hr2 h=>(kcl (strings_Fields.ok hr2 hG) rfl ⟨Ad1,trivial⟩ ?_))))
  rintro _ _ ⟨h3,A4,k5,o6,rfl,rfl⟩
  refine Alj (kx 1 (bnd h fun r7 hr7 h=>(kcv (Akt.ok hr7 (Aaf.rd o6)) ⟨(.head _),trivial⟩ (K.drop (kx 2 (knt (Aem ?_)))))))
  obtain rfl:=Aam h
  exact kdn rfl
theorem Cql (p q:Value) (w:World) :
  CallsD Tryz.prog 19 #[p,q] .returning w fun e u' w'=>e=.returned (.tuple #[])∧u'=.returning∧w=w':=by
 refine callsD_of_wpS Tryz.func19 rfl fun c₀ cs hu=>?_
 apply wpS_seq
 apply wpS_region
 simp [wpOpsS,go_sem,recoverD,hu,Tryz.ntmps19,Exit.thenS,Array.replicate_succ]
 refine wpS_of_wp ?_
 go_wp2
 cases c₀
 simp_all [bodyPostS,results,Tryz.results19]
theorem B7i {A w:World} {X:List Aaa} {p q:Nat} {x0 x1 y0 y1:Value} {i:Int×Int} (hw:St A (blk p (.cells #[x0,x1] 33 (0,0)) :: blk q (.cells #[y0,y1] 28 (0,0)) :: X) w) :
  CallsD Tryz.prog 19 #[.pointer (some ⟨p,0,none⟩),.pointer (some ⟨q,0,none⟩)] (.panicking [{ v:=Awr i,recovered:=false }]) w fun e u' w'=>e=.returned (.tuple #[])∧settle u'=.returning∧St A (blk p (.cells #[.slice none 0 0,.slice none 0 0] 33 (0,0)) :: blk q (.cells #[.int .i64 i.1,.int .i64 i.2] 28 (0,0)) :: X) w':=by
 refine callsD_of_wpS Tryz.func19 rfl fun c₀ cs hu=>?_
 apply wpS_seq
 apply wpS_region
 simp [wpOpsS,go_sem,recoverD,hu,Tryz.ntmps19,Exit.thenS,Array.replicate_succ]
 refine wpS_of_wp ?_
 refine (?_:K [] A Tryz.f19.ntmps [(0,.pointer (some ⟨p,0,none⟩)),(1,.pointer (some ⟨q,0,none⟩)),(5,.iface 68 (.agg #[.int .i64 i.1,.int .i64 i.2]))] (blk p (.cells #[x0,x1] 33 (0,0)) :: blk q (.cells #[y0,y1] 28 (0,0)) :: X) _) _ w ⟨rfl,rfl,?_⟩ hw
 rotate_left
 ·intro j v hj
  simp only [Env.get] at hj
  match j with
  | 0=>cases hj;rfl
  | 1=>cases hj;rfl
  | 2=>cases hj
  | 3=>cases hj
  | 4=>cases hj
  | 5=>cases hj;rfl
  | j+6=>cases hj
 refine Aez ?_
 refine Acx ?_
 refine Ab6 ?_
 refine Bm4 1 [(0,.pointer (some ⟨p,0,none⟩)),(1,.pointer (some ⟨q,0,none⟩)),(5,.iface 68 (.agg #[.int .i64 i.1,.int .i64 i.2])),(7,.bool false)] (by kernel_rfl) ?_
 refine Aww ?_
 refine Abi ?_
 refine Bmm (by kernel_rfl) ?_
 refine Acx ?_
 refine Ab6 ?_
 refine Bm4 3 [(0,.pointer (some ⟨p,0,none⟩)),(1,.pointer (some ⟨q,0,none⟩)),(5,.iface 68 (.agg #[.int .i64 i.1,.int .i64 i.2])),(9,.bool true),(10,.agg #[.int .i64 i.1,.int .i64 i.2])] (by kernel_rfl) ?_
 refine Aww ?_
 refine Abi ?_
 refine Bmo (by kernel_rfl) ?_
 refine Acx ?_
 refine Ab6 ?_
 refine Bm2 (.cells #[.int .i64 (0:Int),.int .i64 (0:Int)] 68 (0,0)) (fun b=>.pointer (some ⟨b,0,none⟩)) (by kernel_rfl) (by kernel_rfl) (fun _=>by kernel_rfl) fun b1=>?_
 refine Bgy (cs':=#[.int .i64 i.1,.int .i64 i.2]) [.st ⟨b1,0,none⟩ (.int .i64 i.1),.st ⟨b1,1,none⟩ (.int .i64 i.2)] (by kernel_rfl) (by kernel_rfl) (by kernel_rfl) ⟨rfl,rfl,trivial⟩ (by kernel_rfl) ?_
 refine Aww ?_
 refine Abi ?_
 refine Bgv [(0,0),(1,3),(2,1)] (fun w=>Amx [blk b1 (.cells #[.int .i64 i.1,.int .i64 i.2] 68 (0,0))] w) (by kernel_rfl) (by kernel_rfl) (fun _ _ d _ _ h=>by cases d <;> exact h) (fun w h_=>⟨h_.sat.on _ (.head _),trivial⟩) ?_
 simp only [Akr,List.filterMap_cons,List.filterMap_nil,List.getElem?_toArray,List.getElem?_cons_zero,List.getElem?_cons_succ,Option.map_some,List.drop_succ_cons,List.drop_zero,Aa4,Acg]
 refine Cft 1 [(0,.pointer (some ⟨p,0,none⟩)),(1,.pointer (some ⟨q,0,none⟩)),(3,.pointer (some ⟨b1,0,none⟩)),(11,.agg #[.slice none 0 0,.slice none 0 0])] (by kernel_rfl) (by kernel_rfl) ?_
 refine Bm7 (v:=.agg #[.int .i64 i.1,.int .i64 i.2]) [blk b1 (.cells #[.int .i64 i.1,.int .i64 i.2] 68 (0,0))] [.val (.int .i64 i.1),.val (.int .i64 i.2)] [.ld ⟨b1,0,none⟩ (.int .i64 i.1),.ld ⟨b1,1,none⟩ (.int .i64 i.2)] (by kernel_rfl) (by kernel_rfl) (by kernel_rfl) (fun _ h=>h) ⟨⟨0,_,_,_,rfl,rfl,rfl⟩,⟨0,_,_,_,rfl,rfl,rfl⟩,trivial⟩ ?_
 refine Bxm (by kernel_rfl) ?_
 refine K.mv1 ?_
 refine Bn0 (cs':=#[.slice none 0 0,.slice none 0 0]) [.st ⟨p,0,none⟩ (.slice none 0 0),.st ⟨p,1,none⟩ (.slice none 0 0)] (by kernel_rfl) (by kernel_rfl) ⟨rfl,rfl,trivial⟩ (by kernel_rfl) ?_
 refine A8f (fun w h_=>⟨h_.sat.on _ (.tail _ (.head _)),trivial⟩) ?_
 refine Bxh ?_
 refine K.mv2 ?_
 refine Bgy (cs':=#[.int .i64 i.1,.int .i64 i.2]) [.st ⟨q,0,none⟩ (.int .i64 i.1),.st ⟨q,1,none⟩ (.int .i64 i.2)] (by kernel_rfl) (by kernel_rfl) (by kernel_rfl) ⟨rfl,rfl,trivial⟩ (by kernel_rfl) ?_
 refine K.mv2 ?_
 refine K.drop ?_
 refine Aww ?_
 refine Ade ?_
 refine K.mv1 ?_
 intro a' w' ha' hw'
 have hd:=ha'.defers
 simp [bodyPostS,results,Tryz.results19,hd,settle]
 exact hw'
def Ak8:Amy (ByteArray×Int×Int×Int×List (Int×Int×ByteArray)):=rS1 4 (fun x=>[.string x.1,.int .i64 x.2.1,.int .i64 x.2.2.1,.int .i64 x.2.2.2.1]) (fun _=>⟨rfl,rfl⟩) e78 78 3 (fun x=>x.2.2.2.2)
theorem Bo0 {x:ByteArray×Int×Int×Int×TyB} {H:Aaa} {A:TyO} {c:Nat} (h:Aaf e78 78 3 H (.slice A (x.2.2.2.2).length c) (x.2.2.2.2)):Ak8.own x H [sv x.1,iv x.2.1,iv x.2.2.1,iv x.2.2.2.1,.slice A (x.2.2.2.2).length c]:=⟨A,c,rfl,h⟩
theorem Bii {x:ByteArray×Int×Int×Int×TyB} {H:Aaa} {cs:List Value} (h:Ak8.rd x H cs):∃ A c,cs=[sv x.1,iv x.2.1,iv x.2.2.1,iv x.2.2.2.1,.slice A (x.2.2.2.2).length c]∧RdT e78 3 H (.slice A (x.2.2.2.2).length c) (x.2.2.2.2):=h
theorem Bez:An8 Tryz.prog 23 9 1 16 Tryz.t9 (sv noS):=⟨by kernel_rfl,by kernel_rfl,by kernel_rfl,by kernel_rfl,by kernel_rfl,by kernel_rfl,by decide⟩
def A1a.f (k:Nat) (Aac:TyF) (Aad:TyC) (Acp:ByteArray) (Acs:Int) (Acu:Int) (Adv:Int) (Acv:TyB) (Adf:TyC) (Adx:Int) (Ab1:TyC) (a1:ByteArray):Option TyC:=(Ay5.f k Aad a1).bind fun r1=>cond (!r1) ((apd 16 Aad [a1]).bind fun l4=>some (l4)) (some (Aad))
theorem A1a.ok {k b0 Aau Aew Aci Afc Afv Ad7:Nat} {Aac:TyF} {Aad Adf Ab1 r:TyC} {Acp a1:ByteArray} {Acs Acu Adv Adx:Int} {Acv:TyB} {Adb Afs Agv Ahe Aky:Aaa} {Aas Aer Afb Afo Ad5:TyO} (h:A1a.f k Aac Aad Acp Acs Acu Adv Acv Adf Adx Ab1 a1=some r) (Abe:RdR Ak8 Adb (slW Aas Aac Aau) Aac) (Ah0:Aaf encS 9 1 Afs (slW Aer Aad Aew) Aad) (Aib:RdT e78 3 Agv (slW Afb Acv Afc) Acv) (Ai6:RdT encS 1 Ahe (slW Afo Adf Afv) Adf) (Ajj:RdT encS 1 Aky (slW Ad5 Ab1 Ad7) Ab1): Ct Tryz.prog 49 #[pt b0,sv a1] [bk b0 #[slW Aas Aac Aau,slW Aer Aad Aew,pt Aci] 75,Afs,bk Aci #[sv Acp,iv Acs,iv Acu,iv Adv,slW Afb Acv Afc,slW Afo Adf Afv,iv Adx,slW Ad5 Ab1 Ad7] 73] [Adb,Agv,Ahe,Aky] (fun e l1=>∃ (H0_:Aaa) (A0_:TyO) (c0_:Nat),Aaf encS 9 1 H0_ (slW A0_ r c0_) r∧e=.returned (.tuple #[])∧l1=[bk b0 #[slW Aas Aac Aau,slW A0_ r c0_,pt Aci] 75,H0_,bk Aci #[sv Acp,iv Acs,iv Acu,iv Adv,slW Afb Acv Afc,slW Afo Adf Afv,iv Adx,slW Ad5 Ab1 Ad7] 73]):=by
 refine Afi (args:=[pt b0,sv a1]) Tryz.func49 rfl (Ac0 rfl) ?_
 intro A X hh_
 obtain ⟨Abr,Bt5,Bl9,Alb,_⟩:=hh_
 unfold A1a.f at h
 refine K.eq (env':=[(0,pt b0),(1,sv a1)]) (l':=bk b0 #[slW Aas Aac Aau,slW Aer Aad Aew,pt Aci] 75 :: Afs :: bk Aci #[sv Acp,iv Acs,iv Acu,iv Adv,slW Afb Acv Afc,slW Afo Adf Afv,iv Adx,slW Ad5 Ab1 Ad7] 73 :: X) rfl rfl (ksr (kx 4 (kld 0 1 rfl (kx 1 (bnd h fun r1 hr1 h=>(kcv (Ay5.ok hr1 (Aaf.rd Ah0)) ⟨(.tail _ (.head _)),trivial⟩ (kx 1 (knt ?_))))))))
 refine kcn h (fun h=>?_) fun h=>?_
 ·refine Ab6 (kx 5 (kld 0 1 rfl (kx 1 (kns #[sv a1] 9 1 fun b3=>(K.mv2 (bnd h fun l4 hl4 h=>(kap (ys:=[a1]) Arv rfl Bez hl4 Ah0 (A93 (n:=1) Arv [a1] (by kernel_rfl) rfl (by decide) 1 rfl) fun h5 A6 k7 o8=>(K.mv1 (K.drop (kx 3 ?_))))))))))
  refine K.mv1 (kst 1 1 #[slW Aas Aac Aau,slW A6 l4 k7,pt Aci] (knl (Afg ?_)))
  obtain rfl:=Aam h
  exact kdv (.tuple #[]) [bk b0 #[slW Aas Aac Aau,slW A6 l4 k7,pt Aci] 75,h5,bk Aci #[sv Acp,iv Acs,iv Acu,iv Adv,slW Afb Acv Afc,slW Afo Adf Afv,iv Adx,slW Ad5 Ab1 Ad7] 73] (Adq ⟨h5,A6,k7,o8,rfl,rfl⟩)
 ·refine Adl (Afg ?_)
  obtain rfl:=Aam h
  exact kdv (.tuple #[]) [bk b0 #[slW Aas Aac Aau,slW Aer Aad Aew,pt Aci] 75,Afs,bk Aci #[sv Acp,iv Acs,iv Acu,iv Adv,slW Afb Acv Afc,slW Afo Adf Afv,iv Adx,slW Ad5 Ab1 Ad7] 73] (Adq ⟨Afs,Aer,Aew,Ah0,rfl,rfl⟩)
def A6c.f (k:Nat) (Aac:TyF) (Aad:TyC) (Acp:ByteArray) (Acs:Int) (Acu:Int) (Adv:Int) (Acv:TyB) (Adf:TyC) (Adx:Int) (Ab1:TyC) (Aan:Int) (Aar:ByteArray) (Aao:Int) (Aa5:Int) (Aag:List Tree):Option (PR TyC (Int×Int)):=(Avh.f k Aar).bind fun r2=>cond r2 (PR.bind (Apv.f k 5 Aa5) fun r4=>some (PR.ok (Aad))) ((Ay5.f k Adf Aar).bind fun r6=>cond r6 (some (PR.ok (Aad))) ((Ay5.f k Ab1 Aar).bind fun r8=>cond r8 (PR.bind (Apv.f k 5 Aa5) fun r10=>some (PR.ok (Aad))) ((A1a.f k Aac Aad Acp Acs Acu Adv Acv Adf Adx Ab1 Aar).bind fun r12=>some (PR.ok (r12)))))
theorem A6c.ok {k b0 Aau Aew Aci Afc Afv Ad7 Abx:Nat} {Aac:TyF} {Aad Adf Ab1:TyC} {Acp Aar:ByteArray} {Acs Acu Adv Adx Aan Aao Aa5:Int} {Acv:TyB} {Aag:List Tree} {Adb Afs Agv Ahe Aky Ae4:Aaa} {Aas Aer Afb Afo Ad5 Abu:TyO} {r:PR TyC (Int×Int)} (h:A6c.f k Aac Aad Acp Acs Acu Adv Acv Adf Adx Ab1 Aan Aar Aao Aa5 Aag=some r) (Abe:RdR Ak8 Adb (slW Aas Aac Aau) Aac) (Ah0:Aaf encS 9 1 Afs (slW Aer Aad Aew) Aad) (Aib:RdT e78 3 Agv (slW Afb Acv Afc) Acv) (Ai6:RdT encS 1 Ahe (slW Afo Adf Afv) Adf) (Ajj:RdT encS 1 Aky (slW Ad5 Ab1 Ad7) Ab1) (Ado:RdR (Abt 54) Ae4 (slW Abu Aag Abx) Aag): Ct Tryz.prog 51 #[pt b0,.agg #[iv Aan,sv Aar,iv Aao,iv Aa5,slW Abu Aag Abx]] [bk b0 #[slW Aas Aac Aau,slW Aer Aad Aew,pt Aci] 75,Afs,bk Aci #[sv Acp,iv Acs,iv Acu,iv Adv,slW Afb Acv Afc,slW Afo Adf Afv,iv Adx,slW Ad5 Ab1 Ad7] 73] [Adb,Agv,Ahe,Aky,Ae4] (PR.Post Awr (fun (r:TyC) e l1=>∃ (H0_:Aaa) (A0_:TyO) (c0_:Nat),Aaf encS 9 1 H0_ (slW A0_ r c0_) r∧e=.returned (.tuple #[])∧l1=[bk b0 #[slW Aas Aac Aau,slW A0_ r c0_,pt Aci] 75,H0_,bk Aci #[sv Acp,iv Acs,iv Acu,iv Adv,slW Afb Acv Afc,slW Afo Adf Afv,iv Adx,slW Ad5 Ab1 Ad7] 73]) r):=by
 refine Afi (args:=[pt b0,.agg #[iv Aan,sv Aar,iv Aao,iv Aa5,slW Abu Aag Abx]]) Tryz.func51 rfl (Ac0 rfl) ?_
 intro A X hh_
 obtain ⟨Abr,Bt5,Bl9,Alb,Adg,_⟩:=hh_
 unfold A6c.f at h
 refine K.eq (env':=[(0,pt b0),(1,.agg #[iv Aan,sv Aar,iv Aao,iv Aa5,slW Abu Aag Abx])]) (l':=bk b0 #[slW Aas Aac Aau,slW Aer Aad Aew,pt Aci] 75 :: Afs :: bk Aci #[sv Acp,iv Acs,iv Acu,iv Adv,slW Afb Acv Afc,slW Afo Adf Afv,iv Adx,slW Ad5 Ab1 Ad7] 73 :: X) rfl rfl (ksr (knp #[iv Aan,sv Aar,iv Aao,iv Aa5,slW Abu Aag Abx] 54 fun b1=>(knt (Aez (ksr (kx 1 (kld 0 1 rfl (bnd h fun r2 hr2 h=>(kcv (Avh.ok hr2) trivial (kx 1 ?_))))))))))
 refine knt ?_
 refine kcn h (fun h=>?_) fun h=>?_
 ·refine Ab6 (kx 1 (kld 0 3 rfl (K.drop (kcp h (fun _ hr4=>(Apv.ok hr4)) rfl trivial (fun _ e=>Ad4 (kpn 3 e rfl)) fun r4 h=>?_))))
  rintro _ _ ⟨rfl,rfl⟩
  refine Apk (knl (Ade (Afg ?_)))
  obtain rfl:=Aam h
  exact kdv (.tuple #[]) [bk b0 #[slW Aas Aac Aau,slW Aer Aad Aew,pt Aci] 75,Afs,bk Aci #[sv Acp,iv Acs,iv Acu,iv Adv,slW Afb Acv Afc,slW Afo Adf Afv,iv Adx,slW Ad5 Ab1 Ad7] 73] (Adq (PR.okI ⟨Afs,Aer,Aew,Ah0,rfl,rfl⟩))
 ·refine Acx (kpr [(0,0),(1,0),(2,0),(3,3),(4,0),(5,0),(6,3),(7,0),(8,3)] [0,1,3] (kpx 3 (kpd 1 2 rfl (kpx 2 (kpd 2 5 rfl (kpx 1 (kpd 0 1 rfl (kpz (bnd h fun r6 hr6 h=>(kcv (Ay5.ok hr6 Ai6) ⟨(t4 Bl9),trivial⟩ ?_))))))))))
  refine kx 1 (knt ?_)
  refine kcn h (fun h=>?_) fun h=>?_
  ·refine Adl (Ade (Afg ?_))
   obtain rfl:=Aam h
   exact kdv (.tuple #[]) [bk b0 #[slW Aas Aac Aau,slW Aer Aad Aew,pt Aci] 75,Afs,bk Aci #[sv Acp,iv Acs,iv Acu,iv Adv,slW Afb Acv Afc,slW Afo Adf Afv,iv Adx,slW Ad5 Ab1 Ad7] 73] (K.drop (Adq (PR.okI ⟨Afs,Aer,Aew,Ah0,rfl,rfl⟩)))
  ·refine Acx (kpr [(0,0),(1,0),(2,0),(3,3),(4,0),(5,0),(6,3),(7,0),(8,3)] [0,1,3] (kpx 3 (kpd 1 2 rfl (kpx 2 (kpd 2 7 rfl (kpx 1 (kpd 0 1 rfl (kpz (bnd h fun r8 hr8 h=>(kcv (Ay5.ok hr8 Ajj) ⟨(t4 Alb),trivial⟩ ?_))))))))))
   refine kx 1 (knt ?_)
   refine kcn h (fun h=>?_) fun h=>?_
   ·refine Ab6 (kx 1 (kld 0 3 rfl (K.drop (kcp h (fun _ Ax9=>(Apv.ok Ax9)) rfl trivial (fun _ e=>Ad4 (kpn 3 e rfl)) fun r10 h=>?_))))
    rintro _ _ ⟨rfl,rfl⟩
    refine Apk (knl (Ade (Afg ?_)))
    obtain rfl:=Aam h
    exact kdv (.tuple #[]) [bk b0 #[slW Aas Aac Aau,slW Aer Aad Aew,pt Aci] 75,Afs,bk Aci #[sv Acp,iv Acs,iv Acu,iv Adv,slW Afb Acv Afc,slW Afo Adf Afv,iv Adx,slW Ad5 Ab1 Ad7] 73] (Adq (PR.okI ⟨Afs,Aer,Aew,Ah0,rfl,rfl⟩))
   ·refine Ab6 (kx 2 (kld 0 1 rfl (K.drop (K.mv2 (K.mv2 (K.mv2 (bnd h fun r12 Bfs h=>(kcl (A1a.ok Bfs Abe Ah0 Aib Ai6 Ajj) rfl ⟨Abr,Bt5,Bl9,Alb,trivial⟩ ?_))))))))
    rintro _ _ ⟨h13,A14,k15,o16,rfl,rfl⟩
    refine A4o (knl (Ade (Afg ?_)))
    obtain rfl:=Aam h
    exact kdv (.tuple #[]) [bk b0 #[slW Aas Aac Aau,slW A14 r12 k15,pt Aci] 75,h13,bk Aci #[sv Acp,iv Acs,iv Acu,iv Adv,slW Afb Acv Afc,slW Afo Adf Afv,iv Adx,slW Ad5 Ab1 Ad7] 73] (Adq (PR.okI ⟨h13,A14,k15,o16,rfl,rfl⟩))
theorem Csq:An8 Tryz.prog 38 78 3 32 Tryz.t78 (.agg #[iv 0,iv 0,sv noS]):=⟨by kernel_rfl,by kernel_rfl,by kernel_rfl,by kernel_rfl,by kernel_rfl,by kernel_rfl,by decide⟩
def A08.f (k:Nat) (Aac:TyF) (Aad:TyC) (Acp:ByteArray) (Acs:Int) (Acu:Int) (Adv:Int) (Acv:TyB) (Adf:TyC) (Adx:Int) (Ab1:TyC) (Aan:Int) (Aar:ByteArray) (Aao:Int) (Aa5:Int) (Aag:List Tree) (Afm:Int) (Aje:Int) (Apt:ByteArray):Option (PR TyB (Int×Int)):=(A9s.f k Acv Afm Aje Apt).bind fun r3=>cond (!r3) (PR.bind (Akz.f k Aan Aar Aao Aa5 Aag (IntKind.i64.wrap (((Acv.length:Nat):Int)+1)) 250) fun r5=>(apd 32 Acv [(Afm,Aje,Apt)]).bind fun l8=>some (PR.ok (l8))) (some (PR.ok (Acv)))
theorem A08.ok {k b0 Aau Aew Aci Afc Afv Ad7 Abx:Nat} {Aac:TyF} {Aad Adf Ab1:TyC} {Acp Aar Apt:ByteArray} {Acs Acu Adv Adx Aan Aao Aa5 Afm Aje:Int} {Acv:TyB} {Aag:List Tree} {Adb Afs Agv Ahe Aky Ae4:Aaa} {Aas Aer Afb Afo Ad5 Abu:TyO} {r:PR TyB (Int×Int)} (h:A08.f k Aac Aad Acp Acs Acu Adv Acv Adf Adx Ab1 Aan Aar Aao Aa5 Aag Afm Aje Apt=some r) (Abe:RdR Ak8 Adb (slW Aas Aac Aau) Aac) (Ah0:RdT encS 1 Afs (slW Aer Aad Aew) Aad) (Aib:Aaf e78 78 3 Agv (slW Afb Acv Afc) Acv) (Ai6:RdT encS 1 Ahe (slW Afo Adf Afv) Adf) (Ajj:RdT encS 1 Aky (slW Ad5 Ab1 Ad7) Ab1) (Ado:RdR (Abt 54) Ae4 (slW Abu Aag Abx) Aag): Ct Tryz.prog 50 #[pt b0,.agg #[iv Aan,sv Aar,iv Aao,iv Aa5,slW Abu Aag Abx],.agg #[iv Afm,iv Aje,sv Apt]] [bk b0 #[slW Aas Aac Aau,slW Aer Aad Aew,pt Aci] 75,bk Aci #[sv Acp,iv Acs,iv Acu,iv Adv,slW Afb Acv Afc,slW Afo Adf Afv,iv Adx,slW Ad5 Ab1 Ad7] 73,Agv] [Adb,Afs,Ahe,Aky,Ae4] (PR.Post Awr (fun (r:TyB) e l1=>∃ (H0_:Aaa) (A0_:TyO) (c0_:Nat),Aaf e78 78 3 H0_ (slW A0_ r c0_) r∧e=.returned (.tuple #[])∧l1=[bk b0 #[slW Aas Aac Aau,slW Aer Aad Aew,pt Aci] 75,bk Aci #[sv Acp,iv Acs,iv Acu,iv Adv,slW A0_ r c0_,slW Afo Adf Afv,iv Adx,slW Ad5 Ab1 Ad7] 73,H0_]) r):=by
 refine Afi (args:=[pt b0,.agg #[iv Aan,sv Aar,iv Aao,iv Aa5,slW Abu Aag Abx],.agg #[iv Afm,iv Aje,sv Apt]]) Tryz.func50 rfl (Ac0 rfl) ?_
 intro A X hh_
 obtain ⟨Abr,Cbw,Bl9,Alb,Adg,_⟩:=hh_
 unfold A08.f at h
 refine K.eq (env':=[(0,pt b0),(1,.agg #[iv Aan,sv Aar,iv Aao,iv Aa5,slW Abu Aag Abx]),(2,.agg #[iv Afm,iv Aje,sv Apt])]) (l':=bk b0 #[slW Aas Aac Aau,slW Aer Aad Aew,pt Aci] 75 :: bk Aci #[sv Acp,iv Acs,iv Acu,iv Adv,slW Afb Acv Afc,slW Afo Adf Afv,iv Adx,slW Ad5 Ab1 Ad7] 73 :: Agv :: X) rfl rfl (ksr (knp #[iv Aan,sv Aar,iv Aao,iv Aa5,slW Abu Aag Abx] 54 fun b1=>(knp #[iv Afm,iv Aje,sv Apt] 78 fun b2=>(knt (Acx (kpr [(0,0),(1,0),(2,0),(3,3),(4,0),(5,0),(6,0),(7,3),(8,3)] [0,2,3] (kpx 3 (kpd 1 2 rfl (kpx 3 (kpd 2 4 rfl ?_))))))))))
 refine kpa 0 0 3 rfl (kpz (bnd h fun r3 hr3 h=>(kcv (A9s.ok hr3 (Aaf.rd Aib)) ⟨(.tail _ (.tail _ (.tail _ (.tail _ (.head _))))),trivial⟩ (kx 1 (knt ?_)))))
 refine kcn h (fun h=>?_) fun h=>?_
 ·refine Acx (kpr [(0,3),(1,0),(2,0),(3,0),(4,3),(5,0),(6,0),(7,0),(8,3),(9,0),(10,0)] [1,2,3] (kpa 0 0 5 rfl (kpx 3 (kpd 1 2 rfl (kpx 3 (kpd 2 4 rfl (kpx 2 (kpz (kcp h (fun _ hr5=>(Akz.ok hr5 Ado)) rfl ⟨(t5 Adg),trivial⟩ (fun _ e=>Ab5 (kpn 5 e rfl)) fun r5 h=>?_)))))))))
  rintro _ _ ⟨rfl,rfl⟩
  refine Apk (K.mv1 (K.drop (knt (kpr [(0,0),(1,0),(2,0),(3,3),(4,0),(5,0),(6,0),(7,3),(8,0),(9,0),(10,0),(11,3),(12,3),(13,1),(14,1)] [0,1,2] (kpx 3 (kpd 1 2 rfl (kpx 3 (kpd 1 2 rfl (kpx 3 (kpd 2 4 rfl ?_))))))))))
  refine kpa 0 0 3 rfl (kpt (ons #[iv Afm,iv Aje,sv Apt] 78 1 fun b7=>(kan [1,2,3] rfl (kpt (K.mv4 (bnd h fun l8 hl8 h=>(Bzw (ys:=[(Afm,Aje,Apt)]) Bey rfl Csq (by kernel_rfl) (by kernel_rfl) (by kernel_rfl) (by kernel_rfl) hl8 Aib (A93 (n:=1) Bey [(Afm,Aje,Apt)] (by kernel_rfl) rfl (by decide) 1 rfl) fun h9 A10 k11 o12=>(kan [2,3,4] rfl (kpz (kx 3 ?_))))))))))
  refine K.mv4 (kst 4 1 #[sv Acp,iv Acs,iv Acu,iv Adv,slW A10 l8 k11,slW Afo Adf Afv,iv Adx,slW Ad5 Ab1 Ad7] (K.mv2 (K.drop (K.mv2 (K.drop (knl (Afg ?_)))))))
  obtain rfl:=Aam h
  exact kdv (.tuple #[]) [bk b0 #[slW Aas Aac Aau,slW Aer Aad Aew,pt Aci] 75,bk Aci #[sv Acp,iv Acs,iv Acu,iv Adv,slW A10 l8 k11,slW Afo Adf Afv,iv Adx,slW Ad5 Ab1 Ad7] 73,h9] (K.mv1 (K.mv1 (K.mv2 (Adq (PR.okI ⟨h9,A10,k11,o12,rfl,rfl⟩)))))
 ·refine Adl (Afg ?_)
  obtain rfl:=Aam h
  exact kdv (.tuple #[]) [bk b0 #[slW Aas Aac Aau,slW Aer Aad Aew,pt Aci] 75,bk Aci #[sv Acp,iv Acs,iv Acu,iv Adv,slW Afb Acv Afc,slW Afo Adf Afv,iv Adx,slW Ad5 Ab1 Ad7] 73,Agv] (K.drop (K.drop (Adq (PR.okI ⟨Agv,Afb,Afc,Aib,rfl,rfl⟩))))
def Apu.l0:Nat→(a2:List Tree)→(J7:(List ByteArray)→Option (PR (Int×List ByteArray) (Int×Int)))→(x10:Int)→(l11:List ByteArray)→Option (PR (Int×List ByteArray) (Int×Int))
 | 0,_,_,_,_=>none
 | m16+1,a2,J7,x10,l11=>cond (decide (x10 < ((a2.length:Nat):Int))) ((Ack a2 x10).bind fun x18=>Adj (fun (_:Unit)=>(apd 16 l11 [x18.text]).bind fun l30=>Apu.l0 m16 a2 J7 (IntKind.i64.wrap (x10+1)) l30) (fun J28=>(Avh.f m16 x18.text).bind fun r35=>cond r35 (PR.bind (Apv.f m16 5 x18.at_) fun r37=>J28 ()) (J28 ()))) (J7 l11)
def Apu.f (k:Nat) (Aac:TyF) (Aad:TyC) (Acp:ByteArray) (Acs:Int) (Acu:Int) (Adv:Int) (Acv:TyB) (Adf:TyC) (Adx:Int) (Ab1:TyC) (Aan:Int) (Aar:ByteArray) (Aao:Int) (Aa5:Int) (Aag:List Tree) (a2:List Tree):Option (PR (Int×TyC) (Int×Int)):=Adj (fun (l2:TyC)=>PR.bind (Akz.f k Aan Aar Aao Aa5 Aag ((l2.length:Nat):Int) 60) fun r8=>some (PR.ok ((if ((l2.length:Nat):Int) > Adv then ((l2.length:Nat):Int) else Adv),l2))) (fun J7=>Apu.l0 k a2 J7 0 Adf)
theorem Apu.ok {k b0 Aau Aew Aci Afc Afv Ad7 Abx Anp:Nat} {Aac:TyF} {Aad Adf Ab1:TyC} {Acp Aar:ByteArray} {Acs Acu Adv Adx Aan Aao Aa5:Int} {Acv:TyB} {Aag a2:List Tree} {Adb Afs Agv Ahe Aky Ae4 Au4:Aaa} {Aas Aer Afb Afo Ad5 Abu Ano:TyO} {r:PR (Int×TyC) (Int×Int)} (h:Apu.f k Aac Aad Acp Acs Acu Adv Acv Adf Adx Ab1 Aan Aar Aao Aa5 Aag a2=some r) (Abe:RdR Ak8 Adb (slW Aas Aac Aau) Aac) (Ah0:RdT encS 1 Afs (slW Aer Aad Aew) Aad) (Aib:RdT e78 3 Agv (slW Afb Acv Afc) Acv) (Ai6:Aaf encS 9 1 Ahe (slW Afo Adf Afv) Adf) (Ajj:RdT encS 1 Aky (slW Ad5 Ab1 Ad7) Ab1) (Ado:RdR (Abt 54) Ae4 (slW Abu Aag Abx) Aag) (A3o:RdR (Abt 54) Au4 (slW Ano a2 Anp) a2): Ct Tryz.prog 34 #[pt b0,.agg #[iv Aan,sv Aar,iv Aao,iv Aa5,slW Abu Aag Abx],slW Ano a2 Anp] [bk b0 #[slW Aas Aac Aau,slW Aer Aad Aew,pt Aci] 75,bk Aci #[sv Acp,iv Acs,iv Acu,iv Adv,slW Afb Acv Afc,slW Afo Adf Afv,iv Adx,slW Ad5 Ab1 Ad7] 73,Ahe] [Adb,Afs,Agv,Aky,Ae4,Au4] (PR.Post Awr (fun (r:Int×TyC) e l1=>∃ (H0_:Aaa) (A0_:TyO) (c0_:Nat),Aaf encS 9 1 H0_ (slW A0_ r.2 c0_) r.2∧e=.returned (.tuple #[])∧l1=[bk b0 #[slW Aas Aac Aau,slW Aer Aad Aew,pt Aci] 75,bk Aci #[sv Acp,iv Acs,iv Acu,iv r.1,slW Afb Acv Afc,slW A0_ r.2 c0_,iv Adx,slW Ad5 Ab1 Ad7] 73,H0_]) r):=by
 refine Afi (args:=[pt b0,.agg #[iv Aan,sv Aar,iv Aao,iv Aa5,slW Abu Aag Abx],slW Ano a2 Anp]) Tryz.func34 rfl (Ac0 rfl) ?_
 intro A X hh_
 obtain ⟨Abr,Cbw,Bt5,Alb,Adg,A1h,_⟩:=hh_
 unfold Apu.f at h
 refine K.eq (env':=[(0,pt b0),(1,.agg #[iv Aan,sv Aar,iv Aao,iv Aa5,slW Abu Aag Abx]),(2,slW Ano a2 Anp)]) (l':=bk b0 #[slW Aas Aac Aau,slW Aer Aad Aew,pt Aci] 75 :: bk Aci #[sv Acp,iv Acs,iv Acu,iv Adv,slW Afb Acv Afc,slW Afo Adf Afv,iv Adx,slW Ad5 Ab1 Ad7] 73 :: Ahe :: X) rfl rfl (ksr (knp #[iv Aan,sv Aar,iv Aao,iv Aa5,slW Abu Aag Abx] 54 fun b1=>(knt ?_)))
 obtain ⟨J7,hJ7,h⟩:=Ags h
 refine Agt (τ:=TyC×Aaa×TyO×Nat) (fun t=>[(0,pt b0),(4,pt b1)]) (fun t=>bk b1 #[iv Aan,sv Aar,iv Aao,iv Aa5,slW Abu Aag Abx] 54 :: bk b0 #[slW Aas Aac Aau,slW Aer Aad Aew,pt Aci] 75 :: bk Aci #[sv Acp,iv Acs,iv Acu,iv Adv,slW Afb Acv Afc,slW t.2.2.1 t.1 t.2.2.2,iv Adx,slW Ad5 Ab1 Ad7] 73 :: t.2.1 :: X) (fun t=>J7 t.1=some r∧Aaf encS 9 1 t.2.1 (slW t.2.2.1 t.1 t.2.2.2) t.1) ?_ ?_
 ·rintro ⟨l2,h3,A4,k5⟩ ⟨h,o6⟩
  subst hJ7
  refine Acx (kpr [(0,3),(1,0),(2,0),(3,0),(4,3),(5,0),(6,0),(7,3),(8,0)] [0,1,2] (kpa 0 0 5 rfl (kpx 3 (kpd 1 2 rfl (kpx 2 (kpd 2 5 rfl (kpx 1 (kpz (kcp h (fun _ hr8=>(Akz.ok hr8 Ado)) rfl ⟨(t4 Adg),trivial⟩ (fun _ e=>Ab5 (kpn 4 e rfl)) fun r8 h=>?_)))))))))
  rintro _ _ ⟨rfl,rfl⟩
  refine Apk (K.drop (knt (kpr [(0,0),(1,0),(2,0),(3,3),(4,0),(5,0),(6,0),(7,3),(8,0),(9,0),(10,0),(11,3),(12,0),(13,0),(14,0),(15,3),(16,0),(17,0),(18,3),(19,0),(20,0)] [0,1] (kpx 3 (kpd 0 2 rfl (kpx 3 (kpd 0 2 rfl (kpx 3 (kpd 1 3 rfl (kpx 3 ?_))))))))))
  refine kpd 0 2 rfl (kpx 2 (kpd 1 5 rfl (kpx 2 (kpz (kx 3 (K.mv1 (kst 3 1 #[sv Acp,iv Acs,iv Acu,iv (if ((l2.length:Nat):Int) > Adv then ((l2.length:Nat):Int) else Adv),slW Afb Acv Afc,slW A4 l2 k5,iv Adx,slW Ad5 Ab1 Ad7] (knl (Afg ?_)))))))))
  obtain rfl:=Aam h
  exact kdv (.tuple #[]) [bk b0 #[slW Aas Aac Aau,slW Aer Aad Aew,pt Aci] 75,bk Aci #[sv Acp,iv Acs,iv Acu,iv (if ((l2.length:Nat):Int) > Adv then ((l2.length:Nat):Int) else Adv),slW Afb Acv Afc,slW A4 l2 k5,iv Adx,slW Ad5 Ab1 Ad7] 73,h3] (K.mv2 (K.mv1 (K.mv2 (Adq (PR.okI ⟨h3,A4,k5,o6,rfl,rfl⟩)))))
 ·skip
  refine ksr (kx 3 (knt (Aez (Akb (τ:=Int×TyC×Aaa×TyO×Nat) (fun t=>[(0,pt b0),(4,pt b1),(8,slW Ano a2 Anp),(9,iv ((a2.length:Nat):Int)),(10,iv t.1)]) (fun t=>bk b1 #[iv Aan,sv Aar,iv Aao,iv Aa5,slW Abu Aag Abx] 54 :: bk b0 #[slW Aas Aac Aau,slW Aer Aad Aew,pt Aci] 75 :: bk Aci #[sv Acp,iv Acs,iv Acu,iv Adv,slW Afb Acv Afc,slW t.2.2.2.1 t.2.1 t.2.2.2.2,iv Adx,slW Ad5 Ab1 Ad7] 73 :: t.2.2.1 :: X) (fun m t=>Apu.l0 m a2 J7 t.1 t.2.1=some r∧Aaf encS 9 1 t.2.2.1 (slW t.2.2.2.1 t.2.1 t.2.2.2.2) t.2.1) k (0,Adf,Ahe,Afo,Afv) ⟨h,Ai6⟩ sb rfl ?_))))
  clear h
  rintro m16 ⟨x10,l11,h12,A13,k14⟩ ⟨h,o15⟩
  cases m16 with
  | zero=>simp [Apu.l0] at h
  | succ m16 =>
   simp only [Apu.l0] at h
   refine ksr (kx 1 (knt (Acx ?_)))
   refine kcn h (fun h=>?_) fun h=>?_
   ·refine Adl (Abi (Acx (Aez (ksr (bnd h fun x18 C16 h=>(Ail (T:=54) (kd:=.i64) (R:=(Abt 54)) rfl C16 A3o fun p19 u22 q23 e20 y21=>?_))))))
    obtain ⟨A24,k25,rfl,o26⟩:=Aig 54 q23
    refine keN rfl e20 (t4 A1h) (knp #[iv 0,sv noS,iv 0,iv 0,nS] 54 fun b27=>(kst 0 5 #[iv x18.kind,sv x18.text,iv x18.n,iv x18.at_,slW A24 x18.kids k25] (knt ?_)))
    obtain ⟨J28,Btq,h⟩:=Ags h
    refine Agt (τ:=Unit) (fun t=>[(0,pt b0),(4,pt b1),(7,pt b27),(8,slW Ano a2 Anp),(9,iv ((a2.length:Nat):Int)),(10,iv x10)]) (fun t=>bk b27 #[iv x18.kind,sv x18.text,iv x18.n,iv x18.at_,slW A24 x18.kids k25] 54 :: bk b1 #[iv Aan,sv Aar,iv Aao,iv Aa5,slW Abu Aag Abx] 54 :: bk b0 #[slW Aas Aac Aau,slW Aer Aad Aew,pt Aci] 75 :: bk Aci #[sv Acp,iv Acs,iv Acu,iv Adv,slW Afb Acv Afc,slW A13 l11 k14,iv Adx,slW Ad5 Ab1 Ad7] 73 :: h12 :: X) (fun t=>J28 ()=some r) ?_ ?_
    ·rintro ⟨⟩ h
     subst Btq
     refine kpr [(0,0),(1,0),(2,0),(3,3),(4,0),(5,0),(6,0),(7,3),(8,0),(9,0),(10,3),(11,0),(12,3),(13,1),(14,1)] [0,2,3] (kpx 3 (kpd 1 2 rfl (kpx 3 (kpd 1 2 rfl (kpx 2 (kpd 2 5 rfl (kpx 1 (kpd 0 1 rfl (kpt (ons #[sv x18.text] 9 1 fun b29=>?_))))))))))
     refine kan [1,3,4] rfl (kpt (K.mv5 (bnd h fun l30 Bt4 h=>(Bzw (ys:=[x18.text]) Arv rfl Bez (by kernel_rfl) (by kernel_rfl) (by kernel_rfl) (by kernel_rfl) Bt4 o15 (A93 (n:=1) Arv [x18.text] (by kernel_rfl) rfl (by decide) 1 rfl) fun h31 A32 k33 o34=>(kan [2,4,5] rfl (kpz (kx 2 (K.mv5 (kst 5 1 #[sv Acp,iv Acs,iv Acu,iv Adv,slW Afb Acv Afc,slW A32 l30 k33,iv Adx,slW Ad5 Ab1 Ad7] (K.mv2 ?_))))))))))
     refine K.drop (K.mv2 (K.drop (knl (Ade (Abi (Ab6 (kx 2 (knt (K.mv1 (K.mv1 ?_))))))))))
     exact K.mv3 (K.mv3 (Ai4 m16 (IntKind.i64.wrap (x10+1),l30,h31,A32,k33) (Nat.lt_succ_self _) ⟨h,o34⟩ sb rfl))
    ·skip
     refine ksr (kx 1 (kld 0 1 rfl (bnd h fun r35 A7j h=>(kcv (Avh.ok A7j) trivial (knt ?_)))))
     refine kcn h (fun h=>?_) fun h=>?_
     ·refine Ab6 (kx 1 (kld 0 3 rfl (kcp h (fun _ A7k=>(Apv.ok A7k)) rfl trivial (fun _ e=>Ab5 (Ad4 (Ab5 (Ab5 (Ad4 (Ab5 (kpn 5 e rfl))))))) fun r37 h=>?_)))
      rintro _ _ ⟨rfl,rfl⟩
      exact Apk (knt (Ac1 () h sb rfl))
     ·exact Adl (Abi (Ac1 () h sb rfl))
   ·exact Aj9 (Agh (Agh (Aka (Abi (Ac1 (l11,h12,A13,k14) ⟨h,o15⟩ sb rfl)))))
end
end Go.Proofs.YtkdjiehclahliaaGreatDoor
