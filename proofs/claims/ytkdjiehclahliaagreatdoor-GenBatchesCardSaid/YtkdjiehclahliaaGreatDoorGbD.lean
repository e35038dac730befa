/- Texts of mine for genBatches_card, part 4. -/
import Derived.Test.YtkdjiehclahliaaGreatDoorGbC
set_option linter.unusedSimpArgs false
set_option linter.unusedVariables false
set_option linter.unusedSectionVars false
namespace Go.Proofs.YtkdjiehclahliaaGreatDoor
set_option maxRecDepth 100000
section
open Go Go.RowKit
def Le {α:Type} (x y:Option α):Prop:=∀ v,x=some v→y=some v
section
variable {α β:Type}
theorem Le.refl (x:Option α):Le x x:=fun _ h=>h
theorem Le.none (x:Option α):Le none x:=fun _ h=>by cases h
theorem Le.trans {x y z:Option α} (h1:Le x y) (h2:Le y z):Le x z:=fun v h=>h2 v (h1 v h)
theorem Le.bind {x y:Option (PV α)} {f g:α→List Tk→Option (PV β)} (h:Le x y) (hf:∀ a r,Le (f a r) (g a r)):Le (PV.bind x f) (PV.bind y g):=fun v hv=>by
 rcases bind_some hv with ⟨i,hx,rfl⟩ | ⟨a,r,hx,h2⟩
 ·rw [h _ hx];rfl
 ·rw [h _ hx];exact hf a r _ h2
theorem Le.ite {c:Prop} [Decidable c] {x y x' y':Option α} (h1:Le x x') (h2:Le y y'):Le (if c then x else y) (if c then x' else y'):=by
 by_cases h:c
 ·rw [if_pos h,if_pos h];exact h1
 ·rw [if_neg h,if_neg h];exact h2
end
theorem Blp:∀ (f:Nat) (acc:List Tree) (ts:List Tk),Le (Aop f acc ts) (Aop (f+1) acc ts)
 | 0,_,_=>Le.none _
 | f+1,acc,ts=>by
  rw [Aop,Aop]
  exact Le.ite (Le.bind (Le.refl _) fun _ _=>Blp f _ _) (Le.refl _)
theorem Cc6 (f:Nat) (ts:List Tk):Le (A0f f ts) (A0f (f+1) ts):=Le.bind (Le.refl _) fun _ _=>Blp f _ _
structure LeE (f:Nat):Prop where
 exp:∀ least ts,Le (Ahk f least ts) (Ahk (f+1) least ts)
 loop:∀ least n ts,Le (Aky f least n ts) (Aky (f+1) least n ts)
 operand:∀ ts,Le (Akz f ts) (Akz (f+1) ts)
 fields:∀ acc ts,Le (Aj7 f acc ts) (Aj7 (f+1) acc ts)
 field:∀ ts,Le (Amb f ts) (Amb (f+1) ts)
 Akh:∀ ts,Le (Ak2 f ts) (Ak2 (f+1) ts)
 Aik:∀ at_ n ts,Le (Aj9 f at_ n ts) (Aj9 (f+1) at_ n ts)
 Ag7:∀ ts,Le (Aj5 f ts) (Aj5 (f+1) ts)
 Aod:∀ acc ts,Le (Ald f acc ts) (Ald (f+1) acc ts)
theorem leE:∀ f,LeE f
 | 0=>by constructor <;> intros <;> (first | rw [Ahk] | rw [Aky] | rw [Akz] | rw [Aj7] | rw [Amb] | rw [Ak2] | rw [Aj9] | rw [Aj5] | rw [Ald]) <;> exact Le.none _
 | f+1=>by
  have ih:=leE f
  constructor
  ·intro least ts;rw [Ahk,Ahk]
   exact Le.bind (ih.operand _) fun _ _=>ih.loop _ _ _
  ·intro least n ts;rw [Aky,Aky]
   exact Le.ite (Le.refl _) (Le.bind (ih.exp _ _) fun _ _=>ih.loop _ _ _)
  ·intro ts;rw [Akz,Akz]
   exact Le.ite (Le.refl _) (Le.ite (Le.refl _) (Le.ite (Le.refl _) (Le.ite (Le.refl _) (Le.ite (Le.refl _) (Le.ite (Le.bind (ih.exp _ _) fun _ _=>Le.refl _) (Le.ite (Le.bind (ih.fields _ _) fun _ _=>Le.refl _) (ih.Akh _)))))))
  ·intro acc ts;rw [Aj7,Aj7]
   exact Le.ite (Le.refl _) (Le.bind (ih.field _) fun _ _=>Le.ite (ih.fields _ _) (Le.ite (ih.fields _ _) (Le.refl _)))
  ·intro ts;rw [Amb,Amb]
   exact Le.ite (Le.bind (ih.exp _ _) fun _ _=>Le.bind (Le.refl _) fun _ _=>Le.bind (Le.refl _) fun _ _=>Le.bind (ih.exp _ _) fun _ _=>Le.refl _) (Le.ite (Le.bind (ih.exp _ _) fun _ _=>Le.refl _) (Le.bind (ih.exp _ _) fun _ _=>Le.refl _))
  ·intro ts;rw [Ak2,Ak2]
   exact Le.ite (Le.bind (ih.exp _ _) fun _ _=>Le.bind (Le.refl _) fun _ _=>ih.Aik _ _ _) (Le.bind (Le.refl _) fun _ _=>ih.Aik _ _ _)
  ·intro at_ n ts;rw [Aj9,Aj9]
   exact Le.ite (Le.bind (ih.exp _ _) fun _ _=>Le.bind (Le.refl _) fun _ _=>ih.Aik _ _ _) (Le.ite (Le.bind (Le.refl _) fun _ _=>ih.Aik _ _ _) (Le.ite (Le.bind (Le.ite (Le.refl _) (ih.Ag7 _)) fun _ _=>Le.bind (Le.refl _) fun _ _=>ih.Aik _ _ _) (Le.refl _)))
  ·intro ts;rw [Aj5,Aj5]
   exact Le.bind (ih.exp _ _) fun _ _=>ih.Aod _ _
  ·intro acc ts;rw [Ald,Ald]
   exact Le.ite (Le.bind (ih.exp _ _) fun _ _=>ih.Aod _ _) (Le.refl _)
structure LeS (f:Nat):Prop where
 block:∀ c ts,Le (Aj4 f c ts) (Aj4 (f+1) c ts)
 Ajy:∀ c at_ acc ts,Le (Ajo f c at_ acc ts) (Ajo (f+1) c at_ acc ts)
 function:∀ ts,Le (Amx f ts) (Amx (f+1) ts)
 body:∀ ts,Le (Alc f ts) (Alc (f+1) ts)
 stat:∀ ts,Le (Alu f ts) (Alu (f+1) ts)
 branches:∀ acc ts,Le (Al9 f acc ts) (Al9 (f+1) acc ts)
 for_:∀ at_ ts,Le (Amw f at_ ts) (Amw (f+1) at_ ts)
 plain:∀ ts,Le (Amc f ts) (Amc (f+1) ts)
 targets:∀ acc e ts,Le (Alg f acc e ts) (Alg (f+1) acc e ts)
theorem leS:∀ f,LeS f
 | 0=>by constructor <;> intros <;> (first | rw [Aj4] | rw [Ajo] | rw [Amx] | rw [Alc] | rw [Alu] | rw [Al9] | rw [Amw] | rw [Amc] | rw [Alg]) <;> exact Le.none _
 | f+1=>by
  have ih:=leS f
  have ie:=leE f
  constructor
  ·intro c ts;rw [Aj4,Aj4];exact ih.Ajy _ _ _ _
  ·intro c at_ acc ts;rw [Ajo,Ajo]
   exact Le.ite (ih.Ajy _ _ _ _) (Le.ite (Le.bind (Le.ite (Le.refl _) (ie.Ag7 _)) fun _ _=>Le.refl _) (Le.ite (Le.bind (ih.function _) fun _ _=>ih.Ajy _ _ _ _) (Le.ite (Le.refl _) (Le.bind (ih.stat _) fun _ _=>ih.Ajy _ _ _ _))))
  ·intro ts;rw [Amx,Amx]
   exact Le.bind (Le.refl _) fun _ _=>Le.bind (Le.refl _) fun _ _=>Le.bind (Le.ite (Le.refl _) (Cc6 _ _)) fun _ _=>Le.bind (Le.refl _) fun _ _=>Le.bind (ih.block _ _) fun _ _=>Le.refl _
  ·intro ts;rw [Alc,Alc]
   exact Le.bind (Le.refl _) fun _ _=>Le.bind (ih.block _ _) fun _ _=>Le.refl _
  ·intro ts;rw [Alu,Alu]
   exact Le.ite (Le.bind (ih.body _) fun _ _=>Le.refl _) (Le.ite (Le.bind (ie.exp _ _) fun _ _=>Le.bind (ih.body _) fun _ _=>Le.refl _) (Le.ite (Le.bind (ih.branches _ _) fun _ _=>Le.refl _) (Le.ite (ih.for_ _ _) (Le.ite (Le.bind (Cc6 _ _) fun _ _=>Le.bind (Le.ite (ie.Ag7 _) (Le.refl _)) fun _ _=>Le.refl _) (Le.ite (Le.refl _) (ih.plain _))))))
  ·intro acc ts;rw [Al9,Al9]
   exact Le.bind (ie.exp _ _) fun _ _=>Le.bind (Le.refl _) fun _ _=>Le.bind (ih.block _ _) fun _ _=>Le.ite (ih.branches _ _) (Le.ite (Le.bind (ih.block _ _) fun _ _=>Le.refl _) (Le.refl _))
  ·intro at_ ts;rw [Amw,Amw]
   exact Le.bind (Le.refl _) fun _ _=>Le.ite (Le.bind (ie.exp _ _) fun _ _=>Le.bind (Le.refl _) fun _ _=>Le.bind (ie.exp _ _) fun _ _=>Le.bind (Le.ite (Le.bind (ie.exp _ _) fun _ _=>Le.refl _) (Le.refl _)) fun _ _=>Le.bind (ih.body _) fun _ _=>Le.refl _) (Le.bind (Blp _ _ _) fun _ _=>Le.bind (Le.refl _) fun _ _=>Le.bind (ie.Ag7 _) fun _ _=>Le.bind (ih.body _) fun _ _=>Le.refl _)
  ·intro ts;rw [Amc,Amc]
   exact Le.bind (ie.Akh _) fun _ _=>Le.ite (Le.bind (ih.targets _ _ _) fun _ _=>Le.bind (Le.refl _) fun _ _=>Le.bind (ie.Ag7 _) fun _ _=>Le.refl _) (Le.refl _)
  ·intro acc e ts;rw [Alg,Alg]
   exact Le.ite (Le.ite (Le.bind (ie.Akh _) fun _ _=>ih.targets _ _ _) (Le.refl _)) (Le.refl _)
theorem Cdb {α:Type} {p:Nat→Option α} (h:∀ f,Le (p f) (p (f+1))) {f f':Nat} (h0:f≤f'):Le (p f) (p f'):=by
 induction f' with
 | zero=>rw [Nat.le_zero.1 h0];exact Le.refl _
 | succ f' ih =>
  rcases Nat.lt_or_ge f (f'+1) with h1 | h1
  ·exact (ih (by omega)).trans (h f')
  ·rw [show f=f'+1 by omega];exact Le.refl _
def val {α:Type} (x:Option (PV α)):PV α:=x.getD (.bad 0)
def fu (ts:List Tk):Nat:=16 * ts.length+16
theorem Apy {α:Type} {p:Nat→Option (PV α)} (h:∀ f,Le (p f) (p (f+1))) {f f0:Nat} (h1:∃ v,p f=some v) (h2:∃ v,p f0=some v):p f=some (val (p f0)):=by
 obtain ⟨v,hv⟩:=h1
 obtain ⟨v0,hv0⟩:=h2
 rcases Nat.le_total f f0 with h' | h'
 ·have:=Cdb h h' v hv
  rw [hv,this];rfl
 ·have:=Cdb h h' v0 hv0
  rw [this,hv0];rfl
def Axw (acc:List Tree) (ts:List Tk):PV (List Tree):=val (Aop (fu ts) acc ts)
def Am9 (least:Int) (ts:List Tk):PV Tree:=val (Ahk (fu ts) least ts)
def Bb6 (least:Int) (n:Tree) (ts:List Tk):PV Tree:=val (Aky (fu ts) least n ts)
def Bb8 (ts:List Tk):PV Tree:=val (Akz (fu ts) ts)
def Ay3 (acc:List Tree) (ts:List Tk):PV (List Tree):=val (Aj7 (fu ts) acc ts)
def Bb4 (ts:List Tk):PV Tree:=val (Amb (fu ts) ts)
def Ay4 (ts:List Tk):PV Tree:=val (Ak2 (fu ts) ts)
def A1i (at_:Int) (n:Tree) (ts:List Tk):PV Tree:=val (Aj9 (fu ts) at_ n ts)
def Aqj (ts:List Tk):PV (List Tree):=val (Aj5 (fu ts) ts)
def Bb3 (acc:List Tree) (ts:List Tk):PV (List Tree):=val (Ald (fu ts) acc ts)
def Aph (c:Bool) (ts:List Tk):PV Tree:=val (Aj4 (fu ts) c ts)
def A3x (c:Bool) (at_:Int) (acc:List Tree) (ts:List Tk):PV Tree:=val (Ajo (fu ts) c at_ acc ts)
def Bb5 (ts:List Tk):PV Tree:=val (Amx (fu ts) ts)
def Axt (ts:List Tk):PV Tree:=val (Alc (fu ts) ts)
def Bca (ts:List Tk):PV Tree:=val (Alu (fu ts) ts)
def A3y (acc:List Tree) (ts:List Tk):PV (List Tree):=val (Al9 (fu ts) acc ts)
def Bhz (at_:Int) (ts:List Tk):PV Tree:=val (Amw (fu ts) at_ ts)
def Bh0 (ts:List Tk):PV Tree:=val (Amc (fu ts) ts)
def Bcb (acc:List Tree) (e:Tree) (ts:List Tk):PV (List Tree):=val (Alg (fu ts) acc e ts)
def Ajh (w:ByteArray) (ts:List Tk):PV Unit:=if isH w ts then .ok () ts.tail else .bad (hd ts).2.2.2
def As6 (kind:Int) (ts:List Tk):PV Tree:=if (hd ts).1=1 then .ok (.mk kind (hd ts).2.1 0 (hd ts).2.2.2 []) ts.tail else .bad (hd ts).2.2.2
section
variable {ts:List Tk} {f:Nat}
theorem Ap9 (w:ByteArray) (ts:List Tk):Amd w ts=some (Ajh w ts):=by unfold Amd Ajh;split <;> rfl
theorem A7u (k:Int) (ts:List Tk):Asa k ts=some (As6 k ts):=by unfold Asa As6;split <;> rfl
theorem Bgp (acc:List Tree) (hg:Good ts) (hf:16 * ts.length+1≤f):Aop f acc ts=some (Axw acc ts):=Apy (p:=fun f=>Aop f acc ts) (fun f=>Blp f acc ts) (Bbx _ _ _ hg hf) (Bbx _ _ _ hg (by unfold fu;omega))
theorem Ara {least:Int} (hl:0≤least) (hg:Good ts) (hf:16 * ts.length+5≤f):Ahk f least ts=some (Am9 least ts):=Apy (p:=fun f=>Ahk f least ts) (fun f=>(leE f).exp _ _) ((Aoz _).exp _ _ hl hg hf) ((Aoz _).exp _ _ hl hg (by unfold fu;omega))
theorem Bxm {least:Int} (n:Tree) (hl:0≤least) (hg:Good ts) (hf:16 * ts.length+1≤f):Aky f least n ts=some (Bb6 least n ts):=Apy (p:=fun f=>Aky f least n ts) (fun f=>(leE f).loop _ _ _) ((Aoz _).loop _ _ _ hl hg hf) ((Aoz _).loop _ _ _ hl hg (by unfold fu;omega))
theorem Bxo (hg:Good ts) (hf:16 * ts.length+4≤f):Akz f ts=some (Bb8 ts):=Apy (p:=fun f=>Akz f ts) (fun f=>(leE f).operand _) ((Aoz _).operand _ hg hf) ((Aoz _).operand _ hg (by unfold fu;omega))
theorem Bgn (acc:List Tree) (hg:Good ts) (hf:16 * ts.length+7≤f):Aj7 f acc ts=some (Ay3 acc ts):=Apy (p:=fun f=>Aj7 f acc ts) (fun f=>(leE f).fields _ _) ((Aoz _).fields _ _ hg hf) ((Aoz _).fields _ _ hg (by unfold fu;omega))
theorem Bxh (hg:Good ts) (hf:16 * ts.length+6≤f):Amb f ts=some (Bb4 ts):=Apy (p:=fun f=>Amb f ts) (fun f=>(leE f).field _) ((Aoz _).field _ hg hf) ((Aoz _).field _ hg (by unfold fu;omega))
theorem Bgr (hg:Good ts) (hf:16 * ts.length+3≤f):Ak2 f ts=some (Ay4 ts):=Apy (p:=fun f=>Ak2 f ts) (fun f=>(leE f).Akh _) ((Aoz _).Akh _ hg hf) ((Aoz _).Akh _ hg (by unfold fu;omega))
theorem Bbl (at_:Int) (n:Tree) (hg:Good ts) (hf:16 * ts.length+1≤f):Aj9 f at_ n ts=some (A1i at_ n ts):=Apy (p:=fun f=>Aj9 f at_ n ts) (fun f=>(leE f).Aik _ _ _) ((Aoz _).Aik _ _ _ hg hf) ((Aoz _).Aik _ _ _ hg (by unfold fu;omega))
theorem A7t (hg:Good ts) (hf:16 * ts.length+6≤f):Aj5 f ts=some (Aqj ts):=Apy (p:=fun f=>Aj5 f ts) (fun f=>(leE f).Ag7 _) ((Aoz _).Ag7 _ hg hf) ((Aoz _).Ag7 _ hg (by unfold fu;omega))
theorem Bxg (acc:List Tree) (hg:Good ts) (hf:16 * ts.length+1≤f):Ald f acc ts=some (Bb3 acc ts):=Apy (p:=fun f=>Ald f acc ts) (fun f=>(leE f).Aod _ _) ((Aoz _).Aod _ _ hg hf) ((Aoz _).Aod _ _ hg (by unfold fu;omega))
theorem A7s (c:Bool) (hg:Good ts) (hf:16 * ts.length+9≤f):Aj4 f c ts=some (Aph c ts):=Apy (p:=fun f=>Aj4 f c ts) (fun f=>(leS f).block _ _) ((Apu _).block _ _ hg hf) ((Apu _).block _ _ hg (by unfold fu;omega))
theorem Bgm (c:Bool) (at_:Int) (acc:List Tree) (hg:Good ts) (hf:16 * ts.length+8≤f):Ajo f c at_ acc ts=some (A3x c at_ acc ts):=Apy (p:=fun f=>Ajo f c at_ acc ts) (fun f=>(leS f).Ajy _ _ _ _) ((Apu _).Ajy _ _ _ _ hg hf) ((Apu _).Ajy _ _ _ _ hg (by unfold fu;omega))
theorem Bxl (h6:(hd ts).1≠6) (hg:Good ts) (hf:16 * ts.length+7≤f):Amx f ts=some (Bb5 ts):=Apy (p:=fun f=>Amx f ts) (fun f=>(leS f).function _) ((Apu _).function _ h6 hg hf) ((Apu _).function _ h6 hg (by unfold fu;omega))
theorem Bbj (hg:Good ts) (hf:16 * ts.length+6≤f):Alc f ts=some (Axt ts):=Apy (p:=fun f=>Alc f ts) (fun f=>(leS f).body _) ((Apu _).body _ hg hf) ((Apu _).body _ hg (by unfold fu;omega))
theorem Bxq (hg:Good ts) (hf:16 * ts.length+7≤f):Alu f ts=some (Bca ts):=Apy (p:=fun f=>Alu f ts) (fun f=>(leS f).stat _) ((Apu _).stat _ hg hf) ((Apu _).stat _ hg (by unfold fu;omega))
theorem Bmd (acc:List Tree) (hg:Good ts) (hf:16 * ts.length+6≤f):Al9 f acc ts=some (A3y acc ts):=Apy (p:=fun f=>Al9 f acc ts) (fun f=>(leS f).branches _ _) ((Apu _).branches _ _ hg hf) ((Apu _).branches _ _ hg (by unfold fu;omega))
theorem Cey (at_:Int) (hg:Good ts) (hf:16 * ts.length+1≤f):Amw f at_ ts=some (Bhz at_ ts):=Apy (p:=fun f=>Amw f at_ ts) (fun f=>(leS f).for_ _ _) ((Apu _).for_ _ _ hg hf) ((Apu _).for_ _ _ hg (by unfold fu;omega))
theorem Ce2 (hg:Good ts) (hf:16 * ts.length+6≤f):Amc f ts=some (Bh0 ts):=Apy (p:=fun f=>Amc f ts) (fun f=>(leS f).plain _) ((Apu _).plain _ hg hf) ((Apu _).plain _ hg (by unfold fu;omega))
theorem Bme (acc:List Tree) (e:Tree) (hg:Good ts) (hf:16 * ts.length+1≤f):Alg f acc e ts=some (Bcb acc e ts):=Apy (p:=fun f=>Alg f acc e ts) (fun f=>(leS f).targets _ _ _) ((Apu _).targets _ _ _ hg hf) ((Apu _).targets _ _ _ hg (by unfold fu;omega))
theorem Ai9 (w:ByteArray) (hg:Good ts):Fwd 1 ts (Ajh w ts):=Ajg w ts hg _ (Ap9 w ts)
theorem fName (k:Int) (hg:Good ts):Fwd 1 ts (As6 k ts):=Atu k ts hg _ (A7u k ts)
theorem B51 (acc:List Tree) (hg:Good ts):Fwd 0 ts (Axw acc ts):=Bhp _ _ ts hg _ (Bgp acc hg (by unfold fu;omega:_≤fu ts))
theorem Ajm {least:Int} (hl:0≤least) (hg:Good ts):Fwd 1 ts (Am9 least ts):=(Ayw _).exp _ _ hg _ (Ara hl hg (by unfold fu;omega:_≤fu ts))
theorem B53 (hg:Good ts):Fwd 1 ts (Bb8 ts):=(Ayw _).operand _ hg _ (Bxo hg (by unfold fu;omega:_≤fu ts))
theorem B5w (acc:List Tree) (hg:Good ts):Fwd 1 ts (Ay3 acc ts):=(Ayw _).fields _ _ hg _ (Bgn acc hg (by unfold fu;omega:_≤fu ts))
theorem B5v (hg:Good ts):Fwd 1 ts (Bb4 ts):=(Ayw _).field _ hg _ (Bxh hg (by unfold fu;omega:_≤fu ts))
theorem Bdy (hg:Good ts):Fwd 1 ts (Ay4 ts):=(Ayw _).Akh _ hg _ (Bgr hg (by unfold fu;omega:_≤fu ts))
theorem A2n (hg:Good ts):Fwd 1 ts (Aqj ts):=(Ayw _).Ag7 _ hg _ (A7t hg (by unfold fu;omega:_≤fu ts))
theorem Ax9 (c:Bool) (hg:Good ts):Fwd 0 ts (Aph c ts):=(stepS _).block _ _ hg _ (A7s c hg (by unfold fu;omega:_≤fu ts))
theorem B5x (h6:(hd ts).1≠6) (hg:Good ts):Fwd 1 ts (Bb5 ts):=(stepS _).function _ h6 hg _ (Bxl h6 hg (by unfold fu;omega:_≤fu ts))
theorem Bjo (hg:Good ts):Fwd 1 ts (Axt ts):=(stepS _).body _ hg _ (Bbj hg (by unfold fu;omega:_≤fu ts))
theorem B54 (hg:Good ts):Fwd 1 ts (Bca ts):=(stepS _).stat _ hg _ (Bxq hg (by unfold fu;omega:_≤fu ts))
theorem B5u (acc:List Tree) (hg:Good ts):Fwd 1 ts (A3y acc ts):=(stepS _).branches _ _ hg _ (Bmd acc hg (by unfold fu;omega:_≤fu ts))
theorem Cqs (acc:List Tree) (e:Tree) (hg:Good ts):Fwd 0 ts (Bcb acc e ts):=(stepS _).targets _ _ _ hg _ (Bme acc e hg (by unfold fu;omega:_≤fu ts))
end
def PV.then {α β:Type}:PV α→(α→List Tk→PV β)→PV β
 | .ok a r,f=>f a r
 | .bad i,_=>.bad i
section
variable {α β:Type} {n:Nat} {ts:List Tk}
theorem Afw {x:Option (PV α)} {vx:PV α} {f:α→List Tk→Option (PV β)} {g:α→List Tk→PV β} (hx:x=some vx) (hw:Fwd n ts vx) (hf:∀ a r,Good r→r.length+n≤ts.length→f a r=some (g a r)):PV.bind x f=some (vx.then g):=by
 subst hx
 cases vx with
 | bad i=>rfl
 | ok a r=>exact hf a r hw.1 hw.2.1
theorem Ah0 {c:Prop} [Decidable c] {y z:Option α} {y' z':α} (h1:c→y=some y') (h2:¬ c→z=some z'):(if c then y else z)=some (if c then y' else z'):=by
 by_cases h:c
 ·rw [if_pos h,if_pos h];exact h1 h
 ·rw [if_neg h,if_neg h];exact h2 h
theorem Bd2 {c:Prop} [Decidable c] {y z:PV α} (h1:c→Fwd n ts y) (h2:¬ c→Fwd n ts z):Fwd n ts (if c then y else z):=by
 by_cases h:c
 ·rw [if_pos h];exact h1 h
 ·rw [if_neg h];exact h2 h
theorem Bd4 {m:Nat} {x:PV α} (h:Fwd n ts x) (hm:m≤n):Fwd m ts x:=by
 cases x with
 | bad=>trivial
 | ok a r=>exact ⟨h.1,by have:=h.2.1;omega,h.2.2⟩
theorem Bag {a:α} (hg:Good ts):Fwd 0 ts (.ok a ts):=⟨hg,Nat.le_refl _,List.suffix_refl _⟩
theorem B6i {x:PV α} (hg:Good ts) (h6:(hd ts).1≠6) (h:Fwd n ts.tail x):Fwd (n+1) ts x:=by
 obtain ⟨g1,g2,g3⟩:=hg.tail h6
 cases x with
 | bad=>trivial
 | ok a r=>exact ⟨h.1,by have:=h.2.1;omega,h.2.2.trans g3⟩
theorem B6j {m:Nat} {x:PV α} {f:α→List Tk→PV β} (h1:Fwd n ts x) (h2:∀ a r,Good r→r.length+n≤ts.length→Fwd m r (f a r)):Fwd (n+m) ts (x.then f):=by
 cases x with
 | bad=>trivial
 | ok a r =>
  obtain ⟨g1,g2,g3⟩:=h1
  have:=h2 a r g1 g2
  show Fwd (n+m) ts (f a r)
  cases hf:f a r with
  | bad=>trivial
  | ok b s =>
   rw [hf] at this
   exact ⟨this.1,by have:=this.2.1;omega,this.2.2.trans g3⟩
end
section
variable {ts:List Tk}
theorem or3 {a b c:Bool} {ts:List Tk} {x y z:ByteArray} (ha:a=isH x ts) (hb:b=isH y ts) (hc:c=isH z ts) (h:(a || b || c)=true):(hd ts).1≠6:=by
 subst ha hb hc
 simp only [Bool.or_eq_true] at h
 rcases h with (h | h) | h <;> exact Abt h
theorem Bb7 (acc:List Tree) (hg:Good ts):Axw acc ts=if isH Amo ts then (As6 6 ts.tail).then fun n r=>Axw (acc++[n]) r else .ok acc ts:=by
 have h:=Bgp acc hg (f:=fu ts+1) (by unfold fu;omega)
 rw [Aop] at h
 refine Option.some.inj (h.symm.trans (Ah0 (fun hc=>?_) fun _=>rfl))
 obtain ⟨g1,g2,_⟩:=hg.tail (Abt hc)
 exact Afw (A7u _ _) (fName 6 g1) fun a r hr hn=>Bgp _ hr (by unfold fu;omega)
def Av3 (ts:List Tk):PV (List Tree):=(As6 6 ts).then fun n r=>Axw [n] r
theorem Cez {f:Nat} (hg:Good ts) (hf:16 * ts.length+1≤f):A0f f ts=some (Av3 ts):=Afw (A7u _ _) (fName 6 hg) fun a r hr hn=>Bgp _ hr (by omega)
theorem Bdx (hg:Good ts):Fwd 1 ts (Av3 ts):=B6j (fName 6 hg) fun _ _ hr _=>B51 _ hr
theorem Dcr {least:Int} (hl:0≤least) (hg:Good ts):Am9 least ts=(Bb8 ts).then fun n r=>Bb6 least n r:=by
 have h:=Ara hl hg (f:=fu ts+1) (by unfold fu;omega)
 rw [Ahk] at h
 exact Option.some.inj (h.symm.trans (Afw (Bxo hg (by unfold fu;omega)) (B53 hg) fun a r hr hn=>Bxm _ hl hr (by unfold fu;omega)))
theorem Dcw {least:Int} (n:Tree) (hl:0≤least) (hg:Good ts):Bb6 least n ts=if Akv ts≤least then .ok n ts else (Am9 (if Akv ts=4 then 3 else Akv ts) ts.tail).then fun m r=>Bb6 least (.mk 11 (hd ts).2.1 0 n.at_ [n,m]) r:=by
 have h:=Bxm n hl hg (f:=fu ts+1) (by unfold fu;omega)
 rw [Aky] at h
 refine Option.some.inj (h.symm.trans (Ah0 (fun _=>rfl) fun hb=>?_))
 obtain ⟨g1,g2,_⟩:=hg.tail (A9s (by omega))
 have hq:(0:Int)≤(if Akv ts=4 then 3 else Akv ts):=by split <;> omega
 exact Afw (Ara hq g1 (by unfold fu;omega)) (Ajm hq g1) fun a r hr hn=>Bxm _ hl hr (by unfold fu;omega)
theorem Dcz (hg:Good ts):Bb8 ts =
  if (hd ts).1=3 then .ok (.mk 4 noB (hd ts).2.2.1 (hd ts).2.2.2 []) ts.tail
  else if (hd ts).1=4 then .ok (.mk 5 (hd ts).2.1 0 (hd ts).2.2.2 []) ts.tail
  else if isH Cbj ts then .ok (.mk 1 noB 0 (hd ts).2.2.2 []) ts.tail
  else if isH Cbw ts then .ok (.mk 2 noB 0 (hd ts).2.2.2 []) ts.tail
  else if isH Cbe ts then .ok (.mk 3 noB 0 (hd ts).2.2.2 []) ts.tail
  else if isH Bfy ts || isH Bfw ts || isH A6u ts then (Am9 7 ts.tail).then fun m r=>.ok (.mk 10 (hd ts).2.1 0 (hd ts).2.2.2 [m]) r
  else if isH kLc ts then (Ay3 [] ts.tail).then fun l r=>.ok (.mk 12 noB 0 (hd ts).2.2.2 l) r
  else Ay4 ts:=by
 have h:=Bxo hg (f:=fu ts+1) (by unfold fu;omega)
 rw [Akz] at h
 refine Option.some.inj (h.symm.trans (Ah0 (fun _=>rfl) fun _=>Ah0 (fun _=>rfl) fun _=>Ah0 (fun _=>rfl) fun _=>Ah0 (fun _=>rfl) fun _=>Ah0 (fun _=>rfl) fun _=>Ah0 (fun hc=>?_) fun _=>Ah0 (fun hc=>?_) fun _=>Bgr hg (by unfold fu;omega)))
 ·obtain ⟨g1,g2,_⟩:=hg.tail (or3 rfl rfl rfl hc)
  exact Afw (Ara (by omega) g1 (by unfold fu;omega)) (Ajm (by omega) g1) fun _ _ _ _=>rfl
 ·obtain ⟨g1,g2,_⟩:=hg.tail (Abt hc)
  exact Afw (Bgn _ g1 (by unfold fu;omega)) (B5w _ g1) fun _ _ _ _=>rfl
theorem Dct (acc:List Tree) (hg:Good ts):Ay3 acc ts =
  if isH kRc ts then .ok acc ts.tail
  else (Bb4 ts).then fun x r =>
   if isH Amo r then Ay3 (acc++[x]) r.tail
   else if isH Atl r then Ay3 (acc++[x]) r.tail
   else (Ajh kRc r).then fun _ r=>.ok (acc++[x]) r:=by
 have h:=Bgn acc hg (f:=fu ts+1) (by unfold fu;omega)
 rw [Aj7] at h
 refine Option.some.inj (h.symm.trans (Ah0 (fun _=>rfl) fun _=>Afw (Bxh hg (by unfold fu;omega)) (B5v hg) fun x r hr hn=>Ah0 (fun hc=>?_) fun _=>Ah0 (fun hc=>?_) fun _=>Afw (Ap9 _ _) (Ai9 _ hr) fun _ _ _ _=>rfl))
 ·obtain ⟨g1,g2,_⟩:=hr.tail (Abt hc)
  exact Bgn _ g1 (by unfold fu;omega)
 ·obtain ⟨g1,g2,_⟩:=hr.tail (Abt hc)
  exact Bgn _ g1 (by unfold fu;omega)
theorem Dcs (hg:Good ts):Bb4 ts =
  if isH kLb ts then
   (Am9 0 ts.tail).then fun k r=>(Ajh kRb r).then fun _ r=>(Ajh kEq r).then fun _ r=>(Am9 0 r).then fun v r=>.ok (.mk 14 noB 0 (hd ts).2.2.2 [k,v]) r
  else if (hd ts).1=1∧(hd ts.tail).1=5∧(hd ts.tail).2.1.toList=kEq.toList then
   (Am9 0 ts.tail.tail).then fun v r=>.ok (.mk 14 noB 0 (hd ts).2.2.2 [.mk 5 (hd ts).2.1 0 (hd ts).2.2.2 [],v]) r
  else (Am9 0 ts).then fun v r=>.ok (.mk 13 noB 0 (hd ts).2.2.2 [v]) r:=by
 have h:=Bxh hg (f:=fu ts+1) (by unfold fu;omega)
 rw [Amb] at h
 refine Option.some.inj (h.symm.trans (Ah0 (fun hc=>?_) fun _=>Ah0 (fun hc=>?_) fun _=>Afw (Ara (by omega) hg (by unfold fu;omega)) (Ajm (by omega) hg) fun _ _ _ _=>rfl))
 ·obtain ⟨g1,g2,_⟩:=hg.tail (Abt hc)
  exact Afw (Ara (by omega) g1 (by unfold fu;omega)) (Ajm (by omega) g1) fun _ r hr hn=>Afw (Ap9 _ _) (Ai9 _ hr) fun _ r2 hr2 hn2=>Afw (Ap9 _ _) (Ai9 _ hr2) fun _ r3 hr3 hn3=>Afw (Ara (by omega) hr3 (by unfold fu;omega)) (Ajm (by omega) hr3) fun _ _ _ _=>rfl
 ·obtain ⟨h1,h2,_⟩:=hc
  obtain ⟨g1,g2,_⟩:=hg.tail (by omega)
  obtain ⟨g3,g4,_⟩:=g1.tail (by omega)
  exact Afw (Ara (by omega) g3 (by unfold fu;omega)) (Ajm (by omega) g3) fun _ _ _ _=>rfl
theorem Dc5 (hg:Good ts):Ay4 ts =
  if isH kLp ts then (Am9 0 ts.tail).then fun e r=>(Ajh kRp r).then fun _ r=>A1i (hd ts).2.2.2 (.mk 9 noB 0 (hd ts).2.2.2 [e]) r
  else (As6 6 ts).then fun n r=>A1i (hd ts).2.2.2 n r:=by
 have h:=Bgr hg (f:=fu ts+1) (by unfold fu;omega)
 rw [Ak2] at h
 refine Option.some.inj (h.symm.trans (Ah0 (fun hc=>?_) fun _=>Afw (A7u _ _) (fName _ hg) fun _ r hr hn=>Bbl _ _ hr (by unfold fu;omega)))
 obtain ⟨g1,g2,_⟩:=hg.tail (Abt hc)
 exact Afw (Ara (by omega) g1 (by unfold fu;omega)) (Ajm (by omega) g1) fun _ r hr hn=>Afw (Ap9 _ _) (Ai9 _ hr) fun _ r2 hr2 hn2=>Bbl _ _ hr2 (by unfold fu;omega)
def Bz0 (ts:List Tk):PV (List Tree):=if isH kRp ts then .ok [] ts else Aqj ts
theorem fArgs (hg:Good ts):Fwd 0 ts (Bz0 ts):=Bd2 (fun _=>Bag hg) fun _=>Bd4 (A2n hg) (by omega)
theorem Dc4 (at_:Int) (n:Tree) (hg:Good ts):A1i at_ n ts =
  if isH kLb ts then (Am9 0 ts.tail).then fun e r=>(Ajh kRb r).then fun _ r=>A1i at_ (.mk 7 noB 0 at_ [n,e]) r
  else if isH Cbb ts then (As6 5 ts.tail).then fun e r=>A1i at_ (.mk 7 noB 0 at_ [n,e]) r
  else if isH kLp ts then (Bz0 ts.tail).then fun l r=>(Ajh kRp r).then fun _ r=>A1i at_ (.mk 8 noB 0 at_ (n :: l)) r
  else .ok n ts:=by
 have h:=Bbl at_ n hg (f:=fu ts+1) (by unfold fu;omega)
 rw [Aj9] at h
 refine Option.some.inj (h.symm.trans (Ah0 (fun hc=>?_) fun _=>Ah0 (fun hc=>?_) fun _=>Ah0 (fun hc=>?_) fun _=>rfl))
 ·obtain ⟨g1,g2,_⟩:=hg.tail (Abt hc)
  exact Afw (Ara (by omega) g1 (by unfold fu;omega)) (Ajm (by omega) g1) fun _ r hr hn=>Afw (Ap9 _ _) (Ai9 _ hr) fun _ r2 hr2 hn2=>Bbl _ _ hr2 (by unfold fu;omega)
 ·obtain ⟨g1,g2,_⟩:=hg.tail (Abt hc)
  exact Afw (A7u _ _) (fName _ g1) fun _ r hr hn=>Bbl _ _ hr (by unfold fu;omega)
 ·obtain ⟨g1,g2,_⟩:=hg.tail (Abt hc)
  exact Afw (Ah0 (fun _=>rfl) fun _=>A7t g1 (by unfold fu;omega)) (fArgs g1) fun _ r hr hn=>Afw (Ap9 _ _) (Ai9 _ hr) fun _ r2 hr2 hn2=>Bbl _ _ hr2 (by unfold fu;omega)
theorem Ciw (hg:Good ts):Aqj ts=(Am9 0 ts).then fun e r=>Bb3 [e] r:=by
 have h:=A7t hg (f:=fu ts+1) (by unfold fu;omega)
 rw [Aj5] at h
 exact Option.some.inj (h.symm.trans (Afw (Ara (by omega) hg (by unfold fu;omega)) (Ajm (by omega) hg) fun a r hr hn=>Bxg _ hr (by unfold fu;omega)))
theorem Civ (acc:List Tree) (hg:Good ts):Bb3 acc ts=if isH Amo ts then (Am9 0 ts.tail).then fun e r=>Bb3 (acc++[e]) r else .ok acc ts:=by
 have h:=Bxg acc hg (f:=fu ts+1) (by unfold fu;omega)
 rw [Ald] at h
 refine Option.some.inj (h.symm.trans (Ah0 (fun hc=>?_) fun _=>rfl))
 obtain ⟨g1,g2,_⟩:=hg.tail (Abt hc)
 exact Afw (Ara (by omega) g1 (by unfold fu;omega)) (Ajm (by omega) g1) fun a r hr hn=>Bxg _ hr (by unfold fu;omega)
theorem Dck (c:Bool) (hg:Good ts):Aph c ts=A3x c (hd ts).2.2.2 [] ts:=by
 have h:=A7s c hg (f:=fu ts+1) (by unfold fu;omega)
 rw [Aj4] at h
 exact Option.some.inj (h.symm.trans (Bgm _ _ _ hg (by unfold fu;omega)))
def Bz2 (ts:List Tk):PV (List Tree):=if A4w ts || isH Atl ts then .ok [] ts else Aqj ts
theorem Cqo (hg:Good ts):Fwd 0 ts (Bz2 ts):=Bd2 (fun _=>Bag hg) fun _=>Bd4 (A2n hg) (by omega)
theorem Dcj (c:Bool) (at_:Int) (acc:List Tree) (hg:Good ts):A3x c at_ acc ts =
  if isH Atl ts then A3x c at_ acc ts.tail
  else if isH Cbp ts then (Bz2 ts.tail).then fun l r=>.ok (.mk 20 noB 0 at_ (acc++[.mk 30 noB 0 (hd ts).2.2.2 l])) (if isH Atl r then r.tail else r)
  else if c && isH Bfv ts then (Bb5 ts).then fun x r=>A3x c at_ (acc++[x]) r
  else if A4w ts then .ok (.mk 20 noB 0 at_ acc) ts
  else (Bca ts).then fun x r=>A3x c at_ (acc++[x]) r:=by
 have h:=Bgm c at_ acc hg (f:=fu ts+1) (by unfold fu;omega)
 rw [Ajo] at h
 refine Option.some.inj (h.symm.trans (Ah0 (fun hc=>?_) fun _=>Ah0 (fun hc=>?_) fun _=>Ah0 (fun hc=>?_) fun _=>Ah0 (fun _=>rfl) fun _=>?_))
 ·obtain ⟨g1,g2,_⟩:=hg.tail (Abt hc)
  exact Bgm _ _ _ g1 (by unfold fu;omega)
 ·obtain ⟨g1,g2,_⟩:=hg.tail (Abt hc)
  exact Afw (Ah0 (fun _=>rfl) fun _=>A7t g1 (by unfold fu;omega)) (Cqo g1) fun _ r hr hn=>rfl
 ·simp only [Bool.and_eq_true] at hc
  exact Afw (Bxl (Abt hc.2) hg (by unfold fu;omega)) (B5x (Abt hc.2) hg) fun _ r hr hn=>Bgm _ _ _ hr (by unfold fu;omega)
 ·exact Afw (Bxq hg (by unfold fu;omega)) (B54 hg) fun _ r hr hn=>Bgm _ _ _ hr (by unfold fu;omega)
def Bz1 (ts:List Tk):PV (List Tree):=if isH kRp ts then .ok [] ts else Av3 ts
theorem Cqm (hg:Good ts):Fwd 0 ts (Bz1 ts):=Bd2 (fun _=>Bag hg) fun _=>Bd4 (Bdx hg) (by omega)
theorem Dcv (h6:(hd ts).1≠6) (hg:Good ts):Bb5 ts =
  (As6 6 ts.tail).then fun nm r=>(Ajh kLp r).then fun _ r=>(Bz1 r).then fun ps r=>(Ajh kRp r).then fun _ r=>(Aph false r).then fun b r=>(Ajh Atk r).then fun _ r=>.ok (.mk 31 nm.text ps.length (hd ts).2.2.2 (ps++[b])) r:=by
 have h:=Bxl h6 hg (f:=fu ts+1) (by unfold fu;omega)
 rw [Amx] at h
 obtain ⟨g1,g2,_⟩:=hg.tail h6
 exact Option.some.inj (h.symm.trans (Afw (A7u _ _) (fName _ g1) fun _ r hr hn=>Afw (Ap9 _ _) (Ai9 _ hr) fun _ r2 hr2 hn2=>Afw (Ah0 (fun _=>rfl) fun _=>Cez hr2 (by unfold fu;omega)) (Cqm hr2) fun _ r3 hr3 hn3=>Afw (Ap9 _ _) (Ai9 _ hr3) fun _ r4 hr4 hn4=>Afw (A7s _ hr4 (by unfold fu;omega)) (Ax9 _ hr4) fun _ r5 hr5 hn5=>Afw (Ap9 _ _) (Ai9 _ hr5) fun _ _ _ _=>rfl))
theorem Ciu (hg:Good ts):Axt ts=(Ajh kDo ts).then fun _ r=>(Aph false r).then fun b r=>(Ajh Atk r).then fun _ r=>.ok b r:=by
 have h:=Bbj hg (f:=fu ts+1) (by unfold fu;omega)
 rw [Alc] at h
 exact Option.some.inj (h.symm.trans (Afw (Ap9 _ _) (Ai9 _ hg) fun _ r2 hr2 hn2=>Afw (A7s _ hr2 (by unfold fu;omega)) (Ax9 _ hr2) fun _ r5 hr5 hn5=>Afw (Ap9 _ _) (Ai9 _ hr5) fun _ _ _ _=>rfl))
def Bn5 (ts:List Tk):PV (List Tree):=if isH kEq ts then Aqj ts.tail else .ok [] ts
theorem Cql (hg:Good ts):Fwd 0 ts (Bn5 ts):=Bd2 (fun hc=>Bd4 (B6i hg (Abt hc) (A2n (hg.tail (Abt hc)).1)) (by omega)) fun _=>Bag hg
theorem Dc1 (hg:Good ts):Bca ts =
  if isH kDo ts then (Axt ts).then fun b r=>.ok (.mk 28 noB 0 (hd ts).2.2.2 [b]) r
  else if isH Cbx ts then (Am9 0 ts.tail).then fun e r=>(Axt r).then fun b r=>.ok (.mk 25 noB 0 (hd ts).2.2.2 [e,b]) r
  else if isH kIf ts then (A3y [] ts.tail).then fun l r=>.ok (.mk 24 noB 0 (hd ts).2.2.2 l) r
  else if isH Cbh ts then Bhz (hd ts).2.2.2 ts.tail
  else if isH Cbi ts then (Av3 ts.tail).then fun l r=>(Bn5 r).then fun es r=>.ok (.mk 21 noB l.length (hd ts).2.2.2 (l++es)) r
  else if isH Ca9 ts then .ok (.mk 29 noB 0 (hd ts).2.2.2 []) ts.tail
  else Bh0 ts:=by
 have h:=Bxq hg (f:=fu ts+1) (by unfold fu;omega)
 rw [Alu] at h
 refine Option.some.inj (h.symm.trans (Ah0 (fun hc=>?_) fun _=>Ah0 (fun hc=>?_) fun _=>Ah0 (fun hc=>?_) fun _=>Ah0 (fun hc=>?_) fun _=>Ah0 (fun hc=>?_) fun _=>Ah0 (fun hc=>rfl) fun _=>Ce2 hg (by unfold fu;omega)))
 ·exact Afw (Bbj hg (by unfold fu;omega)) (Bjo hg) fun _ _ _ _=>rfl
 ·obtain ⟨g1,g2,_⟩:=hg.tail (Abt hc)
  exact Afw (Ara (by omega) g1 (by unfold fu;omega)) (Ajm (by omega) g1) fun _ r hr hn=>Afw (Bbj hr (by unfold fu;omega)) (Bjo hr) fun _ _ _ _=>rfl
 ·obtain ⟨g1,g2,_⟩:=hg.tail (Abt hc)
  exact Afw (Bmd _ g1 (by unfold fu;omega)) (B5u _ g1) fun _ _ _ _=>rfl
 ·obtain ⟨g1,g2,_⟩:=hg.tail (Abt hc)
  exact Cey _ g1 (by unfold fu;omega)
 ·obtain ⟨g1,g2,_⟩:=hg.tail (Abt hc)
  refine Afw (Cez g1 (by unfold fu;omega)) (Bdx g1) fun _ r hr hn=>Afw (Ah0 (fun hc=>?_) fun _=>rfl) (Cql hr) fun _ _ _ _=>rfl
  obtain ⟨g3,g4,_⟩:=hr.tail (Abt hc)
  exact A7t g3 (by unfold fu;omega)
theorem Dcp (acc:List Tree) (hg:Good ts):A3y acc ts =
  (Am9 0 ts).then fun e r=>(Ajh Cbu r).then fun _ r=>(Aph false r).then fun b r =>
   if isH Bfu r then A3y (acc++[e]++[b]) r.tail
   else if isH Bfs r then (Aph false r.tail).then fun c r=>(Ajh Atk r).then fun _ r=>.ok (acc++[e]++[b]++[c]) r
   else (Ajh Atk r).then fun _ r=>.ok (acc++[e]++[b]) r:=by
 have h:=Bmd acc hg (f:=fu ts+1) (by unfold fu;omega)
 rw [Al9] at h
 refine Option.some.inj (h.symm.trans (Afw (Ara (by omega) hg (by unfold fu;omega)) (Ajm (by omega) hg) fun _ r hr hn=>Afw (Ap9 _ _) (Ai9 _ hr) fun _ r2 hr2 hn2=>Afw (A7s _ hr2 (by unfold fu;omega)) (Ax9 _ hr2) fun _ r3 hr3 hn3=>Ah0 (fun hc=>?_) fun _=>Ah0 (fun hc=>?_) fun _=>Afw (Ap9 _ _) (Ai9 _ hr3) fun _ _ _ _=>rfl))
 ·obtain ⟨g1,g2,_⟩:=hr3.tail (Abt hc)
  exact Bmd _ g1 (by unfold fu;omega)
 ·obtain ⟨g1,g2,_⟩:=hr3.tail (Abt hc)
  exact Afw (A7s _ g1 (by unfold fu;omega)) (Ax9 _ g1) fun _ r4 hr4 hn4=>Afw (Ap9 _ _) (Ai9 _ hr4) fun _ _ _ _=>rfl
def Bn6 (ts:List Tk):PV (List Tree):=if isH Amo ts then (Am9 0 ts.tail).then fun c r=>.ok [c] r else .ok [] ts
theorem Cqp (hg:Good ts):Fwd 0 ts (Bn6 ts):=Bd2 (fun hc=>Bd4 (B6i hg (Abt hc) (B6j (Ajm (by omega) (hg.tail (Abt hc)).1) fun _ _ hr _=>Bag hr)) (by omega)) fun _=>Bag hg
theorem Dcu (at_:Int) (hg:Good ts):Bhz at_ ts =
  (As6 6 ts).then fun n r =>
   if isH kEq r then
    (Am9 0 r.tail).then fun a r=>(Ajh Amo r).then fun _ r=>(Am9 0 r).then fun b r=>(Bn6 r).then fun cs r=>(Axt r).then fun bd r=>.ok (.mk 26 noB 0 at_ ([n]++[a]++[b]++cs++[bd])) r
   else
    (Axw [n] r).then fun l r=>(Ajh kIn r).then fun _ r=>(Aqj r).then fun es r=>(Axt r).then fun bd r=>.ok (.mk 27 noB l.length at_ (l++es++[bd])) r:=by
 have h:=Cey at_ hg (f:=fu ts+1) (by unfold fu;omega)
 rw [Amw] at h
 refine Option.some.inj (h.symm.trans (Afw (A7u _ _) (fName _ hg) fun n r hr hn=>Ah0 (fun hc=>?_) fun _=>?_))
 ·obtain ⟨g1,g2,_⟩:=hr.tail (Abt hc)
  refine Afw (Ara (by omega) g1 (by unfold fu;omega)) (Ajm (by omega) g1) fun _ r2 hr2 hn2=>Afw (Ap9 _ _) (Ai9 _ hr2) fun _ r3 hr3 hn3=>Afw (Ara (by omega) hr3 (by unfold fu;omega)) (Ajm (by omega) hr3) fun _ r4 hr4 hn4=>Afw (vx:=Bn6 r4) (Ah0 (fun hc=>?_) fun _=>rfl) (Cqp hr4) fun _ r5 hr5 hn5=>Afw (Bbj hr5 (by unfold fu;omega)) (Bjo hr5) fun _ _ _ _=>rfl
  obtain ⟨g3,g4,_⟩:=hr4.tail (Abt hc)
  exact Afw (Ara (by omega) g3 (by unfold fu;omega)) (Ajm (by omega) g3) fun _ _ _ _=>rfl
 ·exact Afw (Bgp _ hr (by unfold fu;omega)) (B51 _ hr) fun _ r2 hr2 hn2=>Afw (Ap9 _ _) (Ai9 _ hr2) fun _ r3 hr3 hn3=>Afw (A7t hr3 (by unfold fu;omega)) (A2n hr3) fun _ r4 hr4 hn4=>Afw (Bbj hr4 (by unfold fu;omega)) (Bjo hr4) fun _ _ _ _=>rfl
theorem Dc0 (hg:Good ts):Bh0 ts =
  (Ay4 ts).then fun e r =>
   if isH kEq r || isH Amo r then (Bcb [] e r).then fun l r=>(Ajh kEq r).then fun _ r=>(Aqj r).then fun es r=>.ok (.mk 22 noB l.length e.at_ (l++es)) r
   else if e.kind=8 then .ok (.mk 23 noB 0 e.at_ [e]) r else .bad (hd r).2.2.2:=by
 have h:=Ce2 hg (f:=fu ts+1) (by unfold fu;omega)
 rw [Amc] at h
 refine Option.some.inj (h.symm.trans (Afw (Bgr hg (by unfold fu;omega)) (Bdy hg) fun e r hr hn=>Ah0 (fun hc=>?_) fun _=>Ah0 (fun _=>rfl) fun _=>rfl))
 exact Afw (Bme _ _ hr (by unfold fu;omega)) (Cqs _ _ hr) fun _ r2 hr2 hn2=>Afw (Ap9 _ _) (Ai9 _ hr2) fun _ r3 hr3 hn3=>Afw (A7t hr3 (by unfold fu;omega)) (A2n hr3) fun _ _ _ _=>rfl
theorem Dc6 (acc:List Tree) (e:Tree) (hg:Good ts):Bcb acc e ts =
  if e.kind=6∨e.kind=7 then
   if isH Amo ts then (Ay4 ts.tail).then fun e' r=>Bcb (acc++[e]) e' r else .ok (acc++[e]) ts
  else .bad e.at_:=by
 have h:=Bme acc e hg (f:=fu ts+1) (by unfold fu;omega)
 rw [Alg] at h
 refine Option.some.inj (h.symm.trans (Ah0 (fun _=>Ah0 (fun hc=>?_) fun _=>rfl) fun _=>rfl))
 obtain ⟨g1,g2,_⟩:=hg.tail (Abt hc)
 exact Afw (Bgr g1 (by unfold fu;omega)) (Bdy g1) fun _ r hr hn=>Bme _ _ hr (by unfold fu;omega)
end
def A3w (ts:List Tk):PV Tree:=(Aph true ts).then fun b r=>if (hd r).1=6 then .ok b r else .bad (hd r).2.2.2
theorem then_assoc {α β γ:Type} (x:PV α) (f:α→List Tk→PV β) (g:β→List Tk→PV γ):(x.then f).then g=x.then fun a r=>(f a r).then g:=by cases x <;> rfl
theorem Cig {α β:Type} {n:Nat} {ts:List Tk} {x:PV α} (hw:Fwd n ts x) {f g:α→List Tk→PV β} (h:∀ a r,Good r→r.length+n≤ts.length→f a r=g a r):x.then f=x.then g:=by
 cases x with
 | bad=>rfl
 | ok a r=>exact h a r hw.1 hw.2.1
theorem then_ok {α β:Type} {x:PV α} {f:α→List Tk→PV β} {b:β} {r:List Tk} (h:x.then f=.ok b r):∃ a s,x=.ok a s∧f a s=.ok b r:=by
 cases x with
 | bad=>cases h
 | ok a s=>exact ⟨a,s,rfl,h⟩
theorem Cdh:∀ (n:Nat) (acc:List Tree) (ts:List Tk),ts.length≤n→Good ts→∀ l r,Axw acc ts=.ok l r→l.length+r.length≤acc.length+ts.length
 | 0,_,[],_,hg,_,_,_=>hg.elim
 | n+1,acc,ts,hn,hg,l,r,h=>by
  rw [Bb7 acc hg] at h
  split at h
  ·rename_i hc
   obtain ⟨g1,g2,_⟩:=hg.tail (Abt hc)
   obtain ⟨a,s,h1,h2⟩:=then_ok h
   have hf:=fName 6 g1
   rw [h1] at hf
   have:=Cdh n (acc++[a]) s (by have:=hf.2.1;omega) hf.1 l r h2
   have:=hf.2.1
   simp only [List.length_append,List.length_cons,List.length_nil] at *
   omega
  ·cases h;omega
theorem Bvj {ts:List Tk} (hg:Good ts) {l:List Tree} {r:List Tk} (h:Av3 ts=.ok l r):l.length+r.length≤ts.length:=by
 obtain ⟨a,s,h1,h2⟩:=then_ok h
 have hf:=fName 6 hg
 rw [h1] at hf
 have:=Cdh _ [a] s (Nat.le_refl _) hf.1 l r h2
 have:=hf.2.1
 simp only [List.length_cons,List.length_nil] at *
 omega
theorem Cdd:∀ (n:Nat) (acc:List Tree) (ts:List Tk),ts.length≤n→Good ts→∀ l r,Bb3 acc ts=.ok l r→l.length+r.length≤acc.length+ts.length
 | 0,_,[],_,hg,_,_,_=>hg.elim
 | n+1,acc,ts,hn,hg,l,r,h=>by
  rw [Civ acc hg] at h
  split at h
  ·rename_i hc
   obtain ⟨g1,g2,_⟩:=hg.tail (Abt hc)
   obtain ⟨a,s,h1,h2⟩:=then_ok h
   have hf:=Ajm (least:=0) (by omega) g1
   rw [h1] at hf
   have:=Cdd n (acc++[a]) s (by have:=hf.2.1;omega) hf.1 l r h2
   have:=hf.2.1
   simp only [List.length_append,List.length_cons,List.length_nil] at *
   omega
  ·cases h;omega
theorem Blr {ts:List Tk} (hg:Good ts) {l:List Tree} {r:List Tk} (h:Aqj ts=.ok l r):l.length+r.length≤ts.length:=by
 rw [Ciw hg] at h
 obtain ⟨a,s,h1,h2⟩:=then_ok h
 have hf:=Ajm (least:=0) (by omega) hg
 rw [h1] at hf
 have:=Cdd _ [a] s (Nat.le_refl _) hf.1 l r h2
 have:=hf.2.1
 simp only [List.length_cons,List.length_nil] at *
 omega
def ix (l ts:List Tk):Int:=(l.length:Int) - (ts.length:Int)
theorem wrapM (x:Int) (h1:-9223372036854775808≤x) (h2:x≤9223372036854775807):IntKind.i64.wrap x=x:=by
 unfold IntKind.wrap;simp [IntKind.bits,IntKind.signed];omega
section
variable {l ts:List Tk}
theorem Cok (hs:ts <:+ l):l.drop (l.length - ts.length)=ts:=by
 obtain ⟨p,rfl⟩:=hs
 simp
theorem Bt9 (hg:Good ts) (hs:ts <:+ l):Acz l (ix l ts)=some (hd ts):=by
 have hle:=hs.length_le
 unfold Acz ix
 rw [if_pos (by omega),show ((l.length:Int) - (ts.length:Int)).toNat=l.length - ts.length by omega]
 have:=Cok hs
 rw [← List.head?_drop,this]
 cases ts with
 | nil=>exact hg.elim
 | cons t ts=>rfl
theorem Az6 (hl:l.length≤1000000) (hg:Good ts) (hs:ts <:+ l) (h6:(hd ts).1≠6):IntKind.i64.wrap (ix l ts+1)=ix l ts.tail:=by
 obtain ⟨_,g2,_⟩:=hg.tail h6
 have hle:=hs.length_le
 unfold ix
 rw [wrapM _ (by omega) (by omega)]
 omega
def conv {α β:Type} (l:List Tk) (e:α→Int→β):PV α→PR β
 | .ok a r=>.ok (e a (ix l r))
 | .bad i=>.bad i
def eT (n:Tree) (i:Int):Int×ByteArray×Int×Int×List Tree×Int:=(n.kind,n.text,n.n,n.at_,n.kids,i)
def eL (n:List Tree) (i:Int):List Tree×Int:=(n,i)
def eU (_:Unit) (i:Int):Int:=i
theorem Ak3 (n:Tree):Tree.mk n.kind n.text n.n n.at_ n.kids=n:=by cases n;rfl
theorem Agp {α β α' β':Type} {e:α→Int→α'} {e':β→Int→β'} {x:PV α} {F:α'→Option (PR β')} {g:α→List Tk→PV β} {n:Nat} (hw:Fwd n ts x) (h:∀ a r,Good r→r <:+ ts→r.length+n≤ts.length→F (e a (ix l r))=some (conv l e' (g a r))) :
  PR.bind (some (conv l e x)) F=some (conv l e' (x.then g)):=by
 cases x with
 | bad i=>rfl
 | ok a r=>exact h a r hw.1 hw.2.2 hw.2.1
theorem Ali {β β':Type} {e':β→Int→β'} {c:Prop} [Decidable c] {b:Bool} {x y:Option (PR β')} {x' y':PV β} (hb:b=decide c) (h1:c→x=some (conv l e' x')) (h2:¬ c→y=some (conv l e' y')):cond b x y=some (conv l e' (if c then x' else y')):=by
 subst hb
 by_cases h:c
 ·rw [if_pos h,decide_eq_true h];exact h1 h
 ·rw [if_neg h,decide_eq_false h];exact h2 h
theorem Bi3 (a b:Int):(a == b)=decide (a=b):=by
 by_cases h:a=b
 ·rw [decide_eq_true h,beq_iff_eq];exact h
 ·rw [decide_eq_false h,beq_eq_false_iff_ne];exact h
theorem Anj (b:Bool):b=decide (b=true):=by cases b <;> rfl
variable (k:Nat) (hl:l.length≤1000000) (hg:Good ts) (hs:ts <:+ l)
include hg hs
theorem Aus:Ai4.f k l (ix l ts)=some (hd ts):=by
 unfold Ai4.f
 rw [Bt9 hg hs]
 rfl
theorem Az5 (w:ByteArray):Ajq.f k l (ix l ts) w=some (isH w ts):=by
 unfold Ajq.f
 rw [Aus k hg hs]
 simp only [Option.bind_some,isH,isT]
 cases (hd ts).1 == (2:Int) <;> cases (hd ts).1 == (5:Int) <;> rfl
include hl
theorem got_eq (w:ByteArray):Afl.f k l (ix l ts) w=some (isH w ts,ix l (if isH w ts then ts.tail else ts)):=by
 unfold Afl.f
 rw [Az5 k hg hs]
 simp only [Option.bind_some]
 cases h:isH w ts with
 | true=>simp only [cond_true,if_true,Az6 hl hg hs (Abt h)]
 | false=>rfl
theorem Api (w:ByteArray):Agc.f k l (ix l ts) w=some (conv l eU (Ajh w ts)):=by
 unfold Agc.f Ajh
 rw [got_eq k hl hg hs]
 simp only [Option.bind_some]
 cases h:isH w ts with
 | true=>rfl
 | false =>
  simp only [Bool.not_false,cond_true,Bool.false_eq_true,if_false]
  rw [Aus k hg hs]
  rfl
theorem name_eq:Aox.f k l (ix l ts)=some (conv l eT (As6 6 ts)):=by
 unfold Aox.f As6
 rw [Aus k hg hs]
 simp only [Option.bind_some,Adg]
 by_cases h:(hd ts).1=1
 ·rw [if_pos h,h,Az6 hl hg hs (by omega)]
  rfl
 ·rw [if_neg h,show ((hd ts).1 != 1)=true by rw [bne_iff_ne];exact h]
  rfl
omit hl
theorem B5b:A0j.f k l (ix l ts)=some (A4w ts):=by
 unfold A0j.f A4w
 simp only [Aus k hg hs,Az5 k hg hs,Option.bind_some,Atk,Bfs,Bfu]
 generalize ((hd ts).1 == (6:Int))=b1
 generalize isH (⟨#[101,110,100]⟩:ByteArray) ts=b2
 generalize isH (⟨#[101,108,115,101]⟩:ByteArray) ts=b3
 generalize isH (⟨#[101,108,115,101,105,102]⟩:ByteArray) ts=b4
 cases b1 <;> cases b2 <;> cases b3 <;> cases b4 <;> rfl
end
theorem Cmv (k:Nat) (ts:List Tk):A7w.f k (hd ts).1 (hd ts).2.1 (hd ts).2.2.1 (hd ts).2.2.2=some (Akv ts):=by
 unfold A7w.f Akv isH isT
 simp only [Adg,kOr,Ca7,kLt,kGt,kLe,kGe,kNe,Cbc,Cba,Cbo,A6u,Cbt,Cbq,Cbm]
 generalize (hd ts).1=kd
 generalize (hd ts).2.1.toList=tx
 have hsw:(cond (kd != (5:Int)) (some (kd != (2:Int))) (some false):Option Bool)=some (!(kd == 2 || kd == 5)):=by
  rw [bne,bne]
  cases kd == (5:Int) <;> cases kd == (2:Int) <;> rfl
 rw [hsw]
 simp only [Option.bind_some]
 cases (kd == 2 || kd == 5) with
 | false=>simp
 | true =>
  simp only [Bool.not_true,cond_false,Bool.true_and]
  generalize (tx == (⟨#[111,114]⟩:ByteArray).toList)=b
  cases b with
  | true=>rfl
  | false =>
  generalize (tx == (⟨#[97,110,100]⟩:ByteArray).toList)=b
  cases b with
  | true=>rfl
  | false =>
  generalize (tx == (⟨#[60]⟩:ByteArray).toList)=b1
  generalize (tx == (⟨#[62]⟩:ByteArray).toList)=b2
  generalize (tx == (⟨#[60,61]⟩:ByteArray).toList)=b3
  generalize (tx == (⟨#[62,61]⟩:ByteArray).toList)=b4
  generalize (tx == (⟨#[126,61]⟩:ByteArray).toList)=b5
  generalize (tx == (⟨#[61,61]⟩:ByteArray).toList)=b6
  generalize (tx == (⟨#[46,46]⟩:ByteArray).toList)=b7
  generalize (tx == (⟨#[43]⟩:ByteArray).toList)=b8
  generalize (tx == (⟨#[45]⟩:ByteArray).toList)=b9
  generalize (tx == (⟨#[42]⟩:ByteArray).toList)=c1
  generalize (tx == (⟨#[47,47]⟩:ByteArray).toList)=c2
  generalize (tx == (⟨#[37]⟩:ByteArray).toList)=c3
  cases b1 with
  | true=>rfl
  | false =>
  cases b2 with
  | true=>rfl
  | false =>
  cases b3 with
  | true=>rfl
  | false =>
  cases b4 with
  | true=>rfl
  | false =>
  cases b5 with
  | true=>rfl
  | false =>
  cases b6 with
  | true=>rfl
  | false =>
  cases b7 with
  | true=>rfl
  | false =>
  cases b8 <;> cases b9 <;> cases c1 <;> cases c2 <;> cases c3 <;> rfl
section
variable {l:List Tk}
theorem C3w (a b:List UInt8):(a == b)=decide (a=b):=by
 by_cases h:a=b
 ·rw [decide_eq_true h,beq_iff_eq];exact h
 ·rw [decide_eq_false h,beq_eq_false_iff_ne];exact h
theorem Dc2 {ts:List Tk}:As6 5 ts=(As6 6 ts).then fun n r=>.ok (.mk 5 n.text n.n n.at_ n.kids) r:=by
 unfold As6
 split <;> rfl
theorem Anb {α:Type} {b:Nat} {xs ys:List α} (h:(xs.length+ys.length) * b≤140737488355328):apd b xs ys=some (xs++ys):=by
 unfold apd
 rw [decide_eq_true h]
 rfl
variable (hl:l.length≤1000000)
include hl
theorem Cdu (J:List Tree→Int→Option (PR (List Tree×Int))) (hJ:∀ a i,J a i=some (.ok (a,i))):∀ (m:Nat) (acc:List Tree) (ts:List Tk),Good ts→ts <:+ l→ts.length < m→acc.length+ts.length≤1000000 →
  Aps.l0 m l J acc (ix l ts)=some (conv l eL (Axw acc ts))
 | 0,_,_,_,_,h,_=>by omega
 | m+1,acc,ts,hg,hs,hm,ha=>by
  rw [Aps.l0,got_eq m hl hg hs,Bb7 acc hg]
  simp only [Option.bind_some]
  refine Ali (Anj _) (fun hc=>?_) fun hc=>?_
  ·simp only [hc,if_true]
   obtain ⟨g1,g2,g3⟩:=hg.tail (Abt hc)
   rw [name_eq m hl g1 (g3.trans hs)]
   refine Agp (fName 6 g1) fun n r hr hrs hn=>?_
   simp only [eT,Ak3]
   rw [Anb (by simp only [List.length_cons,List.length_nil];omega)]
   simp only [Option.bind_some]
   exact Cdu J hJ m _ r hr (hrs.trans (g3.trans hs)) (by omega) (by simp only [List.length_append,List.length_cons,List.length_nil];omega)
  ·simp only [if_neg hc,hJ]
   rfl
theorem Bvu (k:Nat) {ts:List Tk} (hg:Good ts) (hs:ts <:+ l) (hk:ts.length≤k):Aps.f k l (ix l ts)=some (conv l eL (Av3 ts)):=by
 unfold Aps.f Av3
 rw [name_eq k hl hg hs]
 refine Agp (fName 6 hg) fun n r hr hrs hn=>?_
 simp only [Adg,eT,Ak3]
 have:=hrs.length_le
 have:=hs.length_le
 exact Cdu hl _ (fun _ _=>rfl) k _ r hr (hrs.trans hs) (by omega) (by simp only [List.length_cons,List.length_nil];omega)
end
structure AE (l:List Tk) (k:Nat):Prop where
 exp:∀ least ts,0≤least→Good ts→ts <:+ l→16 * ts.length+5≤k→(PE.at k).Af6 l (ix l ts) least=some (conv l eT (Am9 least ts))
 operand:∀ ts,Good ts→ts <:+ l→16 * ts.length+4≤k→(PE.at k).Arp l (ix l ts)=some (conv l eT (Bb8 ts))
 Akh:∀ ts,Good ts→ts <:+ l→16 * ts.length+3≤k→(PE.at k).Aig l (ix l ts)=some (conv l eT (Ay4 ts))
 fields:∀ ts,Good ts→ts <:+ l→16 * ts.length+7≤k→(PE.at k).Amh l (ix l ts)=some (conv l eL (Ay3 [] ts))
 field:∀ ts,Good ts→ts <:+ l→16 * ts.length+6≤k→(PE.at k).Ari l (ix l ts)=some (conv l eT (Bb4 ts))
 Ag7:∀ ts,Good ts→ts <:+ l→16 * ts.length+6≤k→(PE.at k).Ah1 l (ix l ts)=some (conv l eL (Aqj ts))
section
variable {l:List Tk} (hl:l.length≤1000000) {k:Nat} (ih:AE l k)
include hl ih
theorem Cdm (least:Int) (h0:0≤least) (r2:Int×ByteArray×Int×Int×List Tree×Int):∀ (m:Nat) (n:Tree) (ts:List Tk),n.at_=r2.2.2.2.1→Good ts→ts <:+ l→ts.length < m→16 * ts.length≤k →
  Af6.l0 m (PE.at k) l least r2 n.kind n.text n.n n.kids (ix l ts)=some (conv l eT (Bb6 least n ts))
 | 0,_,_,_,_,_,h,_=>by omega
 | m+1,n,ts,hn,hg,hs,hm,hk=>by
  rw [Af6.l0,Aus m hg hs,Dcw n h0 hg]
  simp only [Option.bind_some,Cmv]
  refine Ali rfl (fun hc=>?_) fun hc=>?_
  ·rw [← hn];rfl
  ·obtain ⟨g1,g2,g3⟩:=hg.tail (A9s (by omega))
   have hb:=B3z ts
   simp only [Adg]
   rw [Az6 hl hg hs (A9s (by omega)),wrapM (Akv ts - 1) (by omega) (by omega)]
   have hq:(0:Int)≤(if Akv ts=4 then 3 else Akv ts):=by split <;> omega
   have key:∀ q:Int,q=(if Akv ts=4 then 3 else Akv ts)→PR.bind ((PE.at k).Af6 l (ix l ts.tail) q) (fun r25=>Af6.l0 m (PE.at k) l least r2 (11:Int) (hd ts).2.1 (0:Int) ([(Tree.mk n.kind n.text n.n r2.2.2.2.1 n.kids),(Tree.mk r25.1 r25.2.1 r25.2.2.1 r25.2.2.2.1 r25.2.2.2.2.1)]) r25.2.2.2.2.2)=some (conv l eT ((Am9 (if Akv ts=4 then 3 else Akv ts) ts.tail).then fun m r=>Bb6 least (.mk 11 (hd ts).2.1 0 n.at_ [n,m]) r)):=by
    intro q hqe
    subst hqe
    rw [ih.exp _ _ hq g1 (g3.trans hs) (by omega)]
    refine Agp (Ajm hq g1) fun x r hr hrs hrn=>?_
    simp only [eT,Ak3]
    rw [← hn,Ak3]
    exact Cdm least h0 r2 m (.mk 11 (hd ts).2.1 0 n.at_ [n,x]) r hn hr (hrs.trans (g3.trans hs)) (by omega) (by omega)
   by_cases h4:Akv ts=4
   ·rw [show (Akv ts == (4:Int))=true by rw [beq_iff_eq];exact h4]
    exact key _ (by rw [if_pos h4,h4];rfl)
   ·rw [show (Akv ts == (4:Int))=false by rw [beq_eq_false_iff_ne];exact h4]
    exact key _ (by rw [if_neg h4])
theorem exp_eq (least:Int) (h0:0≤least) {ts:List Tk} (hg:Good ts) (hs:ts <:+ l) (hk:16 * ts.length+4≤k):Af6.g (PE.at k) k l (ix l ts) least=some (conv l eT (Am9 least ts)):=by
 unfold Af6.g
 rw [ih.operand ts hg hs hk,Dcr h0 hg]
 refine Agp (B53 hg) fun n r hr hrs hn=>?_
 exact Cdm hl ih least h0 (eT n (ix l r)) k n r rfl hr (hrs.trans hs) (by omega) (by omega)
theorem operand_eq {ts:List Tk} (hg:Good ts) (hs:ts <:+ l) (hk:16 * ts.length+3≤k):Arp.g (PE.at k) k l (ix l ts)=some (conv l eT (Bb8 ts)):=by
 unfold Arp.g
 rw [Aus k hg hs,Dcz hg]
 simp only [Option.bind_some,Adg,Az5 k hg hs,got_eq k hl hg hs]
 refine Ali (Bi3 _ _) (fun hc=>?_) fun h3=>?_
 ·rw [Az6 hl hg hs (by omega)];rfl
 refine Ali (Bi3 _ _) (fun hc=>?_) fun h4=>?_
 ·rw [Az6 hl hg hs (by omega)];rfl
 refine Ali (Anj _) (fun hc=>?_) fun h5=>?_
 ·rw [Az6 hl hg hs (Abt hc)];rfl
 refine Ali (Anj _) (fun hc=>?_) fun h6=>?_
 ·rw [Az6 hl hg hs (Abt hc)];rfl
 refine Ali (Anj _) (fun hc=>?_) fun h7=>?_
 ·rw [Az6 hl hg hs (Abt hc)];rfl
 have hun:∀ (h8:(isH Bfy ts || isH Bfw ts || isH A6u ts)=true),PR.bind ((PE.at k).Af6 l (ix l ts.tail) (7:Int)) (fun r21=>some (PR.ok ((10:Int),(hd ts).2.1,(0:Int),(hd ts).2.2.2,[(Tree.mk r21.1 r21.2.1 r21.2.2.1 r21.2.2.2.1 r21.2.2.2.2.1)],r21.2.2.2.2.2)))=some (conv l eT ((Am9 7 ts.tail).then fun m r=>.ok (.mk 10 (hd ts).2.1 0 (hd ts).2.2.2 [m]) r)):=fun h8=>by
  obtain ⟨g1,g2,g3⟩:=hg.tail (or3 rfl rfl rfl h8)
  rw [ih.exp 7 _ (by omega) g1 (g3.trans hs) (by omega)]
  refine Agp (Ajm (by omega) g1) fun x r hr hrs hn=>?_
  simp only [eT,Ak3]
  rfl
 cases hA:isH Bfy ts with
 | true =>
  have h8:(isH Bfy ts || isH Bfw ts || isH A6u ts)=true:=by rw [hA];rfl
  rw [hA] at h8
  simp only [cond_true,if_true,h8]
  exact hun (by rw [hA];rfl)
 | false =>
 simp only [Bool.false_eq_true,if_false,cond_false,Bool.false_or,got_eq k hl hg hs,Option.bind_some]
 cases hB:isH Bfw ts with
 | true =>
  simp only [cond_true,if_true,Bool.true_or]
  exact hun (by rw [hB];simp)
 | false =>
 simp only [Bool.false_eq_true,if_false,cond_false,Bool.false_or,got_eq k hl hg hs,Option.bind_some]
 cases hC:isH A6u ts with
 | true =>
  simp only [cond_true,if_true]
  exact hun (by rw [hC];simp)
 | false =>
 simp only [Bool.false_eq_true,if_false,cond_false,got_eq k hl hg hs,Option.bind_some]
 refine Ali (Anj _) (fun hc=>?_) fun h9=>?_
 ·simp only [hc,if_true]
  obtain ⟨g1,g2,g3⟩:=hg.tail (Abt hc)
  rw [ih.fields _ g1 (g3.trans hs) (by omega)]
  refine Agp (B5w _ g1) fun x r hr hrs hn=>?_
  rfl
 ·simp only [if_neg h9]
  rw [ih.Akh _ hg hs (by omega)]
  have:=Agp (e':=eT) (F:=fun r38:Int×ByteArray×Int×Int×List Tree×Int=>some (PR.ok (r38.1,r38.2.1,r38.2.2.1,r38.2.2.2.1,r38.2.2.2.2.1,r38.2.2.2.2.2))) (g:=fun n r=>.ok n r) (l:=l) (Bdy hg) (e:=eT) (fun n r _ _ _=>rfl)
  rw [this]
  cases Ay4 ts <;> rfl
theorem B5s (J:List Tree→Int→Option (PR (List Tree×Int))) (hJ:∀ a i,J a i=some (.ok (a,i))):∀ (m:Nat) (acc:List Tree) (ts:List Tk),Good ts→ts <:+ l→ts.length < m→acc.length+ts.length≤1000000→16 * ts.length≤k →
  Ah1.l0 m (PE.at k) l J acc (ix l ts)=some (conv l eL (Bb3 acc ts))
 | 0,_,_,_,_,h,_,_=>by omega
 | m+1,acc,ts,hg,hs,hm,ha,hk=>by
  rw [Ah1.l0,got_eq m hl hg hs,Civ acc hg]
  simp only [Option.bind_some]
  refine Ali (Anj _) (fun hc=>?_) fun hc=>?_
  ·simp only [hc,if_true]
   obtain ⟨g1,g2,g3⟩:=hg.tail (Abt hc)
   rw [ih.exp 0 _ (by omega) g1 (g3.trans hs) (by omega)]
   refine Agp (Ajm (by omega) g1) fun n r hr hrs hn=>?_
   simp only [eT,Ak3]
   rw [Anb (by simp only [List.length_cons,List.length_nil];omega)]
   simp only [Option.bind_some]
   exact B5s J hJ m _ r hr (hrs.trans (g3.trans hs)) (by omega) (by simp only [List.length_append,List.length_cons,List.length_nil];omega) (by omega)
  ·simp only [if_neg hc,hJ]
   rfl
theorem B5t {ts:List Tk} (hg:Good ts) (hs:ts <:+ l) (hk:16 * ts.length+5≤k):Ah1.g (PE.at k) k l (ix l ts)=some (conv l eL (Aqj ts)):=by
 unfold Ah1.g
 rw [ih.exp 0 ts (by omega) hg hs hk,Ciw hg]
 refine Agp (Ajm (by omega) hg) fun n r hr hrs hn=>?_
 simp only [Adg,eT,Ak3]
 have:=hs.length_le
 exact B5s hl ih _ (fun _ _=>rfl) k _ r hr (hrs.trans hs) (by omega) (by simp only [List.length_cons,List.length_nil];omega) (by omega)
theorem B6c (J:List Tree→Int→Option (PR (List Tree×Int))) (hJ:∀ a r,Good r→r <:+ l→J a (ix l r)=some (conv l eL ((Ajh kRc r).then fun _ r=>.ok a r))):∀ (m:Nat) (acc:List Tree) (ts:List Tk),Good ts→ts <:+ l→ts.length < m→acc.length+ts.length≤1000000→16 * ts.length+6≤k →
  Amh.l0 m (PE.at k) l J acc (ix l ts)=some (conv l eL (Ay3 acc ts))
 | 0,_,_,_,_,h,_,_=>by omega
 | m+1,acc,ts,hg,hs,hm,ha,hk=>by
  rw [Amh.l0,Az5 m hg hs,Dct acc hg]
  simp only [Option.bind_some]
  by_cases hR:isH kRc ts=true
  ·rw [if_pos hR,show isH (⟨#[125]⟩:ByteArray) ts=true from hR]
   simp only [Bool.not_true,cond_false]
   rw [hJ acc ts hg hs]
   unfold Ajh
   rw [if_pos hR]
   rfl
  ·rw [if_neg hR,show isH (⟨#[125]⟩:ByteArray) ts=false from by simpa using hR]
   simp only [Bool.not_false,cond_true]
   rw [ih.field ts hg hs hk]
   refine Agp (B5v hg) fun x r hr hrs hn=>?_
   simp only [eT,Ak3]
   rw [Anb (by simp only [List.length_cons,List.length_nil];omega)]
   have hrl:=hrs.trans hs
   simp only [Option.bind_some,Adg,got_eq m hl hr hrl]
   have more:∀ {w:ByteArray},isH w r=true→Amh.l0 m (PE.at k) l J (acc++[x]) (ix l r.tail)=some (conv l eL (Ay3 (acc++[x]) r.tail)):=fun hc=>by
    obtain ⟨g1,g2,g3⟩:=hr.tail (Abt hc)
    exact B6c J hJ m _ _ g1 (g3.trans hrl) (by omega) (by simp only [List.length_append,List.length_cons,List.length_nil];omega) (by omega)
   by_cases hc:isH Amo r=true
   ·rw [if_pos hc,show isH (⟨#[44]⟩:ByteArray) r=true from hc]
    simp only [Bool.not_true,cond_false,if_true]
    exact more hc
   ·rw [if_neg hc,show isH (⟨#[44]⟩:ByteArray) r=false from by simpa using hc]
    simp only [Bool.not_false,cond_true,Bool.false_eq_true,if_false,got_eq m hl hr hrl,Option.bind_some]
    by_cases hd:isH Atl r=true
    ·rw [if_pos hd,show isH (⟨#[59]⟩:ByteArray) r=true from hd]
     simp only [Bool.not_true,cond_false,if_true]
     exact more hd
    ·rw [if_neg hd,show isH (⟨#[59]⟩:ByteArray) r=false from by simpa using hd]
     simp only [Bool.not_false,cond_true,Bool.false_eq_true,if_false]
     exact hJ _ _ hr hrl
theorem fields_eq {ts:List Tk} (hg:Good ts) (hs:ts <:+ l) (hk:16 * ts.length+6≤k):Amh.g (PE.at k) k l (ix l ts)=some (conv l eL (Ay3 [] ts)):=by
 unfold Amh.g
 simp only [Adg]
 have:=hs.length_le
 refine B6c hl ih _ (fun a r hr hrs=>?_) k [] ts hg hs (by omega) (by simp only [List.length_nil];omega) hk
 rw [Api k hl hr hrs]
 exact Agp (Ai9 _ hr) fun _ r2 hr2 _ _=>rfl
theorem Cqx {ts:List Tk} (hg:Good ts) (hs:ts <:+ l) (hk:16 * ts.length+5≤k):Ari.g (PE.at k) k l (ix l ts)=some (conv l eT (Bb4 ts)):=by
 unfold Ari.g
 rw [Aus k hg hs,Dcs hg]
 simp only [Option.bind_some,Adg,got_eq k hl hg hs]
 refine Ali (Anj _) (fun hc=>?_) fun h1=>?_
 ·simp only [hc,if_true]
  obtain ⟨g1,g2,g3⟩:=hg.tail (Abt hc)
  rw [ih.exp 0 _ (by omega) g1 (g3.trans hs) (by omega)]
  refine Agp (Ajm (by omega) g1) fun x r hr hrs hn=>?_
  simp only [eT,Ak3]
  have h1:=hrs.trans (g3.trans hs)
  rw [Api k hl hr h1]
  refine Agp (Ai9 _ hr) fun _ r2 hr2 Ar8 hn2=>?_
  simp only [eU]
  rw [Api k hl hr2 (Ar8.trans h1)]
  refine Agp (Ai9 _ hr2) fun _ r3 hr3 Aw4 hn3=>?_
  simp only [eU]
  rw [ih.exp 0 _ (by omega) hr3 (Aw4.trans (Ar8.trans h1)) (by omega)]
  refine Agp (Ajm (by omega) hr3) fun y r4 hr4 Bki hn4=>?_
  simp only [eT,Ak3]
  rw [Anb (by simp)]
  rfl
 simp only [if_neg h1]
 have hq:((cond ((hd ts).1 == (1:Int)) ((Acz l (IntKind.i64.wrap (ix l ts+(1:Int)))).bind fun x57=>cond (x57.1 == (5:Int)) ((Acz l (IntKind.i64.wrap (ix l ts+(1:Int)))).bind fun x65=>some (x65.2.1.toList == (⟨#[61]⟩:ByteArray).toList)) (some false)) (some false)):Option Bool)=some (decide ((hd ts).1=1∧(hd ts.tail).1=5∧(hd ts.tail).2.1.toList=kEq.toList)):=by
  by_cases h:(hd ts).1=1
  ·obtain ⟨g1,g2,g3⟩:=hg.tail (by omega)
   rw [Az6 hl hg hs (by omega),Bt9 g1 (g3.trans hs),h]
   simp only [beq_self_eq_true,cond_true,Option.bind_some,true_and]
   by_cases h5:(hd ts.tail).1=5
   ·rw [h5]
    simp only [beq_self_eq_true,cond_true,true_and]
    exact congrArg some (C3w _ _)
   ·rw [show ((hd ts.tail).1 == (5:Int))=false by rw [beq_eq_false_iff_ne];exact h5]
    simp [h5]
  ·rw [show ((hd ts).1 == (1:Int))=false by rw [beq_eq_false_iff_ne];exact h]
   simp [h]
 rw [hq]
 simp only [Option.bind_some]
 refine Ali rfl (fun hc=>?_) fun h2=>?_
 ·obtain ⟨h1,h5,he⟩:=hc
  obtain ⟨g1,g2,g3⟩:=hg.tail (by omega)
  obtain ⟨g4,g5,g6⟩:=g1.tail (by omega)
  rw [name_eq k hl hg hs]
  unfold As6
  rw [if_pos h1]
  simp only [conv,PR.bind,eT,Tree.kind,Tree.text,Tree.n,Tree.at_,Tree.kids]
  have hE:isH kEq ts.tail=true:=by unfold isH isT;rw [h5,he];simp
  rw [Api k hl g1 (g3.trans hs)]
  unfold Ajh
  rw [if_pos hE]
  simp only [conv,eU]
  rw [ih.exp 0 _ (by omega) g4 (g6.trans (g3.trans hs)) (by omega)]
  have:=Agp (l:=l) (e:=eT) (e':=eT) (x:=Am9 0 ts.tail.tail) (F:=fun r13=>(apd 64 [Tree.mk 5 (hd ts).2.1 0 (hd ts).2.2.2 []] [(Tree.mk r13.1 r13.2.1 r13.2.2.1 r13.2.2.2.1 r13.2.2.2.2.1)]).bind fun l22=>some (PR.ok ((14:Int),(⟨#[]⟩:ByteArray),(0:Int),(hd ts).2.2.2,l22,r13.2.2.2.2.2))) (g:=fun v r=>.ok (.mk 14 noB 0 (hd ts).2.2.2 [.mk 5 (hd ts).2.1 0 (hd ts).2.2.2 [],v]) r) (Ajm (by omega) g4) (fun y r4 hr4 Bki hn4=>by
   simp only [eT,Ak3]
   rw [Anb (by simp)]
   rfl)
  exact this
 ·rw [ih.exp 0 _ (by omega) hg hs (by omega)]
  refine Agp (Ajm (by omega) hg) fun y r4 hr4 Bki hn4=>?_
  simp only [eT,Ak3]
  rw [Anb (by simp)]
  rfl
theorem Bhv (r2:Tk):∀ (m:Nat) (n:Tree) (ts:List Tk),Good ts→ts <:+ l→ts.length < m→16 * ts.length≤k →
  Aig.l0 m (PE.at k) l r2 n.kind n.text n.n n.at_ n.kids (ix l ts)=some (conv l eT (A1i r2.2.2.2 n ts))
 | 0,_,_,_,_,h,_=>by omega
 | m+1,n,ts,hg,hs,hm,hk=>by
  rw [Aig.l0,got_eq m hl hg hs,Dc4 _ n hg]
  simp only [Option.bind_some,Ak3]
  refine Ali (Anj _) (fun hc=>?_) fun h1=>?_
  ·simp only [hc,if_true]
   obtain ⟨g1,g2,g3⟩:=hg.tail (Abt hc)
   rw [ih.exp 0 _ (by omega) g1 (g3.trans hs) (by omega)]
   refine Agp (Ajm (by omega) g1) fun x r hr hrs hn=>?_
   simp only [eT,Ak3]
   have hrl:=hrs.trans (g3.trans hs)
   rw [Api m hl hr hrl]
   refine Agp (Ai9 _ hr) fun _ r2' hr2 Ar8 hn2=>?_
   exact Bhv r2 m (.mk 7 noB 0 r2.2.2.2 [n,x]) r2' hr2 (Ar8.trans hrl) (by omega) (by omega)
  simp only [if_neg h1,got_eq m hl hg hs,Option.bind_some]
  refine Ali (Anj _) (fun hc=>?_) fun h2=>?_
  ·simp only [hc,if_true]
   obtain ⟨g1,g2,g3⟩:=hg.tail (Abt hc)
   rw [name_eq m hl g1 (g3.trans hs),Dc2,then_assoc]
   refine Agp (fName 6 g1) fun x r hr hrs hn=>?_
   exact Bhv r2 m (.mk 7 noB 0 r2.2.2.2 [n,.mk 5 x.text x.n x.at_ x.kids]) r hr (hrs.trans (g3.trans hs)) (by omega) (by omega)
  simp only [if_neg h2,got_eq m hl hg hs,Option.bind_some]
  refine Ali (Anj _) (fun hc=>?_) fun h3=>?_
  ·simp only [hc,if_true]
   obtain ⟨g1,g2,g3⟩:=hg.tail (Abt hc)
   have gs:=g3.trans hs
   have hlen:=hs.length_le
   simp only [Adg,Az5 m g1 gs,Option.bind_some]
   unfold Bz0
   have tl:∀ (xs:List Tree) (r:List Tk),Good r→r <:+ l→r.length≤ts.tail.length→PR.bind (Agc.f m l (ix l r) (⟨#[41]⟩:ByteArray)) (fun r63=>Aig.l0 m (PE.at k) l r2 (8:Int) (⟨#[]⟩:ByteArray) (0:Int) r2.2.2.2 (n :: xs) r63)=some (conv l eT ((Ajh kRp r).then fun _ r=>A1i r2.2.2.2 (.mk 8 noB 0 r2.2.2.2 (n :: xs)) r)):=fun xs r hr hrl hn=>by
    rw [Api m hl hr hrl]
    refine Agp (Ai9 _ hr) fun _ r2' hr2 Ar8 hn2=>?_
    exact Bhv r2 m (.mk 8 noB 0 r2.2.2.2 (n :: xs)) r2' hr2 (Ar8.trans hrl) (by omega) (by omega)
   by_cases hR:isH kRp ts.tail=true
   ·rw [if_pos hR,show isH (⟨#[41]⟩:ByteArray) ts.tail=true from hR]
    exact tl [] _ g1 gs (Nat.le_refl _)
   ·rw [if_neg hR,show isH (⟨#[41]⟩:ByteArray) ts.tail=false from by simpa using hR]
    simp only [Bool.not_false,cond_true]
    rw [ih.Ag7 _ g1 gs (by omega)]
    cases hv:Aqj ts.tail with
    | bad i=>rfl
    | ok xs r =>
     have hf:=A2n g1
     rw [hv] at hf
     have hxl:=Blr g1 hv
     show (apd 64 [n] xs).bind _=_
     rw [Anb (by simp only [List.length_cons,List.length_nil];omega)]
     exact tl xs r hf.1 (hf.2.2.trans gs) (by have:=hf.2.1;omega)
  ·simp only [if_neg h3]
   rfl
theorem Chj {ts:List Tk} (hg:Good ts) (hs:ts <:+ l) (hk:16 * ts.length+2≤k):Aig.g (PE.at k) k l (ix l ts)=some (conv l eT (Ay4 ts)):=by
 unfold Aig.g
 rw [Aus k hg hs,Dc5 hg]
 simp only [Option.bind_some,Adg,got_eq k hl hg hs]
 refine Ali (Anj _) (fun hc=>?_) fun h1=>?_
 ·simp only [hc,if_true]
  obtain ⟨g1,g2,g3⟩:=hg.tail (Abt hc)
  rw [ih.exp 0 _ (by omega) g1 (g3.trans hs) (by omega)]
  refine Agp (Ajm (by omega) g1) fun x r hr hrs hn=>?_
  simp only [eT,Ak3]
  have hrl:=hrs.trans (g3.trans hs)
  rw [Api k hl hr hrl]
  refine Agp (Ai9 _ hr) fun _ r2' hr2 Ar8 hn2=>?_
  exact Bhv hl ih (hd ts) k (.mk 9 noB 0 (hd ts).2.2.2 [x]) r2' hr2 (Ar8.trans hrl) (by omega) (by omega)
 ·simp only [if_neg h1]
  rw [name_eq k hl hg hs]
  refine Agp (fName 6 hg) fun n r hr hrs hn=>?_
  exact Bhv hl ih (hd ts) k n r hr (hrs.trans hs) (by omega) (by omega)
end
theorem aE {l:List Tk} (hl:l.length≤1000000):∀ k,AE l k
 | 0=>by constructor <;> intros <;> omega
 | k+1=>by
  have ih:=aE hl k
  exact ⟨fun least ts h0 hg hs h=>exp_eq hl ih least h0 hg hs (by omega),fun ts hg hs h=>operand_eq hl ih hg hs (by omega),fun ts hg hs h=>Chj hl ih hg hs (by omega),fun ts hg hs h=>fields_eq hl ih hg hs (by omega),fun ts hg hs h=>Cqx hl ih hg hs (by omega),fun ts hg hs h=>B5t hl ih hg hs (by omega)⟩
theorem Cix (pre:List Tree):∀ (n:Nat) (acc:List Tree) (ts:List Tk),ts.length≤n→Good ts→Axw (pre++acc) ts=(Axw acc ts).then fun xs r=>.ok (pre++xs) r
 | 0,_,[],_,hg=>hg.elim
 | n+1,acc,ts,hn,hg=>by
  rw [Bb7 _ hg,Bb7 acc hg]
  by_cases hc:isH Amo ts=true
  ·rw [if_pos hc,if_pos hc,then_assoc]
   obtain ⟨g1,g2,g3⟩:=hg.tail (Abt hc)
   refine Cig (fName 6 g1) fun x r hr hl=>?_
   rw [List.append_assoc]
   exact Cix pre n _ r (by omega) hr
  ·rw [if_neg hc,if_neg hc];rfl
structure AS (l:List Tk) (k:Nat):Prop where
 block:∀ c ts,Good ts→ts <:+ l→16 * ts.length+9≤k→(PS.at k).Agv l (ix l ts) c=some (conv l eT (Aph c ts))
 function:∀ ts,isH Bfv ts=true→Good ts→ts <:+ l→16 * ts.length+7≤k→(PS.at k).Arj l (ix l ts)=some (conv l eT (Bb5 ts))
 stat:∀ ts,Good ts→ts <:+ l→16 * ts.length+7≤k→(PS.at k).Arq l (ix l ts)=some (conv l eT (Bca ts))
 branches:∀ ts,Good ts→ts <:+ l→16 * ts.length+6≤k→(PS.at k).Amy l (ix l ts)=some (conv l eL (A3y [] ts))
 loop:∀ at_ ts,Good ts→ts <:+ l→16 * ts.length+8≤k→(PS.at k).Arl l (ix l ts) at_=some (conv l eT (Bhz at_ ts))
 plain:∀ ts,Good ts→ts <:+ l→16 * ts.length+6≤k→(PS.at k).Am0 l (ix l ts)=some (conv l eT (Bh0 ts))
section
variable {l:List Tk} (hl:l.length≤1000000)
include hl
theorem Bdz (k:Nat) {ts:List Tk} (hg:Good ts) (hs:ts <:+ l) (hk:16 * ts.length+4≤k):Af6.f k l (ix l ts) 0=some (conv l eT (Am9 0 ts)):=exp_eq hl (aE hl k) 0 (by omega) hg hs hk
theorem Bjq (k:Nat) {ts:List Tk} (hg:Good ts) (hs:ts <:+ l) (hk:16 * ts.length+5≤k):Ah1.f k l (ix l ts)=some (conv l eL (Aqj ts)):=B5t hl (aE hl k) hg hs hk
theorem B6h (k:Nat) {ts:List Tk} (hg:Good ts) (hs:ts <:+ l) (hk:16 * ts.length+2≤k):Aig.f k l (ix l ts)=some (conv l eT (Ay4 ts)):=Chj hl (aE hl k) hg hs hk
omit hl in
theorem Cmy {ts:List Tk} (h:isH kDo ts=true) (hg:Good ts):Axt ts=(Aph false ts.tail).then fun b r=>(Ajh Atk r).then fun _ r=>.ok b r:=by
 rw [Ciu hg]
 unfold Ajh
 rw [if_pos h]
 rfl
variable {k:Nat} (ih:AS l k)
include ih
theorem Ci5 (F:Tree→Option (List Tree)) (G:List Tree→Int→Option (PR (Int×ByteArray×Int×Int×List Tree×Int))) (g:Tree→Tree) {ts:List Tk} (hg:Good ts) (hs:ts <:+ l) (hk:16 * ts.length+9≤k+16)
  (hG:∀ b r,Good r→r <:+ l→∃ xs,F b=some xs∧G xs (ix l r)=some (conv l eT (.ok (g b) r))) :
  PR.bind (Agc.f k l (ix l ts) (⟨#[100,111]⟩:ByteArray)) (fun r36=>PR.bind ((PS.at k).Agv l r36 false) fun r38=>(F (Tree.mk r38.1 r38.2.1 r38.2.2.1 r38.2.2.2.1 r38.2.2.2.2.1)).bind fun l49=>PR.bind (Agc.f k l r38.2.2.2.2.2 (⟨#[101,110,100]⟩:ByteArray)) fun r54=>G l49 r54) =
   some (conv l eT ((Axt ts).then fun b r=>.ok (g b) r)):=by
 rw [Api k hl hg hs,Ciu hg,then_assoc]
 refine Agp (Ai9 _ hg) fun _ r hr hrs hn=>?_
 simp only [eU]
 have h1:=hrs.trans hs
 rw [ih.block false r hr h1 (by omega),then_assoc]
 refine Agp (Ax9 false hr) fun b r2 hr2 Ar8 hn2=>?_
 simp only [eT,Ak3]
 have h2:=Ar8.trans h1
 obtain ⟨xs,hF,_⟩:=hG b r2 hr2 h2
 rw [hF,then_assoc]
 simp only [Option.bind_some]
 rw [Api k hl hr2 h2]
 refine Agp (Ai9 _ hr2) fun _ r3 hr3 Aw4 hn3=>?_
 obtain ⟨xs',hF',hG'⟩:=hG b r3 hr3 (Aw4.trans h2)
 rw [hF] at hF'
 cases hF'
 exact hG'
theorem Bpk (chunk:Bool) (r2:Tk):∀ (m:Nat) (acc:List Tree) (ts:List Tk),Good ts→ts <:+ l→16 * ts.length+6 < m→acc.length+ts.length≤1000000→16 * ts.length+8≤k →
  Agv.l0 m (PS.at k) l chunk r2 acc (ix l ts)=some (conv l eT (A3x chunk r2.2.2.2 acc ts))
 | 0,_,_,_,_,h,_,_=>by omega
 | m+1,acc,ts,hg,hs,hm,ha,hk=>by
  rw [Agv.l0,Aus m hg hs,Dcj chunk _ acc hg]
  simp only [Option.bind_some,got_eq m hl hg hs]
  refine Ali (Anj _) (fun hc=>?_) fun h1=>?_
  ·simp only [hc,if_true]
   obtain ⟨g1,g2,g3⟩:=hg.tail (Abt hc)
   exact Bpk chunk r2 m acc _ g1 (g3.trans hs) (by omega) (by omega) (by omega)
  simp only [if_neg h1,got_eq m hl hg hs,Option.bind_some]
  refine Ali (Anj _) (fun hc=>?_) fun h2=>?_
  ·simp only [hc,if_true]
   obtain ⟨g1,g2,g3⟩:=hg.tail (Abt hc)
   have gs:=g3.trans hs
   have hend:∀ (xs:List Tree) (r:List Tk),Good r→r <:+ l→(Afl.f m l (ix l r) (⟨#[59]⟩:ByteArray)).bind (fun r25=>(apd 64 acc [(Tree.mk (30:Int) (⟨#[]⟩:ByteArray) (0:Int) (hd ts).2.2.2 xs)]).bind fun l29=>some (PR.ok ((20:Int),(⟨#[]⟩:ByteArray),(0:Int),r2.2.2.2,l29,r25.2)))=some (conv l eT (.ok (.mk 20 noB 0 r2.2.2.2 (acc++[.mk 30 noB 0 (hd ts).2.2.2 xs])) (if isH Atl r then r.tail else r))):=fun xs r hr hrl=>by
    rw [got_eq m hl hr hrl,Anb (by simp only [List.length_cons,List.length_nil];omega)]
    rfl
   simp only [Adg,B5b m g1 gs,Az5 m g1 gs,Option.bind_some]
   unfold Bz2
   cases hE:A4w ts.tail with
   | true =>
    simp only [Bool.not_true,cond_false,Option.bind_some,Bool.true_or,if_true]
    exact hend [] _ g1 gs
   | false =>
    simp only [Bool.not_false,cond_true,Option.bind_some,Bool.false_or]
    by_cases hS:isH Atl ts.tail=true
    ·rw [if_pos hS,show isH (⟨#[59]⟩:ByteArray) ts.tail=true from hS]
     exact hend [] _ g1 gs
    ·rw [if_neg hS,show isH (⟨#[59]⟩:ByteArray) ts.tail=false from by simpa using hS]
     simp only [Bool.not_false,cond_true]
     rw [Bjq hl m g1 gs (by omega)]
     refine Agp (A2n g1) fun xs r hr hrs hn=>?_
     exact hend xs r hr (hrs.trans gs)
  simp only [if_neg h2,Az5 m hg hs,B5b m hg hs,Option.bind_some]
  have hq:(cond chunk (some (isH (⟨#[102,117,110,99,116,105,111,110]⟩:ByteArray) ts)) (some false):Option Bool)=some (chunk && isH Bfv ts):=by cases chunk <;> rfl
  rw [hq]
  simp only [Option.bind_some]
  have more:∀ (x:Tree) (r:List Tk),Good r→r <:+ ts→r.length+1≤ts.length→((apd 64 acc [x]).bind fun l56=>Agv.l0 m (PS.at k) l chunk r2 l56 (ix l r))=some (conv l eT (A3x chunk r2.2.2.2 (acc++[x]) r)):=fun x r hr hrs hn=>by
   rw [Anb (by simp only [List.length_cons,List.length_nil];omega)]
   exact Bpk chunk r2 m _ r hr (hrs.trans hs) (by omega) (by simp only [List.length_append,List.length_cons,List.length_nil];omega) (by omega)
  refine Ali (Anj _) (fun hc=>?_) fun h3=>?_
  ·simp only [Bool.and_eq_true] at hc
   rw [ih.function ts hc.2 hg hs (by omega)]
   refine Agp (B5x (Abt hc.2) hg) fun x r hr hrs hn=>?_
   simp only [eT,Ak3]
   exact more x r hr hrs hn
  refine Ali (Anj _) (fun hc=>rfl) fun h4=>?_
  rw [ih.stat ts hg hs (by omega)]
  refine Agp (B54 hg) fun x r hr hrs hn=>?_
  simp only [eT,Ak3]
  exact more x r hr hrs hn
theorem B31 (c:Bool) {ts:List Tk} (hg:Good ts) (hs:ts <:+ l) (hk:16 * ts.length+8≤k):Agv.g (PS.at k) k l (ix l ts) c=some (conv l eT (Aph c ts)):=by
 unfold Agv.g
 rw [Aus k hg hs,Dck c hg]
 simp only [Option.bind_some]
 have:=hs.length_le
 exact Bpk hl ih c (hd ts) k [] ts hg hs (by omega) (by simp only [List.length_nil];omega) hk
theorem Cre {ts:List Tk} (hf:isH Bfv ts=true) (hg:Good ts) (hs:ts <:+ l) (hk:16 * ts.length+6≤k):Arj.g (PS.at k) k l (ix l ts)=some (conv l eT (Bb5 ts)):=by
 unfold Arj.g
 rw [Aus k hg hs,Dcv (Abt hf) hg]
 simp only [Option.bind_some]
 rw [Api k hl hg hs]
 unfold Ajh
 rw [if_pos hf]
 obtain ⟨g1,g2,g3⟩:=hg.tail (Abt hf)
 have gs:=g3.trans hs
 have hle:=hs.length_le
 show PR.bind (Aox.f k l (ix l ts.tail)) _=_
 rw [name_eq k hl g1 gs]
 refine Agp (fName 6 g1) fun nm r hr hrs hn=>?_
 simp only [eT]
 have h1:=hrs.trans gs
 rw [Api k hl hr h1]
 refine Agp (Ai9 _ hr) fun _ r2 hr2 Ar8 hn2=>?_
 simp only [eU,Adg]
 have h2:=Ar8.trans h1
 have tl:∀ (ps:List Tree) (r:List Tk),Good r→r <:+ l→r.length+1≤ts.length→ps.length≤1000000→PR.bind (Agc.f k l (ix l r) (⟨#[41]⟩:ByteArray)) (fun r21=>PR.bind ((PS.at k).Agv l r21 false) fun r23=>(apd 64 ps [(Tree.mk r23.1 r23.2.1 r23.2.2.1 r23.2.2.2.1 r23.2.2.2.2.1)]).bind fun l32=>PR.bind (Agc.f k l r23.2.2.2.2.2 (⟨#[101,110,100]⟩:ByteArray)) fun r37=>some (PR.ok ((31:Int),nm.text,((ps.length:Nat):Int),(hd ts).2.2.2,l32,r37))) =
   some (conv l eT ((Ajh kRp r).then fun _ r=>(Aph false r).then fun b r=>(Ajh Atk r).then fun _ r=>.ok (.mk 31 nm.text ps.length (hd ts).2.2.2 (ps++[b])) r)):=fun ps r hr hrl hn hps=>by
  rw [Api k hl hr hrl]
  refine Agp (Ai9 _ hr) fun _ s hs1 hss hn'=>?_
  simp only [eU]
  have h3:=hss.trans hrl
  rw [ih.block false s hs1 h3 (by omega)]
  refine Agp (Ax9 false hs1) fun b s2 hs2 Bt3 Dgm=>?_
  simp only [eT,Ak3]
  rw [Anb (by simp only [List.length_cons,List.length_nil];omega)]
  simp only [Option.bind_some]
  rw [Api k hl hs2 (Bt3.trans h3)]
  exact Agp (Ai9 _ hs2) fun _ s3 _ _ _=>rfl
 rw [Az5 k hr2 h2]
 simp only [Option.bind_some]
 unfold Bz1
 by_cases hR:isH kRp r2=true
 ·rw [if_pos hR,show isH (⟨#[41]⟩:ByteArray) r2=true from hR]
  exact tl [] r2 hr2 h2 (by omega) (by simp)
 ·rw [if_neg hR,show isH (⟨#[41]⟩:ByteArray) r2=false from by simpa using hR]
  simp only [Bool.not_false,cond_true]
  rw [Bvu hl k hr2 h2 (by omega)]
  cases hv:Av3 r2 with
  | bad i=>rfl
  | ok ps s =>
   have hf:=Bdx hr2
   rw [hv] at hf
   have hln:=Bvj hr2 hv
   exact tl ps s hf.1 (hf.2.2.trans h2) (by have:=hf.2.1;omega) (by omega)
theorem B4a (J:List Tree→Int→Option (PR (List Tree×Int))) (hJ:∀ a r,Good r→r <:+ l→16 * r.length+9≤k→a.length≤1000000→J a (ix l r)=some (conv l eL (if isH Bfs r then (Aph false r.tail).then fun c r=>(Ajh Atk r).then fun _ r=>.ok (a++[c]) r else (Ajh Atk r).then fun _ r=>.ok a r))) :
  ∀ (m:Nat) (acc:List Tree) (ts:List Tk),Good ts→ts <:+ l→16 * ts.length+4 < m→acc.length+2 * ts.length≤1000000→16 * ts.length≤k→Amy.l0 m (PS.at k) l J acc (ix l ts)=some (conv l eL (A3y acc ts))
 | 0,_,_,_,_,h,_,_=>by omega
 | m+1,acc,ts,hg,hs,hm,ha,hk=>by
  rw [Amy.l0,Bdz hl m hg hs (by omega),Dcp acc hg]
  refine Agp (Ajm (by omega) hg) fun e r hr hrs hn=>?_
  simp only [eT,Ak3]
  have h1:=hrs.trans hs
  rw [Anb (by simp only [List.length_cons,List.length_nil];omega)]
  simp only [Option.bind_some]
  rw [Api m hl hr h1]
  refine Agp (Ai9 _ hr) fun _ r2 hr2 Ar8 hn2=>?_
  simp only [eU]
  have h2:=Ar8.trans h1
  rw [ih.block false r2 hr2 h2 (by omega)]
  refine Agp (Ax9 false hr2) fun b r3 hr3 Aw4 hn3=>?_
  simp only [eT,Ak3]
  have h3:=Aw4.trans h2
  rw [Anb (by simp only [List.length_append,List.length_cons,List.length_nil];omega)]
  simp only [Option.bind_some,got_eq m hl hr3 h3]
  by_cases hc:isH Bfu r3=true
  ·rw [if_pos hc,show isH (⟨#[101,108,115,101,105,102]⟩:ByteArray) r3=true from hc]
   simp only [Bool.not_true,cond_false,if_true]
   obtain ⟨g1,g2,g3⟩:=hr3.tail (Abt hc)
   exact B4a J hJ m _ _ g1 (g3.trans h3) (by omega) (by simp only [List.length_append,List.length_cons,List.length_nil];omega) (by omega)
  ·rw [if_neg hc,show isH (⟨#[101,108,115,101,105,102]⟩:ByteArray) r3=false from by simpa using hc]
   simp only [Bool.not_false,cond_true,Bool.false_eq_true,if_false]
   exact hJ _ r3 hr3 h3 (by omega) (by simp only [List.length_append,List.length_cons,List.length_nil];omega)
theorem Cmz {ts:List Tk} (hg:Good ts) (hs:ts <:+ l) (hk:16 * ts.length+5≤k) (hl2:l.length≤400000):Amy.g (PS.at k) k l (ix l ts)=some (conv l eL (A3y [] ts)):=by
 unfold Amy.g
 simp only [Adg]
 have hle:=hs.length_le
 refine B4a hl ih _ (fun a r hr hrl hk2 ha=>?_) k [] ts hg hs (by omega) (by simp only [List.length_nil];omega) (by omega)
 rw [got_eq k hl hr hrl]
 simp only [Option.bind_some]
 refine Ali (Anj _) (fun hc=>?_) fun h1=>?_
 ·simp only [hc,if_true]
  obtain ⟨g1,g2,g3⟩:=hr.tail (Abt hc)
  have gs:=g3.trans hrl
  rw [ih.block false _ g1 gs (by omega)]
  refine Agp (Ax9 false g1) fun c r3 hr3 Aw4 hn3=>?_
  simp only [eT,Ak3]
  rw [Anb (by simp only [List.length_cons,List.length_nil];omega)]
  simp only [Option.bind_some]
  rw [Api k hl hr3 (Aw4.trans gs)]
  exact Agp (Ai9 _ hr3) fun _ _ _ _ _=>rfl
 ·simp only [if_neg h1]
  rw [Api k hl hr hrl]
  exact Agp (Ai9 _ hr) fun _ _ _ _ _=>rfl
theorem Cq9 (at_:Int) {ts:List Tk} (hg:Good ts) (hs:ts <:+ l) (hk:16 * ts.length+7≤k):Arl.g (PS.at k) k l (ix l ts) at_=some (conv l eT (Bhz at_ ts)):=by
 unfold Arl.g
 rw [name_eq k hl hg hs,Dcu at_ hg]
 refine Agp (fName 6 hg) fun n r hr hrs hn=>?_
 simp only [eT,Ak3,Adg]
 have h1:=hrs.trans hs
 have hle:=hs.length_le
 have tl:∀ (kd nn:Int) (xs:List Tree) (r:List Tk),Good r→r <:+ l→r.length+1≤ts.length→xs.length≤1000000→PR.bind (Agc.f k l (ix l r) (⟨#[100,111]⟩:ByteArray)) (fun r19=>PR.bind ((PS.at k).Agv l r19 false) fun r21=>(apd 64 xs [(Tree.mk r21.1 r21.2.1 r21.2.2.1 r21.2.2.2.1 r21.2.2.2.2.1)]).bind fun l30=>PR.bind (Agc.f k l r21.2.2.2.2.2 (⟨#[101,110,100]⟩:ByteArray)) fun r35=>some (PR.ok (kd,(⟨#[]⟩:ByteArray),nn,at_,l30,r35))) =
   some (conv l eT ((Axt r).then fun bd r=>.ok (.mk kd noB nn at_ (xs++[bd])) r)):=fun kd nn xs r hr hrl hn hxs =>
  Ci5 hl ih (fun b=>apd 64 xs [b]) (fun l30 r35=>some (PR.ok (kd,(⟨#[]⟩:ByteArray),nn,at_,l30,r35))) (fun bd=>.mk kd noB nn at_ (xs++[bd])) hr hrl (by omega) fun b s hs1 hsl=>⟨_,Anb (by simp only [List.length_cons,List.length_nil];omega),rfl⟩
 rw [got_eq k hl hr h1]
 simp only [Option.bind_some]
 refine Ali (Anj _) (fun hc=>?_) fun hne=>?_
 ·simp only [hc,if_true]
  obtain ⟨g1,g2,g3⟩:=hr.tail (Abt hc)
  have gs:=g3.trans h1
  rw [Bdz hl k g1 gs (by omega)]
  refine Agp (Ajm (by omega) g1) fun a r2 hr2 Ar8 hn2=>?_
  simp only [eT,Ak3]
  have h2:=Ar8.trans gs
  rw [Anb (by simp)]
  simp only [Option.bind_some]
  rw [Api k hl hr2 h2]
  refine Agp (Ai9 _ hr2) fun _ r3 hr3 Aw4 hn3=>?_
  simp only [eU]
  have h3:=Aw4.trans h2
  rw [Bdz hl k hr3 h3 (by omega)]
  refine Agp (Ajm (by omega) hr3) fun b r4 hr4 Bki hn4=>?_
  simp only [eT,Ak3]
  have h4:=Bki.trans h3
  rw [Anb (by simp)]
  simp only [Option.bind_some,got_eq k hl hr4 h4]
  unfold Bn6
  by_cases hC:isH Amo r4=true
  ·rw [if_pos hC,show isH (⟨#[44]⟩:ByteArray) r4=true from hC]
   simp only [cond_true,if_true]
   obtain ⟨g5,g6,g7⟩:=hr4.tail (Abt hC)
   have gs5:=g7.trans h4
   rw [Bdz hl k g5 gs5 (by omega),then_assoc]
   refine Agp (Ajm (by omega) g5) fun c r5 hr5 Cyo hn5=>?_
   simp only [eT,Ak3]
   rw [Anb (by simp)]
   exact tl 26 0 _ r5 hr5 (Cyo.trans gs5) (by omega) (by simp)
  ·rw [if_neg hC,show isH (⟨#[44]⟩:ByteArray) r4=false from by simpa using hC]
   simp only [cond_false,Bool.false_eq_true,if_false]
   have:=tl 26 0 ([n]++[a]++[b]) r4 hr4 h4 (by omega) (by simp)
   simp only [PV.then,List.append_nil]
   exact this
 ·simp only [if_neg hne,got_eq k hl hr h1,Option.bind_some]
  have tl2:∀ (xs:List Tree) (r:List Tk),Good r→r <:+ l→r.length+1≤ts.length→xs.length+r.length≤ts.length+1→PR.bind (Agc.f k l (ix l r) (⟨#[105,110]⟩:ByteArray)) (fun r94=>PR.bind (Ah1.f k l r94) fun r96=>(apd 64 xs r96.1).bind fun Ba4=>PR.bind (Agc.f k l r96.2 (⟨#[100,111]⟩:ByteArray)) fun r19=>PR.bind ((PS.at k).Agv l r19 false) fun r21=>(apd 64 Ba4 [(Tree.mk r21.1 r21.2.1 r21.2.2.1 r21.2.2.2.1 r21.2.2.2.2.1)]).bind fun l30=>PR.bind (Agc.f k l r21.2.2.2.2.2 (⟨#[101,110,100]⟩:ByteArray)) fun r35=>some (PR.ok ((27:Int),(⟨#[]⟩:ByteArray),((xs.length:Nat):Int),at_,l30,r35))) =
    some (conv l eT ((Ajh kIn r).then fun _ r=>(Aqj r).then fun es r=>(Axt r).then fun bd r=>.ok (.mk 27 noB xs.length at_ (xs++es++[bd])) r)):=fun xs r hr hrl hn hx=>by
   rw [Api k hl hr hrl]
   refine Agp (Ai9 _ hr) fun _ r3 hr3 Aw4 hn3=>?_
   simp only [eU]
   have h3:=Aw4.trans hrl
   rw [Bjq hl k hr3 h3 (by omega)]
   cases hv:Aqj r3 with
   | bad i=>rfl
   | ok es s =>
    have hf:=A2n hr3
    rw [hv] at hf
    have hln:=Blr hr3 hv
    show (apd 64 xs es).bind _=_
    rw [Anb (by omega)]
    exact tl 27 xs.length (xs++es) s hf.1 (hf.2.2.trans h3) (by have:=hf.2.1;omega) (by simp only [List.length_append];omega)
  by_cases hC:isH Amo r=true
  ·rw [show isH (⟨#[44]⟩:ByteArray) r=true from hC]
   simp only [cond_true,if_true]
   obtain ⟨g1,g2,g3⟩:=hr.tail (Abt hC)
   have gs:=g3.trans h1
   rw [Bvu hl k g1 gs (by omega)]
   have e:Axw [n] r=(Av3 r.tail).then fun xs r=>.ok ([n]++xs) r:=by
    rw [Bb7 _ hr,if_pos hC]
    unfold Av3
    rw [then_assoc]
    exact Cig (fName 6 g1) fun x s hs1 _=>Cix [n] _ [x] s (Nat.le_refl _) hs1
   rw [e,then_assoc]
   cases hv:Av3 r.tail with
   | bad i=>rfl
   | ok xs s =>
    have hf:=Bdx g1
    rw [hv] at hf
    have hln:=Bvj g1 hv
    show (apd 64 [n] xs).bind _=_
    rw [Anb (by simp only [List.length_cons,List.length_nil];omega)]
    exact tl2 ([n]++xs) s hf.1 (hf.2.2.trans gs) (by have:=hf.2.1;omega) (by simp only [List.length_append,List.length_cons,List.length_nil];omega)
  ·rw [show isH (⟨#[44]⟩:ByteArray) r=false from by simpa using hC]
   simp only [cond_false,Bool.false_eq_true,if_false]
   rw [Bb7 _ hr,if_neg hC]
   exact tl2 [n] r hr h1 (by omega) (by simp only [List.length_cons,List.length_nil];omega)
theorem Dbv {ts:List Tk} (hg:Good ts) (hs:ts <:+ l) (hk:16 * ts.length+6≤k):Arq.g (PS.at k) k l (ix l ts)=some (conv l eT (Bca ts)):=by
 unfold Arq.g
 rw [Aus k hg hs,Dc1 hg]
 simp only [Option.bind_some,Adg,got_eq k hl hg hs]
 have hle:=hs.length_le
 refine Ali (Anj _) (fun hc=>?_) fun h1=>?_
 ·simp only [hc,if_true]
  obtain ⟨g1,g2,g3⟩:=hg.tail (Abt hc)
  have gs:=g3.trans hs
  rw [Cmy hc hg,then_assoc,ih.block false _ g1 gs (by omega)]
  refine Agp (Ax9 false g1) fun b r hr hrs hn=>?_
  simp only [eT,Ak3]
  rw [Api k hl hr (hrs.trans gs),then_assoc]
  exact Agp (Ai9 _ hr) fun _ _ _ _ _=>rfl
 simp only [if_neg h1,got_eq k hl hg hs,Option.bind_some]
 refine Ali (Anj _) (fun hc=>?_) fun h2=>?_
 ·simp only [hc,if_true]
  obtain ⟨g1,g2,g3⟩:=hg.tail (Abt hc)
  have gs:=g3.trans hs
  rw [Bdz hl k g1 gs (by omega)]
  refine Agp (Ajm (by omega) g1) fun e r hr hrs hn=>?_
  simp only [eT,Ak3]
  exact Ci5 hl ih (fun b=>apd 64 [e] [b]) (fun l49 r54=>some (PR.ok ((25:Int),(⟨#[]⟩:ByteArray),(0:Int),(hd ts).2.2.2,l49,r54))) (fun b=>.mk 25 noB 0 (hd ts).2.2.2 [e,b]) hr (hrs.trans gs) (by omega) fun b s _ _=>⟨_,Anb (by simp),rfl⟩
 simp only [if_neg h2,got_eq k hl hg hs,Option.bind_some]
 refine Ali (Anj _) (fun hc=>?_) fun h3=>?_
 ·simp only [hc,if_true]
  obtain ⟨g1,g2,g3⟩:=hg.tail (Abt hc)
  rw [ih.branches _ g1 (g3.trans hs) (by omega)]
  exact Agp (B5u _ g1) fun _ _ _ _ _=>rfl
 simp only [if_neg h3,got_eq k hl hg hs,Option.bind_some]
 have same:∀ {x:PV Tree},(PR.bind (some (conv l eT x)) fun r66=>some (PR.ok (r66.1,r66.2.1,r66.2.2.1,r66.2.2.2.1,r66.2.2.2.2.1,r66.2.2.2.2.2)))=some (conv l eT x):=fun {x}=>by cases x <;> rfl
 refine Ali (Anj _) (fun hc=>?_) fun h4=>?_
 ·simp only [hc,if_true]
  obtain ⟨g1,g2,g3⟩:=hg.tail (Abt hc)
  rw [ih.loop _ _ g1 (g3.trans hs) (by omega)]
  exact same
 simp only [if_neg h4,got_eq k hl hg hs,Option.bind_some]
 refine Ali (Anj _) (fun hc=>?_) fun h5=>?_
 ·simp only [hc,if_true]
  obtain ⟨g1,g2,g3⟩:=hg.tail (Abt hc)
  have gs:=g3.trans hs
  rw [Bvu hl k g1 gs (by omega)]
  cases hv:Av3 ts.tail with
  | bad i=>rfl
  | ok xs r =>
   have hf:=Bdx g1
   rw [hv] at hf
   have hln:=Bvj g1 hv
   have hrl:=hf.2.2.trans gs
   show (Afl.f k l (ix l r) _).bind _=some (conv l eT ((Bn5 r).then _))
   rw [got_eq k hl hf.1 hrl]
   unfold Bn5
   simp only [Option.bind_some,eL]
   by_cases hE:isH kEq r=true
   ·rw [if_pos hE,show isH (⟨#[61]⟩:ByteArray) r=true from hE]
    simp only [cond_true,if_true]
    obtain ⟨g4,g5,g6⟩:=hf.1.tail (Abt hE)
    have h6:=hf.2.1
    rw [Bjq hl k g4 (g6.trans hrl) (by omega)]
    cases hv2:Aqj r.tail with
    | bad i=>rfl
    | ok es s =>
     have Dgk:=Blr g4 hv2
     show (apd 64 xs es).bind _=_
     rw [Anb (by omega)]
     rfl
   ·rw [if_neg hE,show isH (⟨#[61]⟩:ByteArray) r=false from by simpa using hE]
    simp only [cond_false,Bool.false_eq_true,if_false,PV.then,List.append_nil]
    rfl
 simp only [if_neg h5,got_eq k hl hg hs,Option.bind_some]
 refine Ali (Anj _) (fun hc=>?_) fun h6=>?_
 ·simp only [hc,if_true]
  rfl
 simp only [if_neg h6]
 rw [ih.plain _ hg hs (by omega)]
 exact same
omit ih in
theorem targets_eq (J:List Tree→Int→Option (PR (Int×ByteArray×Int×Int×List Tree×Int))) (g:List Tree→List Tk→PV Tree) (N:Nat) (hJ:∀ a r,Good r→r <:+ l→r.length≤N→a.length+r.length≤1000000→J a (ix l r)=some (conv l eT (g a r))) :
  ∀ (m:Nat) (acc:List Tree) (e:Tree) (ts:List Tk),Good ts→ts <:+ l→16 * ts.length+2 < m→ts.length≤N→acc.length+ts.length+1≤1000000→Am0.l0 m l J e.kind e.text e.n e.at_ e.kids acc (ix l ts)=some (conv l eT ((Bcb acc e ts).then g))
 | 0,_,_,_,_,_,h,_,_=>by omega
 | m+1,acc,e,ts,hg,hs,hm,hN,ha=>by
  rw [Am0.l0,Dc6 acc e hg]
  simp only [Adg,Ak3]
  have ht:A7x.f m e.kind e.text e.n e.at_ e.kids=some (decide (e.kind=6∨e.kind=7)):=by
   unfold A7x.f
   rw [Bi3,Bi3]
   by_cases h6:e.kind=6
   ·simp [h6]
   ·simp [h6]
  rw [ht]
  simp only [Option.bind_some]
  by_cases hk:e.kind=6∨e.kind=7
  ·rw [if_pos hk,decide_eq_true hk]
   simp only [Bool.not_true,cond_false]
   rw [Anb (by simp only [List.length_cons,List.length_nil];omega)]
   simp only [Option.bind_some,got_eq m hl hg hs]
   by_cases hc:isH Amo ts=true
   ·rw [show isH (⟨#[44]⟩:ByteArray) ts=true from hc]
    simp only [Bool.not_true,cond_false,if_true]
    rw [then_assoc]
    obtain ⟨g1,g2,g3⟩:=hg.tail (Abt hc)
    have gs:=g3.trans hs
    rw [B6h hl m g1 gs (by omega)]
    refine Agp (Bdy g1) fun x r hr hrs hn=>?_
    exact targets_eq J g N hJ m _ x r hr (hrs.trans gs) (by omega) (by omega) (by simp only [List.length_append,List.length_cons,List.length_nil];omega)
   ·rw [show isH (⟨#[44]⟩:ByteArray) ts=false from by simpa using hc]
    simp only [Bool.not_false,cond_true,Bool.false_eq_true,if_false]
    exact hJ _ ts hg hs (by omega) (by simp only [List.length_append,List.length_cons,List.length_nil];omega)
  ·rw [if_neg hk,decide_eq_false hk]
   rfl
omit ih in
theorem C9n (k:Nat) {ts:List Tk} (hg:Good ts) (hs:ts <:+ l) (hk:16 * ts.length+5≤k):Am0.g (PS.at k) k l (ix l ts)=some (conv l eT (Bh0 ts)):=by
 unfold Am0.g
 rw [B6h hl k hg hs (by omega),Dc0 hg]
 have hle:=hs.length_le
 refine Agp (Bdy hg) fun e r hr hrs hn=>?_
 have h1:=hrs.trans hs
 simp only [eT,Ak3,Az5 k hr h1,Option.bind_some,Adg]
 have hq:(cond (!isH (⟨#[61]⟩:ByteArray) r) (some (!isH (⟨#[44]⟩:ByteArray) r)) (some false):Option Bool)=some (!(isH kEq r || isH Amo r)):=by
  show (cond (!isH kEq r) (some (!isH Amo r)) (some false):Option Bool)=_
  cases isH kEq r <;> cases isH Amo r <;> rfl
 rw [hq]
 simp only [Option.bind_some]
 cases hb:(isH kEq r || isH Amo r) with
 | true =>
  simp only [Bool.not_true,cond_false,if_true]
  refine targets_eq hl _ (fun l r=>(Ajh kEq r).then fun _ r=>(Aqj r).then fun es r=>.ok (.mk 22 noB l.length e.at_ (l++es)) r) r.length (fun a s hs1 hsl hsn ha=>?_) k [] e r hr h1 (by omega) (Nat.le_refl _) (by simp only [List.length_nil];omega)
  rw [Api k hl hs1 hsl]
  refine Agp (Ai9 _ hs1) fun _ s2 hs2 Bt3 hn2=>?_
  simp only [eU]
  have h2:=Bt3.trans hsl
  have hkey:16 * s2.length+5≤k:=by have:=hs2;omega
  rw [Bjq hl k hs2 h2 hkey]
  cases hv:Aqj s2 with
  | bad i=>rfl
  | ok es s3 =>
   have hln:=Blr hs2 hv
   show (apd 64 a es).bind _=_
   rw [Anb (by omega)]
   rfl
 | false =>
  simp only [Bool.not_false,cond_true,Bool.false_eq_true,if_false]
  by_cases h8:e.kind=8
  ·rw [if_pos h8,h8]
   rfl
  ·rw [if_neg h8,show (e.kind != 8)=true by rw [bne_iff_ne];exact h8]
   simp only [cond_true,Aus k hr h1,Option.bind_some]
   rfl
end
theorem aS {l:List Tk} (hl:l.length≤400000):∀ k,AS l k
 | 0=>by constructor <;> intros <;> omega
 | k+1=>by
  have ih:=aS hl k
  have h1:l.length≤1000000:=by omega
  exact ⟨fun c ts hg hs h=>B31 h1 ih c hg hs (by omega),fun ts hf hg hs h=>Cre h1 ih hf hg hs (by omega),fun ts hg hs h=>Dbv h1 ih hg hs (by omega),fun ts hg hs h=>Cmz h1 ih hg hs (by omega) hl,fun at_ ts hg hs h=>Cq9 h1 ih at_ hg hs (by omega),fun ts hg hs h=>C9n h1 k hg hs (by omega)⟩
theorem Cqt {l:List Tk} (hl:l.length≤400000) (k:Nat) (c:Bool) {ts:List Tk} (hg:Good ts) (hs:ts <:+ l) (hk:16 * ts.length+8≤k):Agv.f k l (ix l ts) c=some (conv l eT (Aph c ts)):=B31 (by omega) (aS hl k) c hg hs hk
mutual
def sz:Tree→Nat
 | .mk _ _ _ _ l=>szs l+1
def szs:List Tree→Nat
 | []=>0
 | x :: l=>sz x+szs l
end
mutual
/-- Nodes begin in order. -/
def Ah6:Tree→Prop
 | .mk k _ _ a l=>Amv a l∧(k=20→l.Pairwise fun x y=>x.at_ < y.at_)
def Amv (a:Int):List Tree→Prop
 | []=>True
 | x :: l=>(a≤x.at_∧Ah6 x)∧Amv a l
end
theorem Bmc {a:Int}:∀ {l:List Tree},Amv a l ↔ ∀ x ∈ l,a≤x.at_∧Ah6 x
 | []=>by simp [Amv]
 | x :: l=>by simp [Amv,Bmc (l:=l)]
theorem Aib:∀ (l m:List Tree),szs (l++m)=szs l+szs m
 | [],m=>by simp [szs]
 | x :: l,m=>by simp only [List.cons_append,szs,Aib l m];omega
theorem Aju:∀ (l:List Tree),l.length≤szs l
 | []=>Nat.zero_le _
 | .mk _ _ _ _ _ :: l=>by
  have:=Aju l
  simp only [List.length_cons,szs,sz]
  omega
def Asc (ts:List Tk):Prop:=ts.Pairwise fun a b=>a.2.2.2 < b.2.2.2
def at0 (ts:List Tk):Int:=(hd ts).2.2.2
structure Aft (n:Nat) (ts r:List Tk):Prop where
 good:Good r
 asc:Asc r
 len:r.length+n≤ts.length
 le:at0 ts≤at0 r
 lt:r.length < ts.length→at0 ts < at0 r
theorem Aft.refl {ts:List Tk} (hg:Good ts) (ha:Asc ts):Aft 0 ts ts:=⟨hg,ha,Nat.le_refl _,Int.le_refl _,fun h=>absurd h (Nat.lt_irrefl _)⟩
theorem Aft.trans {n m:Nat} {ts r s:List Tk} (h:Aft n ts r) (h':Aft m r s):Aft (n+m) ts s:=by
 refine ⟨h'.good,h'.asc,?_,?_,fun hl=>?_⟩
 ·have:=h.len;have:=h'.len;omega
 ·have:=h.le;have:=h'.le;omega
 ·by_cases hr:r.length < ts.length
  ·have:=h.lt hr;have:=h'.le;omega
  ·have:=h'.lt (by omega);have:=h.le;omega
theorem Aft.weak {n m:Nat} {ts r:List Tk} (h:Aft n ts r) (hm:m≤n):Aft m ts r:=⟨h.good,h.asc,by have:=h.len;omega,h.le,h.lt⟩
theorem Aft.tail {n:Nat} {ts r:List Tk} (h:Aft n ts r) (h6:(hd r).1≠6):Aft (n+1) ts r.tail:=by
 obtain ⟨g1,g2,_⟩:=h.good.tail h6
 refine h.trans (m:=1) ⟨g1,?_,by omega,?_,?_⟩
 ·cases r with
  | nil=>exact h.asc
  | cons t r=>exact (List.pairwise_cons.1 h.asc).2
 all_goals
  cases r with
  | nil=>exact h.good.elim
  | cons t r =>
   cases r with
   | nil=>exact g1.elim
   | cons u r =>
    have:=(List.pairwise_cons.1 h.asc).1 u (List.mem_cons_self ..)
    simp only [at0,hd,List.tail_cons,List.headD_cons]
    omega
def R {α:Type} (x:Option (PV α)) (Q:α→List Tk→Prop):Prop:=∀ a r,x=some (.ok a r)→Q a r
section
variable {α β:Type} {x y:Option (PV α)} {f:α→List Tk→Option (PV β)} {Q Q1:α→List Tk→Prop} {Q2:β→List Tk→Prop}
theorem R.bind (h1:R x Q1) (h2:∀ a r,Q1 a r→R (f a r) Q2):R (PV.bind x f) Q2:=fun a r h=>by
 rcases bind_some h with ⟨i,_,he⟩ | ⟨a',r',hx,hf⟩
 ·cases he
 ·exact h2 a' r' (h1 a' r' hx) a r hf
theorem R.none:R (none:Option (PV α)) Q:=fun _ _ h=>by cases h
theorem R.bad {i:Int}:R (some (.bad i):Option (PV α)) Q:=fun _ _ h=>by cases h
theorem R.ok {a:α} {r:List Tk} (h:Q a r):R (some (.ok a r)) Q:=fun _ _ h'=>by cases h';exact h
theorem R.ite {c:Prop} [Decidable c] (h1:c→R x Q) (h2:¬ c→R y Q):R (if c then x else y) Q:=by
 by_cases h:c
 ·rw [if_pos h];exact h1 h
 ·rw [if_neg h];exact h2 h
theorem R.weak (h:R x Q1) (h2:∀ a r,Q1 a r→Q a r):R x Q:=fun a r h'=>h2 a r (h a r h')
end
structure TE (b:Nat) (ts:List Tk) (n:Tree) (r:List Tk):Prop where
 aft:Aft 1 ts r
 at_:n.at_=at0 ts
 ord:Ah6 n
 size:sz n+b+4 * r.length≤4 * ts.length
structure LE (m:Nat) (lo:Int) (acc:List Tree) (ts:List Tk) (l:List Tree) (r:List Tk):Prop where
 aft:Aft m ts r
 ord:Amv lo l
 size:szs l+4 * r.length≤szs acc+4 * ts.length
theorem Amv.snoc {lo:Int} {l:List Tree} {x:Tree} (h:Amv lo l) (h1:lo≤x.at_) (h2:Ah6 x):Amv lo (l++[x]):=by
 rw [Bmc] at h ⊢
 intro y hy
 rcases List.mem_append.1 hy with hy | hy
 ·exact h y hy
 ·obtain rfl:=List.mem_singleton.1 hy;exact ⟨h1,h2⟩
theorem Amv.app {lo:Int} {l m:List Tree} (h:Amv lo l) (h':Amv lo m):Amv lo (l++m):=by
 rw [Bmc] at *
 intro y hy
 exact (List.mem_append.1 hy).elim (h y) (h' y)
theorem Amv.weak {lo lo':Int} {l:List Tree} (h:Amv lo l) (h1:lo'≤lo):Amv lo' l:=by
 rw [Bmc] at *
 exact fun y hy=>⟨Int.le_trans h1 (h y hy).1,(h y hy).2⟩
theorem Ah6.mk {k:Int} {t:ByteArray} {n a:Int} {l:List Tree} (h:Amv a l) (hk:k≠20):Ah6 (.mk k t n a l):=⟨h,fun e=>absurd e hk⟩
theorem one {lo:Int} {x:Tree} (h1:lo≤x.at_) (h2:Ah6 x):Amv lo [x]:=⟨⟨h1,h2⟩,trivial⟩
theorem Aru {w:ByteArray} {n:Nat} {ts s:List Tk} (h:Aft n ts s):R (Amd w s) fun _ r=>Aft (n+1) ts r∧r.length+1=s.length:=by
 refine R.ite (fun hc=>R.ok ⟨h.tail (Abt hc),?_⟩) fun _=>R.bad
 exact (h.good.tail (Abt hc)).2.1
theorem Bbp {k:Int} {ts:List Tk} (hk:k≠20) (hg:Good ts) (ha:Asc ts):R (Asa k ts) (TE 1 ts):=by
 refine R.ite (fun hc=>R.ok ?_) fun _=>R.bad
 have h6:(hd ts).1≠6:=by omega
 have:=(hg.tail h6).2.1
 exact ⟨((Aft.refl hg ha).tail h6).weak (by omega),rfl,Ah6.mk trivial hk,by simp only [sz,szs];omega⟩
theorem Byh:∀ (f:Nat) (acc:List Tree) (lo:Int) (ts:List Tk),Good ts→Asc ts→lo≤at0 ts→Amv lo acc→R (Aop f acc ts) (LE 0 lo acc ts)
 | 0,_,_,_,_,_,_,_=>R.none
 | f+1,acc,lo,ts,hg,ha,hlo,hacc=>by
  unfold Aop
  refine R.ite (fun hc=>?_) fun _=>R.ok ⟨Aft.refl hg ha,hacc,Nat.le_refl _⟩
  have ht:=(Aft.refl hg ha).tail (Abt hc)
  have:=ht.len;have:=ht.le
  refine R.bind (Bbp (by decide) ht.good ht.asc) fun n r hn=>?_
  have:=hn.at_;have:=hn.size
  refine R.weak (Byh f _ lo r hn.aft.good hn.aft.asc (by have:=hn.aft.le;omega) (hacc.snoc (by omega) hn.ord)) fun l s hl=>?_
  have:=hl.size
  rw [Aib] at this
  simp only [szs] at this
  exact ⟨((ht.trans hn.aft).trans hl.aft).weak (by omega),hl.ord,by omega⟩
theorem Cfu (f:Nat) {lo:Int} {ts:List Tk} (hg:Good ts) (ha:Asc ts) (hlo:lo≤at0 ts):R (A0f f ts) (LE 1 lo [] ts):=by
 refine R.bind (Bbp (by decide) hg ha) fun n r hn=>?_
 have:=hn.at_;have:=hn.size
 refine R.weak (Byh f _ lo r hn.aft.good hn.aft.asc (by have:=hn.aft.le;omega) (one (by omega) hn.ord)) fun l s hl=>?_
 have:=hl.size
 simp only [szs] at this ⊢
 exact ⟨(hn.aft.trans hl.aft).weak (by omega),hl.ord,by simp only [szs];omega⟩
structure OE (f:Nat):Prop where
 exp:∀ least ts,0≤least→Good ts→Asc ts→R (Ahk f least ts) (TE 1 ts)
 loop:∀ least n ts,0≤least→Good ts→Asc ts→Ah6 n→n.at_≤at0 ts→R (Aky f least n ts) fun n' r=>Aft 0 ts r∧n'.at_=n.at_∧Ah6 n'∧sz n'+4 * r.length≤sz n+4 * ts.length
 operand:∀ ts,Good ts→Asc ts→R (Akz f ts) (TE 1 ts)
 fields:∀ acc lo ts,Good ts→Asc ts→lo≤at0 ts→Amv lo acc→R (Aj7 f acc ts) (LE 1 lo acc ts)
 field:∀ ts,Good ts→Asc ts→R (Amb f ts) (TE 0 ts)
 Akh:∀ ts,Good ts→Asc ts→R (Ak2 f ts) (TE 1 ts)
 Aik:∀ at_ n ts,Good ts→Asc ts→Ah6 n→at_=n.at_→n.at_≤at0 ts→R (Aj9 f at_ n ts) fun n' r=>Aft 0 ts r∧n'.at_=n.at_∧Ah6 n'∧sz n'+4 * r.length≤sz n+4 * ts.length
 Ag7:∀ lo ts,Good ts→Asc ts→lo≤at0 ts→R (Aj5 f ts) (LE 1 lo [] ts)
 Aod:∀ acc lo ts,Good ts→Asc ts→lo≤at0 ts→Amv lo acc→R (Ald f acc ts) (LE 0 lo acc ts)
theorem Ba8 {k:Int} {t:ByteArray} {n:Int} {ts:List Tk} (hk:k≠20) (hg:Good ts) (ha:Asc ts) (h6:(hd ts).1≠6):TE 1 ts (.mk k t n (hd ts).2.2.2 []) ts.tail:=by
 have:=(hg.tail h6).2.1
 exact ⟨((Aft.refl hg ha).tail h6).weak (by omega),rfl,Ah6.mk trivial hk,by simp only [sz,szs];omega⟩
theorem rE:∀ f,OE f
 | 0=>by constructor <;> intros <;> (first | unfold Ahk | unfold Aky | unfold Akz | unfold Aj7 | unfold Amb | unfold Ak2 | unfold Aj9 | unfold Aj5 | unfold Ald) <;> exact R.none
 | f+1=>by
  have ih:=rE f
  constructor
  ·intro least ts hl hg ha;unfold Ahk
   refine R.bind (ih.operand ts hg ha) fun n r hn=>?_
   have:=hn.at_;have:=hn.size;have:=hn.aft.le
   refine R.weak (ih.loop least n r hl hn.aft.good hn.aft.asc hn.ord (by omega)) fun n' s ⟨h1,h2,h3,h4⟩=>?_
   exact ⟨(hn.aft.trans h1).weak (by omega),by omega,h3,by omega⟩
  ·intro least n ts hl hg ha hn hat;unfold Aky
   refine R.ite (fun _=>R.ok ⟨Aft.refl hg ha,rfl,hn,Nat.le_refl _⟩) fun hc=>?_
   have hb:=B3z ts
   have ht:=(Aft.refl hg ha).tail (A9s (by omega))
   have:=ht.len;have:=ht.le
   refine R.bind (ih.exp _ _ (by split <;> omega) ht.good ht.asc) fun m r hm=>?_
   have:=hm.at_;have:=hm.size;have:=hm.aft.le
   refine R.weak (ih.loop least _ r hl hm.aft.good hm.aft.asc (Ah6.mk ⟨⟨Int.le_refl _,hn⟩,⟨by omega,hm.ord⟩,trivial⟩ (by decide)) (show n.at_≤_ by omega)) fun n' s ⟨h1,h2,h3,h4⟩=>?_
   simp only [sz,szs] at h4
   exact ⟨((ht.trans hm.aft).trans h1).weak (by omega),h2,h3,by omega⟩
  ·intro ts hg ha;unfold Akz
   refine R.ite (fun h=>R.ok (Ba8 (by decide) hg ha (by omega))) fun _=>?_
   refine R.ite (fun h=>R.ok (Ba8 (by decide) hg ha (by omega))) fun _=>?_
   refine R.ite (fun h=>R.ok (Ba8 (by decide) hg ha (Abt h))) fun _=>?_
   refine R.ite (fun h=>R.ok (Ba8 (by decide) hg ha (Abt h))) fun _=>?_
   refine R.ite (fun h=>R.ok (Ba8 (by decide) hg ha (Abt h))) fun _=>?_
   refine R.ite (fun h=>?_) fun _=>?_
   ·have h6:(hd ts).1≠6:=by
     simp only [Bool.or_eq_true] at h
     rcases h with (h | h) | h <;> exact Abt h
    have ht:=(Aft.refl hg ha).tail h6
    have:=ht.len;have:=ht.le
    refine R.bind (ih.exp _ _ (by decide) ht.good ht.asc) fun m r hm=>R.ok ?_
    have:=hm.at_;have:=hm.size;have:=hm.aft.le
    exact ⟨(ht.trans hm.aft).weak (by omega),rfl,Ah6.mk (one (show at0 ts≤_ by omega) hm.ord) (by decide),by simp only [sz,szs];omega⟩
   refine R.ite (fun h=>?_) fun _=>ih.Akh ts hg ha
   have ht:=(Aft.refl hg ha).tail (Abt h)
   have:=ht.len;have:=ht.le
   refine R.bind (ih.fields [] (at0 ts) _ ht.good ht.asc (by omega) trivial) fun l r hl=>R.ok ?_
   have h5:=hl.size
   simp only [szs] at h5
   exact ⟨(ht.trans hl.aft).weak (by omega),rfl,Ah6.mk hl.ord (by decide),by simp only [sz];omega⟩
  ·intro acc lo ts hg ha hlo hacc;unfold Aj7
   refine R.ite (fun h=>?_) fun _=>?_
   ·have ht:=(Aft.refl hg ha).tail (Abt h)
    have:=ht.len
    exact R.ok ⟨ht.weak (by omega),hacc,by omega⟩
   refine R.bind (ih.field ts hg ha) fun x r hx=>?_
   have:=hx.at_;have:=hx.size;have:=hx.aft.le
   have hacc':=hacc.snoc (x:=x) (by omega) hx.ord
   refine R.ite (fun h=>?_) fun _=>?_
   ·have ht:=hx.aft.tail (Abt h)
    have:=ht.len;have:=ht.le
    have:=(hx.aft.good.tail (Abt h)).2.1
    refine R.weak (ih.fields _ lo _ ht.good ht.asc (by omega) hacc') fun l s hl=>?_
    have h5:=hl.size
    simp only [Aib,szs] at h5
    exact ⟨(ht.trans hl.aft).weak (by omega),hl.ord,by omega⟩
   refine R.ite (fun h=>?_) fun _=>?_
   ·have ht:=hx.aft.tail (Abt h)
    have:=ht.len;have:=ht.le
    have:=(hx.aft.good.tail (Abt h)).2.1
    refine R.weak (ih.fields _ lo _ ht.good ht.asc (by omega) hacc') fun l s hl=>?_
    have h5:=hl.size
    simp only [Aib,szs] at h5
    exact ⟨(ht.trans hl.aft).weak (by omega),hl.ord,by omega⟩
   refine R.bind (Aru hx.aft) fun _ s ⟨hs,hs2⟩=>R.ok ?_
   exact ⟨hs.weak (by omega),hacc',by simp only [Aib,szs];omega⟩
  ·intro ts hg ha;unfold Amb
   refine R.ite (fun h=>?_) fun _=>?_
   ·have ht:=(Aft.refl hg ha).tail (Abt h)
    have:=ht.len;have:=ht.le
    refine R.bind (ih.exp _ _ (by decide) ht.good ht.asc) fun k r hk=>?_
    have:=hk.at_;have:=hk.size;have:=hk.aft.le
    refine R.bind (Aru (ht.trans hk.aft)) fun _ r2 ⟨h2,h2'⟩=>?_
    refine R.bind (Aru h2) fun _ r3 ⟨h3,h3'⟩=>?_
    have:=h3.le
    refine R.bind (ih.exp _ _ (by decide) h3.good h3.asc) fun v r4 hv=>R.ok ?_
    have:=hv.at_;have:=hv.size
    exact ⟨(h3.trans hv.aft).weak (by omega),rfl,Ah6.mk ⟨⟨show at0 ts≤_ by omega,hk.ord⟩,⟨show at0 ts≤_ by omega,hv.ord⟩,trivial⟩ (by decide),by simp only [sz,szs];omega⟩
   refine R.ite (fun h=>?_) fun _=>?_
   ·obtain ⟨h1,h2,_⟩:=h
    have ht:=((Aft.refl hg ha).tail (by omega)).tail (by omega)
    have:=ht.len;have:=ht.le
    refine R.bind (ih.exp _ _ (by decide) ht.good ht.asc) fun v r hv=>R.ok ?_
    have:=hv.at_;have:=hv.size
    exact ⟨(ht.trans hv.aft).weak (by omega),rfl,Ah6.mk ⟨⟨Int.le_refl _,Ah6.mk trivial (by decide)⟩,⟨show at0 ts≤_ by omega,hv.ord⟩,trivial⟩ (by decide),by simp only [sz,szs];omega⟩
   ·refine R.bind (ih.exp _ _ (by decide) hg ha) fun v r hv=>R.ok ?_
    have:=hv.at_;have:=hv.size
    exact ⟨hv.aft,rfl,Ah6.mk (one (show at0 ts≤_ by omega) hv.ord) (by decide),by simp only [sz,szs];omega⟩
  ·intro ts hg ha;unfold Ak2
   refine R.ite (fun h=>?_) fun _=>?_
   ·have ht:=(Aft.refl hg ha).tail (Abt h)
    have:=ht.len;have:=ht.le
    refine R.bind (ih.exp _ _ (by decide) ht.good ht.asc) fun e r he=>?_
    have:=he.at_;have:=he.size
    refine R.bind (Aru (ht.trans he.aft)) fun _ r2 ⟨h2,h2'⟩=>?_
    have:=h2.le
    refine R.weak (ih.Aik _ _ r2 h2.good h2.asc (Ah6.mk (one (show at0 ts≤_ by omega) he.ord) (by decide)) rfl (show at0 ts≤_ by omega)) fun n' s ⟨h3,h4,h5,h6⟩=>?_
    simp only [sz,szs] at h6
    exact ⟨(h2.trans h3).weak (by omega),h4,h5,by omega⟩
   ·refine R.bind (Bbp (by decide) hg ha) fun n r hn=>?_
    have:=hn.at_;have:=hn.size;have:=hn.aft.le
    refine R.weak (ih.Aik _ _ r hn.aft.good hn.aft.asc hn.ord hn.at_.symm (by omega)) fun n' s ⟨h3,h4,h5,h6⟩=>?_
    exact ⟨(hn.aft.trans h3).weak (by omega),by omega,h5,by omega⟩
  ·intro at_ n ts hg ha hn he hat;unfold Aj9
   subst he
   refine R.ite (fun h=>?_) fun _=>?_
   ·have ht:=(Aft.refl hg ha).tail (Abt h)
    have:=ht.len;have:=ht.le
    refine R.bind (ih.exp _ _ (by decide) ht.good ht.asc) fun e r he=>?_
    have:=he.at_;have:=he.size
    refine R.bind (Aru (ht.trans he.aft)) fun _ r2 ⟨h2,h2'⟩=>?_
    have:=h2.le
    refine R.weak (ih.Aik _ _ r2 h2.good h2.asc (Ah6.mk ⟨⟨Int.le_refl _,hn⟩,⟨by omega,he.ord⟩,trivial⟩ (by decide)) rfl (show n.at_≤_ by omega)) fun n' s ⟨h3,h4,h5,h6⟩=>?_
    simp only [sz,szs] at h6
    exact ⟨(h2.trans h3).weak (by omega),h4,h5,by omega⟩
   refine R.ite (fun h=>?_) fun _=>?_
   ·have ht:=(Aft.refl hg ha).tail (Abt h)
    have:=ht.len;have:=ht.le
    refine R.bind (Bbp (by decide) ht.good ht.asc) fun e r he=>?_
    have:=he.at_;have:=he.size;have:=he.aft.le
    refine R.weak (ih.Aik _ _ r he.aft.good he.aft.asc (Ah6.mk ⟨⟨Int.le_refl _,hn⟩,⟨by omega,he.ord⟩,trivial⟩ (by decide)) rfl (show n.at_≤_ by omega)) fun n' s ⟨h3,h4,h5,h6⟩=>?_
    simp only [sz,szs] at h6
    exact ⟨((ht.trans he.aft).trans h3).weak (by omega),h4,h5,by omega⟩
   refine R.ite (fun h=>?_) fun _=>R.ok ⟨Aft.refl hg ha,rfl,hn,Nat.le_refl _⟩
   have ht:=(Aft.refl hg ha).tail (Abt h)
   have:=ht.len;have:=ht.le
   refine R.bind (Q1:=LE 0 n.at_ [] ts.tail) ?_ fun l r hl=>?_
   ·refine R.ite (fun _=>R.ok ⟨Aft.refl ht.good ht.asc,trivial,Nat.le_refl _⟩) fun _=>?_
    exact R.weak (ih.Ag7 n.at_ _ ht.good ht.asc (by omega)) fun l r hl=>⟨hl.aft.weak (by omega),hl.ord,hl.size⟩
   refine R.bind (Aru (ht.trans hl.aft)) fun _ r2 ⟨h2,h2'⟩=>?_
   have:=h2.le
   have h7:=hl.size
   simp only [szs] at h7
   refine R.weak (ih.Aik _ _ r2 h2.good h2.asc (Ah6.mk ⟨⟨Int.le_refl _,hn⟩,hl.ord⟩ (by decide)) rfl (show n.at_≤_ by omega)) fun n' s ⟨h3,h4,h5,h6⟩=>?_
   simp only [sz,szs] at h6
   exact ⟨(h2.trans h3).weak (by omega),h4,h5,by omega⟩
  ·intro lo ts hg ha hlo;unfold Aj5
   refine R.bind (ih.exp _ _ (by decide) hg ha) fun e r he=>?_
   have:=he.at_;have:=he.size;have:=he.aft.le
   refine R.weak (ih.Aod _ lo r he.aft.good he.aft.asc (by omega) (one (by omega) he.ord)) fun l s hl=>?_
   have h7:=hl.size
   simp only [szs] at h7
   exact ⟨(he.aft.trans hl.aft).weak (by omega),hl.ord,by simp only [szs];omega⟩
  ·intro acc lo ts hg ha hlo hacc;unfold Ald
   refine R.ite (fun h=>?_) fun _=>R.ok ⟨Aft.refl hg ha,hacc,Nat.le_refl _⟩
   have ht:=(Aft.refl hg ha).tail (Abt h)
   have:=ht.len;have:=ht.le
   refine R.bind (ih.exp _ _ (by decide) ht.good ht.asc) fun e r he=>?_
   have:=he.at_;have:=he.size;have:=he.aft.le
   refine R.weak (ih.Aod _ lo r he.aft.good he.aft.asc (by omega) (hacc.snoc (by omega) he.ord)) fun l s hl=>?_
   have h7:=hl.size
   simp only [Aib,szs] at h7
   exact ⟨((ht.trans he.aft).trans hl.aft).weak (by omega),hl.ord,by omega⟩
structure TB (ts:List Tk) (n:Tree) (r:List Tk):Prop where
 aft:Aft 0 ts r
 at_:n.at_=at0 ts
 ord:Ah6 n
 size:sz n+4 * r.length≤4 * ts.length+1
 kind:n.kind=20
structure OS (f:Nat):Prop where
 block:∀ c ts,Good ts→Asc ts→R (Aj4 f c ts) (TB ts)
 Ajy:∀ c at_ acc ts,Good ts→Asc ts→at_≤at0 ts→Amv at_ acc→(acc.Pairwise fun x y=>x.at_ < y.at_)→(∀ x ∈ acc,x.at_ < at0 ts)→R (Ajo f c at_ acc ts) fun n r=>Aft 0 ts r∧n.at_=at_∧Ah6 n∧sz n+4 * r.length≤szs acc+4 * ts.length+1∧n.kind=20
 function:∀ ts,(hd ts).1≠6→Good ts→Asc ts→R (Amx f ts) (TE 0 ts)
 body:∀ ts,Good ts→Asc ts→R (Alc f ts) fun b r=>Aft 2 ts r∧at0 ts≤b.at_∧Ah6 b∧sz b+4 * r.length+7≤4 * ts.length
 stat:∀ ts,Good ts→Asc ts→R (Alu f ts) (TE 0 ts)
 branches:∀ acc lo ts,Good ts→Asc ts→lo≤at0 ts→Amv lo acc→R (Al9 f acc ts) (LE 1 lo acc ts)
 for_:∀ at_ ts,Good ts→Asc ts→at_≤at0 ts→R (Amw f at_ ts) fun n r=>Aft 1 ts r∧n.at_=at_∧Ah6 n∧sz n+4 * r.length≤4 * ts.length
 plain:∀ ts,Good ts→Asc ts→R (Amc f ts) (TE 0 ts)
 targets:∀ acc lo e ts,Good ts→Asc ts→lo≤at0 ts→Amv lo acc→lo≤e.at_→Ah6 e→R (Alg f acc e ts) fun l r=>Aft 0 ts r∧Amv lo l∧szs l+4 * r.length≤szs acc+sz e+4 * ts.length
theorem Cfm {acc:List Tree} {x:Tree} (h:acc.Pairwise fun x y=>x.at_ < y.at_) (h2:∀ y ∈ acc,y.at_ < x.at_):(acc++[x]).Pairwise fun x y=>x.at_ < y.at_:=by
 refine List.pairwise_append.2 ⟨h,List.pairwise_singleton ..,fun y hy z hz=>?_⟩
 obtain rfl:=List.mem_singleton.1 hz
 exact h2 y hy
theorem rS:∀ f,OS f
 | 0=>by constructor <;> intros <;> (first | unfold Aj4 | unfold Ajo | unfold Amx | unfold Alc | unfold Alu | unfold Al9 | unfold Amw | unfold Amc | unfold Alg) <;> exact R.none
 | f+1=>by
  have ih:=rS f
  have ie:=rE f
  constructor
  ·intro c ts hg ha;unfold Aj4
   refine R.weak (ih.Ajy c _ [] ts hg ha (Int.le_refl _) trivial List.Pairwise.nil (fun _ h=>by cases h)) fun n r ⟨h1,h2,h3,h4,h5⟩=>?_
   simp only [szs] at h4
   exact ⟨h1,h2,h3,by omega,h5⟩
  ·intro c at_ acc ts hg ha hat hacc hp hlt;unfold Ajo
   have next:∀ x r,TE 0 ts x r→R (Ajo f c at_ (acc++[x]) r) fun n r=>Aft 0 ts r∧n.at_=at_∧Ah6 n∧sz n+4 * r.length≤szs acc+4 * ts.length+1∧n.kind=20:=fun x r hx=>by
    have:=hx.at_;have:=hx.size;have:=hx.aft.len
    have h9:=hx.aft.lt (by omega)
    refine R.weak (ih.Ajy c at_ (acc++[x]) r hx.aft.good hx.aft.asc (by omega) (hacc.snoc (by omega) hx.ord) (Cfm hp fun y hy=>by have:=hlt y hy;omega) fun y hy=>?_) fun n s ⟨h1,h2,h3,h4,h5⟩=>?_
    ·rcases List.mem_append.1 hy with hy | hy
     ·have:=hlt y hy;omega
     ·obtain rfl:=List.mem_singleton.1 hy;omega
    ·simp only [Aib,szs] at h4
     exact ⟨(hx.aft.trans h1).weak (by omega),h2,h3,by omega,h5⟩
   refine R.ite (fun h=>?_) fun _=>?_
   ·have ht:=(Aft.refl hg ha).tail (Abt h)
    have:=ht.len;have:=ht.le
    refine R.weak (ih.Ajy c at_ acc _ ht.good ht.asc (by omega) hacc hp fun x hx=>by have:=hlt x hx;omega) fun n s ⟨h1,h2,h3,h4,h5⟩=>?_
    exact ⟨(ht.trans h1).weak (by omega),h2,h3,by omega,h5⟩
   refine R.ite (fun h=>?_) fun _=>?_
   ·have ht:=(Aft.refl hg ha).tail (Abt h)
    have:=ht.len;have:=ht.le
    refine R.bind (Q1:=LE 0 (at0 ts) [] ts.tail) ?_ fun l r hl=>?_
    ·refine R.ite (fun _=>R.ok ⟨Aft.refl ht.good ht.asc,trivial,Nat.le_refl _⟩) fun _=>?_
     exact R.weak (ie.Ag7 (at0 ts) _ ht.good ht.asc (by omega)) fun l r hl=>⟨hl.aft.weak (by omega),hl.ord,hl.size⟩
    have h7:=hl.size
    simp only [szs] at h7
    have hr:Aft 0 ts (if isH Atl r=true then r.tail else r)∧(if isH Atl r=true then r.tail else r).length≤r.length:=by
     split
     ·rename_i hc
      have:=(hl.aft.good.tail (Abt hc)).2.1
      exact ⟨((ht.trans hl.aft).tail (Abt hc)).weak (by omega),by omega⟩
     ·exact ⟨(ht.trans hl.aft).weak (by omega),Nat.le_refl _⟩
    have:=hr.2
    refine R.ok ⟨hr.1,rfl,⟨hacc.snoc (show at_≤at0 ts by omega) (Ah6.mk hl.ord (by decide)),fun _=>Cfm hp fun y hy=>hlt y hy⟩,?_,rfl⟩
    simp only [sz,szs,Aib]
    omega
   refine R.ite (fun h=>?_) fun _=>?_
   ·simp only [Bool.and_eq_true] at h
    exact R.bind (ih.function ts (Abt h.2) hg ha) next
   refine R.ite (fun h=>?_) fun _=>R.bind (ih.stat ts hg ha) next
   refine R.ok ⟨Aft.refl hg ha,rfl,⟨hacc,fun _=>hp⟩,?_,rfl⟩
   simp only [sz];omega
  ·intro ts h6 hg ha;unfold Amx
   have ht:=(Aft.refl hg ha).tail h6
   have:=ht.len;have:=ht.le
   refine R.bind (Bbp (by decide) ht.good ht.asc) fun nm r hn=>?_
   have:=hn.size
   have hnp:1≤sz nm:=by cases nm;simp only [sz];omega
   refine R.bind (Aru (ht.trans hn.aft)) fun _ r2 ⟨h2,h2'⟩=>?_
   have:=h2.le
   refine R.bind (Q1:=LE 0 (at0 ts) [] r2) ?_ fun ps r3 hl=>?_
   ·refine R.ite (fun _=>R.ok ⟨Aft.refl h2.good h2.asc,trivial,Nat.le_refl _⟩) fun _=>?_
    exact R.weak (Cfu f h2.good h2.asc (by omega)) fun l r hl=>⟨hl.aft.weak (by omega),hl.ord,hl.size⟩
   refine R.bind (Aru (h2.trans hl.aft)) fun _ r4 ⟨h4,h4'⟩=>?_
   have h7:=hl.size
   simp only [szs] at h7
   have:=h4.le
   refine R.bind (ih.block false r4 h4.good h4.asc) fun b r5 hb=>?_
   have:=hb.at_;have:=hb.size
   refine R.bind (Aru (h4.trans hb.aft)) fun _ r6 ⟨h8,h8'⟩=>R.ok ?_
   refine ⟨h8.weak (by omega),rfl,Ah6.mk (hl.ord.snoc (show at0 ts≤_ by omega) hb.ord) (by decide),?_⟩
   simp only [sz,szs,Aib]
   omega
  ·intro ts hg ha;unfold Alc
   refine R.bind (Aru (Aft.refl hg ha)) fun _ r ⟨h1,h1'⟩=>?_
   have:=h1.le
   refine R.bind (ih.block false r h1.good h1.asc) fun b r2 hb=>?_
   have:=hb.at_;have:=hb.size
   refine R.bind (Aru (h1.trans hb.aft)) fun _ r3 ⟨h3,h3'⟩=>R.ok ?_
   exact ⟨h3.weak (by omega),by omega,hb.ord,by omega⟩
  ·intro ts hg ha;unfold Alu
   refine R.ite (fun h=>?_) fun _=>?_
   ·refine R.bind (ih.body ts hg ha) fun b r ⟨h1,h2,h3,h4⟩=>R.ok ?_
    exact ⟨h1.weak (by omega),rfl,Ah6.mk (one (show at0 ts≤_ by omega) h3) (by decide),by simp only [sz,szs];omega⟩
   refine R.ite (fun h=>?_) fun _=>?_
   ·have ht:=(Aft.refl hg ha).tail (Abt h)
    have:=ht.len;have:=ht.le
    refine R.bind (ie.exp _ _ (by decide) ht.good ht.asc) fun e r he=>?_
    have:=he.at_;have:=he.size;have:=he.aft.le
    refine R.bind (ih.body r he.aft.good he.aft.asc) fun b r ⟨h1,h2,h3,h4⟩=>R.ok ?_
    exact ⟨((ht.trans he.aft).trans h1).weak (by omega),rfl,Ah6.mk ⟨⟨show at0 ts≤_ by omega,he.ord⟩,⟨show at0 ts≤_ by omega,h3⟩,trivial⟩ (by decide),by simp only [sz,szs];omega⟩
   refine R.ite (fun h=>?_) fun _=>?_
   ·have ht:=(Aft.refl hg ha).tail (Abt h)
    have:=ht.len;have:=ht.le
    refine R.bind (ih.branches [] (at0 ts) _ ht.good ht.asc (by omega) trivial) fun l r hl=>R.ok ?_
    have h7:=hl.size
    simp only [szs] at h7
    exact ⟨(ht.trans hl.aft).weak (by omega),rfl,Ah6.mk hl.ord (by decide),by simp only [sz];omega⟩
   refine R.ite (fun h=>?_) fun _=>?_
   ·have ht:=(Aft.refl hg ha).tail (Abt h)
    have:=ht.len;have:=ht.le
    refine R.weak (ih.for_ (at0 ts) _ ht.good ht.asc (by omega)) fun n r ⟨h1,h2,h3,h4⟩=>?_
    exact ⟨(ht.trans h1).weak (by omega),h2,h3,by omega⟩
   refine R.ite (fun h=>?_) fun _=>?_
   ·have ht:=(Aft.refl hg ha).tail (Abt h)
    have:=ht.len;have:=ht.le
    refine R.bind (Cfu f ht.good ht.asc (lo:=at0 ts) (by omega)) fun l r hl=>?_
    have:=hl.aft.le
    have h7:=hl.size
    simp only [szs] at h7
    refine R.bind (Q1:=LE 0 (at0 ts) [] r) ?_ fun es r2 he=>R.ok ?_
    ·refine R.ite (fun hc=>?_) fun _=>R.ok ⟨Aft.refl hl.aft.good hl.aft.asc,trivial,Nat.le_refl _⟩
     have ht2:=(Aft.refl hl.aft.good hl.aft.asc).tail (Abt hc)
     have:=ht2.len;have:=ht2.le
     exact R.weak (ie.Ag7 (at0 ts) _ ht2.good ht2.asc (by omega)) fun l r hl=>⟨(ht2.trans hl.aft).weak (by omega),hl.ord,by have:=hl.size;omega⟩
    have h8:=he.size
    simp only [szs] at h8
    exact ⟨((ht.trans hl.aft).trans he.aft).weak (by omega),rfl,Ah6.mk (hl.ord.app he.ord) (by decide),by simp only [sz,Aib];omega⟩
   refine R.ite (fun h=>?_) fun _=>ih.plain ts hg ha
   have:=Ba8 (k:=29) (t:=noB) (n:=0) (by decide) hg ha (Abt h)
   exact R.ok ⟨this.aft,this.at_,this.ord,by have:=this.size;omega⟩
  ·intro acc lo ts hg ha hlo hacc;unfold Al9
   refine R.bind (ie.exp _ _ (by decide) hg ha) fun e r he=>?_
   have:=he.at_;have:=he.size;have:=he.aft.le
   refine R.bind (Aru he.aft) fun _ r2 ⟨h2,h2'⟩=>?_
   have:=h2.le
   refine R.bind (ih.block false r2 h2.good h2.asc) fun b r3 hb=>?_
   have:=hb.at_;have:=hb.size;have:=hb.aft.le
   have h3:=h2.trans hb.aft
   have hacc':=(hacc.snoc (x:=e) (by omega) he.ord).snoc (x:=b) (by omega) hb.ord
   refine R.ite (fun h=>?_) fun _=>?_
   ·have ht:=h3.tail (Abt h)
    have:=ht.le
    have:=(h3.good.tail (Abt h)).2.1
    refine R.weak (ih.branches _ lo _ ht.good ht.asc (by omega) hacc') fun l s hl=>?_
    have h7:=hl.size
    simp only [Aib,szs] at h7
    exact ⟨(ht.trans hl.aft).weak (by omega),hl.ord,by omega⟩
   refine R.ite (fun h=>?_) fun _=>?_
   ·have ht:=h3.tail (Abt h)
    have:=ht.le
    have:=(h3.good.tail (Abt h)).2.1
    refine R.bind (ih.block false _ ht.good ht.asc) fun c r4 hc=>?_
    have:=hc.at_;have:=hc.size
    refine R.bind (Aru (ht.trans hc.aft)) fun _ r5 ⟨h5,h5'⟩=>R.ok ?_
    exact ⟨h5.weak (by omega),hacc'.snoc (by omega) hc.ord,by simp only [Aib,szs];omega⟩
   ·refine R.bind (Aru h3) fun _ r5 ⟨h5,h5'⟩=>R.ok ?_
    exact ⟨h5.weak (by omega),hacc',by simp only [Aib,szs];omega⟩
  ·intro at_ ts hg ha hat;unfold Amw
   refine R.bind (Bbp (by decide) hg ha) fun n r hn=>?_
   have:=hn.at_;have:=hn.size;have:=hn.aft.le
   refine R.ite (fun h=>?_) fun _=>?_
   ·have ht:=hn.aft.tail (Abt h)
    have:=ht.le
    have:=(hn.aft.good.tail (Abt h)).2.1
    refine R.bind (ie.exp _ _ (by decide) ht.good ht.asc) fun a r2 h2=>?_
    have:=h2.at_;have:=h2.size
    refine R.bind (Aru (ht.trans h2.aft)) fun _ r3 ⟨h3,h3'⟩=>?_
    have:=h3.le
    refine R.bind (ie.exp _ _ (by decide) h3.good h3.asc) fun b r4 h4=>?_
    have:=h4.at_;have:=h4.size;have:=h4.aft.le
    refine R.bind (Q1:=LE 0 at_ [] r4) ?_ fun cs r5 h5=>?_
    ·refine R.ite (fun hc=>?_) fun _=>R.ok ⟨Aft.refl h4.aft.good h4.aft.asc,trivial,Nat.le_refl _⟩
     have ht2:=(Aft.refl h4.aft.good h4.aft.asc).tail (Abt hc)
     have:=ht2.len;have:=ht2.le
     refine R.bind (ie.exp _ _ (by decide) ht2.good ht2.asc) fun c s hc=>R.ok ?_
     have:=hc.at_;have:=hc.size
     exact ⟨(ht2.trans hc.aft).weak (by omega),one (by omega) hc.ord,by simp only [szs];omega⟩
    have h7:=h5.size
    simp only [szs] at h7
    have:=h5.aft.le
    refine R.bind (ih.body r5 h5.aft.good h5.aft.asc) fun bd r6 ⟨h8,h9,h10,h11⟩=>R.ok ?_
    refine ⟨(((h3.trans h4.aft).trans h5.aft).trans h8).weak (by omega),rfl,Ah6.mk ?_ (by decide),by simp only [sz,Aib,szs];omega⟩
    exact ((((one (x:=n) (by omega) hn.ord).snoc (x:=a) (by omega) h2.ord).snoc (x:=b) (by omega) h4.ord).app h5.ord).snoc (x:=bd) (by omega) h10
   refine R.bind (Byh f [n] at_ r hn.aft.good hn.aft.asc (by omega) (one (by omega) hn.ord)) fun l r2 hl=>?_
   have h7:=hl.size
   simp only [szs] at h7
   refine R.bind (Aru (hn.aft.trans hl.aft)) fun _ r3 ⟨h3,h3'⟩=>?_
   have:=h3.le
   refine R.bind (ie.Ag7 at_ r3 h3.good h3.asc (by omega)) fun es r4 h4=>?_
   have h8:=h4.size
   simp only [szs] at h8
   have:=h4.aft.le
   refine R.bind (ih.body r4 h4.aft.good h4.aft.asc) fun bd r6 ⟨h9,h10,h11,h12⟩=>R.ok ?_
   exact ⟨((h3.trans h4.aft).trans h9).weak (by omega),rfl,Ah6.mk ((hl.ord.app h4.ord).snoc (x:=bd) (by omega) h11) (by decide),by simp only [sz,Aib,szs];omega⟩
  ·intro ts hg ha;unfold Amc
   refine R.bind (ie.Akh ts hg ha) fun e r he=>?_
   have:=he.at_;have:=he.size;have:=he.aft.le
   refine R.ite (fun h=>?_) fun _=>?_
   ·refine R.bind (ih.targets [] (at0 ts) e r he.aft.good he.aft.asc (by omega) trivial (by omega) he.ord) fun l r2 ⟨h1,h2,h3⟩=>?_
    simp only [szs] at h3
    refine R.bind (Aru (he.aft.trans h1)) fun _ r3 ⟨h4,h4'⟩=>?_
    have:=h4.le
    refine R.bind (ie.Ag7 (at0 ts) r3 h4.good h4.asc (by omega)) fun es r4 h5=>R.ok ?_
    have h6:=h5.size
    simp only [szs] at h6
    exact ⟨(h4.trans h5.aft).weak (by omega),he.at_,Ah6.mk ((h2.app h5.ord).weak (by omega)) (by decide),by simp only [sz,Aib];omega⟩
   refine R.ite (fun h=>R.ok ?_) fun _=>R.bad
   exact ⟨he.aft,he.at_,Ah6.mk (one (Int.le_refl _) he.ord) (by decide),by simp only [sz,szs];omega⟩
  ·intro acc lo e ts hg ha hlo hacc he0 he;unfold Alg
   refine R.ite (fun h=>?_) fun _=>R.bad
   have hacc':=hacc.snoc he0 he
   refine R.ite (fun h=>?_) fun _=>R.ok ⟨Aft.refl hg ha,hacc',by simp only [Aib,szs];omega⟩
   have ht:=(Aft.refl hg ha).tail (Abt h)
   have:=ht.len;have:=ht.le
   refine R.bind (ie.Akh _ ht.good ht.asc) fun e' r hx=>?_
   have:=hx.at_;have:=hx.size;have:=hx.aft.le
   refine R.weak (ih.targets _ lo e' r hx.aft.good hx.aft.asc (by omega) hacc' (by omega) hx.ord) fun l s ⟨h1,h2,h3⟩=>?_
   simp only [Aib,szs] at h3
   exact ⟨((ht.trans hx.aft).trans h1).weak (by omega),h2,by omega⟩
theorem Dcn {c:Bool} {ts r:List Tk} {b:Tree} (hg:Good ts) (ha:Asc ts) (h:Aph c ts=.ok b r):TB ts b r :=
 (rS _).block c ts hg ha b r ((A7s c hg (by unfold fu;omega:_≤fu ts)).trans (congrArg some h))
end
section
namespace Lx
theorem Byw (f:Nat) (l:Bs) (at_:Nat) (acc:List Tok):Aqc (f+1) l at_ acc =
  match Ajt (l.drop (Aep Agk l)) with
  | .done=>.inr (acc++[⟨6,[],0,at_+Aep Agk l⟩])
  | .skip n=>Aqc f ((l.drop (Aep Agk l)).drop n) (at_+Aep Agk l+n) acc
  | .tok kind text n len=>Aqc f ((l.drop (Aep Agk l)).drop len) (at_+Aep Agk l+len) (acc++[⟨kind,text,n,at_+Aep Agk l⟩])
  | .bad c r=>.inl (c,(at_+Aep Agk l+r:Nat)):=rfl
theorem Cny (b:UInt8) (t:Bs) (h:b.toNat < 128):Afg (b :: t)=(b.toNat,1):=by
 unfold Afg
 simp only [List.getD_cons_zero]
 rw [if_pos h]
end Lx
namespace Lx
theorem A3m (l:Bs):(∀ n,Ajt l=.skip n→1≤n∧n≤l.length)∧(∀ k t n len,Ajt l=.tok k t n len→1≤len∧len≤l.length) :=
 ⟨fun n h=>Chd l n h,fun k t n len h=>Chg l k t n len h⟩
theorem Bne:∀ (f g:Nat) (l:Bs) (at_:Nat) (acc:List Tok),l.length < f→l.length < g→Aqc f l at_ acc=Aqc g l at_ acc
 | 0,_,l,_,_,h,_=>by omega
 | _,0,l,_,_,_,h=>by omega
 | f+1,g+1,l,at_,acc,h,h'=>by
  rw [Byw,Byw]
  have hd:(l.drop (Aep Agk l)).length≤l.length:=by rw [List.length_drop];omega
  cases hst:Ajt (l.drop (Aep Agk l)) with
  | done=>rfl
  | bad c r=>rfl
  | skip n =>
   have:=(A3m _).1 n hst
   exact Bne f g _ _ _ (by rw [List.length_drop];omega) (by rw [List.length_drop];omega)
  | tok k t n len =>
   have:=(A3m _).2 k t n len hst
   exact Bne f g _ _ _ (by rw [List.length_drop];omega) (by rw [List.length_drop];omega)
def As3 (l:Bs) (at_:Nat) (acc:List Tok):(Int×Int) ⊕ List Tok:=Aqc (l.length+1) l at_ acc
theorem Bbu (l:Bs) (at_:Nat) (acc:List Tok):As3 l at_ acc =
  match Ajt (l.drop (Aep Agk l)) with
  | .done=>.inr (acc++[⟨6,[],0,at_+Aep Agk l⟩])
  | .skip n=>As3 ((l.drop (Aep Agk l)).drop n) (at_+Aep Agk l+n) acc
  | .tok kind text n len=>As3 ((l.drop (Aep Agk l)).drop len) (at_+Aep Agk l+len) (acc++[⟨kind,text,n,at_+Aep Agk l⟩])
  | .bad c r=>.inl (c,(at_+Aep Agk l+r:Nat)):=by
 unfold As3
 rw [Byw]
 have hd:(l.drop (Aep Agk l)).length≤l.length:=by rw [List.length_drop];omega
 cases hst:Ajt (l.drop (Aep Agk l)) with
 | done=>rfl
 | bad c r=>rfl
 | skip n =>
  have:=(A3m _).1 n hst
  exact Bne _ _ _ _ _ (by rw [List.length_drop];omega) (by omega)
 | tok k t n len =>
  have:=(A3m _).2 k t n len hst
  exact Bne _ _ _ _ _ (by rw [List.length_drop];omega) (by omega)
end Lx
end
section
open Go Go.RowKit Lx
def A4i:Nat→Nat→List Tok→Prop
 | _,_,[]=>False
 | lo,hi,x :: t=>lo≤x.at_∧x.at_≤hi∧((x.kind=6∧t=[])∨(x.kind≠6∧A4i (x.at_+1) hi t))
theorem A4i.weak:∀ {t:List Tok} {lo lo' hi:Nat},lo'≤lo→A4i lo hi t→A4i lo' hi t
 | [],_,_,_,_,h=>h
 | _ :: _,_,_,_,hl,⟨h1,h2,h3⟩=>⟨Nat.le_trans hl h1,h2,h3⟩
theorem Dby (l:Bs) (k:Int) (t:Bs) (n:Int) (len:Nat) (h:Ajt l=.tok k t n len):k≠6:=by
 unfold Ajt at h
 dsimp only at h
 repeat' split at h
 all_goals first | (cases h;done) | (simp only [Step.tok.injEq] at h;obtain ⟨rfl,_⟩:=h;(repeat' split) <;> decide)
theorem Byx:∀ (f:Nat) (l:Bs) (at_:Nat) (acc t:List Tok),l.length < f→Aqc f l at_ acc=.inr t→∃ t',t=acc++t'∧A4i at_ (at_+l.length) t'
 | 0,l,_,_,_,hf,_=>absurd hf (Nat.not_lt_zero _)
 | f+1,l,at_,acc,t,hf,h=>by
  unfold Aqc at h
  dsimp only at h
  have hk:=Axp Agk l
  have hdl:(l.drop (Aep Agk l)).length=l.length - Aep Agk l:=List.length_drop
  cases hst:Ajt (l.drop (Aep Agk l)) with
  | done =>
   rw [hst] at h
   cases h
   exact ⟨_,rfl,by show at_≤at_+_;omega,by show at_+_≤_;omega,.inl ⟨rfl,rfl⟩⟩
  | bad c r=>rw [hst] at h;cases h
  | skip q =>
   have hq:=(A3m _).1 q hst
   rw [hst] at h
   dsimp only at h
   have hlen:((l.drop (Aep Agk l)).drop q).length=l.length - Aep Agk l - q:=by rw [List.length_drop,hdl]
   obtain ⟨t',e,hR⟩:=Byx f _ _ _ _ (by omega) h
   refine ⟨t',e,?_⟩
   rw [show at_+l.length=at_+Aep Agk l+q+((l.drop (Aep Agk l)).drop q).length by omega]
   exact hR.weak (by omega)
  | tok kd tx x len =>
   have hq:=(A3m _).2 _ _ _ _ hst
   rw [hst] at h
   dsimp only at h
   have hlen:((l.drop (Aep Agk l)).drop len).length=l.length - Aep Agk l - len:=by rw [List.length_drop,hdl]
   obtain ⟨t',e,hR⟩:=Byx f _ _ _ _ (by omega) h
   refine ⟨⟨kd,tx,x,at_+Aep Agk l⟩ :: t',by rw [e,List.append_assoc];rfl,by show at_≤at_+_;omega,by show at_+_≤_;omega,.inr ⟨Dby _ _ _ _ _ hst,?_⟩⟩
   rw [show at_+l.length=at_+Aep Agk l+len+((l.drop (Aep Agk l)).drop len).length by omega]
   exact hR.weak (by show at_+_+1≤_;omega)
theorem A4i.good:∀ {t:List Tok} {lo hi:Nat},A4i lo hi t→Good (t.map Ahw)∧Asc (t.map Ahw)∧(∀ x ∈ t.map Ahw,(lo:Int)≤x.2.2.2∧x.2.2.2≤hi)∧lo+t.length≤hi+1
 | [],_,_,h=>h.elim
 | x :: t,lo,hi,⟨h1,h2,h3⟩=>by
  rcases h3 with ⟨h6,rfl⟩ | ⟨h6,hR⟩
  ·refine ⟨h6,List.pairwise_singleton ..,fun y hy=>?_,by simp;omega⟩
   obtain rfl:=List.mem_singleton.1 hy
   exact ⟨by show (lo:Int)≤x.at_;omega,by show (x.at_:Int)≤hi;omega⟩
  ·obtain ⟨g1,g2,g3,g4⟩:=hR.good
   refine ⟨?_,List.pairwise_cons.2 ⟨fun y hy=>?_,g2⟩,fun y hy=>?_,by simp only [List.length_cons];omega⟩
   ·cases t with
    | nil=>exact hR.elim
    | cons u t=>exact ⟨h6,g1⟩
   ·have:=(g3 y hy).1
    show (x.at_:Int) < _
    omega
   ·rcases List.mem_cons.1 hy with rfl | hy
    ·exact ⟨by show (lo:Int)≤x.at_;omega,by show (x.at_:Int)≤hi;omega⟩
    ·have:=g3 y hy
     exact ⟨by omega,this.2⟩
structure B22 (n:Nat) (ts:List Tk):Prop where
 good:Good ts
 asc:Asc ts
 at_:∀ x ∈ ts,0≤x.2.2.2∧x.2.2.2≤n
 len:ts.length≤20001
theorem By0 (s:ByteArray) (t:List Tok) (h:Aoq (bs s)=.inr t):B22 s.size (t.map Ahw):=by
 unfold Aoq at h
 split at h
 ·cases h
 ·rename_i hs
  have hl:(bs s).length=s.size:=Af7 s
  obtain ⟨t',e,hR⟩:=Byx _ _ _ _ _ (Nat.lt_succ_self _) h
  rw [List.nil_append] at e
  subst e
  obtain ⟨g1,g2,g3,g4⟩:=hR.good
  refine ⟨g1,g2,fun x hx=>?_,by rw [List.length_map];omega⟩
  have:=g3 x hx
  omega
end
section
open Go Go.RowKit
structure Cx (n:Int) (ts:List Tk):Prop where
 good:Good ts
 asc:Asc ts
 at_:∀ x ∈ ts,0≤x.2.2.2∧x.2.2.2≤n
theorem Cx.suf {n:Int} {ts r:List Tk} (h:Cx n ts) (hg:Good r) (hs:r <:+ ts):Cx n r:=⟨hg,List.Pairwise.sublist hs.sublist h.asc,fun x hx=>h.at_ x (hs.subset hx)⟩
theorem Cx.tail {n:Int} {ts:List Tk} (h:Cx n ts) (h6:(hd ts).1≠6):Cx n ts.tail:=h.suf (h.good.tail h6).1 (h.good.tail h6).2.2
theorem Cx.hd {n:Int} {ts:List Tk} (h:Cx n ts):0≤(hd ts).2.2.2∧(hd ts).2.2.2≤n:=by
 cases ts with
 | nil=>exact h.good.elim
 | cons t ts=>exact h.at_ t (List.mem_cons_self ..)
def BB {α:Type} (n:Int) (x:Option (PV α)):Prop:=∀ i,x=some (.bad i)→0≤i∧i≤n
section
variable {α β:Type} {n:Int} {m:Nat} {ts:List Tk} {x y:Option (PV α)} {f:α→List Tk→Option (PV β)}
theorem BB.bind (hC:Cx n ts) (hs:Step m ts x) (h1:BB n x) (h2:∀ a r,x=some (.ok a r)→Cx n r→BB n (f a r)):BB n (PV.bind x f):=fun i h=>by
 rcases bind_some h with ⟨j,hx,he⟩ | ⟨a,r,hx,hf⟩
 ·cases he;exact h1 _ hx
 ·obtain ⟨g1,_,g3⟩:=hs hC.good _ hx
  exact h2 a r hx (hC.suf g1 g3) i hf
theorem BB.ok {a:α} {r:List Tk}:BB n (some (.ok a r)):=fun _ h=>by cases h
theorem BB.bad {i:Int} (h:0≤i∧i≤n):BB n (some (.bad i):Option (PV α)):=fun _ h'=>by cases h';exact h
end
variable {n:Int}
structure GvE (n:Int) (f:Nat):Prop where
 exp:∀ least ts,0≤least→Cx n ts→BB n (Ahk f least ts)
 loop:∀ least t ts,0≤least→Cx n ts→BB n (Aky f least t ts)
 operand:∀ ts,Cx n ts→BB n (Akz f ts)
 fields:∀ acc ts,Cx n ts→BB n (Aj7 f acc ts)
 field:∀ ts,Cx n ts→BB n (Amb f ts)
 Akh:∀ ts,Cx n ts→BB n (Ak2 f ts)
 Aik:∀ at_ t ts,Cx n ts→BB n (Aj9 f at_ t ts)
 Ag7:∀ ts,Cx n ts→BB n (Aj5 f ts)
 Aod:∀ acc ts,Cx n ts→BB n (Ald f acc ts)
structure GvS (n:Int) (f:Nat):Prop where
 block:∀ c ts,Cx n ts→BB n (Aj4 f c ts)
 Ajy:∀ c at_ acc ts,Cx n ts→BB n (Ajo f c at_ acc ts)
 function:∀ ts,(hd ts).1≠6→Cx n ts→BB n (Amx f ts)
 body:∀ ts,Cx n ts→BB n (Alc f ts)
 stat:∀ ts,Cx n ts→BB n (Alu f ts)
 branches:∀ acc ts,Cx n ts→BB n (Al9 f acc ts)
 for_:∀ at_ ts,Cx n ts→BB n (Amw f at_ ts)
 plain:∀ ts,Cx n ts→BB n (Amc f ts)
 targets:∀ acc e ts,Cx n ts→0≤e.at_∧e.at_≤n→BB n (Alg f acc e ts)
end
section
namespace Lx
def Bi8 (b:UInt8):Bool:=b == 32 || b == 9 || b == 10 || b == 13
theorem Cmw {b:UInt8} (h:Bi8 b=true):b.toNat < 128∧Agk b.toNat=true:=by
 simp only [Bi8,Bool.or_eq_true,beq_iff_eq] at h
 rcases h with ((rfl | rfl) | rfl) | rfl <;> decide
theorem Cgl (x:Bs):∀ bl:Bs,(∀ b ∈ bl,Bi8 b=true)→Aep Agk (bl++x)=bl.length+Aep Agk x
 | [],_=>by simp
 | b :: bl,h=>by
  have hb:=Cmw (h b (by simp))
  rw [List.cons_append,Bhe _ _ (by simp),Cny b _ hb.1]
  simp only [hb.2,if_true,List.drop_succ_cons,List.drop_zero]
  rw [Cgl x bl (fun y hy=>h y (by simp [hy]))]
  simp only [List.length_cons];omega
theorem Da6 (x:Bs) (at_:Nat) (acc:List Tok) (bl:Bs) (h:∀ b ∈ bl,Bi8 b=true):As3 (bl++x) at_ acc=As3 x (at_+bl.length) acc:=by
 rw [Bbu (bl++x),Bbu x,Cgl x bl h]
 have e:(bl++x).drop (bl.length+Aep Agk x)=x.drop (Aep Agk x):=by
  rw [← List.drop_drop,List.drop_left']
  rfl
 rw [e,Nat.add_assoc]
def Closed' (a:Bs):Prop:=∀ i,[45,45].isPrefixOf (a.drop i)=true→10 ∈ a.drop i
theorem Closed'.drop {a:Bs} (h:Closed' a) (k:Nat):Closed' (a.drop k):=fun i hi=>by
 rw [List.drop_drop] at hi ⊢
 exact h _ hi
theorem Cmc (l:Bs) (c:Int) (r:Nat) (h:Ajt l=.bad c r):c≠0:=by
 have ht:∀ q f (l acc:Bs) i c r,Apt q f l acc i=.bad c r→c≠0:=by
  intro q f
  induction f with
  | zero=>intro l acc i c r h;cases h;decide
  | succ f ih =>
   intro l acc i c r h
   cases l with
   | nil=>cases h;decide
   | cons b t =>
    simp only [Apt] at h
    split at h
    ·cases h;decide
    split at h
    ·split at h
     ·cases h;decide
     ·cases h
    split at h
    ·split at h
     ·cases h;decide
     ·cases h;decide
     ·exact ih _ _ _ _ _ h
    ·exact ih _ _ _ _ _ h
 unfold Ajt at h
 by_cases h0:l=[]
 ·rw [if_pos h0] at h;cases h
 rw [if_neg h0] at h
 by_cases h1:[45,45].isPrefixOf l=true
 ·rw [if_pos h1] at h;cases h
 rw [if_neg h1] at h
 by_cases h2:Aye (Afg l).1=true
 ·rw [if_pos h2] at h
  dsimp only at h
  split at h
  ·cases h;decide
  ·cases h
 rw [if_neg h2] at h
 by_cases h3:Aue (Afg l).1=true
 ·rw [if_pos h3] at h
  dsimp only at h
  split at h
  ·rename_i hp
   cases h
   exact hp
  ·cases h
 rw [if_neg h3] at h
 split at h
 ·split at h
  ·rename_i c' r' hx
   cases h
   exact ht _ _ _ _ _ _ _ hx
  ·cases h
 ·split at h
  ·cases h;decide
  ·cases h
theorem Dbb:∀ (n:Nat) (l:Bs) (at_:Nat) (acc:List Tok) (c p:Int),l.length≤n→As3 l at_ acc=.inl (c,p)→c≠0:=by
 intro n
 induction n with
 | zero =>
  intro l at_ acc c p hn h
  have:l=[]:=List.eq_nil_of_length_eq_zero (by omega)
  subst this
  rw [Bbu] at h
  have e0:Ajt (([]:Bs).drop (Aep Agk []))=.done:=rfl
  rw [e0] at h
  cases h
 | succ n ih =>
  intro l at_ acc c p hn h
  rw [Bbu] at h
  have hk:=Axp Agk l
  cases hst:Ajt (l.drop (Aep Agk l)) with
  | done=>rw [hst] at h;cases h
  | bad c' r =>
   rw [hst] at h
   simp only [Sum.inl.injEq,Prod.mk.injEq] at h
   rw [← h.1]
   exact Cmc _ _ _ hst
  | skip q =>
   have:=(A3m _).1 q hst
   rw [List.length_drop] at this
   rw [hst] at h
   exact ih _ _ _ _ _ (by rw [List.length_drop,List.length_drop];omega) h
  | tok kd tx x len =>
   have:=(A3m _).2 _ _ _ _ hst
   rw [List.length_drop] at this
   rw [hst] at h
   exact ih _ _ _ _ _ (by rw [List.length_drop,List.length_drop];omega) h
theorem Da5 (l:Bs) (h:l.length≤20000):Aoq l=As3 l 0 []:=by
 unfold Aoq As3
 rw [if_neg (by omega)]
end Lx
end
section
open Go Go.RowKit Lx
abbrev Out:=Int×ByteArray×Int×Int×List Tree×Int×Int
def A3i (c a:Int):Out:=(0,⟨#[]⟩,0,0,[],c,a)
def A8s (n:Tree):Out:=(n.kind,n.text,n.n,n.at_,n.kids,0,0)
def Asy (s:ByteArray):Out :=
 match Aoq (bs s) with
 | .inl (c,a)=>A3i c a
 | .inr t=>match A3w (t.map Ahw) with
  | .ok n _=>A8s n
  | .bad i=>A3i 4 i
theorem Byu (l:Bs) (c p:Int) (h:Aoq l=.inl (c,p)):c≠0:=by
 unfold Aoq at h
 split at h
 ·simp only [Sum.inl.injEq,Prod.mk.injEq] at h
  omega
 ·exact Dbb l.length l 0 [] c p (Nat.le_refl _) h
theorem Bzx {n:Nat} {ts:List Tk} (h:B22 n ts):(∃ b r,Aph true ts=.ok b r∧TB ts b r∧((hd r).1=6∧A3w ts=.ok b r∨(hd r).1≠6∧A3w ts=.bad (hd r).2.2.2))∨∃ i,Aph true ts=.bad i∧A3w ts=.bad i:=by
 unfold A3w
 cases hb:Aph true ts with
 | bad i=>exact .inr ⟨i,rfl,rfl⟩
 | ok b r =>
  refine .inl ⟨b,r,rfl,Dcn h.good h.asc hb,?_⟩
  by_cases h6:(hd r).1=6
  ·exact .inl ⟨h6,by simp [PV.then,h6]⟩
  ·exact .inr ⟨h6,by simp [PV.then,h6]⟩
theorem Ce4 {s:ByteArray} {c p:Int} (h:Aoq (bs s)=.inl (c,p)):Asy s=A3i c p:=by unfold Asy;rw [h]
theorem Bxr {s:ByteArray} {t:List Tok} {b:Tree} {r:List Tk} (h:Aoq (bs s)=.inr t) (hv:A3w (t.map Ahw)=.ok b r):Asy s=A8s b:=by unfold Asy;rw [h];simp only [hv]
theorem Bmh {s:ByteArray} {t:List Tok} {i:Int} (h:Aoq (bs s)=.inr t) (hv:A3w (t.map Ahw)=.bad i):Asy s=A3i 4 i:=by unfold Asy;rw [h];simp only [hv]
theorem C02 (l:List Tk):ix l l=0:=by unfold ix;omega
theorem Cfg (k:Nat) (hk:400000≤k) (s:ByteArray):A0i.f k s=some (Asy s):=by
 unfold A0i.f Bgb.f Bvk Asy
 simp only [Option.bind_some]
 cases hs:Aoq (bs s) with
 | inl x =>
  obtain ⟨c,p⟩:=x
  have:=Byu _ _ _ hs
  simp only
  rw [show (c != 0)=true by rw [bne_iff_ne];exact this]
  rfl
 | inr t =>
  have hT:=By0 s t hs
  simp only [bne_self_eq_false,cond_false]
  have hf:=Cqt (l:=t.map Ahw) (by have:=hT.len;omega) k true hT.good (List.suffix_refl _) (by have:=hT.len;omega)
  rw [C02] at hf
  rw [hf]
  rcases Bzx hT with ⟨b,r,hb,hB,h6⟩ | ⟨i,hb,he⟩
  ·have hw:=Ax9 true hT.good
   rw [hb] at hw ⊢
   obtain ⟨hg,_,Cyy⟩:=hw
   simp only [conv,PR.elim,Adg]
   unfold Ai4.f
   simp only [eT]
   rw [Bt9 hg Cyy]
   simp only [Option.bind_some]
   rcases h6 with ⟨h6,he⟩ | ⟨h6,he⟩
   ·rw [he,show ((hd r).1 != 6)=false by rw [bne_eq_false_iff_eq];exact h6]
    rfl
   ·rw [he,show ((hd r).1 != 6)=true by rw [bne_iff_ne];exact h6]
    rfl
  ·rw [hb,he]
   rfl
def shp (k n:Int) (t:ByteArray) (l:List Tree):Prop :=
 t.size≤30000∧k≠31∧(k=7→l.length=2)∧(k=25→l.length=2)∧(k=26→4≤l.length)∧(k=21∨k=22→∃ m:Nat,n=m∧m≤l.length)∧(k=27→∃ m:Nat,n=m∧m+1≤l.length)
mutual
def wfT:Tree→Prop
 | .mk k t n _ l=>shp k n t l∧Ap0 l
def Ap0:List Tree→Prop
 | []=>True
 | x :: l=>wfT x∧Ap0 l
end
theorem Bh4:∀ {l:List Tree},Ap0 l ↔ ∀ x ∈ l,wfT x
 | []=>by simp [Ap0]
 | x :: l=>by simp [Ap0,Bh4 (l:=l)]
theorem Ar0 {l m:List Tree} (h:Ap0 l) (h':Ap0 m):Ap0 (l++m):=by
 rw [Bh4] at *
 intro y hy
 exact (List.mem_append.1 hy).elim (h y) (h' y)
theorem wf1 {x:Tree} (h:wfT x):Ap0 [x]:=⟨h,trivial⟩
def fnT:Tree→Prop
 | .mk k t n _ l=>t.size≤30000∧k=31∧(∃ m:Nat,n=m∧l.length=m+1)∧Ap0 l
def Cij (x:Tree):Prop:=wfT x∨fnT x
def wfC:Tree→Prop
 | .mk k t _ _ l=>k=20∧t.size≤30000∧∀ x ∈ l,Cij x
def TT (ts:List Tk):Prop:=∀ x ∈ ts,x.2.1.size≤30000
theorem TT.tail {ts:List Tk} (h:TT ts):TT ts.tail:=fun x hx=>h x (List.mem_of_mem_tail hx)
theorem TT.hd {ts:List Tk} (h:TT ts):(hd ts).2.1.size≤30000:=by
 cases ts with
 | nil=>decide
 | cons x t=>exact h x (List.mem_cons_self ..)
abbrev WT (n:Tree) (r:List Tk):Prop:=wfT n∧TT r
abbrev WL (l:List Tree) (r:List Tk):Prop:=Ap0 l∧TT r
theorem A3z {k:Int} {t:ByteArray} {n a:Int} {l:List Tree} (h1:t.size≤30000) (h2:Ap0 l) (h3:k≠31) (h4:k=7→l.length=2) (h5:k=25→l.length=2) (h6:k=26→4≤l.length) (h7:k=21∨k=22→∃ m:Nat,n=m∧m≤l.length) (h8:k=27→∃ m:Nat,n=m∧m+1≤l.length):wfT (.mk k t n a l):=⟨⟨h1,h3,h4,h5,h6,h7,h8⟩,h2⟩
theorem wfe {k:Int} {t:ByteArray} {n a:Int} {l:List Tree} (h1:t.size≤30000) (h2:Ap0 l) (h3:k≠31∧k≠7∧k≠25∧k≠26∧k≠21∧k≠22∧k≠27):wfT (.mk k t n a l):=by
 refine A3z h1 h2 h3.1 ?_ ?_ ?_ ?_ ?_ <;> intro h <;> exfalso
 ·exact h3.2.1 h
 ·exact h3.2.2.1 h
 ·exact h3.2.2.2.1 h
 ·exact h.elim h3.2.2.2.2.1 h3.2.2.2.2.2.1
 ·exact h3.2.2.2.2.2.2 h
theorem nx {p q:Prop} [Decidable p] (h:decide p=false) (hp:p):q:=absurd hp (of_decide_eq_false h)
theorem Amt:noB.size≤30000:=by decide
theorem Arz {w:ByteArray} {ts:List Tk} (h:TT ts):R (Amd w ts) fun _ r=>TT r:=R.ite (fun _=>R.ok h.tail) fun _=>R.bad
theorem Bcd {k:Int} {ts:List Tk} (hk:k≠31∧k≠7∧k≠25∧k≠26∧k≠21∧k≠22∧k≠27) (h:TT ts):R (Asa k ts) fun n r=>WT n r∧n.text.size≤30000:=R.ite (fun _=>R.ok ⟨⟨wfe h.hd trivial hk,h.tail⟩,h.hd⟩) fun _=>R.bad
theorem Bz4:∀ (f:Nat) (acc:List Tree) (ts:List Tk),TT ts→Ap0 acc→R (Aop f acc ts) WL
 | 0,_,_,_,_=>R.none
 | f+1,acc,ts,h,ha=>by
  unfold Aop
  exact R.ite (fun _=>R.bind (Bcd (by decide) h.tail) fun n r hn=>Bz4 f _ r hn.1.2 (Ar0 ha (wf1 hn.1.1))) fun _=>R.ok ⟨ha,h⟩
theorem Ciz (f:Nat) {ts:List Tk} (h:TT ts):R (A0f f ts) WL:=R.bind (Bcd (by decide) h) fun n r hn=>Bz4 f _ r hn.1.2 (wf1 hn.1.1)
structure WE (f:Nat):Prop where
 exp:∀ least ts,TT ts→R (Ahk f least ts) WT
 loop:∀ least n ts,TT ts→wfT n→R (Aky f least n ts) WT
 operand:∀ ts,TT ts→R (Akz f ts) WT
 fields:∀ acc ts,TT ts→Ap0 acc→R (Aj7 f acc ts) WL
 field:∀ ts,TT ts→R (Amb f ts) WT
 Akh:∀ ts,TT ts→R (Ak2 f ts) WT
 Aik:∀ at_ n ts,TT ts→wfT n→R (Aj9 f at_ n ts) WT
 Ag7:∀ ts,TT ts→R (Aj5 f ts) WL
 Aod:∀ acc ts,TT ts→Ap0 acc→R (Ald f acc ts) WL
theorem wE:∀ f,WE f
 | 0=>by constructor <;> intros <;> (first | rw [Ahk] | rw [Aky] | rw [Akz] | rw [Aj7] | rw [Amb] | rw [Ak2] | rw [Aj9] | rw [Aj5] | rw [Ald]) <;> exact R.none
 | f+1=>by
  have ih:=wE f
  constructor
  ·intro least ts h;unfold Ahk
   exact R.bind (ih.operand ts h) fun n r hn=>ih.loop _ _ _ hn.2 hn.1
  ·intro least n ts h hw;unfold Aky
   refine R.ite (fun _=>R.ok ⟨hw,h⟩) fun _=>R.bind (ih.exp _ _ h.tail) fun m r hm=>ih.loop _ _ _ hm.2 ?_
   exact wfe h.hd ⟨hw,hm.1,trivial⟩ (by decide)
  ·intro ts h;unfold Akz
   refine R.ite (fun _=>R.ok ⟨wfe Amt trivial (by decide),h.tail⟩) fun _=>?_
   refine R.ite (fun _=>R.ok ⟨wfe h.hd trivial (by decide),h.tail⟩) fun _=>?_
   refine R.ite (fun _=>R.ok ⟨wfe Amt trivial (by decide),h.tail⟩) fun _=>?_
   refine R.ite (fun _=>R.ok ⟨wfe Amt trivial (by decide),h.tail⟩) fun _=>?_
   refine R.ite (fun _=>R.ok ⟨wfe Amt trivial (by decide),h.tail⟩) fun _=>?_
   refine R.ite (fun _=>R.bind (ih.exp _ _ h.tail) fun m r hm=>R.ok ⟨wfe h.hd (wf1 hm.1) (by decide),hm.2⟩) fun _=>?_
   refine R.ite (fun _=>R.bind (ih.fields _ _ h.tail trivial) fun l r hl=>R.ok ⟨wfe Amt hl.1 (by decide),hl.2⟩) fun _=>?_
   exact ih.Akh _ h
  ·intro acc ts h ha;unfold Aj7
   refine R.ite (fun _=>R.ok ⟨ha,h.tail⟩) fun _=>R.bind (ih.field ts h) fun x r hx=>?_
   have hs:=Ar0 ha (wf1 hx.1)
   refine R.ite (fun _=>ih.fields _ _ hx.2.tail hs) fun _=>R.ite (fun _=>ih.fields _ _ hx.2.tail hs) fun _=>?_
   exact R.bind (Arz hx.2) fun _ s hr=>R.ok ⟨hs,hr⟩
  ·intro ts h;unfold Amb
   refine R.ite (fun _=>?_) fun _=>R.ite (fun _=>?_) fun _=>?_
   ·refine R.bind (ih.exp _ _ h.tail) fun k r hk=>R.bind (Arz hk.2) fun _ r hr=>R.bind (Arz hr) fun _ r hr=>R.bind (ih.exp _ _ hr) fun v r hv=>R.ok ⟨?_,hv.2⟩
    exact wfe Amt ⟨hk.1,hv.1,trivial⟩ (by decide)
   ·refine R.bind (ih.exp _ _ h.tail.tail) fun v r hv=>R.ok ⟨?_,hv.2⟩
    exact wfe Amt ⟨wfe h.hd trivial (by decide),hv.1,trivial⟩ (by decide)
   ·exact R.bind (ih.exp _ _ h) fun v r hv=>R.ok ⟨wfe Amt (wf1 hv.1) (by decide),hv.2⟩
  ·intro ts h;unfold Ak2
   refine R.ite (fun _=>?_) fun _=>?_
   ·exact R.bind (ih.exp _ _ h.tail) fun e r he=>R.bind (Arz he.2) fun _ r hr=>ih.Aik _ _ _ hr (wfe Amt (wf1 he.1) (by decide))
   ·exact R.bind (Bcd (by decide) h) fun n r hn=>ih.Aik _ _ _ hn.1.2 hn.1.1
  ·intro at_ n ts h hw;unfold Aj9
   refine R.ite (fun _=>?_) fun _=>R.ite (fun _=>?_) fun _=>R.ite (fun _=>?_) fun _=>R.ok ⟨hw,h⟩
   ·refine R.bind (ih.exp _ _ h.tail) fun e r he=>R.bind (Arz he.2) fun _ r hr=>ih.Aik _ _ _ hr ?_
    exact A3z Amt ⟨hw,he.1,trivial⟩ (by decide) (fun _=>rfl) (nx rfl) (nx rfl) (nx rfl) (nx rfl)
   ·refine R.bind (Bcd (by decide) h.tail) fun e r he=>ih.Aik _ _ _ he.1.2 ?_
    exact A3z Amt ⟨hw,he.1.1,trivial⟩ (by decide) (fun _=>rfl) (nx rfl) (nx rfl) (nx rfl) (nx rfl)
   ·refine R.bind (Q1:=WL) (R.ite (fun _=>R.ok ⟨trivial,h.tail⟩) fun _=>ih.Ag7 _ h.tail) fun l r hl=>R.bind (Arz hl.2) fun _ r hr=>ih.Aik _ _ _ hr ?_
    exact wfe Amt ⟨hw,hl.1⟩ (by decide)
  ·intro ts h;unfold Aj5
   exact R.bind (ih.exp _ _ h) fun e r he=>ih.Aod _ _ he.2 (wf1 he.1)
  ·intro acc ts h ha;unfold Ald
   exact R.ite (fun _=>R.bind (ih.exp _ _ h.tail) fun e r he=>ih.Aod _ _ he.2 (Ar0 ha (wf1 he.1))) fun _=>R.ok ⟨ha,h⟩
def A6k (c:Bool) (x:Tree):Prop:=wfT x∨(c=true∧fnT x)
structure WS (f:Nat):Prop where
 block:∀ c ts,TT ts→R (Aj4 f c ts) fun n r=>(∃ a l,n=.mk 20 noB 0 a l∧∀ x ∈ l,A6k c x)∧TT r
 Ajy:∀ c at_ acc ts,TT ts→(∀ x ∈ acc,A6k c x)→R (Ajo f c at_ acc ts) fun n r=>(∃ a l,n=.mk 20 noB 0 a l∧∀ x ∈ l,A6k c x)∧TT r
 function:∀ ts,TT ts→R (Amx f ts) fun n r=>fnT n∧TT r
 body:∀ ts,TT ts→R (Alc f ts) WT
 stat:∀ ts,TT ts→R (Alu f ts) WT
 branches:∀ acc ts,TT ts→Ap0 acc→R (Al9 f acc ts) WL
 for_:∀ at_ ts,TT ts→R (Amw f at_ ts) WT
 plain:∀ ts,TT ts→R (Amc f ts) WT
 targets:∀ acc e ts,TT ts→Ap0 acc→wfT e→R (Alg f acc e ts) WL
theorem C0m {a:Int} {l:List Tree} (h:∀ x ∈ l,A6k false x):wfT (.mk 20 noB 0 a l) :=
 wfe Amt (Bh4.2 fun x hx=>(h x hx).elim id fun h=>nomatch h.1) (by decide)
theorem Buc {c:Bool} {acc:List Tree} {x:Tree} (h:∀ y ∈ acc,A6k c y) (hx:A6k c x):∀ y ∈ acc++[x],A6k c y:=fun y hy=>by
 rcases List.mem_append.1 hy with hy | hy
 ·exact h y hy
 ·obtain rfl:=List.mem_singleton.1 hy;exact hx
theorem wS:∀ f,WS f
 | 0=>by constructor <;> intros <;> (first | unfold Aj4 | unfold Ajo | unfold Amx | unfold Alc | unfold Alu | unfold Al9 | unfold Amw | unfold Amc | unfold Alg) <;> exact R.none
 | f+1=>by
  have ih:=wS f
  have ie:=wE f
  have blk:∀ ts,TT ts→R (Aj4 f false ts) WT:=fun ts h=>R.weak (ih.block false ts h) fun n r ⟨⟨a,l,e,hl⟩,hr⟩=>⟨by rw [e];exact C0m hl,hr⟩
  constructor
  ·intro c ts h;unfold Aj4
   exact ih.Ajy _ _ _ _ h (fun _ hx=>nomatch hx)
  ·intro c at_ acc ts h ha;unfold Ajo
   refine R.ite (fun _=>ih.Ajy _ _ _ _ h.tail ha) fun _=>R.ite (fun _=>?_) fun _=>R.ite (fun hc=>?_) fun _=>R.ite (fun _=>R.ok ⟨⟨_,_,rfl,ha⟩,h⟩) fun _=>?_
   ·refine R.bind (Q1:=WL) (R.ite (fun _=>R.ok ⟨trivial,h.tail⟩) fun _=>ie.Ag7 _ h.tail) fun l r hl=>R.ok ⟨⟨_,_,rfl,?_⟩,?_⟩
    ·exact Buc ha (.inl (wfe Amt hl.1 (by decide)))
    ·split
     ·exact hl.2.tail
     ·exact hl.2
   ·have hc':c=true:=by simp only [Bool.and_eq_true] at hc;exact hc.1
    exact R.bind (ih.function ts h) fun x r hx=>ih.Ajy _ _ _ _ hx.2 (Buc ha (.inr ⟨hc',hx.1⟩))
   ·exact R.bind (ih.stat ts h) fun x r hx=>ih.Ajy _ _ _ _ hx.2 (Buc ha (.inl hx.1))
  ·intro ts h;unfold Amx
   refine R.bind (Bcd (by decide) h.tail) fun nm r hn=>R.bind (Arz hn.1.2) fun _ r hr=>R.bind (Q1:=WL) (R.ite (fun _=>R.ok ⟨trivial,hr⟩) fun _=>Ciz f hr) fun ps r hp=>R.bind (Arz hp.2) fun _ r hr=>R.bind (blk _ hr) fun b r hb=>R.bind (Arz hb.2) fun _ r hr=>R.ok ⟨?_,hr⟩
   exact ⟨hn.2,rfl,⟨ps.length,rfl,by simp⟩,Ar0 hp.1 (wf1 hb.1)⟩
  ·intro ts h;unfold Alc
   exact R.bind (Arz h) fun _ r hr=>R.bind (blk _ hr) fun b r hb=>R.bind (Arz hb.2) fun _ r hr=>R.ok ⟨hb.1,hr⟩
  ·intro ts h;unfold Alu
   refine R.ite (fun _=>?_) fun _=>R.ite (fun _=>?_) fun _=>R.ite (fun _=>?_) fun _=>R.ite (fun _=>ih.for_ _ _ h.tail) fun _=>R.ite (fun _=>?_) fun _=>R.ite (fun _=>R.ok ⟨wfe Amt trivial (by decide),h.tail⟩) fun _=>ih.plain _ h
   ·exact R.bind (ih.body ts h) fun b r hb=>R.ok ⟨wfe Amt (wf1 hb.1) (by decide),hb.2⟩
   ·refine R.bind (ie.exp _ _ h.tail) fun e r he=>R.bind (ih.body _ he.2) fun b r hb=>R.ok ⟨?_,hb.2⟩
    exact A3z Amt ⟨he.1,hb.1,trivial⟩ (by decide) (nx rfl) (fun _=>rfl) (nx rfl) (nx rfl) (nx rfl)
   ·exact R.bind (ih.branches _ _ h.tail trivial) fun l r hl=>R.ok ⟨wfe Amt hl.1 (by decide),hl.2⟩
   ·refine R.bind (Ciz f h.tail) fun l r hl=>R.bind (Q1:=WL) (R.ite (fun _=>ie.Ag7 _ hl.2.tail) fun _=>R.ok ⟨trivial,hl.2⟩) fun es r he=>R.ok ⟨?_,he.2⟩
    exact A3z Amt (Ar0 hl.1 he.1) (by decide) (nx rfl) (nx rfl) (nx rfl) (fun _=>⟨l.length,rfl,by simp⟩) (nx rfl)
  ·intro acc ts h ha;unfold Al9
   refine R.bind (ie.exp _ _ h) fun e r he=>R.bind (Arz he.2) fun _ r hr=>R.bind (blk _ hr) fun b r hb=>?_
   have h2:=Ar0 (Ar0 ha (wf1 he.1)) (wf1 hb.1)
   refine R.ite (fun _=>ih.branches _ _ hb.2.tail h2) fun _=>R.ite (fun _=>?_) fun _=>?_
   ·exact R.bind (blk _ hb.2.tail) fun c r hc=>R.bind (Arz hc.2) fun _ r hr=>R.ok ⟨Ar0 h2 (wf1 hc.1),hr⟩
   ·exact R.bind (Arz hb.2) fun _ r hr=>R.ok ⟨h2,hr⟩
  ·intro at_ ts h;unfold Amw
   refine R.bind (Bcd (by decide) h) fun n r hn=>R.ite (fun _=>?_) fun _=>?_
   ·refine R.bind (ie.exp _ _ hn.1.2.tail) fun a r ha=>R.bind (Arz ha.2) fun _ r hr=>R.bind (ie.exp _ _ hr) fun b r hb=>R.bind (Q1:=WL) (R.ite (fun _=>R.bind (ie.exp _ _ hb.2.tail) fun c r hc=>R.ok ⟨wf1 hc.1,hc.2⟩) fun _=>R.ok ⟨trivial,hb.2⟩) fun cs r hcs=>R.bind (ih.body _ hcs.2) fun bd r hbd=>R.ok ⟨?_,hbd.2⟩
    exact A3z Amt (Ar0 (Ar0 (Ar0 (Ar0 (wf1 hn.1.1) (wf1 ha.1)) (wf1 hb.1)) hcs.1) (wf1 hbd.1)) (by decide) (nx rfl) (nx rfl) (fun _=>by simp) (nx rfl) (nx rfl)
   ·refine R.bind (Bz4 f _ _ hn.1.2 (wf1 hn.1.1)) fun l r hl=>R.bind (Arz hl.2) fun _ r hr=>R.bind (ie.Ag7 _ hr) fun es r he=>R.bind (ih.body _ he.2) fun bd r hbd=>R.ok ⟨?_,hbd.2⟩
    exact A3z Amt (Ar0 (Ar0 hl.1 he.1) (wf1 hbd.1)) (by decide) (nx rfl) (nx rfl) (nx rfl) (nx rfl) (fun _=>⟨l.length,rfl,by simp⟩)
  ·intro ts h;unfold Amc
   refine R.bind (ie.Akh ts h) fun e r he=>R.ite (fun _=>?_) fun _=>R.ite (fun _=>R.ok ⟨wfe Amt (wf1 he.1) (by decide),he.2⟩) fun _=>R.bad
   refine R.bind (ih.targets _ _ _ he.2 trivial he.1) fun l r hl=>R.bind (Arz hl.2) fun _ r hr=>R.bind (ie.Ag7 _ hr) fun es r hes=>R.ok ⟨?_,hes.2⟩
   exact A3z Amt (Ar0 hl.1 hes.1) (by decide) (nx rfl) (nx rfl) (nx rfl) (fun _=>⟨l.length,rfl,by simp⟩) (nx rfl)
  ·intro acc e ts h ha hw;unfold Alg
   refine R.ite (fun _=>?_) fun _=>R.bad
   exact R.ite (fun _=>R.bind (ie.Akh _ h.tail) fun e' r he=>ih.targets _ _ _ he.2 (Ar0 ha (wf1 hw)) he.1) fun _=>R.ok ⟨Ar0 ha (wf1 hw),h⟩
theorem Bze (q:UInt8):∀ (f:Nat) (l acc:Bs) (i:Nat) (v:Bs) (k:Nat),Apt q f l acc i=.ok v k→v.length≤10000
 | 0,_,_,_,_,_,h=>by unfold Apt at h;cases h
 | f+1,[],_,_,_,_,h=>by unfold Apt at h;cases h
 | f+1,b :: t,acc,i,v,k,h=>by
  unfold Apt at h
  split at h
  ·cases h
  split at h
  ·split at h
   ·cases h
   ·cases h;omega
  split at h
  ·split at h
   ·cases h
   ·cases h
   ·exact Bze q f _ _ _ _ _ h
  ·exact Bze q f _ _ _ _ _ h
theorem Dbg:∀ s ∈ Arv,s.length≤20000:=by decide
theorem Dbz (l:Bs) (hl:l.length≤20000) (k:Int) (t:Bs) (n:Int) (len:Nat) (h:Ajt l=.tok k t n len):t.length≤20000:=by
 unfold Ajt at h
 dsimp only at h
 repeat' split at h
 all_goals first
  | (cases h;done)
  | (simp only [Step.tok.injEq] at h;obtain ⟨_,rfl,_⟩:=h;rw [List.length_take];omega)
  | (rename_i hx;simp only [Step.tok.injEq] at h;obtain ⟨_,rfl,_⟩:=h;first | exact Nat.le_trans (Bze _ _ _ _ _ _ _ hx) (by decide) | exact Dbg _ (List.mem_of_find?_eq_some hx))
theorem Byz:∀ (f:Nat) (l:Bs) (at_:Nat) (acc t:List Tok),l.length≤20000→(∀ x ∈ acc,x.text.length≤20000)→Aqc f l at_ acc=.inr t→∀ x ∈ t,x.text.length≤20000
 | 0,l,at_,acc,t,hl,ha,h=>by
  unfold Aqc at h
  cases h
  intro x hx
  rcases List.mem_append.1 hx with hx | hx
  ·exact ha x hx
  ·obtain rfl:=List.mem_singleton.1 hx;exact Nat.zero_le _
 | f+1,l,at_,acc,t,hl,ha,h=>by
  unfold Aqc at h
  dsimp only at h
  have hdl:(l.drop (Aep Agk l)).length≤20000:=by rw [List.length_drop];omega
  cases hst:Ajt (l.drop (Aep Agk l)) with
  | done =>
   rw [hst] at h
   cases h
   intro x hx
   rcases List.mem_append.1 hx with hx | hx
   ·exact ha x hx
   ·obtain rfl:=List.mem_singleton.1 hx;exact Nat.zero_le _
  | bad c r=>rw [hst] at h;cases h
  | skip q =>
   rw [hst] at h
   exact Byz f _ _ _ _ (by rw [List.length_drop];omega) ha h
  | tok kd tx x len =>
   rw [hst] at h
   refine Byz f _ _ _ _ (by rw [List.length_drop];omega) (fun y hy=>?_) h
   rcases List.mem_append.1 hy with hy | hy
   ·exact ha y hy
   ·obtain rfl:=List.mem_singleton.1 hy;exact Dbz _ hdl _ _ _ _ hst
theorem Cgp {s:ByteArray} {t:List Tok} (h:Aoq (bs s)=.inr t):TT (t.map Ahw):=by
 unfold Aoq at h
 split at h
 ·cases h
 intro x hx
 obtain ⟨y,hy,rfl⟩:=List.mem_map.1 hx
 have:=Byz _ _ _ [] _ (by omega) (fun _ hx=>absurd hx (List.not_mem_nil)) h y hy
 show (str y.text).size≤30000
 rw [A8o];omega
theorem val_ok {α:Type} {x:Option (PV α)} {a:α} {r:List Tk} (h:val x=.ok a r):x=some (.ok a r):=by
 cases x with
 | none=>cases h
 | some v=>exact congrArg some h
theorem C9b (s:ByteArray):(∃ c a,c≠0∧Asy s=A3i c a)∨∃ n,Asy s=A8s n∧wfC n∧sz n≤80010:=by
 cases hs:Aoq (bs s) with
 | inl x =>
  obtain ⟨c,p⟩:=x
  exact .inl ⟨c,p,Byu _ _ _ hs,Ce4 hs⟩
 | inr t =>
  have hT:=By0 s t hs
  rcases Bzx hT with ⟨b,r,hb,hB,⟨_,he⟩ | ⟨_,he⟩⟩ | ⟨j,hb,he⟩
  ·refine .inr ⟨b,Bxr hs he,?_,?_⟩
   ·obtain ⟨⟨a,l,rfl,hl⟩,_⟩:=(wS (fu _)).block true _ (Cgp hs) _ _ (val_ok hb)
    exact ⟨rfl,Amt,fun x hx=>Or.elim (hl x hx) .inl (fun h=>.inr h.2)⟩
   ·have:=hB.size;have:=hT.len;omega
  ·exact .inl ⟨4,_,by decide,Bmh hs he⟩
  ·exact .inl ⟨4,_,by decide,Bmh hs he⟩
end
section
open Go Go.RowKit
def At9.f (_k:Nat) (a0:ByteArray):Option (Bool):=(cond (a0.toList == (⟨#[116,97,98,108,101]⟩:ByteArray).toList) (some true) (some (a0.toList == (⟨#[117,116,102,56]⟩:ByteArray).toList)):Option Bool).bind fun q1=>some (q1)
theorem At9.ok {k:Nat} {a0:ByteArray} {r:Bool} (h:At9.f k a0=some r): Ct Tryz.prog 48 #[sv a0] [] [] (fun e l1=>e=.returned (bv r)∧l1=[]):=by
 refine Afb (args:=[sv a0]) Tryz.func48 rfl (Nat.le_of_ble_eq_true rfl) ?_
 intro A X hh_
 unfold At9.f at h
 refine ksr (kx 1 (knt (bnd h fun q1 hq1 h=>?_)))
 refine An7 [(2,bv q1)] (X) ?_ ?_
 ·clear hq1
  refine Afj ?_
  obtain rfl:=Option.some.inj h
  exact kdn rfl
 ·have h:=hq1
  clear hq1
  refine Ach (kx 3 ?_)
  refine kcs 5 h (fun h=>?_) fun h=>?_
  ·exact kx 4 (knt (Agb ⟨gb (Option.some.inj h),trivial⟩))
  ·exact kx 4 (knt (Agb ⟨gb (Option.some.inj h),trivial⟩))
def Avi (i:Int×Int):Value:=.iface 68 (.agg #[.int .i64 i.1,.int .i64 i.2])
def Aov.f (_k:Nat) (a0:Int) (a1:Int):Option (PR (Unit) (Int×Int)):=some (PR.bad (a0,a1))
theorem Aov.ok {k:Nat} {a0 a1:Int} {r:PR (Unit) (Int×Int)} (h:Aov.f k a0 a1=some r): Ct Tryz.prog 20 #[iv a0,iv a1] [] [] (PR.Post Avi (fun (r:Unit) e l1=>e=.returned (.tuple #[])∧l1=[]) r):=by
 refine Afb (args:=[iv a0,iv a1]) Tryz.func20 rfl (Nat.le_of_ble_eq_true rfl) ?_
 intro A X hh_
 unfold Aov.f at h
 refine Ach (kx 4 ?_)
 obtain rfl:=Option.some.inj h
 exact Cck (v:=Avi (a0,a1)) (by kernel_rfl) (by kernel_rfl) (by kernel_rfl) (Cb4 [] (Adj PR.B3f))
def Akn.f (k:Nat) (Aac:Int) (Aam:ByteArray) (Amj:Int) (Aah:Int) (Aa9:List Tree) (a1:Int) (a2:Int):Option (PR (Unit) (Int×Int)):=cond (decide (a1 > a2)) (PR.bind (Aov.f k 6 Aah) fun r3=>some (PR.ok ())) (some (PR.ok ()))
theorem Akn.ok {k Acv:Nat} {Aac Amj Aah a1 a2:Int} {Aam:ByteArray} {Aa9:List Tree} {Ade:Aaa} {Acu:TyO} {r:PR (Unit) (Int×Int)} (h:Akn.f k Aac Aam Amj Aah Aa9 a1 a2=some r) (Aei:RdR (Abx 54) Ade (.slice Acu Aa9.length Acv) Aa9): Ct Tryz.prog 33 #[.agg #[iv Aac,sv Aam,iv Amj,iv Aah,.slice Acu Aa9.length Acv],iv a1,iv a2] [] [Ade] (PR.Post Avi (fun (r:Unit) e l1=>e=.returned (.tuple #[])∧l1=[]) r):=by
 refine Afb (args:=[.agg #[iv Aac,sv Aam,iv Amj,iv Aah,.slice Acu Aa9.length Acv],iv a1,iv a2]) Tryz.func33 rfl (Nat.le_of_ble_eq_true rfl) ?_
 intro A X hh_
 obtain ⟨Beq,_⟩:=hh_
 unfold Akn.f at h
 refine ksr (knp #[iv Aac,sv Aam,iv Amj,iv Aah,.slice Acu Aa9.length Acv] 54 fun b1=>(Aby (kx 3 (knt ?_))))
 refine kcn h (fun h=>?_) fun h=>?_
 ·refine Ach (kx 1 (kld 0 3 rfl (K.drop (kcp h (fun _ hr3=>(Aov.ok hr3)) rfl trivial (fun _ e=>kpn 0 e rfl) fun r3 h=>?_))))
  rintro _ _ ⟨rfl,rfl⟩
  refine Aoj (knl (Ae2 ?_))
  obtain rfl:=Option.some.inj h
  exact Bky ⟨rfl,rfl⟩ rfl
 ·refine Adv (Ae2 ?_)
  obtain rfl:=Option.some.inj h
  exact K.drop (Bky ⟨rfl,rfl⟩ rfl)
def Akc.l0:Nat→(a0:List ByteArray)→(a1:ByteArray)→(J1:(Unit→Option (Int)))→(x2:Int)→Option (Int)
 | 0,_,_,_,_=>none
 | m3+1,a0,a1,J1,x2=>cond (decide (x2 < ((a0.length:Nat):Int))) ((Acz a0 x2).bind fun x5=>cond (a1.toList == x5.toList) (some (x2)) (Akc.l0 m3 a0 a1 J1 (IntKind.i64.wrap (x2+1)))) (J1 ())
def Akc.f (k:Nat) (a0:List ByteArray) (a1:ByteArray):Option (Int):=Adg (fun (_:Unit)=>some ((-1:Int))) (fun J1=>Akc.l0 k a0 a1 J1 0)
theorem Akc.ok {k Aqx:Nat} {a0:TyC} {a1:ByteArray} {Au6:Aaa} {Aql:TyO} {r:Int} (h:Akc.f k a0 a1=some r) (A4h:RdT encS 1 Au6 (.slice Aql a0.length Aqx) a0): Ct Tryz.prog 90 #[.slice Aql a0.length Aqx,sv a1] [] [Au6] (fun e l1=>e=.returned (iv r)∧l1=[]):=by
 refine Afb (args:=[.slice Aql a0.length Aqx,sv a1]) Tryz.func90 rfl (Nat.le_of_ble_eq_true rfl) ?_
 intro A X hh_
 obtain ⟨A5d,_⟩:=hh_
 unfold Akc.f at h
 refine ksr (kx 1 (knt ?_))
 obtain ⟨J1,hJ1,h⟩:=Agm h
 refine Agn (τ:=Unit) (fun t=>[]) (fun t=>X) (fun t=>J1 ()=some r) ?_ ?_
 ·rintro ⟨⟩ h
  subst hJ1
  refine ksr (kx 1 (knt (Afj ?_)))
  obtain rfl:=Option.some.inj h
  exact kdn rfl
 ·skip
  refine ksr (kx 3 (knt (Aez (Akr (τ:=Int) (fun t=>[(0,.slice Aql a0.length Aqx),(1,sv a1),(7,iv ((a0.length:Nat):Int)),(8,iv t)]) (fun t=>X) (fun m t=>Akc.l0 m a0 a1 J1 t=some r) k 0 h sb rfl ?_))))
  clear h
  rintro m3 x2 h
  cases m3 with
  | zero=>simp [Akc.l0] at h
  | succ m3 =>
   simp only [Akc.l0] at h
   refine ksr (kx 1 (knt (Ac1 ?_)))
   refine kcn h (fun h=>?_) fun h=>?_
   ·refine Adv (Abr (Ac1 (Aez (ksr (kx 2 (Aby (kx 3 (bnd h fun x5 hx5 h=>(Ano (T:=9) (kd:=.i64) Asj rfl hx5 A4h fun p6 e7 y8=>?_)))))))))
    have e7:Elem _ p6 [sv x5]:=e7
    refine Apm rfl (by kernel_rfl) (by kernel_rfl) (by kernel_rfl) (by kernel_rfl) e7 A5d (kx 1 (knt ?_))
    refine kcn h (fun h=>?_) fun h=>?_
    ·refine ksr (kx 2 (knt (Afj (Ajk (Ahj (Ahj (Ajk (Ahj ?_))))))))
     obtain rfl:=Option.some.inj h
     exact kdn rfl
    ·exact Adv (Acx (Abr (Ach (kx 2 (knt (Aiw m3 (IntKind.i64.wrap (x2+1)) (Nat.lt_succ_self _) h sb rfl))))))
   ·exact Akp (Af5 (Af5 (Akq (Abr (Adb () h trivial rfl)))))
def e78 (x:Int×Int×ByteArray):List Value:=[.int .i64 x.1,.int .i64 x.2.1,.string x.2.2]
theorem Bp7:Akj e78 3:=⟨fun _=>rfl,fun _=>rfl⟩
def Anw.l0:Nat→(a0:List (Int×Int×ByteArray))→(Aas:Int)→(Abb:Int)→(Aa3:ByteArray)→(J2:(Unit→Option (Int)))→(x3:Int)→Option (Int)
 | 0,_,_,_,_,_,_=>none
 | m4+1,a0,Aas,Abb,Aa3,J2,x3=>cond (decide (x3 < ((a0.length:Nat):Int))) ((Acz a0 x3).bind fun x6=>cond ((Aas == x6.1) && ((Abb == x6.2.1) && ((Aa3.toList == x6.2.2.toList) && true))) (some (x3)) (Anw.l0 m4 a0 Aas Abb Aa3 J2 (IntKind.i64.wrap (x3+1)))) (J2 ())
def Anw.f (k:Nat) (a0:TyB) (Aas:Int) (Abb:Int) (Aa3:ByteArray):Option (Int):=Adg (fun (_:Unit)=>some ((-1:Int))) (fun J2=>Anw.l0 k a0 Aas Abb Aa3 J2 0)
theorem Anw.ok {k Aqx:Nat} {a0:TyB} {Aas Abb r:Int} {Aa3:ByteArray} {Au6:Aaa} {Aql:TyO} (h:Anw.f k a0 Aas Abb Aa3=some r) (A4h:RdT e78 3 Au6 (.slice Aql a0.length Aqx) a0): Ct Tryz.prog 113 #[.slice Aql a0.length Aqx,.agg #[iv Aas,iv Abb,sv Aa3]] [] [Au6] (fun e l1=>e=.returned (iv r)∧l1=[]):=by
 refine Afb (args:=[.slice Aql a0.length Aqx,.agg #[iv Aas,iv Abb,sv Aa3]]) Tryz.func113 rfl (Nat.le_of_ble_eq_true rfl) ?_
 intro A X hh_
 obtain ⟨A5d,_⟩:=hh_
 unfold Anw.f at h
 refine ksr (knp #[iv Aas,iv Abb,sv Aa3] 78 fun b1=>(kx 1 (knt ?_)))
 obtain ⟨J2,hJ2,h⟩:=Agm h
 refine Agn (τ:=Unit) (fun t=>[]) (fun t=>X) (fun t=>J2 ()=some r) ?_ ?_
 ·rintro ⟨⟩ h
  subst hJ2
  refine ksr (kx 1 (knt (Afj ?_)))
  obtain rfl:=Option.some.inj h
  exact kdn rfl
 ·skip
  refine ksr (kx 3 (knt (Aez (Akr (τ:=Int) (fun t=>[(0,.slice Aql a0.length Aqx),(3,pt b1),(7,iv ((a0.length:Nat):Int)),(8,iv t)]) (fun t=>bk b1 #[iv Aas,iv Abb,sv Aa3] 78 :: X) (fun m t=>Anw.l0 m a0 Aas Abb Aa3 J2 t=some r) k 0 h sb rfl ?_))))
  clear h
  rintro m4 x3 h
  cases m4 with
  | zero=>simp [Anw.l0] at h
  | succ m4 =>
   simp only [Anw.l0] at h
   refine ksr (kx 1 (knt (Ac1 ?_)))
   refine kcn h (fun h=>?_) fun h=>?_
   ·refine Adv (Abr (Ac1 (Aez (ksr (kx 2 (knt (Ac1 (Asu [(0,3),(1,0),(2,0),(3,0),(4,3)] [bk b1 #[iv Aas,iv Abb,sv Aa3] 78,Au6] (fun w h_=>⟨h_.sat.on _ (.head _),h_.sat.on _ (.tail _ A5d),trivial⟩) (kpa 0 0 3 rfl (kpx 2 ?_))))))))))
    refine bnd h fun x6 hx6 h=>(Ccq (T:=78) (kd:=.i64) Bp7 rfl hx6 A4h fun p7 e8 y9=>?_)
    have e8:Elem _ p7 [iv x6.1,iv x6.2.1,sv x6.2.2]:=e8
    refine Atm rfl e8 (fun w h_=>h_.mem _ (.tail _ (.head _))) (kpz (Bk6 (r:=((Aas == x6.1) && ((Abb == x6.2.1) && ((Aa3.toList == x6.2.2.toList) && true)))) (xs:=#[iv Aas,iv Abb,sv Aa3]) (ys:=#[iv x6.1,iv x6.2.1,sv x6.2.2]) false (by kernel_rfl) rfl (by kernel_rfl) (by kernel_rfl) (by kernel_rfl) (by kernel_rfl) (by kernel_rfl) (by kernel_rfl) (by kernel_rfl) (knt ?_)))
    refine kcn h (fun h=>?_) fun h=>?_
    ·refine ksr (kx 2 (knt (Afj (Ajk (Ahj (Ahj (Ajk (Ahj ?_))))))))
     obtain rfl:=Option.some.inj h
     exact K.drop (kdn rfl)
    ·exact Adv (Acx (Abr (Ach (kx 2 (knt (Aiw m4 (IntKind.i64.wrap (x3+1)) (Nat.lt_succ_self _) h sb rfl))))))
   ·exact Akp (Af5 (Af5 (Akq (Abr (K.drop (Adb () h trivial rfl))))))
def Axr.f (k:Nat) (a0:List ByteArray) (a1:ByteArray):Option (Bool):=(Akc.f k a0 a1).bind fun r1=>some (decide (r1 ≥ 0))
theorem Axr.ok {k Aqx:Nat} {a0:TyC} {a1:ByteArray} {Au6:Aaa} {Aql:TyO} {r:Bool} (h:Axr.f k a0 a1=some r) (A4h:RdT encS 1 Au6 (.slice Aql a0.length Aqx) a0): Ct Tryz.prog 88 #[.slice Aql a0.length Aqx,sv a1] [] [Au6] (fun e l1=>e=.returned (bv r)∧l1=[]):=by
 refine Afb (args:=[.slice Aql a0.length Aqx,sv a1]) Tryz.func88 rfl (Nat.le_of_ble_eq_true rfl) ?_
 intro A X hh_
 obtain ⟨A5d,_⟩:=hh_
 unfold Axr.f at h
 refine ksr (kx 1 (Aby (kx 2 (bnd h fun r1 hr1 h=>(kcv (Akc.ok hr1 A4h) ⟨A5d,trivial⟩ (kx 2 (knt (Afj ?_))))))))
 obtain rfl:=Option.some.inj h
 exact kdn rfl
def A8l.f (k:Nat) (a0:List (Int×Int×ByteArray)) (Aas:Int) (Abb:Int) (Aa3:ByteArray):Option (Bool):=(Anw.f k a0 Aas Abb Aa3).bind fun r2=>some (decide (r2 ≥ 0))
theorem A8l.ok {k Aqx:Nat} {a0:TyB} {Aas Abb:Int} {Aa3:ByteArray} {Au6:Aaa} {Aql:TyO} {r:Bool} (h:A8l.f k a0 Aas Abb Aa3=some r) (A4h:RdT e78 3 Au6 (.slice Aql a0.length Aqx) a0): Ct Tryz.prog 89 #[.slice Aql a0.length Aqx,.agg #[iv Aas,iv Abb,sv Aa3]] [] [Au6] (fun e l1=>e=.returned (bv r)∧l1=[]):=by
 refine Afb (args:=[.slice Aql a0.length Aqx,.agg #[iv Aas,iv Abb,sv Aa3]]) Tryz.func89 rfl (Nat.le_of_ble_eq_true rfl) ?_
 intro A X hh_
 obtain ⟨A5d,_⟩:=hh_
 unfold A8l.f at h
 refine ksr (knp #[iv Aas,iv Abb,sv Aa3] 78 fun b1=>(kx 1 (Aby (kx 1 (kla 0 0 3 rfl (K.drop (bnd h fun r2 hr2 h=>(kcv (Anw.ok hr2 A4h) ⟨A5d,trivial⟩ (kx 2 (knt ?_))))))))))
 refine Afj ?_
 obtain rfl:=Option.some.inj h
 exact kdn rfl
def Azm.f (k:Nat) (a0:ByteArray):Option (Int):=cond (a0.toList == (⟨#[45]⟩:ByteArray).toList) (some (0)) ((strings_Fields.f k (⟨#[112,114,105,110,116,32,116,121,112,101,32,116,111,115,116,114,105,110,103,32,116,111,110,117,109,98,101,114,32,110,101,120,116,32,112,97,105,114,115,32,105,112,97,105,114,115,32,114,97,119,108,101,110,32,115,116,97,116,115,32,112,114,111,98,101,115,32,45,32,116,97,98,108,101,46,105,110,115,101,114,116,32,116,97,98,108,101,46,114,101,109,111,118,101,32,116,97,98,108,101,46,99,111,110,99,97,116,32,116,97,98,108,101,46,117,110,112,97,99,107,32,116,97,98,108,101,46,109,111,118,101,32,116,97,98,108,101,46,115,111,114,116,32,117,116,102,56,46,108,101,110,32,117,116,102,56,46,99,104,97,114,32,117,116,102,56,46,99,111,100,101,112,111,105,110,116,32,117,116,102,56,46,111,102,102,115,101,116,32,117,116,102,56,46,99,111,100,101,115,32,45]⟩:ByteArray)).bind fun r2=>(Akc.f k r2 a0).bind fun r7=>some (IntKind.i64.wrap (r7+1)))
theorem Azm.ok {k:Nat} {a0:ByteArray} {G:Aaa} {r:Int} (h:Azm.f k a0=some r) (hG:GlP G): Ct Tryz.prog 52 #[sv a0] [] [G] (fun e l1=>e=.returned (iv r)∧l1=[]):=by
 refine Afb (args:=[sv a0]) Tryz.func52 rfl (Nat.le_of_ble_eq_true rfl) ?_
 intro A X hh_
 obtain ⟨Adu,_⟩:=hh_
 unfold Azm.f at h
 refine ksr (kx 1 (knt (Ac1 (ksr (kx 2 (knt ?_))))))
 refine kcn h (fun h=>?_) fun h=>?_
 ·refine ksr (kx 1 (knt (Afj (Ahj ?_))))
  obtain rfl:=Option.some.inj h
  exact kdn rfl
 ·refine Adv (Abr (ksr (bnd h fun r2 hr2 h=>(kcl (strings_Fields.ok hr2 hG) rfl ⟨Adu,trivial⟩ ?_))))
  rintro _ _ ⟨h3,A4,k5,o6,rfl,rfl⟩
  refine Ak8 (kx 1 (bnd h fun r7 hr7 h=>(kcv (Akc.ok hr7 (Aan.rd o6)) ⟨(.head _),trivial⟩ (K.drop (kx 2 (knt (Afj ?_)))))))
  obtain rfl:=Option.some.inj h
  exact kdn rfl
theorem Cni (p q:Value) (w:World) :
  CallsD Tryz.prog 19 #[p,q] .returning w fun e u' w'=>e=.returned (.tuple #[])∧u'=.returning∧w=w':=by
 refine callsD_of_wpS Tryz.func19 rfl fun c₀ cs hu=>?_
 apply wpS_seq
 apply wpS_region
 simp [wpOpsS,go_sem,recoverD,hu,Tryz.ntmps19,Exit.thenS,Array.replicate_succ]
 refine wpS_of_wp ?_
 go_wp2
 cases c₀
 simp_all [bodyPostS,results,Tryz.results19]
theorem B4m {A w:World} {X:List Aaa} {p q:Nat} {x0 x1 y0 y1:Value} {i:Int×Int} (hw:St A (blk p (.cells #[x0,x1] 33 (0,0)) :: blk q (.cells #[y0,y1] 28 (0,0)) :: X) w) :
  CallsD Tryz.prog 19 #[.pointer (some ⟨p,0,none⟩),.pointer (some ⟨q,0,none⟩)] (.panicking [{ v:=Avi i,recovered:=false }]) w fun e u' w'=>e=.returned (.tuple #[])∧settle u'=.returning∧St A (blk p (.cells #[.slice none 0 0,.slice none 0 0] 33 (0,0)) :: blk q (.cells #[.int .i64 i.1,.int .i64 i.2] 28 (0,0)) :: X) w':=by
 refine callsD_of_wpS Tryz.func19 rfl fun c₀ cs hu=>?_
 apply wpS_seq
 apply wpS_region
 simp [wpOpsS,go_sem,recoverD,hu,Tryz.ntmps19,Exit.thenS,Array.replicate_succ]
 refine wpS_of_wp ?_
 refine (?_:K [] A Tryz.f19.ntmps [(0,.pointer (some ⟨p,0,none⟩)),(1,.pointer (some ⟨q,0,none⟩)),(5,.iface 68 (.agg #[.int .i64 i.1,.int .i64 i.2]))] (blk p (.cells #[x0,x1] 33 (0,0)) :: blk q (.cells #[y0,y1] 28 (0,0)) :: X) _) _ w ⟨rfl,rfl,?_⟩ hw
 rotate_left
 ·intro j v hj
  simp only [Env.get] at hj
  match j with
  | 0=>cases hj;rfl
  | 1=>cases hj;rfl
  | 2=>cases hj
  | 3=>cases hj
  | 4=>cases hj
  | 5=>cases hj;rfl
  | j+6=>cases hj
 refine Aez ?_
 refine Ac1 ?_
 refine Ach ?_
 refine Bk8 1 [(0,.pointer (some ⟨p,0,none⟩)),(1,.pointer (some ⟨q,0,none⟩)),(5,.iface 68 (.agg #[.int .i64 i.1,.int .i64 i.2])),(7,.bool false)] (by kernel_rfl) ?_
 refine Avl ?_
 refine Abr ?_
 refine Bkt (by kernel_rfl) ?_
 refine Ac1 ?_
 refine Ach ?_
 refine Bk8 3 [(0,.pointer (some ⟨p,0,none⟩)),(1,.pointer (some ⟨q,0,none⟩)),(5,.iface 68 (.agg #[.int .i64 i.1,.int .i64 i.2])),(9,.bool true),(10,.agg #[.int .i64 i.1,.int .i64 i.2])] (by kernel_rfl) ?_
 refine Avl ?_
 refine Abr ?_
 refine Bku (by kernel_rfl) ?_
 refine Ac1 ?_
 refine Ach ?_
 refine Bk7 (.cells #[.int .i64 (0:Int),.int .i64 (0:Int)] 68 (0,0)) (fun b=>.pointer (some ⟨b,0,none⟩)) (by kernel_rfl) (by kernel_rfl) (fun _=>by kernel_rfl) fun b1=>?_
 refine Bf4 (cs':=#[.int .i64 i.1,.int .i64 i.2]) [.st ⟨b1,0,none⟩ (.int .i64 i.1),.st ⟨b1,1,none⟩ (.int .i64 i.2)] (by kernel_rfl) (by kernel_rfl) (by kernel_rfl) ⟨rfl,rfl,trivial⟩ (by kernel_rfl) ?_
 refine Avl ?_
 refine Abr ?_
 refine Bfz [(0,0),(1,3),(2,1)] (fun w=>Alz [blk b1 (.cells #[.int .i64 i.1,.int .i64 i.2] 68 (0,0))] w) (by kernel_rfl) (by kernel_rfl) (fun _ _ d _ _ h=>by cases d <;> exact h) (fun w h_=>⟨h_.sat.on _ (.head _),trivial⟩) ?_
 simp only [Aka,List.filterMap_cons,List.filterMap_nil,List.getElem?_toArray,List.getElem?_cons_zero,List.getElem?_cons_succ,Option.map_some,List.drop_succ_cons,List.drop_zero,List.length_cons,List.length_nil]
 refine Ccn 1 [(0,.pointer (some ⟨p,0,none⟩)),(1,.pointer (some ⟨q,0,none⟩)),(3,.pointer (some ⟨b1,0,none⟩)),(11,.agg #[.slice none 0 0,.slice none 0 0])] (by kernel_rfl) (by kernel_rfl) ?_
 refine Blj (v:=.agg #[.int .i64 i.1,.int .i64 i.2]) [blk b1 (.cells #[.int .i64 i.1,.int .i64 i.2] 68 (0,0))] [.val (.int .i64 i.1),.val (.int .i64 i.2)] [.ld ⟨b1,0,none⟩ (.int .i64 i.1),.ld ⟨b1,1,none⟩ (.int .i64 i.2)] (by kernel_rfl) (by kernel_rfl) (by kernel_rfl) (fun _ h=>h) ⟨⟨0,_,_,_,rfl,rfl,rfl⟩,⟨0,_,_,_,rfl,rfl,rfl⟩,trivial⟩ ?_
 refine Bvc (by kernel_rfl) ?_
 refine K.mv1 ?_
 refine Bl6 (cs':=#[.slice none 0 0,.slice none 0 0]) [.st ⟨p,0,none⟩ (.slice none 0 0),.st ⟨p,1,none⟩ (.slice none 0 0)] (by kernel_rfl) (by kernel_rfl) ⟨rfl,rfl,trivial⟩ (by kernel_rfl) ?_
 refine A6v (fun w h_=>⟨h_.sat.on _ (.tail _ (.head _)),trivial⟩) ?_
 refine Bu8 ?_
 refine K.mv2 ?_
 refine Bf4 (cs':=#[.int .i64 i.1,.int .i64 i.2]) [.st ⟨q,0,none⟩ (.int .i64 i.1),.st ⟨q,1,none⟩ (.int .i64 i.2)] (by kernel_rfl) (by kernel_rfl) (by kernel_rfl) ⟨rfl,rfl,trivial⟩ (by kernel_rfl) ?_
 refine K.mv2 ?_
 refine K.drop ?_
 refine Avl ?_
 refine Acx ?_
 refine K.mv1 ?_
 intro a' w' ha' hw'
 have hd:=ha'.defers
 simp [bodyPostS,results,Tryz.results19,hd,settle]
 exact hw'
def Alv:Al3 (ByteArray×Int×Int×Int×List (Int×Int×ByteArray)):=rS1 4 (fun x=>[.string x.1,.int .i64 x.2.1,.int .i64 x.2.2.1,.int .i64 x.2.2.2.1]) (fun _=>⟨rfl,rfl⟩) e78 78 3 (fun x=>x.2.2.2.2)
theorem Bna {x:ByteArray×Int×Int×Int×TyB} {H:Aaa} {A:TyO} {c:Nat} (h:Aan e78 78 3 H (.slice A (x.2.2.2.2).length c) (x.2.2.2.2)):Alv.own x H [sv x.1,iv x.2.1,iv x.2.2.1,iv x.2.2.2.1,.slice A (x.2.2.2.2).length c]:=⟨A,c,rfl,h⟩
theorem Daz {x:ByteArray×Int×Int×Int×TyB} {H:Aaa} {cs:List Value} (h:Alv.rd x H cs):∃ A c,cs=[sv x.1,iv x.2.1,iv x.2.2.1,iv x.2.2.2.1,.slice A (x.2.2.2.2).length c]∧RdT e78 3 H (.slice A (x.2.2.2.2).length c) (x.2.2.2.2):=h
theorem Bdu:Am2 Tryz.prog 23 9 1 16 Tryz.t9 (sv noS):=⟨by kernel_rfl,by kernel_rfl,by kernel_rfl,by kernel_rfl,by kernel_rfl,by kernel_rfl,by decide⟩
def Azq.f (k:Nat) (Aac:TyF) (Aam:TyC) (Aci:ByteArray) (Ack:Int) (Acn:Int) (Adl:Int) (Acp:TyB) (Ac2:TyC) (Adm:Int) (Abz:TyC) (a1:ByteArray):Option TyC:=(Axr.f k Aam a1).bind fun r1=>cond (!r1) ((apd 16 Aam [a1]).bind fun l4=>some (l4)) (some (Aam))
theorem Azq.ok {k b0 Abf Afa Abq Aem Afi Ad4:Nat} {Aac:TyF} {Aam Ac2 Abz r:TyC} {Aci a1:ByteArray} {Ack Acn Adl Adm:Int} {Acp:TyB} {Ac0 Afm Af4 Ags Akl:Aaa} {Abe Ae6 Ael Afh Ad2:TyO} (h:Azq.f k Aac Aam Aci Ack Acn Adl Acp Ac2 Adm Abz a1=some r) (Abm:RdR Alv Ac0 (.slice Abe Aac.length Abf) Aac) (Ahg:Aan encS 9 1 Afm (.slice Ae6 Aam.length Afa) Aam) (Ahv:RdT e78 3 Af4 (.slice Ael Acp.length Aem) Acp) (Aip:RdT encS 1 Ags (.slice Afh Ac2.length Afi) Ac2) (Ai6:RdT encS 1 Akl (.slice Ad2 Abz.length Ad4) Abz): Ct Tryz.prog 49 #[pt b0,sv a1] [bk b0 #[.slice Abe Aac.length Abf,.slice Ae6 Aam.length Afa,pt Abq] 75,Afm,bk Abq #[sv Aci,iv Ack,iv Acn,iv Adl,.slice Ael Acp.length Aem,.slice Afh Ac2.length Afi,iv Adm,.slice Ad2 Abz.length Ad4] 73] [Ac0,Af4,Ags,Akl] (fun e l1=>∃ (H0_:Aaa) (A0_:TyO) (c0_:Nat),Aan encS 9 1 H0_ (.slice A0_ r.length c0_) r∧e=.returned (.tuple #[])∧l1=[bk b0 #[.slice Abe Aac.length Abf,.slice A0_ r.length c0_,pt Abq] 75,H0_,bk Abq #[sv Aci,iv Ack,iv Acn,iv Adl,.slice Ael Acp.length Aem,.slice Afh Ac2.length Afi,iv Adm,.slice Ad2 Abz.length Ad4] 73]):=by
 refine Afb (args:=[pt b0,sv a1]) Tryz.func49 rfl (Nat.le_of_ble_eq_true rfl) ?_
 intro A X hh_
 obtain ⟨Abu,Br2,Bke,Akx,_⟩:=hh_
 unfold Azq.f at h
 refine K.eq (env':=[(0,pt b0),(1,sv a1)]) (l':=bk b0 #[.slice Abe Aac.length Abf,.slice Ae6 Aam.length Afa,pt Abq] 75 :: Afm :: bk Abq #[sv Aci,iv Ack,iv Acn,iv Adl,.slice Ael Acp.length Aem,.slice Afh Ac2.length Afi,iv Adm,.slice Ad2 Abz.length Ad4] 73 :: X) rfl rfl (ksr (kx 4 (kld 0 1 rfl (kx 1 (bnd h fun r1 hr1 h=>(kcv (Axr.ok hr1 (Aan.rd Ahg)) ⟨(.tail _ (.head _)),trivial⟩ (kx 1 (knt ?_))))))))
 refine kcn h (fun h=>?_) fun h=>?_
 ·refine Ach (kx 5 (kld 0 1 rfl (kx 1 (kns #[sv a1] 9 1 fun b3=>(K.mv2 (bnd h fun l4 hl4 h=>(kap (ys:=[a1]) Asj rfl Bdu hl4 Ahg (A8n (n:=1) Asj [a1] (by kernel_rfl) rfl (by decide) 1 rfl) fun h5 A6 k7 o8=>(K.mv1 (K.drop (kx 3 ?_))))))))))
  refine K.mv1 (kst 1 1 #[.slice Abe Aac.length Abf,.slice A6 l4.length k7,pt Abq] (knl (Ae2 ?_)))
  obtain rfl:=Option.some.inj h
  exact kdv (.tuple #[]) [bk b0 #[.slice Abe Aac.length Abf,.slice A6 l4.length k7,pt Abq] 75,h5,bk Abq #[sv Aci,iv Ack,iv Acn,iv Adl,.slice Ael Acp.length Aem,.slice Afh Ac2.length Afi,iv Adm,.slice Ad2 Abz.length Ad4] 73] (Adj ⟨h5,A6,k7,o8,rfl,rfl⟩)
 ·refine Adv (Ae2 ?_)
  obtain rfl:=Option.some.inj h
  exact kdv (.tuple #[]) [bk b0 #[.slice Abe Aac.length Abf,.slice Ae6 Aam.length Afa,pt Abq] 75,Afm,bk Abq #[sv Aci,iv Ack,iv Acn,iv Adl,.slice Ael Acp.length Aem,.slice Afh Ac2.length Afi,iv Adm,.slice Ad2 Abz.length Ad4] 73] (Adj ⟨Afm,Ae6,Afa,Ahg,rfl,rfl⟩)
def A4u.f (k:Nat) (Aac:TyF) (Aam:TyC) (Aci:ByteArray) (Ack:Int) (Acn:Int) (Adl:Int) (Acp:TyB) (Ac2:TyC) (Adm:Int) (Abz:TyC) (Aas:Int) (Abb:ByteArray) (Aa3:Int) (Abk:Int) (Aao:List Tree):Option (PR TyC (Int×Int)):=(At9.f k Abb).bind fun r2=>cond r2 (PR.bind (Aov.f k 5 Abk) fun r4=>some (PR.ok (Aam))) ((Axr.f k Ac2 Abb).bind fun r6=>cond r6 (some (PR.ok (Aam))) ((Axr.f k Abz Abb).bind fun r8=>cond r8 (PR.bind (Aov.f k 5 Abk) fun r10=>some (PR.ok (Aam))) ((Azq.f k Aac Aam Aci Ack Acn Adl Acp Ac2 Adm Abz Abb).bind fun r12=>some (PR.ok (r12)))))
theorem A4u.ok {k b0 Abf Afa Abq Aem Afi Ad4 Ab4:Nat} {Aac:TyF} {Aam Ac2 Abz:TyC} {Aci Abb:ByteArray} {Ack Acn Adl Adm Aas Aa3 Abk:Int} {Acp:TyB} {Aao:List Tree} {Ac0 Afm Af4 Ags Akl Aev:Aaa} {Abe Ae6 Ael Afh Ad2 Ab1:TyO} {r:PR TyC (Int×Int)} (h:A4u.f k Aac Aam Aci Ack Acn Adl Acp Ac2 Adm Abz Aas Abb Aa3 Abk Aao=some r) (Abm:RdR Alv Ac0 (.slice Abe Aac.length Abf) Aac) (Ahg:Aan encS 9 1 Afm (.slice Ae6 Aam.length Afa) Aam) (Ahv:RdT e78 3 Af4 (.slice Ael Acp.length Aem) Acp) (Aip:RdT encS 1 Ags (.slice Afh Ac2.length Afi) Ac2) (Ai6:RdT encS 1 Akl (.slice Ad2 Abz.length Ad4) Abz) (Adf:RdR (Abx 54) Aev (.slice Ab1 Aao.length Ab4) Aao): Ct Tryz.prog 51 #[pt b0,.agg #[iv Aas,sv Abb,iv Aa3,iv Abk,.slice Ab1 Aao.length Ab4]] [bk b0 #[.slice Abe Aac.length Abf,.slice Ae6 Aam.length Afa,pt Abq] 75,Afm,bk Abq #[sv Aci,iv Ack,iv Acn,iv Adl,.slice Ael Acp.length Aem,.slice Afh Ac2.length Afi,iv Adm,.slice Ad2 Abz.length Ad4] 73] [Ac0,Af4,Ags,Akl,Aev] (PR.Post Avi (fun (r:TyC) e l1=>∃ (H0_:Aaa) (A0_:TyO) (c0_:Nat),Aan encS 9 1 H0_ (.slice A0_ r.length c0_) r∧e=.returned (.tuple #[])∧l1=[bk b0 #[.slice Abe Aac.length Abf,.slice A0_ r.length c0_,pt Abq] 75,H0_,bk Abq #[sv Aci,iv Ack,iv Acn,iv Adl,.slice Ael Acp.length Aem,.slice Afh Ac2.length Afi,iv Adm,.slice Ad2 Abz.length Ad4] 73]) r):=by
 refine Afb (args:=[pt b0,.agg #[iv Aas,sv Abb,iv Aa3,iv Abk,.slice Ab1 Aao.length Ab4]]) Tryz.func51 rfl (Nat.le_of_ble_eq_true rfl) ?_
 intro A X hh_
 obtain ⟨Abu,Br2,Bke,Akx,Ada,_⟩:=hh_
 unfold A4u.f at h
 refine K.eq (env':=[(0,pt b0),(1,.agg #[iv Aas,sv Abb,iv Aa3,iv Abk,.slice Ab1 Aao.length Ab4])]) (l':=bk b0 #[.slice Abe Aac.length Abf,.slice Ae6 Aam.length Afa,pt Abq] 75 :: Afm :: bk Abq #[sv Aci,iv Ack,iv Acn,iv Adl,.slice Ael Acp.length Aem,.slice Afh Ac2.length Afi,iv Adm,.slice Ad2 Abz.length Ad4] 73 :: X) rfl rfl (ksr (knp #[iv Aas,sv Abb,iv Aa3,iv Abk,.slice Ab1 Aao.length Ab4] 54 fun b1=>(knt (Aez (ksr (kx 1 (kld 0 1 rfl (bnd h fun r2 hr2 h=>(kcv (At9.ok hr2) trivial (kx 1 ?_))))))))))
 refine knt ?_
 refine kcn h (fun h=>?_) fun h=>?_
 ·refine Ach (kx 1 (kld 0 3 rfl (K.drop (kcp h (fun _ hr4=>(Aov.ok hr4)) rfl trivial (fun _ e=>Adz (kpn 3 e rfl)) fun r4 h=>?_))))
  rintro _ _ ⟨rfl,rfl⟩
  refine Aoj (knl (Acx (Ae2 ?_)))
  obtain rfl:=Option.some.inj h
  exact kdv (.tuple #[]) [bk b0 #[.slice Abe Aac.length Abf,.slice Ae6 Aam.length Afa,pt Abq] 75,Afm,bk Abq #[sv Aci,iv Ack,iv Acn,iv Adl,.slice Ael Acp.length Aem,.slice Afh Ac2.length Afi,iv Adm,.slice Ad2 Abz.length Ad4] 73] (Adj (PR.okI ⟨Afm,Ae6,Afa,Ahg,rfl,rfl⟩))
 ·refine Ac1 (kpr [(0,0),(1,0),(2,0),(3,3),(4,0),(5,0),(6,3),(7,0),(8,3)] [0,1,3] (kpx 3 (kpd 1 2 rfl (kpx 2 (kpd 2 5 rfl (kpx 1 (kpd 0 1 rfl (kpz (bnd h fun r6 hr6 h=>(kcv (Axr.ok hr6 Aip) ⟨(t4 Bke),trivial⟩ ?_))))))))))
  refine kx 1 (knt ?_)
  refine kcn h (fun h=>?_) fun h=>?_
  ·refine Adv (Acx (Ae2 ?_))
   obtain rfl:=Option.some.inj h
   exact kdv (.tuple #[]) [bk b0 #[.slice Abe Aac.length Abf,.slice Ae6 Aam.length Afa,pt Abq] 75,Afm,bk Abq #[sv Aci,iv Ack,iv Acn,iv Adl,.slice Ael Acp.length Aem,.slice Afh Ac2.length Afi,iv Adm,.slice Ad2 Abz.length Ad4] 73] (K.drop (Adj (PR.okI ⟨Afm,Ae6,Afa,Ahg,rfl,rfl⟩)))
  ·refine Ac1 (kpr [(0,0),(1,0),(2,0),(3,3),(4,0),(5,0),(6,3),(7,0),(8,3)] [0,1,3] (kpx 3 (kpd 1 2 rfl (kpx 2 (kpd 2 7 rfl (kpx 1 (kpd 0 1 rfl (kpz (bnd h fun r8 hr8 h=>(kcv (Axr.ok hr8 Ai6) ⟨(t4 Akx),trivial⟩ ?_))))))))))
   refine kx 1 (knt ?_)
   refine kcn h (fun h=>?_) fun h=>?_
   ·refine Ach (kx 1 (kld 0 3 rfl (K.drop (kcp h (fun _ Aw1=>(Aov.ok Aw1)) rfl trivial (fun _ e=>Adz (kpn 3 e rfl)) fun r10 h=>?_))))
    rintro _ _ ⟨rfl,rfl⟩
    refine Aoj (knl (Acx (Ae2 ?_)))
    obtain rfl:=Option.some.inj h
    exact kdv (.tuple #[]) [bk b0 #[.slice Abe Aac.length Abf,.slice Ae6 Aam.length Afa,pt Abq] 75,Afm,bk Abq #[sv Aci,iv Ack,iv Acn,iv Adl,.slice Ael Acp.length Aem,.slice Afh Ac2.length Afi,iv Adm,.slice Ad2 Abz.length Ad4] 73] (Adj (PR.okI ⟨Afm,Ae6,Afa,Ahg,rfl,rfl⟩))
   ·refine Ach (kx 2 (kld 0 1 rfl (K.drop (K.mv2 (K.mv2 (K.mv2 (bnd h fun r12 Bsw h=>(kcl (Azq.ok (b0:=b0) (Abq:=Abq) Bsw Abm Ahg Ahv Aip Ai6) rfl ⟨Abu,Br2,Bke,Akx,trivial⟩ ?_))))))))
    rintro _ _ ⟨h13,A14,k15,o16,rfl,rfl⟩
    refine A3h (knl (Acx (Ae2 ?_)))
    obtain rfl:=Option.some.inj h
    exact kdv (.tuple #[]) [bk b0 #[.slice Abe Aac.length Abf,.slice A14 r12.length k15,pt Abq] 75,h13,bk Abq #[sv Aci,iv Ack,iv Acn,iv Adl,.slice Ael Acp.length Aem,.slice Afh Ac2.length Afi,iv Adm,.slice Ad2 Abz.length Ad4] 73] (Adj (PR.okI ⟨h13,A14,k15,o16,rfl,rfl⟩))
theorem Cpv:Am2 Tryz.prog 38 78 3 32 Tryz.t78 (.agg #[iv 0,iv 0,sv noS]):=⟨by kernel_rfl,by kernel_rfl,by kernel_rfl,by kernel_rfl,by kernel_rfl,by kernel_rfl,by decide⟩
def Azo.f (k:Nat) (Aac:TyF) (Aam:TyC) (Aci:ByteArray) (Ack:Int) (Acn:Int) (Adl:Int) (Acp:TyB) (Ac2:TyC) (Adm:Int) (Abz:TyC) (Aas:Int) (Abb:ByteArray) (Aa3:Int) (Abk:Int) (Aao:List Tree) (Aiv:Int) (Awd:Int) (Awg:ByteArray):Option (PR TyB (Int×Int)):=(A8l.f k Acp Aiv Awd Awg).bind fun r3=>cond (!r3) (PR.bind (Akn.f k Aas Abb Aa3 Abk Aao (IntKind.i64.wrap (((Acp.length:Nat):Int)+1)) 250) fun r5=>(apd 32 Acp [(Aiv,Awd,Awg)]).bind fun l8=>some (PR.ok (l8))) (some (PR.ok (Acp)))
theorem Azo.ok {k b0 Abf Afa Abq Aem Afi Ad4 Ab4:Nat} {Aac:TyF} {Aam Ac2 Abz:TyC} {Aci Abb Awg:ByteArray} {Ack Acn Adl Adm Aas Aa3 Abk Aiv Awd:Int} {Acp:TyB} {Aao:List Tree} {Ac0 Afm Af4 Ags Akl Aev:Aaa} {Abe Ae6 Ael Afh Ad2 Ab1:TyO} {r:PR TyB (Int×Int)} (h:Azo.f k Aac Aam Aci Ack Acn Adl Acp Ac2 Adm Abz Aas Abb Aa3 Abk Aao Aiv Awd Awg=some r) (Abm:RdR Alv Ac0 (.slice Abe Aac.length Abf) Aac) (Ahg:RdT encS 1 Afm (.slice Ae6 Aam.length Afa) Aam) (Ahv:Aan e78 78 3 Af4 (.slice Ael Acp.length Aem) Acp) (Aip:RdT encS 1 Ags (.slice Afh Ac2.length Afi) Ac2) (Ai6:RdT encS 1 Akl (.slice Ad2 Abz.length Ad4) Abz) (Adf:RdR (Abx 54) Aev (.slice Ab1 Aao.length Ab4) Aao): Ct Tryz.prog 50 #[pt b0,.agg #[iv Aas,sv Abb,iv Aa3,iv Abk,.slice Ab1 Aao.length Ab4],.agg #[iv Aiv,iv Awd,sv Awg]] [bk b0 #[.slice Abe Aac.length Abf,.slice Ae6 Aam.length Afa,pt Abq] 75,bk Abq #[sv Aci,iv Ack,iv Acn,iv Adl,.slice Ael Acp.length Aem,.slice Afh Ac2.length Afi,iv Adm,.slice Ad2 Abz.length Ad4] 73,Af4] [Ac0,Afm,Ags,Akl,Aev] (PR.Post Avi (fun (r:TyB) e l1=>∃ (H0_:Aaa) (A0_:TyO) (c0_:Nat),Aan e78 78 3 H0_ (.slice A0_ r.length c0_) r∧e=.returned (.tuple #[])∧l1=[bk b0 #[.slice Abe Aac.length Abf,.slice Ae6 Aam.length Afa,pt Abq] 75,bk Abq #[sv Aci,iv Ack,iv Acn,iv Adl,.slice A0_ r.length c0_,.slice Afh Ac2.length Afi,iv Adm,.slice Ad2 Abz.length Ad4] 73,H0_]) r):=by
 refine Afb (args:=[pt b0,.agg #[iv Aas,sv Abb,iv Aa3,iv Abk,.slice Ab1 Aao.length Ab4],.agg #[iv Aiv,iv Awd,sv Awg]]) Tryz.func50 rfl (Nat.le_of_ble_eq_true rfl) ?_
 intro A X hh_
 obtain ⟨Abu,Cvn,Bke,Akx,Ada,_⟩:=hh_
 unfold Azo.f at h
 refine K.eq (env':=[(0,pt b0),(1,.agg #[iv Aas,sv Abb,iv Aa3,iv Abk,.slice Ab1 Aao.length Ab4]),(2,.agg #[iv Aiv,iv Awd,sv Awg])]) (l':=bk b0 #[.slice Abe Aac.length Abf,.slice Ae6 Aam.length Afa,pt Abq] 75 :: bk Abq #[sv Aci,iv Ack,iv Acn,iv Adl,.slice Ael Acp.length Aem,.slice Afh Ac2.length Afi,iv Adm,.slice Ad2 Abz.length Ad4] 73 :: Af4 :: X) rfl rfl (ksr (knp #[iv Aas,sv Abb,iv Aa3,iv Abk,.slice Ab1 Aao.length Ab4] 54 fun b1=>(knp #[iv Aiv,iv Awd,sv Awg] 78 fun b2=>(knt (Ac1 (kpr [(0,0),(1,0),(2,0),(3,3),(4,0),(5,0),(6,0),(7,3),(8,3)] [0,2,3] (kpx 3 (kpd 1 2 rfl (kpx 3 (kpd 2 4 rfl ?_))))))))))
 refine kpa 0 0 3 rfl (kpz (bnd h fun r3 hr3 h=>(kcv (A8l.ok hr3 (Aan.rd Ahv)) ⟨(.tail _ (.tail _ (.tail _ (.tail _ (.head _))))),trivial⟩ (kx 1 (knt ?_)))))
 refine kcn h (fun h=>?_) fun h=>?_
 ·refine Ac1 (kpr [(0,3),(1,0),(2,0),(3,0),(4,3),(5,0),(6,0),(7,0),(8,3),(9,0),(10,0)] [1,2,3] (kpa 0 0 5 rfl (kpx 3 (kpd 1 2 rfl (kpx 3 (kpd 2 4 rfl (kpx 2 (kpz (kcp h (fun _ hr5=>(Akn.ok hr5 Adf)) rfl ⟨(t5 Ada),trivial⟩ (fun _ e=>Ab5 (kpn 5 e rfl)) fun r5 h=>?_)))))))))
  rintro _ _ ⟨rfl,rfl⟩
  refine Aoj (K.mv1 (K.drop (knt (kpr [(0,0),(1,0),(2,0),(3,3),(4,0),(5,0),(6,0),(7,3),(8,0),(9,0),(10,0),(11,3),(12,3),(13,1),(14,1)] [0,1,2] (kpx 3 (kpd 1 2 rfl (kpx 3 (kpd 1 2 rfl (kpx 3 (kpd 2 4 rfl ?_))))))))))
  refine kpa 0 0 3 rfl (kpt (ons #[iv Aiv,iv Awd,sv Awg] 78 1 fun b7=>(kan [1,2,3] rfl (kpt (K.mv4 (bnd h fun l8 hl8 h=>(Bw9 (ys:=[(Aiv,Awd,Awg)]) Bp7 rfl Cpv (by kernel_rfl) (by kernel_rfl) (by kernel_rfl) (by kernel_rfl) hl8 Ahv (A8n (n:=1) Bp7 [(Aiv,Awd,Awg)] (by kernel_rfl) rfl (by decide) 1 rfl) fun h9 A10 k11 o12=>(kan [2,3,4] rfl (kpz (kx 3 ?_))))))))))
  refine K.mv4 (kst 4 1 #[sv Aci,iv Ack,iv Acn,iv Adl,.slice A10 l8.length k11,.slice Afh Ac2.length Afi,iv Adm,.slice Ad2 Abz.length Ad4] (K.mv2 (K.drop (K.mv2 (K.drop (knl (Ae2 ?_)))))))
  obtain rfl:=Option.some.inj h
  exact kdv (.tuple #[]) [bk b0 #[.slice Abe Aac.length Abf,.slice Ae6 Aam.length Afa,pt Abq] 75,bk Abq #[sv Aci,iv Ack,iv Acn,iv Adl,.slice A10 l8.length k11,.slice Afh Ac2.length Afi,iv Adm,.slice Ad2 Abz.length Ad4] 73,h9] (K.mv1 (K.mv1 (K.mv2 (Adj (PR.okI ⟨h9,A10,k11,o12,rfl,rfl⟩)))))
 ·refine Adv (Ae2 ?_)
  obtain rfl:=Option.some.inj h
  exact kdv (.tuple #[]) [bk b0 #[.slice Abe Aac.length Abf,.slice Ae6 Aam.length Afa,pt Abq] 75,bk Abq #[sv Aci,iv Ack,iv Acn,iv Adl,.slice Ael Acp.length Aem,.slice Afh Ac2.length Afi,iv Adm,.slice Ad2 Abz.length Ad4] 73,Af4] (K.drop (K.drop (Adj (PR.okI ⟨Af4,Ael,Aem,Ahv,rfl,rfl⟩))))
def Aot.l0:Nat→(a2:List Tree)→(J7:(List ByteArray)→Option (PR (Int×List ByteArray) (Int×Int)))→(x10:Int)→(l11:List ByteArray)→Option (PR (Int×List ByteArray) (Int×Int))
 | 0,_,_,_,_=>none
 | m16+1,a2,J7,x10,l11=>cond (decide (x10 < ((a2.length:Nat):Int))) ((Acz a2 x10).bind fun x18=>Adg (fun (_:Unit)=>(apd 16 l11 [x18.text]).bind fun l30=>Aot.l0 m16 a2 J7 (IntKind.i64.wrap (x10+1)) l30) (fun J28=>(At9.f m16 x18.text).bind fun r35=>cond r35 (PR.bind (Aov.f m16 5 x18.at_) fun r37=>J28 ()) (J28 ()))) (J7 l11)
def Aot.f (k:Nat) (Aac:TyF) (Aam:TyC) (Aci:ByteArray) (Ack:Int) (Acn:Int) (Adl:Int) (Acp:TyB) (Ac2:TyC) (Adm:Int) (Abz:TyC) (Aas:Int) (Abb:ByteArray) (Aa3:Int) (Abk:Int) (Aao:List Tree) (a2:List Tree):Option (PR (Int×TyC) (Int×Int)):=Adg (fun (l2:TyC)=>PR.bind (Akn.f k Aas Abb Aa3 Abk Aao ((l2.length:Nat):Int) 60) fun r8=>some (PR.ok ((if ((l2.length:Nat):Int) > Adl then ((l2.length:Nat):Int) else Adl),l2))) (fun J7=>Aot.l0 k a2 J7 0 Ac2)
theorem Aot.ok {k b0 Abf Afa Abq Aem Afi Ad4 Ab4 Aml:Nat} {Aac:TyF} {Aam Ac2 Abz:TyC} {Aci Abb:ByteArray} {Ack Acn Adl Adm Aas Aa3 Abk:Int} {Acp:TyB} {Aao a2:List Tree} {Ac0 Afm Af4 Ags Akl Aev Aty:Aaa} {Abe Ae6 Ael Afh Ad2 Ab1 Ami:TyO} {r:PR (Int×TyC) (Int×Int)} (h:Aot.f k Aac Aam Aci Ack Acn Adl Acp Ac2 Adm Abz Aas Abb Aa3 Abk Aao a2=some r) (Abm:RdR Alv Ac0 (.slice Abe Aac.length Abf) Aac) (Ahg:RdT encS 1 Afm (.slice Ae6 Aam.length Afa) Aam) (Ahv:RdT e78 3 Af4 (.slice Ael Acp.length Aem) Acp) (Aip:Aan encS 9 1 Ags (.slice Afh Ac2.length Afi) Ac2) (Ai6:RdT encS 1 Akl (.slice Ad2 Abz.length Ad4) Abz) (Adf:RdR (Abx 54) Aev (.slice Ab1 Aao.length Ab4) Aao) (A2f:RdR (Abx 54) Aty (.slice Ami a2.length Aml) a2): Ct Tryz.prog 34 #[pt b0,.agg #[iv Aas,sv Abb,iv Aa3,iv Abk,.slice Ab1 Aao.length Ab4],.slice Ami a2.length Aml] [bk b0 #[.slice Abe Aac.length Abf,.slice Ae6 Aam.length Afa,pt Abq] 75,bk Abq #[sv Aci,iv Ack,iv Acn,iv Adl,.slice Ael Acp.length Aem,.slice Afh Ac2.length Afi,iv Adm,.slice Ad2 Abz.length Ad4] 73,Ags] [Ac0,Afm,Af4,Akl,Aev,Aty] (PR.Post Avi (fun (r:Int×TyC) e l1=>∃ (H0_:Aaa) (A0_:TyO) (c0_:Nat),Aan encS 9 1 H0_ (.slice A0_ r.2.length c0_) r.2∧e=.returned (.tuple #[])∧l1=[bk b0 #[.slice Abe Aac.length Abf,.slice Ae6 Aam.length Afa,pt Abq] 75,bk Abq #[sv Aci,iv Ack,iv Acn,iv r.1,.slice Ael Acp.length Aem,.slice A0_ r.2.length c0_,iv Adm,.slice Ad2 Abz.length Ad4] 73,H0_]) r):=by
 refine Afb (args:=[pt b0,.agg #[iv Aas,sv Abb,iv Aa3,iv Abk,.slice Ab1 Aao.length Ab4],.slice Ami a2.length Aml]) Tryz.func34 rfl (Nat.le_of_ble_eq_true rfl) ?_
 intro A X hh_
 obtain ⟨Abu,Cvn,Br2,Akx,Ada,Azw,_⟩:=hh_
 unfold Aot.f at h
 refine K.eq (env':=[(0,pt b0),(1,.agg #[iv Aas,sv Abb,iv Aa3,iv Abk,.slice Ab1 Aao.length Ab4]),(2,.slice Ami a2.length Aml)]) (l':=bk b0 #[.slice Abe Aac.length Abf,.slice Ae6 Aam.length Afa,pt Abq] 75 :: bk Abq #[sv Aci,iv Ack,iv Acn,iv Adl,.slice Ael Acp.length Aem,.slice Afh Ac2.length Afi,iv Adm,.slice Ad2 Abz.length Ad4] 73 :: Ags :: X) rfl rfl (ksr (knp #[iv Aas,sv Abb,iv Aa3,iv Abk,.slice Ab1 Aao.length Ab4] 54 fun b1=>(knt ?_)))
 obtain ⟨J7,hJ7,h⟩:=Agm h
 refine Agn (τ:=TyC×Aaa×TyO×Nat) (fun t=>[(0,pt b0),(4,pt b1)]) (fun t=>bk b1 #[iv Aas,sv Abb,iv Aa3,iv Abk,.slice Ab1 Aao.length Ab4] 54 :: bk b0 #[.slice Abe Aac.length Abf,.slice Ae6 Aam.length Afa,pt Abq] 75 :: bk Abq #[sv Aci,iv Ack,iv Acn,iv Adl,.slice Ael Acp.length Aem,.slice t.2.2.1 t.1.length t.2.2.2,iv Adm,.slice Ad2 Abz.length Ad4] 73 :: t.2.1 :: X) (fun t=>J7 t.1=some r∧Aan encS 9 1 t.2.1 (.slice t.2.2.1 t.1.length t.2.2.2) t.1) ?_ ?_
 ·rintro ⟨l2,h3,A4,k5⟩ ⟨h,o6⟩
  subst hJ7
  refine Ac1 (kpr [(0,3),(1,0),(2,0),(3,0),(4,3),(5,0),(6,0),(7,3),(8,0)] [0,1,2] (kpa 0 0 5 rfl (kpx 3 (kpd 1 2 rfl (kpx 2 (kpd 2 5 rfl (kpx 1 (kpz (kcp h (fun _ hr8=>(Akn.ok hr8 Adf)) rfl ⟨(t4 Ada),trivial⟩ (fun _ e=>Ab5 (kpn 4 e rfl)) fun r8 h=>?_)))))))))
  rintro _ _ ⟨rfl,rfl⟩
  refine Aoj (K.drop (knt (kpr [(0,0),(1,0),(2,0),(3,3),(4,0),(5,0),(6,0),(7,3),(8,0),(9,0),(10,0),(11,3),(12,0),(13,0),(14,0),(15,3),(16,0),(17,0),(18,3),(19,0),(20,0)] [0,1] (kpx 3 (kpd 0 2 rfl (kpx 3 (kpd 0 2 rfl (kpx 3 (kpd 1 3 rfl (kpx 3 ?_))))))))))
  refine kpd 0 2 rfl (kpx 2 (kpd 1 5 rfl (kpx 2 (kpz (kx 3 (K.mv1 (kst 3 1 #[sv Aci,iv Ack,iv Acn,iv (if ((l2.length:Nat):Int) > Adl then ((l2.length:Nat):Int) else Adl),.slice Ael Acp.length Aem,.slice A4 l2.length k5,iv Adm,.slice Ad2 Abz.length Ad4] (knl (Ae2 ?_)))))))))
  obtain rfl:=Option.some.inj h
  exact kdv (.tuple #[]) [bk b0 #[.slice Abe Aac.length Abf,.slice Ae6 Aam.length Afa,pt Abq] 75,bk Abq #[sv Aci,iv Ack,iv Acn,iv (if ((l2.length:Nat):Int) > Adl then ((l2.length:Nat):Int) else Adl),.slice Ael Acp.length Aem,.slice A4 l2.length k5,iv Adm,.slice Ad2 Abz.length Ad4] 73,h3] (K.mv2 (K.mv1 (K.mv2 (Adj (PR.okI ⟨h3,A4,k5,o6,rfl,rfl⟩)))))
 ·skip
  refine ksr (kx 3 (knt (Aez (Akr (τ:=Int×TyC×Aaa×TyO×Nat) (fun t=>[(0,pt b0),(4,pt b1),(8,.slice Ami a2.length Aml),(9,iv ((a2.length:Nat):Int)),(10,iv t.1)]) (fun t=>bk b1 #[iv Aas,sv Abb,iv Aa3,iv Abk,.slice Ab1 Aao.length Ab4] 54 :: bk b0 #[.slice Abe Aac.length Abf,.slice Ae6 Aam.length Afa,pt Abq] 75 :: bk Abq #[sv Aci,iv Ack,iv Acn,iv Adl,.slice Ael Acp.length Aem,.slice t.2.2.2.1 t.2.1.length t.2.2.2.2,iv Adm,.slice Ad2 Abz.length Ad4] 73 :: t.2.2.1 :: X) (fun m t=>Aot.l0 m a2 J7 t.1 t.2.1=some r∧Aan encS 9 1 t.2.2.1 (.slice t.2.2.2.1 t.2.1.length t.2.2.2.2) t.2.1) k (0,Ac2,Ags,Afh,Afi) ⟨h,Aip⟩ sb rfl ?_))))
  clear h
  rintro m16 ⟨x10,l11,h12,A13,k14⟩ ⟨h,o15⟩
  cases m16 with
  | zero=>simp [Aot.l0] at h
  | succ m16 =>
   simp only [Aot.l0] at h
   refine ksr (kx 1 (knt (Ac1 ?_)))
   refine kcn h (fun h=>?_) fun h=>?_
   ·refine Adv (Abr (Ac1 (Aez (ksr (bnd h fun x18 Czg h=>(Aht (T:=54) (kd:=.i64) (R:=(Abx 54)) rfl Czg A2f fun p19 u22 q23 e20 y21=>?_))))))
    obtain ⟨A24,k25,rfl,o26⟩:=Ahx 54 q23
    refine keN rfl e20 (t4 Azw) (knp #[iv 0,sv noS,iv 0,iv 0,nS] 54 fun b27=>(kst 0 5 #[iv x18.kind,sv x18.text,iv x18.n,iv x18.at_,.slice A24 x18.kids.length k25] (knt ?_)))
    obtain ⟨J28,Brq,h⟩:=Agm h
    refine Agn (τ:=Unit) (fun t=>[(0,pt b0),(4,pt b1),(7,pt b27),(8,.slice Ami a2.length Aml),(9,iv ((a2.length:Nat):Int)),(10,iv x10)]) (fun t=>bk b27 #[iv x18.kind,sv x18.text,iv x18.n,iv x18.at_,.slice A24 x18.kids.length k25] 54 :: bk b1 #[iv Aas,sv Abb,iv Aa3,iv Abk,.slice Ab1 Aao.length Ab4] 54 :: bk b0 #[.slice Abe Aac.length Abf,.slice Ae6 Aam.length Afa,pt Abq] 75 :: bk Abq #[sv Aci,iv Ack,iv Acn,iv Adl,.slice Ael Acp.length Aem,.slice A13 l11.length k14,iv Adm,.slice Ad2 Abz.length Ad4] 73 :: h12 :: X) (fun t=>J28 ()=some r) ?_ ?_
    ·rintro ⟨⟩ h
     subst Brq
     refine kpr [(0,0),(1,0),(2,0),(3,3),(4,0),(5,0),(6,0),(7,3),(8,0),(9,0),(10,3),(11,0),(12,3),(13,1),(14,1)] [0,2,3] (kpx 3 (kpd 1 2 rfl (kpx 3 (kpd 1 2 rfl (kpx 2 (kpd 2 5 rfl (kpx 1 (kpd 0 1 rfl (kpt (ons #[sv x18.text] 9 1 fun b29=>?_))))))))))
     refine kan [1,3,4] rfl (kpt (K.mv5 (bnd h fun l30 Br1 h=>(Bw9 (ys:=[x18.text]) Asj rfl Bdu (by kernel_rfl) (by kernel_rfl) (by kernel_rfl) (by kernel_rfl) Br1 o15 (A8n (n:=1) Asj [x18.text] (by kernel_rfl) rfl (by decide) 1 rfl) fun h31 A32 k33 o34=>(kan [2,4,5] rfl (kpz (kx 2 (K.mv5 (kst 5 1 #[sv Aci,iv Ack,iv Acn,iv Adl,.slice Ael Acp.length Aem,.slice A32 l30.length k33,iv Adm,.slice Ad2 Abz.length Ad4] (K.mv2 ?_))))))))))
     refine K.drop (K.mv2 (K.drop (knl (Acx (Abr (Ach (kx 2 (knt (K.mv1 (K.mv1 ?_))))))))))
     exact K.mv3 (K.mv3 (Aiw m16 (IntKind.i64.wrap (x10+1),l30,h31,A32,k33) (Nat.lt_succ_self _) ⟨h,o34⟩ sb rfl))
    ·skip
     refine ksr (kx 1 (kld 0 1 rfl (bnd h fun r35 A5m h=>(kcv (At9.ok A5m) trivial (knt ?_)))))
     refine kcn h (fun h=>?_) fun h=>?_
     ·refine Ach (kx 1 (kld 0 3 rfl (kcp h (fun _ A5o=>(Aov.ok A5o)) rfl trivial (fun _ e=>Ab5 (Adz (Ab5 (Ab5 (Adz (Ab5 (kpn 5 e rfl))))))) fun r37 h=>?_)))
      rintro _ _ ⟨rfl,rfl⟩
      exact Aoj (knt (Adb () h sb rfl))
     ·exact Adv (Abr (Adb () h sb rfl))
   ·exact Akp (Af5 (Af5 (Akq (Abr (Adb (l11,h12,A13,k14) ⟨h,o15⟩ sb rfl)))))
end
end Go.Proofs.YtkdjiehclahliaaGreatDoor
