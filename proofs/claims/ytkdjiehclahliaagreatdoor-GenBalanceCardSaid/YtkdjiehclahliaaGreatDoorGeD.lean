/- Texts of mine for genBalance_card, part 4. -/
import Derived.Test.YtkdjiehclahliaaGreatDoorGeC
set_option linter.unusedSimpArgs false
set_option linter.unusedVariables false
set_option linter.unusedSectionVars false
namespace Go.Proofs.YtkdjiehclahliaaGreatDoor
set_option maxRecDepth 100000
section
open Go Go.RowKit
def Le {α:Type} (x y:Option α):Prop:=∀ v,x=some v→y=some v
section
variable {α β:Type}
theorem Le.refl (x:Option α):Le x x:=fun _ h=>h
theorem Le.none (x:Option α):Le none x:=fun _ h=>by cases h
theorem Le.trans {x y z:Option α} (h1:Le x y) (h2:Le y z):Le x z:=fun v h=>h2 v (h1 v h)
theorem Le.bind {x y:Option (PV α)} {f g:α→List Tk→Option (PV β)} (h:Le x y) (hf:∀ a r,Le (f a r) (g a r)):Le (PV.bind x f) (PV.bind y g):=fun v hv=>by
 rcases bind_some hv with ⟨i,hx,rfl⟩ | ⟨a,r,hx,h2⟩
 ·rw [h _ hx];rfl
 ·rw [h _ hx];exact hf a r _ h2
theorem Le.ite {c:Prop} [Decidable c] {x y x' y':Option α} (h1:Le x x') (h2:Le y y'):Le (if c then x else y) (if c then x' else y'):=by
 by_cases h:c
 ·rw [if_pos h,if_pos h];exact h1
 ·rw [if_neg h,if_neg h];exact h2
end
theorem Wr:∀ (f:Nat) (acc:List Tree) (ts:List Tk),Le (GL f acc ts) (GL (f+1) acc ts)
 | 0,_,_=>Le.none _
 | f+1,acc,ts=>by
  rw [GL,GL]
  exact Le.ite (Le.bind (Le.refl _) fun _ _=>Wr f _ _) (Le.refl _)
theorem Asr (f:Nat) (ts:List Tk):Le (Ng f ts) (Ng (f+1) ts):=Le.bind (Le.refl _) fun _ _=>Wr f _ _
structure LeE (f:Nat):Prop where
 exp:∀ least ts,Le (DH f least ts) (DH (f+1) least ts)
 loop:∀ least n ts,Le (FQ f least n ts) (FQ (f+1) least n ts)
 operand:∀ ts,Le (FB f ts) (FB (f+1) ts)
 fields:∀ acc ts,Le (FA f acc ts) (FA (f+1) acc ts)
 field:∀ ts,Le (Gc f ts) (Gc (f+1) ts)
 ET:∀ ts,Le (Fm f ts) (Fm (f+1) ts)
 DV:∀ at_ n ts,Le (Fl f at_ n ts) (Fl (f+1) at_ n ts)
 D1:∀ ts,Le (Fk f ts) (Fk (f+1) ts)
 GG:∀ acc ts,Le (FP f acc ts) (FP (f+1) acc ts)
theorem L0:∀ f,LeE f
 | 0=>by constructor <;> intros <;> (first | rw [DH] | rw [FQ] | rw [FB] | rw [FA] | rw [Gc] | rw [Fm] | rw [Fl] | rw [Fk] | rw [FP]) <;> exact Le.none _
 | f+1=>by
  have ih:=L0 f
  constructor
  ·intro least ts;rw [DH,DH]
   exact Le.bind (ih.operand _) fun _ _=>ih.loop _ _ _
  ·intro least n ts;rw [FQ,FQ]
   exact Le.ite (Le.refl _) (Le.bind (ih.exp _ _) fun _ _=>ih.loop _ _ _)
  ·intro ts;rw [FB,FB]
   exact Le.ite (Le.refl _) (Le.ite (Le.refl _) (Le.ite (Le.refl _) (Le.ite (Le.refl _) (Le.ite (Le.refl _) (Le.ite (Le.bind (ih.exp _ _) fun _ _=>Le.refl _) (Le.ite (Le.bind (ih.fields _ _) fun _ _=>Le.refl _) (ih.ET _)))))))
  ·intro acc ts;rw [FA,FA]
   exact Le.ite (Le.refl _) (Le.bind (ih.field _) fun _ _=>Le.ite (ih.fields _ _) (Le.ite (ih.fields _ _) (Le.refl _)))
  ·intro ts;rw [Gc,Gc]
   exact Le.ite (Le.bind (ih.exp _ _) fun _ _=>Le.bind (Le.refl _) fun _ _=>Le.bind (Le.refl _) fun _ _=>Le.bind (ih.exp _ _) fun _ _=>Le.refl _) (Le.ite (Le.bind (ih.exp _ _) fun _ _=>Le.refl _) (Le.bind (ih.exp _ _) fun _ _=>Le.refl _))
  ·intro ts;rw [Fm,Fm]
   exact Le.ite (Le.bind (ih.exp _ _) fun _ _=>Le.bind (Le.refl _) fun _ _=>ih.DV _ _ _) (Le.bind (Le.refl _) fun _ _=>ih.DV _ _ _)
  ·intro at_ n ts;rw [Fl,Fl]
   exact Le.ite (Le.bind (ih.exp _ _) fun _ _=>Le.bind (Le.refl _) fun _ _=>ih.DV _ _ _) (Le.ite (Le.bind (Le.refl _) fun _ _=>ih.DV _ _ _) (Le.ite (Le.bind (Le.ite (Le.refl _) (ih.D1 _)) fun _ _=>Le.bind (Le.refl _) fun _ _=>ih.DV _ _ _) (Le.refl _)))
  ·intro ts;rw [Fk,Fk]
   exact Le.bind (ih.exp _ _) fun _ _=>ih.GG _ _
  ·intro acc ts;rw [FP,FP]
   exact Le.ite (Le.bind (ih.exp _ _) fun _ _=>ih.GG _ _) (Le.refl _)
structure LeS (f:Nat):Prop where
 block:∀ c ts,Le (Fc f c ts) (Fc (f+1) c ts)
 EI:∀ c at_ acc ts,Le (Fj f c at_ acc ts) (Fj (f+1) c at_ acc ts)
 function:∀ ts,Le (Ge f ts) (Ge (f+1) ts)
 body:∀ ts,Le (Fx f ts) (Fx (f+1) ts)
 stat:∀ ts,Le (Gg f ts) (Gg (f+1) ts)
 branches:∀ acc ts,Le (FO f acc ts) (FO (f+1) acc ts)
 for_:∀ at_ ts,Le (Gd f at_ ts) (Gd (f+1) at_ ts)
 plain:∀ ts,Le (Gf f ts) (Gf (f+1) ts)
 targets:∀ acc e ts,Le (FR f acc e ts) (FR (f+1) acc e ts)
theorem leS:∀ f,LeS f
 | 0=>by constructor <;> intros <;> (first | rw [Fc] | rw [Fj] | rw [Ge] | rw [Fx] | rw [Gg] | rw [FO] | rw [Gd] | rw [Gf] | rw [FR]) <;> exact Le.none _
 | f+1=>by
  have ih:=leS f
  have ie:=L0 f
  constructor
  ·intro c ts;rw [Fc,Fc];exact ih.EI _ _ _ _
  ·intro c at_ acc ts;rw [Fj,Fj]
   exact Le.ite (ih.EI _ _ _ _) (Le.ite (Le.bind (Le.ite (Le.refl _) (ie.D1 _)) fun _ _=>Le.refl _) (Le.ite (Le.bind (ih.function _) fun _ _=>ih.EI _ _ _ _) (Le.ite (Le.refl _) (Le.bind (ih.stat _) fun _ _=>ih.EI _ _ _ _))))
  ·intro ts;rw [Ge,Ge]
   exact Le.bind (Le.refl _) fun _ _=>Le.bind (Le.refl _) fun _ _=>Le.bind (Le.ite (Le.refl _) (Asr _ _)) fun _ _=>Le.bind (Le.refl _) fun _ _=>Le.bind (ih.block _ _) fun _ _=>Le.refl _
  ·intro ts;rw [Fx,Fx]
   exact Le.bind (Le.refl _) fun _ _=>Le.bind (ih.block _ _) fun _ _=>Le.refl _
  ·intro ts;rw [Gg,Gg]
   exact Le.ite (Le.bind (ih.body _) fun _ _=>Le.refl _) (Le.ite (Le.bind (ie.exp _ _) fun _ _=>Le.bind (ih.body _) fun _ _=>Le.refl _) (Le.ite (Le.bind (ih.branches _ _) fun _ _=>Le.refl _) (Le.ite (ih.for_ _ _) (Le.ite (Le.bind (Asr _ _) fun _ _=>Le.bind (Le.ite (ie.D1 _) (Le.refl _)) fun _ _=>Le.refl _) (Le.ite (Le.refl _) (ih.plain _))))))
  ·intro acc ts;rw [FO,FO]
   exact Le.bind (ie.exp _ _) fun _ _=>Le.bind (Le.refl _) fun _ _=>Le.bind (ih.block _ _) fun _ _=>Le.ite (ih.branches _ _) (Le.ite (Le.bind (ih.block _ _) fun _ _=>Le.refl _) (Le.refl _))
  ·intro at_ ts;rw [Gd,Gd]
   exact Le.bind (Le.refl _) fun _ _=>Le.ite (Le.bind (ie.exp _ _) fun _ _=>Le.bind (Le.refl _) fun _ _=>Le.bind (ie.exp _ _) fun _ _=>Le.bind (Le.ite (Le.bind (ie.exp _ _) fun _ _=>Le.refl _) (Le.refl _)) fun _ _=>Le.bind (ih.body _) fun _ _=>Le.refl _) (Le.bind (Wr _ _ _) fun _ _=>Le.bind (Le.refl _) fun _ _=>Le.bind (ie.D1 _) fun _ _=>Le.bind (ih.body _) fun _ _=>Le.refl _)
  ·intro ts;rw [Gf,Gf]
   exact Le.bind (ie.ET _) fun _ _=>Le.ite (Le.bind (ih.targets _ _ _) fun _ _=>Le.bind (Le.refl _) fun _ _=>Le.bind (ie.D1 _) fun _ _=>Le.refl _) (Le.refl _)
  ·intro acc e ts;rw [FR,FR]
   exact Le.ite (Le.ite (Le.bind (ie.ET _) fun _ _=>ih.targets _ _ _) (Le.refl _)) (Le.refl _)
theorem Asu {α:Type} {p:Nat→Option α} (h:∀ f,Le (p f) (p (f+1))) {f f':Nat} (h0:f≤f'):Le (p f) (p f'):=by
 induction f' with
 | zero=>rw [Nat.le_zero.1 h0];exact Le.refl _
 | succ f' ih =>
  rcases Nat.lt_or_ge f (f'+1) with h1 | h1
  ·exact (ih (by omega)).trans (h f')
  ·rw [show f=f'+1 by omega];exact Le.refl _
def val {α:Type} (x:Option (PV α)):PV α:=x.getD (.bad 0)
def fu (ts:List Tk):Nat:=16 * ts.length+16
theorem Hz {α:Type} {p:Nat→Option (PV α)} (h:∀ f,Le (p f) (p (f+1))) {f f0:Nat} (h1:∃ v,p f=some v) (h2:∃ v,p f0=some v):p f=some (val (p f0)):=by
 obtain ⟨v,hv⟩:=h1
 obtain ⟨v0,hv0⟩:=h2
 rcases Nat.le_total f f0 with h' | h'
 ·have:=Asu h h' v hv
  rw [hv,this];rfl
 ·have:=Asu h h' v0 hv0
  rw [this,hv0];rfl
def LJ (acc:List Tree) (ts:List Tk):PV (List Tree):=val (GL (fu ts) acc ts)
def Gy (least:Int) (ts:List Tk):PV Tree:=val (DH (fu ts) least ts)
def RD (least:Int) (n:Tree) (ts:List Tk):PV Tree:=val (FQ (fu ts) least n ts)
def RF (ts:List Tk):PV Tree:=val (FB (fu ts) ts)
def Mu (acc:List Tree) (ts:List Tk):PV (List Tree):=val (FA (fu ts) acc ts)
def RB (ts:List Tk):PV Tree:=val (Gc (fu ts) ts)
def Mv (ts:List Tk):PV Tree:=val (Fm (fu ts) ts)
def Nq (at_:Int) (n:Tree) (ts:List Tk):PV Tree:=val (Fl (fu ts) at_ n ts)
def Ik (ts:List Tk):PV (List Tree):=val (Fk (fu ts) ts)
def RA (acc:List Tree) (ts:List Tk):PV (List Tree):=val (FP (fu ts) acc ts)
def Hy (c:Bool) (ts:List Tk):PV Tree:=val (Fc (fu ts) c ts)
def Og (c:Bool) (at_:Int) (acc:List Tree) (ts:List Tk):PV Tree:=val (Fj (fu ts) c at_ acc ts)
def RC (ts:List Tk):PV Tree:=val (Ge (fu ts) ts)
def LI (ts:List Tk):PV Tree:=val (Fx (fu ts) ts)
def RG (ts:List Tk):PV Tree:=val (Gg (fu ts) ts)
def Oh (acc:List Tree) (ts:List Tk):PV (List Tree):=val (FO (fu ts) acc ts)
def UF (at_:Int) (ts:List Tk):PV Tree:=val (Gd (fu ts) at_ ts)
def UG (ts:List Tk):PV Tree:=val (Gf (fu ts) ts)
def RH (acc:List Tree) (e:Tree) (ts:List Tk):PV (List Tree):=val (FR (fu ts) acc e ts)
def Ew (w:ByteArray) (ts:List Tk):PV Unit:=if AN w ts then .ok () ts.tail else .bad (hd ts).2.2.2
def Jk (kind:Int) (ts:List Tk):PV Tree:=if (hd ts).1=1 then .ok (.mk kind (hd ts).2.1 0 (hd ts).2.2.2 []) ts.tail else .bad (hd ts).2.2.2
section
variable {ts:List Tk} {f:Nat}
theorem Ie (w:ByteArray) (ts:List Tk):Gw w ts=some (Ew w ts):=by unfold Gw Ew;split <;> rfl
theorem P2 (k:Int) (ts:List Tk):Jg k ts=some (Jk k ts):=by unfold Jg Jk;split <;> rfl
theorem TU (acc:List Tree) (hg:Good ts) (hf:16 * ts.length+1≤f):GL f acc ts=some (LJ acc ts):=Hz (p:=fun f=>GL f acc ts) (fun f=>Wr f acc ts) (R6 _ _ _ hg hf) (R6 _ _ _ hg (by unfold fu;omega))
theorem Iw {least:Int} (hl:0≤least) (hg:Good ts) (hf:16 * ts.length+5≤f):DH f least ts=some (Gy least ts):=Hz (p:=fun f=>DH f least ts) (fun f=>(L0 f).exp _ _) ((Hd _).exp _ _ hl hg hf) ((Hd _).exp _ _ hl hg (by unfold fu;omega))
theorem Ade {least:Int} (n:Tree) (hl:0≤least) (hg:Good ts) (hf:16 * ts.length+1≤f):FQ f least n ts=some (RD least n ts):=Hz (p:=fun f=>FQ f least n ts) (fun f=>(L0 f).loop _ _ _) ((Hd _).loop _ _ _ hl hg hf) ((Hd _).loop _ _ _ hl hg (by unfold fu;omega))
theorem Adf (hg:Good ts) (hf:16 * ts.length+4≤f):FB f ts=some (RF ts):=Hz (p:=fun f=>FB f ts) (fun f=>(L0 f).operand _) ((Hd _).operand _ hg hf) ((Hd _).operand _ hg (by unfold fu;omega))
theorem TR (acc:List Tree) (hg:Good ts) (hf:16 * ts.length+7≤f):FA f acc ts=some (Mu acc ts):=Hz (p:=fun f=>FA f acc ts) (fun f=>(L0 f).fields _ _) ((Hd _).fields _ _ hg hf) ((Hd _).fields _ _ hg (by unfold fu;omega))
theorem Ada (hg:Good ts) (hf:16 * ts.length+6≤f):Gc f ts=some (RB ts):=Hz (p:=fun f=>Gc f ts) (fun f=>(L0 f).field _) ((Hd _).field _ hg hf) ((Hd _).field _ hg (by unfold fu;omega))
theorem TV (hg:Good ts) (hf:16 * ts.length+3≤f):Fm f ts=some (Mv ts):=Hz (p:=fun f=>Fm f ts) (fun f=>(L0 f).ET _) ((Hd _).ET _ hg hf) ((Hd _).ET _ hg (by unfold fu;omega))
theorem Ru (at_:Int) (n:Tree) (hg:Good ts) (hf:16 * ts.length+1≤f):Fl f at_ n ts=some (Nq at_ n ts):=Hz (p:=fun f=>Fl f at_ n ts) (fun f=>(L0 f).DV _ _ _) ((Hd _).DV _ _ _ hg hf) ((Hd _).DV _ _ _ hg (by unfold fu;omega))
theorem P1 (hg:Good ts) (hf:16 * ts.length+6≤f):Fk f ts=some (Ik ts):=Hz (p:=fun f=>Fk f ts) (fun f=>(L0 f).D1 _) ((Hd _).D1 _ hg hf) ((Hd _).D1 _ hg (by unfold fu;omega))
theorem Ac7 (acc:List Tree) (hg:Good ts) (hf:16 * ts.length+1≤f):FP f acc ts=some (RA acc ts):=Hz (p:=fun f=>FP f acc ts) (fun f=>(L0 f).GG _ _) ((Hd _).GG _ _ hg hf) ((Hd _).GG _ _ hg (by unfold fu;omega))
theorem P0 (c:Bool) (hg:Good ts) (hf:16 * ts.length+9≤f):Fc f c ts=some (Hy c ts):=Hz (p:=fun f=>Fc f c ts) (fun f=>(leS f).block _ _) ((Hv _).block _ _ hg hf) ((Hv _).block _ _ hg (by unfold fu;omega))
theorem TQ (c:Bool) (at_:Int) (acc:List Tree) (hg:Good ts) (hf:16 * ts.length+8≤f):Fj f c at_ acc ts=some (Og c at_ acc ts):=Hz (p:=fun f=>Fj f c at_ acc ts) (fun f=>(leS f).EI _ _ _ _) ((Hv _).EI _ _ _ _ hg hf) ((Hv _).EI _ _ _ _ hg (by unfold fu;omega))
theorem Adb (h6:(hd ts).1≠6) (hg:Good ts) (hf:16 * ts.length+7≤f):Ge f ts=some (RC ts):=Hz (p:=fun f=>Ge f ts) (fun f=>(leS f).function _) ((Hv _).function _ h6 hg hf) ((Hv _).function _ h6 hg (by unfold fu;omega))
theorem Rt (hg:Good ts) (hf:16 * ts.length+6≤f):Fx f ts=some (LI ts):=Hz (p:=fun f=>Fx f ts) (fun f=>(leS f).body _) ((Hv _).body _ hg hf) ((Hv _).body _ hg (by unfold fu;omega))
theorem Adg (hg:Good ts) (hf:16 * ts.length+7≤f):Gg f ts=some (RG ts):=Hz (p:=fun f=>Gg f ts) (fun f=>(leS f).stat _) ((Hv _).stat _ hg hf) ((Hv _).stat _ hg (by unfold fu;omega))
theorem WC (acc:List Tree) (hg:Good ts) (hf:16 * ts.length+6≤f):FO f acc ts=some (Oh acc ts):=Hz (p:=fun f=>FO f acc ts) (fun f=>(leS f).branches _ _) ((Hv _).branches _ _ hg hf) ((Hv _).branches _ _ hg (by unfold fu;omega))
theorem Auo (at_:Int) (hg:Good ts) (hf:16 * ts.length+1≤f):Gd f at_ ts=some (UF at_ ts):=Hz (p:=fun f=>Gd f at_ ts) (fun f=>(leS f).for_ _ _) ((Hv _).for_ _ _ hg hf) ((Hv _).for_ _ _ hg (by unfold fu;omega))
theorem Aus (hg:Good ts) (hf:16 * ts.length+6≤f):Gf f ts=some (UG ts):=Hz (p:=fun f=>Gf f ts) (fun f=>(leS f).plain _) ((Hv _).plain _ hg hf) ((Hv _).plain _ hg (by unfold fu;omega))
theorem WD (acc:List Tree) (e:Tree) (hg:Good ts) (hf:16 * ts.length+1≤f):FR f acc e ts=some (RH acc e ts):=Hz (p:=fun f=>FR f acc e ts) (fun f=>(leS f).targets _ _ _) ((Hv _).targets _ _ _ hg hf) ((Hv _).targets _ _ _ hg (by unfold fu;omega))
theorem Ep (w:ByteArray) (hg:Good ts):Fwd 1 ts (Ew w ts):=Eu w ts hg _ (Ie w ts)
theorem fName (k:Int) (hg:Good ts):Fwd 1 ts (Jk k ts):=JM k ts hg _ (P2 k ts)
theorem Alb (acc:List Tree) (hg:Good ts):Fwd 0 ts (LJ acc ts):=Uz _ _ ts hg _ (TU acc hg (by unfold fu;omega:_≤fu ts))
theorem E4 {least:Int} (hl:0≤least) (hg:Good ts):Fwd 1 ts (Gy least ts):=(Mq _).exp _ _ hg _ (Iw hl hg (by unfold fu;omega:_≤fu ts))
theorem Alc (hg:Good ts):Fwd 1 ts (RF ts):=(Mq _).operand _ hg _ (Adf hg (by unfold fu;omega:_≤fu ts))
theorem Ak5 (acc:List Tree) (hg:Good ts):Fwd 1 ts (Mu acc ts):=(Mq _).fields _ _ hg _ (TR acc hg (by unfold fu;omega:_≤fu ts))
theorem Ak3 (hg:Good ts):Fwd 1 ts (RB ts):=(Mq _).field _ hg _ (Ada hg (by unfold fu;omega:_≤fu ts))
theorem S2 (hg:Good ts):Fwd 1 ts (Mv ts):=(Mq _).ET _ hg _ (TV hg (by unfold fu;omega:_≤fu ts))
theorem N9 (hg:Good ts):Fwd 1 ts (Ik ts):=(Mq _).D1 _ hg _ (P1 hg (by unfold fu;omega:_≤fu ts))
theorem LX (c:Bool) (hg:Good ts):Fwd 0 ts (Hy c ts):=(stepS _).block _ _ hg _ (P0 c hg (by unfold fu;omega:_≤fu ts))
theorem Ak8 (h6:(hd ts).1≠6) (hg:Good ts):Fwd 1 ts (RC ts):=(stepS _).function _ h6 hg _ (Adb h6 hg (by unfold fu;omega:_≤fu ts))
theorem Vz (hg:Good ts):Fwd 1 ts (LI ts):=(stepS _).body _ hg _ (Rt hg (by unfold fu;omega:_≤fu ts))
theorem Ald (hg:Good ts):Fwd 1 ts (RG ts):=(stepS _).stat _ hg _ (Adg hg (by unfold fu;omega:_≤fu ts))
theorem Ak2 (acc:List Tree) (hg:Good ts):Fwd 1 ts (Oh acc ts):=(stepS _).branches _ _ hg _ (WC acc hg (by unfold fu;omega:_≤fu ts))
theorem A6c (acc:List Tree) (e:Tree) (hg:Good ts):Fwd 0 ts (RH acc e ts):=(stepS _).targets _ _ _ hg _ (WD acc e hg (by unfold fu;omega:_≤fu ts))
end
def PV.then {α β:Type}:PV α→(α→List Tk→PV β)→PV β
 | .ok a r,f=>f a r
 | .bad i,_=>.bad i
section
variable {α β:Type} {n:Nat} {ts:List Tk}
theorem CS {x:Option (PV α)} {vx:PV α} {f:α→List Tk→Option (PV β)} {g:α→List Tk→PV β} (hx:x=some vx) (hw:Fwd n ts vx) (hf:∀ a r,Good r→r.length+n≤ts.length→f a r=some (g a r)):PV.bind x f=some (vx.then g):=by
 subst hx
 cases vx with
 | bad i=>rfl
 | ok a r=>exact hf a r hw.1 hw.2.1
theorem DJ {c:Prop} [Decidable c] {y z:Option α} {y' z':α} (h1:c→y=some y') (h2:¬ c→z=some z'):(if c then y else z)=some (if c then y' else z'):=by
 by_cases h:c
 ·rw [if_pos h,if_pos h];exact h1 h
 ·rw [if_neg h,if_neg h];exact h2 h
theorem S5 {c:Prop} [Decidable c] {y z:PV α} (h1:c→Fwd n ts y) (h2:¬ c→Fwd n ts z):Fwd n ts (if c then y else z):=by
 by_cases h:c
 ·rw [if_pos h];exact h1 h
 ·rw [if_neg h];exact h2 h
theorem S6 {m:Nat} {x:PV α} (h:Fwd n ts x) (hm:m≤n):Fwd m ts x:=by
 cases x with
 | bad=>trivial
 | ok a r=>exact ⟨h.1,by have:=h.2.1;omega,h.2.2⟩
theorem Qr {a:α} (hg:Good ts):Fwd 0 ts (.ok a ts):=⟨hg,Nat.le_refl _,List.suffix_refl _⟩
theorem Alk {x:PV α} (hg:Good ts) (h6:(hd ts).1≠6) (h:Fwd n ts.tail x):Fwd (n+1) ts x:=by
 obtain ⟨g1,g2,g3⟩:=hg.tail h6
 cases x with
 | bad=>trivial
 | ok a r=>exact ⟨h.1,by have:=h.2.1;omega,h.2.2.trans g3⟩
theorem Alm {m:Nat} {x:PV α} {f:α→List Tk→PV β} (h1:Fwd n ts x) (h2:∀ a r,Good r→r.length+n≤ts.length→Fwd m r (f a r)):Fwd (n+m) ts (x.then f):=by
 cases x with
 | bad=>trivial
 | ok a r =>
  obtain ⟨g1,g2,g3⟩:=h1
  have:=h2 a r g1 g2
  show Fwd (n+m) ts (f a r)
  cases hf:f a r with
  | bad=>trivial
  | ok b s =>
   rw [hf] at this
   exact ⟨this.1,by have:=this.2.1;omega,this.2.2.trans g3⟩
end
section
variable {ts:List Tk}
theorem or3 {a b c:Bool} {ts:List Tk} {x y z:ByteArray} (ha:a=AN x ts) (hb:b=AN y ts) (hc:c=AN z ts) (h:(a || b || c)=true):(hd ts).1≠6:=by
 subst ha hb hc
 simp only [Bool.or_eq_true] at h
 rcases h with (h | h) | h <;> exact AX h
theorem RE (acc:List Tree) (hg:Good ts):LJ acc ts=if AN G5 ts then (Jk 6 ts.tail).then fun n r=>LJ (acc++[n]) r else .ok acc ts:=by
 have h:=TU acc hg (f:=fu ts+1) (by unfold fu;omega)
 rw [GL] at h
 refine Ap (h.symm.trans (DJ (fun hc=>?_) fun _=>rfl))
 obtain ⟨g1,g2,_⟩:=hg.tail (AX hc)
 exact CS (P2 _ _) (fName 6 g1) fun a r hr hn=>TU _ hr (by unfold fu;omega)
def KT (ts:List Tk):PV (List Tree):=(Jk 6 ts).then fun n r=>LJ [n] r
theorem Aup {f:Nat} (hg:Good ts) (hf:16 * ts.length+1≤f):Ng f ts=some (KT ts):=CS (P2 _ _) (fName 6 hg) fun a r hr hn=>TU _ hr (by omega)
theorem S1 (hg:Good ts):Fwd 1 ts (KT ts):=Alm (fName 6 hg) fun _ _ hr _=>Alb _ hr
theorem Bs6 {least:Int} (hl:0≤least) (hg:Good ts):Gy least ts=(RF ts).then fun n r=>RD least n r:=by
 have h:=Iw hl hg (f:=fu ts+1) (by unfold fu;omega)
 rw [DH] at h
 exact Ap (h.symm.trans (CS (Adf hg (by unfold fu;omega)) (Alc hg) fun a r hr hn=>Ade _ hl hr (by unfold fu;omega)))
theorem Btd {least:Int} (n:Tree) (hl:0≤least) (hg:Good ts):RD least n ts=if Fu ts≤least then .ok n ts else (Gy (if Fu ts=4 then 3 else Fu ts) ts.tail).then fun m r=>RD least (.mk 11 (hd ts).2.1 0 n.at_ [n,m]) r:=by
 have h:=Ade n hl hg (f:=fu ts+1) (by unfold fu;omega)
 rw [FQ] at h
 refine Ap (h.symm.trans (DJ (fun _=>rfl) fun hb=>?_))
 obtain ⟨g1,g2,_⟩:=hg.tail (Qi (by omega))
 have hq:(0:Int)≤(if Fu ts=4 then 3 else Fu ts):=by split <;> omega
 exact CS (Iw hq g1 (by unfold fu;omega)) (E4 hq g1) fun a r hr hn=>Ade _ hl hr (by unfold fu;omega)
theorem Bte (hg:Good ts):RF ts =
  if (hd ts).1=3 then .ok (.mk 4 noB (hd ts).2.2.1 (hd ts).2.2.2 []) ts.tail
  else if (hd ts).1=4 then .ok (.mk 5 (hd ts).2.1 0 (hd ts).2.2.2 []) ts.tail
  else if AN Aqq ts then .ok (.mk 1 noB 0 (hd ts).2.2.2 []) ts.tail
  else if AN Aq5 ts then .ok (.mk 2 noB 0 (hd ts).2.2.2 []) ts.tail
  else if AN Aqj ts then .ok (.mk 3 noB 0 (hd ts).2.2.2 []) ts.tail
  else if AN Tu ts || AN Tt ts || AN Ph ts then (Gy 7 ts.tail).then fun m r=>.ok (.mk 10 (hd ts).2.1 0 (hd ts).2.2.2 [m]) r
  else if AN kLc ts then (Mu [] ts.tail).then fun l r=>.ok (.mk 12 noB 0 (hd ts).2.2.2 l) r
  else Mv ts:=by
 have h:=Adf hg (f:=fu ts+1) (by unfold fu;omega)
 rw [FB] at h
 refine Ap (h.symm.trans (DJ (fun _=>rfl) fun _=>DJ (fun _=>rfl) fun _=>DJ (fun _=>rfl) fun _=>DJ (fun _=>rfl) fun _=>DJ (fun _=>rfl) fun _=>DJ (fun hc=>?_) fun _=>DJ (fun hc=>?_) fun _=>TV hg (by unfold fu;omega)))
 ·obtain ⟨g1,g2,_⟩:=hg.tail (or3 rfl rfl rfl hc)
  exact CS (Iw (by omega) g1 (by unfold fu;omega)) (E4 (by omega) g1) fun _ _ _ _=>rfl
 ·obtain ⟨g1,g2,_⟩:=hg.tail (AX hc)
  exact CS (TR _ g1 (by unfold fu;omega)) (Ak5 _ g1) fun _ _ _ _=>rfl
theorem Bta (acc:List Tree) (hg:Good ts):Mu acc ts =
  if AN QH ts then .ok acc ts.tail
  else (RB ts).then fun x r =>
   if AN G5 r then Mu (acc++[x]) r.tail
   else if AN J0 r then Mu (acc++[x]) r.tail
   else (Ew QH r).then fun _ r=>.ok (acc++[x]) r:=by
 have h:=TR acc hg (f:=fu ts+1) (by unfold fu;omega)
 rw [FA] at h
 refine Ap (h.symm.trans (DJ (fun _=>rfl) fun _=>CS (Ada hg (by unfold fu;omega)) (Ak3 hg) fun x r hr hn=>DJ (fun hc=>?_) fun _=>DJ (fun hc=>?_) fun _=>CS (Ie _ _) (Ep _ hr) fun _ _ _ _=>rfl))
 ·obtain ⟨g1,g2,_⟩:=hr.tail (AX hc)
  exact TR _ g1 (by unfold fu;omega)
 ·obtain ⟨g1,g2,_⟩:=hr.tail (AX hc)
  exact TR _ g1 (by unfold fu;omega)
theorem Bs9 (hg:Good ts):RB ts =
  if AN VV ts then
   (Gy 0 ts.tail).then fun k r=>(Ew kRb r).then fun _ r=>(Ew GU r).then fun _ r=>(Gy 0 r).then fun v r=>.ok (.mk 14 noB 0 (hd ts).2.2.2 [k,v]) r
  else if (hd ts).1=1∧(hd ts.tail).1=5∧(hd ts.tail).2.1.toList=GU.toList then
   (Gy 0 ts.tail.tail).then fun v r=>.ok (.mk 14 noB 0 (hd ts).2.2.2 [.mk 5 (hd ts).2.1 0 (hd ts).2.2.2 [],v]) r
  else (Gy 0 ts).then fun v r=>.ok (.mk 13 noB 0 (hd ts).2.2.2 [v]) r:=by
 have h:=Ada hg (f:=fu ts+1) (by unfold fu;omega)
 rw [Gc] at h
 refine Ap (h.symm.trans (DJ (fun hc=>?_) fun _=>DJ (fun hc=>?_) fun _=>CS (Iw (by omega) hg (by unfold fu;omega)) (E4 (by omega) hg) fun _ _ _ _=>rfl))
 ·obtain ⟨g1,g2,_⟩:=hg.tail (AX hc)
  exact CS (Iw (by omega) g1 (by unfold fu;omega)) (E4 (by omega) g1) fun _ r hr hn=>CS (Ie _ _) (Ep _ hr) fun _ r2 hr2 hn2=>CS (Ie _ _) (Ep _ hr2) fun _ r3 hr3 hn3=>CS (Iw (by omega) hr3 (by unfold fu;omega)) (E4 (by omega) hr3) fun _ _ _ _=>rfl
 ·obtain ⟨h1,h2,_⟩:=hc
  obtain ⟨g1,g2,_⟩:=hg.tail (by omega)
  obtain ⟨g3,g4,_⟩:=g1.tail (by omega)
  exact CS (Iw (by omega) g3 (by unfold fu;omega)) (E4 (by omega) g3) fun _ _ _ _=>rfl
theorem Btm (hg:Good ts):Mv ts =
  if AN QG ts then (Gy 0 ts.tail).then fun e r=>(Ew Jz r).then fun _ r=>Nq (hd ts).2.2.2 (.mk 9 noB 0 (hd ts).2.2.2 [e]) r
  else (Jk 6 ts).then fun n r=>Nq (hd ts).2.2.2 n r:=by
 have h:=TV hg (f:=fu ts+1) (by unfold fu;omega)
 rw [Fm] at h
 refine Ap (h.symm.trans (DJ (fun hc=>?_) fun _=>CS (P2 _ _) (fName _ hg) fun _ r hr hn=>Ru _ _ hr (by unfold fu;omega)))
 obtain ⟨g1,g2,_⟩:=hg.tail (AX hc)
 exact CS (Iw (by omega) g1 (by unfold fu;omega)) (E4 (by omega) g1) fun _ r hr hn=>CS (Ie _ _) (Ep _ hr) fun _ r2 hr2 hn2=>Ru _ _ hr2 (by unfold fu;omega)
def Afv (ts:List Tk):PV (List Tree):=if AN Jz ts then .ok [] ts else Ik ts
theorem fArgs (hg:Good ts):Fwd 0 ts (Afv ts):=S5 (fun _=>Qr hg) fun _=>S6 (N9 hg) (by omega)
theorem Btl (at_:Int) (n:Tree) (hg:Good ts):Nq at_ n ts =
  if AN VV ts then (Gy 0 ts.tail).then fun e r=>(Ew kRb r).then fun _ r=>Nq at_ (.mk 7 noB 0 at_ [n,e]) r
  else if AN Aqc ts then (Jk 5 ts.tail).then fun e r=>Nq at_ (.mk 7 noB 0 at_ [n,e]) r
  else if AN QG ts then (Afv ts.tail).then fun l r=>(Ew Jz r).then fun _ r=>Nq at_ (.mk 8 noB 0 at_ (n :: l)) r
  else .ok n ts:=by
 have h:=Ru at_ n hg (f:=fu ts+1) (by unfold fu;omega)
 rw [Fl] at h
 refine Ap (h.symm.trans (DJ (fun hc=>?_) fun _=>DJ (fun hc=>?_) fun _=>DJ (fun hc=>?_) fun _=>rfl))
 ·obtain ⟨g1,g2,_⟩:=hg.tail (AX hc)
  exact CS (Iw (by omega) g1 (by unfold fu;omega)) (E4 (by omega) g1) fun _ r hr hn=>CS (Ie _ _) (Ep _ hr) fun _ r2 hr2 hn2=>Ru _ _ hr2 (by unfold fu;omega)
 ·obtain ⟨g1,g2,_⟩:=hg.tail (AX hc)
  exact CS (P2 _ _) (fName _ g1) fun _ r hr hn=>Ru _ _ hr (by unfold fu;omega)
 ·obtain ⟨g1,g2,_⟩:=hg.tail (AX hc)
  exact CS (DJ (fun _=>rfl) fun _=>P1 g1 (by unfold fu;omega)) (fArgs g1) fun _ r hr hn=>CS (Ie _ _) (Ep _ hr) fun _ r2 hr2 hn2=>Ru _ _ hr2 (by unfold fu;omega)
theorem Ax6 (hg:Good ts):Ik ts=(Gy 0 ts).then fun e r=>RA [e] r:=by
 have h:=P1 hg (f:=fu ts+1) (by unfold fu;omega)
 rw [Fk] at h
 exact Ap (h.symm.trans (CS (Iw (by omega) hg (by unfold fu;omega)) (E4 (by omega) hg) fun a r hr hn=>Ac7 _ hr (by unfold fu;omega)))
theorem Ax5 (acc:List Tree) (hg:Good ts):RA acc ts=if AN G5 ts then (Gy 0 ts.tail).then fun e r=>RA (acc++[e]) r else .ok acc ts:=by
 have h:=Ac7 acc hg (f:=fu ts+1) (by unfold fu;omega)
 rw [FP] at h
 refine Ap (h.symm.trans (DJ (fun hc=>?_) fun _=>rfl))
 obtain ⟨g1,g2,_⟩:=hg.tail (AX hc)
 exact CS (Iw (by omega) g1 (by unfold fu;omega)) (E4 (by omega) g1) fun a r hr hn=>Ac7 _ hr (by unfold fu;omega)
theorem Bsw (c:Bool) (hg:Good ts):Hy c ts=Og c (hd ts).2.2.2 [] ts:=by
 have h:=P0 c hg (f:=fu ts+1) (by unfold fu;omega)
 rw [Fc] at h
 exact Ap (h.symm.trans (TQ _ _ _ hg (by unfold fu;omega)))
def Afx (ts:List Tk):PV (List Tree):=if O5 ts || AN J0 ts then .ok [] ts else Ik ts
theorem A6a (hg:Good ts):Fwd 0 ts (Afx ts):=S5 (fun _=>Qr hg) fun _=>S6 (N9 hg) (by omega)
theorem Bsv (c:Bool) (at_:Int) (acc:List Tree) (hg:Good ts):Og c at_ acc ts =
  if AN J0 ts then Og c at_ acc ts.tail
  else if AN Aqw ts then (Afx ts.tail).then fun l r=>.ok (.mk 20 noB 0 at_ (acc++[.mk 30 noB 0 (hd ts).2.2.2 l])) (if AN J0 r then r.tail else r)
  else if c && AN Ts ts then (RC ts).then fun x r=>Og c at_ (acc++[x]) r
  else if O5 ts then .ok (.mk 20 noB 0 at_ acc) ts
  else (RG ts).then fun x r=>Og c at_ (acc++[x]) r:=by
 have h:=TQ c at_ acc hg (f:=fu ts+1) (by unfold fu;omega)
 rw [Fj] at h
 refine Ap (h.symm.trans (DJ (fun hc=>?_) fun _=>DJ (fun hc=>?_) fun _=>DJ (fun hc=>?_) fun _=>DJ (fun _=>rfl) fun _=>?_))
 ·obtain ⟨g1,g2,_⟩:=hg.tail (AX hc)
  exact TQ _ _ _ g1 (by unfold fu;omega)
 ·obtain ⟨g1,g2,_⟩:=hg.tail (AX hc)
  exact CS (DJ (fun _=>rfl) fun _=>P1 g1 (by unfold fu;omega)) (A6a g1) fun _ r hr hn=>rfl
 ·simp only [Bool.and_eq_true] at hc
  exact CS (Adb (AX hc.2) hg (by unfold fu;omega)) (Ak8 (AX hc.2) hg) fun _ r hr hn=>TQ _ _ _ hr (by unfold fu;omega)
 ·exact CS (Adg hg (by unfold fu;omega)) (Ald hg) fun _ r hr hn=>TQ _ _ _ hr (by unfold fu;omega)
def Afw (ts:List Tk):PV (List Tree):=if AN Jz ts then .ok [] ts else KT ts
theorem A5z (hg:Good ts):Fwd 0 ts (Afw ts):=S5 (fun _=>Qr hg) fun _=>S6 (S1 hg) (by omega)
theorem Btc (h6:(hd ts).1≠6) (hg:Good ts):RC ts =
  (Jk 6 ts.tail).then fun nm r=>(Ew QG r).then fun _ r=>(Afw r).then fun ps r=>(Ew Jz r).then fun _ r=>(Hy false r).then fun b r=>(Ew Jy r).then fun _ r=>.ok (.mk 31 nm.text ps.length (hd ts).2.2.2 (ps++[b])) r:=by
 have h:=Adb h6 hg (f:=fu ts+1) (by unfold fu;omega)
 rw [Ge] at h
 obtain ⟨g1,g2,_⟩:=hg.tail h6
 exact Ap (h.symm.trans (CS (P2 _ _) (fName _ g1) fun _ r hr hn=>CS (Ie _ _) (Ep _ hr) fun _ r2 hr2 hn2=>CS (DJ (fun _=>rfl) fun _=>Aup hr2 (by unfold fu;omega)) (A5z hr2) fun _ r3 hr3 hn3=>CS (Ie _ _) (Ep _ hr3) fun _ r4 hr4 hn4=>CS (P0 _ hr4 (by unfold fu;omega)) (LX _ hr4) fun _ r5 hr5 hn5=>CS (Ie _ _) (Ep _ hr5) fun _ _ _ _=>rfl))
theorem Ax4 (hg:Good ts):LI ts=(Ew Tp ts).then fun _ r=>(Hy false r).then fun b r=>(Ew Jy r).then fun _ r=>.ok b r:=by
 have h:=Rt hg (f:=fu ts+1) (by unfold fu;omega)
 rw [Fx] at h
 exact Ap (h.symm.trans (CS (Ie _ _) (Ep _ hg) fun _ r2 hr2 hn2=>CS (P0 _ hr2 (by unfold fu;omega)) (LX _ hr2) fun _ r5 hr5 hn5=>CS (Ie _ _) (Ep _ hr5) fun _ _ _ _=>rfl))
def Xl (ts:List Tk):PV (List Tree):=if AN GU ts then Ik ts.tail else .ok [] ts
theorem A5y (hg:Good ts):Fwd 0 ts (Xl ts):=S5 (fun hc=>S6 (Alk hg (AX hc) (N9 (hg.tail (AX hc)).1)) (by omega)) fun _=>Qr hg
theorem Btj (hg:Good ts):RG ts =
  if AN Tp ts then (LI ts).then fun b r=>.ok (.mk 28 noB 0 (hd ts).2.2.2 [b]) r
  else if AN Aq7 ts then (Gy 0 ts.tail).then fun e r=>(LI r).then fun b r=>.ok (.mk 25 noB 0 (hd ts).2.2.2 [e,b]) r
  else if AN kIf ts then (Oh [] ts.tail).then fun l r=>.ok (.mk 24 noB 0 (hd ts).2.2.2 l) r
  else if AN Aqk ts then UF (hd ts).2.2.2 ts.tail
  else if AN Aql ts then (KT ts.tail).then fun l r=>(Xl r).then fun es r=>.ok (.mk 21 noB l.length (hd ts).2.2.2 (l++es)) r
  else if AN Aqa ts then .ok (.mk 29 noB 0 (hd ts).2.2.2 []) ts.tail
  else UG ts:=by
 have h:=Adg hg (f:=fu ts+1) (by unfold fu;omega)
 rw [Gg] at h
 refine Ap (h.symm.trans (DJ (fun hc=>?_) fun _=>DJ (fun hc=>?_) fun _=>DJ (fun hc=>?_) fun _=>DJ (fun hc=>?_) fun _=>DJ (fun hc=>?_) fun _=>DJ (fun hc=>rfl) fun _=>Aus hg (by unfold fu;omega)))
 ·exact CS (Rt hg (by unfold fu;omega)) (Vz hg) fun _ _ _ _=>rfl
 ·obtain ⟨g1,g2,_⟩:=hg.tail (AX hc)
  exact CS (Iw (by omega) g1 (by unfold fu;omega)) (E4 (by omega) g1) fun _ r hr hn=>CS (Rt hr (by unfold fu;omega)) (Vz hr) fun _ _ _ _=>rfl
 ·obtain ⟨g1,g2,_⟩:=hg.tail (AX hc)
  exact CS (WC _ g1 (by unfold fu;omega)) (Ak2 _ g1) fun _ _ _ _=>rfl
 ·obtain ⟨g1,g2,_⟩:=hg.tail (AX hc)
  exact Auo _ g1 (by unfold fu;omega)
 ·obtain ⟨g1,g2,_⟩:=hg.tail (AX hc)
  refine CS (Aup g1 (by unfold fu;omega)) (S1 g1) fun _ r hr hn=>CS (DJ (fun hc=>?_) fun _=>rfl) (A5y hr) fun _ _ _ _=>rfl
  obtain ⟨g3,g4,_⟩:=hr.tail (AX hc)
  exact P1 g3 (by unfold fu;omega)
theorem Bs5 (acc:List Tree) (hg:Good ts):Oh acc ts =
  (Gy 0 ts).then fun e r=>(Ew Aq3 r).then fun _ r=>(Hy false r).then fun b r =>
   if AN Tr r then Oh (acc++[e]++[b]) r.tail
   else if AN Tq r then (Hy false r.tail).then fun c r=>(Ew Jy r).then fun _ r=>.ok (acc++[e]++[b]++[c]) r
   else (Ew Jy r).then fun _ r=>.ok (acc++[e]++[b]) r:=by
 have h:=WC acc hg (f:=fu ts+1) (by unfold fu;omega)
 rw [FO] at h
 refine Ap (h.symm.trans (CS (Iw (by omega) hg (by unfold fu;omega)) (E4 (by omega) hg) fun _ r hr hn=>CS (Ie _ _) (Ep _ hr) fun _ r2 hr2 hn2=>CS (P0 _ hr2 (by unfold fu;omega)) (LX _ hr2) fun _ r3 hr3 hn3=>DJ (fun hc=>?_) fun _=>DJ (fun hc=>?_) fun _=>CS (Ie _ _) (Ep _ hr3) fun _ _ _ _=>rfl))
 ·obtain ⟨g1,g2,_⟩:=hr3.tail (AX hc)
  exact WC _ g1 (by unfold fu;omega)
 ·obtain ⟨g1,g2,_⟩:=hr3.tail (AX hc)
  exact CS (P0 _ g1 (by unfold fu;omega)) (LX _ g1) fun _ r4 hr4 hn4=>CS (Ie _ _) (Ep _ hr4) fun _ _ _ _=>rfl
def Xm (ts:List Tk):PV (List Tree):=if AN G5 ts then (Gy 0 ts.tail).then fun c r=>.ok [c] r else .ok [] ts
theorem A6b (hg:Good ts):Fwd 0 ts (Xm ts):=S5 (fun hc=>S6 (Alk hg (AX hc) (Alm (E4 (by omega) (hg.tail (AX hc)).1) fun _ _ hr _=>Qr hr)) (by omega)) fun _=>Qr hg
theorem Btb (at_:Int) (hg:Good ts):UF at_ ts =
  (Jk 6 ts).then fun n r =>
   if AN GU r then
    (Gy 0 r.tail).then fun a r=>(Ew G5 r).then fun _ r=>(Gy 0 r).then fun b r=>(Xm r).then fun cs r=>(LI r).then fun bd r=>.ok (.mk 26 noB 0 at_ ([n]++[a]++[b]++cs++[bd])) r
   else
    (LJ [n] r).then fun l r=>(Ew ZW r).then fun _ r=>(Ik r).then fun es r=>(LI r).then fun bd r=>.ok (.mk 27 noB l.length at_ (l++es++[bd])) r:=by
 have h:=Auo at_ hg (f:=fu ts+1) (by unfold fu;omega)
 rw [Gd] at h
 refine Ap (h.symm.trans (CS (P2 _ _) (fName _ hg) fun n r hr hn=>DJ (fun hc=>?_) fun _=>?_))
 ·obtain ⟨g1,g2,_⟩:=hr.tail (AX hc)
  refine CS (Iw (by omega) g1 (by unfold fu;omega)) (E4 (by omega) g1) fun _ r2 hr2 hn2=>CS (Ie _ _) (Ep _ hr2) fun _ r3 hr3 hn3=>CS (Iw (by omega) hr3 (by unfold fu;omega)) (E4 (by omega) hr3) fun _ r4 hr4 hn4=>CS (vx:=Xm r4) (DJ (fun hc=>?_) fun _=>rfl) (A6b hr4) fun _ r5 hr5 hn5=>CS (Rt hr5 (by unfold fu;omega)) (Vz hr5) fun _ _ _ _=>rfl
  obtain ⟨g3,g4,_⟩:=hr4.tail (AX hc)
  exact CS (Iw (by omega) g3 (by unfold fu;omega)) (E4 (by omega) g3) fun _ _ _ _=>rfl
 ·exact CS (TU _ hr (by unfold fu;omega)) (Alb _ hr) fun _ r2 hr2 hn2=>CS (Ie _ _) (Ep _ hr2) fun _ r3 hr3 hn3=>CS (P1 hr3 (by unfold fu;omega)) (N9 hr3) fun _ r4 hr4 hn4=>CS (Rt hr4 (by unfold fu;omega)) (Vz hr4) fun _ _ _ _=>rfl
theorem Bti (hg:Good ts):UG ts =
  (Mv ts).then fun e r =>
   if AN GU r || AN G5 r then (RH [] e r).then fun l r=>(Ew GU r).then fun _ r=>(Ik r).then fun es r=>.ok (.mk 22 noB l.length e.at_ (l++es)) r
   else if e.kind=8 then .ok (.mk 23 noB 0 e.at_ [e]) r else .bad (hd r).2.2.2:=by
 have h:=Aus hg (f:=fu ts+1) (by unfold fu;omega)
 rw [Gf] at h
 refine Ap (h.symm.trans (CS (TV hg (by unfold fu;omega)) (S2 hg) fun e r hr hn=>DJ (fun hc=>?_) fun _=>DJ (fun _=>rfl) fun _=>rfl))
 exact CS (WD _ _ hr (by unfold fu;omega)) (A6c _ _ hr) fun _ r2 hr2 hn2=>CS (Ie _ _) (Ep _ hr2) fun _ r3 hr3 hn3=>CS (P1 hr3 (by unfold fu;omega)) (N9 hr3) fun _ _ _ _=>rfl
theorem Btn (acc:List Tree) (e:Tree) (hg:Good ts):RH acc e ts =
  if e.kind=6∨e.kind=7 then
   if AN G5 ts then (Mv ts.tail).then fun e' r=>RH (acc++[e]) e' r else .ok (acc++[e]) ts
  else .bad e.at_:=by
 have h:=WD acc e hg (f:=fu ts+1) (by unfold fu;omega)
 rw [FR] at h
 refine Ap (h.symm.trans (DJ (fun _=>DJ (fun hc=>?_) fun _=>rfl) fun _=>rfl))
 obtain ⟨g1,g2,_⟩:=hg.tail (AX hc)
 exact CS (TV g1 (by unfold fu;omega)) (S2 g1) fun _ r hr hn=>WD _ _ hr (by unfold fu;omega)
end
def PN (ts:List Tk):PV Tree:=(Hy true ts).then fun b r=>if (hd r).1=6 then .ok b r else .bad (hd r).2.2.2
theorem then_assoc {α β γ:Type} (x:PV α) (f:α→List Tk→PV β) (g:β→List Tk→PV γ):(x.then f).then g=x.then fun a r=>(f a r).then g:=by cases x <;> rfl
theorem Axr {α β:Type} {n:Nat} {ts:List Tk} {x:PV α} (hw:Fwd n ts x) {f g:α→List Tk→PV β} (h:∀ a r,Good r→r.length+n≤ts.length→f a r=g a r):x.then f=x.then g:=by
 cases x with
 | bad=>rfl
 | ok a r=>exact h a r hw.1 hw.2.1
theorem then_ok {α β:Type} {x:PV α} {f:α→List Tk→PV β} {b:β} {r:List Tk} (h:x.then f=.ok b r):∃ a s,x=.ok a s∧f a s=.ok b r:=by
 cases x with
 | bad=>cases h
 | ok a s=>exact ⟨a,s,rfl,h⟩
theorem As1:∀ (n:Nat) (acc:List Tree) (ts:List Tk),ts.length≤n→Good ts→∀ l r,LJ acc ts=.ok l r→l.length+r.length≤acc.length+ts.length
 | 0,_,[],_,hg,_,_,_=>hg.elim
 | n+1,acc,ts,hn,hg,l,r,h=>by
  rw [RE acc hg] at h
  split at h
  ·rename_i hc
   obtain ⟨g1,g2,_⟩:=hg.tail (AX hc)
   obtain ⟨a,s,h1,h2⟩:=then_ok h
   have hf:=fName 6 g1
   rw [h1] at hf
   have:=As1 n (acc++[a]) s (by have:=hf.2.1;omega) hf.1 l r h2
   have:=hf.2.1
   simp only [AM,AD,Be] at *
   omega
  ·cases h;omega
theorem Aar {ts:List Tk} (hg:Good ts) {l:List Tree} {r:List Tk} (h:KT ts=.ok l r):l.length+r.length≤ts.length:=by
 obtain ⟨a,s,h1,h2⟩:=then_ok h
 have hf:=fName 6 hg
 rw [h1] at hf
 have:=As1 _ [a] s (Nat.le_refl _) hf.1 l r h2
 have:=hf.2.1
 simp only [AD,Be] at *
 omega
theorem Asy:∀ (n:Nat) (acc:List Tree) (ts:List Tk),ts.length≤n→Good ts→∀ l r,RA acc ts=.ok l r→l.length+r.length≤acc.length+ts.length
 | 0,_,[],_,hg,_,_,_=>hg.elim
 | n+1,acc,ts,hn,hg,l,r,h=>by
  rw [Ax5 acc hg] at h
  split at h
  ·rename_i hc
   obtain ⟨g1,g2,_⟩:=hg.tail (AX hc)
   obtain ⟨a,s,h1,h2⟩:=then_ok h
   have hf:=E4 (least:=0) (by omega) g1
   rw [h1] at hf
   have:=Asy n (acc++[a]) s (by have:=hf.2.1;omega) hf.1 l r h2
   have:=hf.2.1
   simp only [AM,AD,Be] at *
   omega
  ·cases h;omega
theorem Ws {ts:List Tk} (hg:Good ts) {l:List Tree} {r:List Tk} (h:Ik ts=.ok l r):l.length+r.length≤ts.length:=by
 rw [Ax6 hg] at h
 obtain ⟨a,s,h1,h2⟩:=then_ok h
 have hf:=E4 (least:=0) (by omega) hg
 rw [h1] at hf
 have:=Asy _ [a] s (Nat.le_refl _) hf.1 l r h2
 have:=hf.2.1
 simp only [AD,Be] at *
 omega
def ix (l ts:List Tk):Int:=(l.length:Int) - (ts.length:Int)
theorem wrapM (x:Int) (h1:-9223372036854775808≤x) (h2:x≤9223372036854775807):IntKind.i64.wrap x=x:=by
 unfold IntKind.wrap;simp [IntKind.bits,IntKind.signed];omega
section
variable {l ts:List Tk}
theorem A3z (hs:ts <:+ l):l.drop (l.length - ts.length)=ts:=by
 obtain ⟨p,rfl⟩:=hs
 simp
theorem Z8 (hg:Good ts) (hs:ts <:+ l):AZ l (ix l ts)=some (hd ts):=by
 have hle:=hs.length_le
 unfold AZ ix
 rw [if_pos (by omega),show ((l.length:Int) - (ts.length:Int)).toNat=l.length - ts.length by omega]
 have:=A3z hs
 rw [← List.head?_drop,this]
 cases ts with
 | nil=>exact hg.elim
 | cons t ts=>rfl
theorem MS (hl:l.length≤1000000) (hg:Good ts) (hs:ts <:+ l) (h6:(hd ts).1≠6):IntKind.i64.wrap (ix l ts+1)=ix l ts.tail:=by
 obtain ⟨_,g2,_⟩:=hg.tail h6
 have hle:=hs.length_le
 unfold ix
 rw [wrapM _ (by omega) (by omega)]
 omega
def conv {α β:Type} (l:List Tk) (e:α→Int→β):PV α→PR β
 | .ok a r=>.ok (e a (ix l r))
 | .bad i=>.bad i
def eT (n:Tree) (i:Int):Int×ByteArray×Int×Int×List Tree×Int:=(n.kind,n.text,n.n,n.at_,n.kids,i)
def eL (n:List Tree) (i:Int):List Tree×Int:=(n,i)
def eU (_:Unit) (i:Int):Int:=i
theorem Fg (n:Tree):Tree.mk n.kind n.text n.n n.at_ n.kids=n:=by cases n;rfl
theorem Do {α β α' β':Type} {e:α→Int→α'} {e':β→Int→β'} {x:PV α} {F:α'→Option (PR β')} {g:α→List Tk→PV β} {n:Nat} (hw:Fwd n ts x) (h:∀ a r,Good r→r <:+ ts→r.length+n≤ts.length→F (e a (ix l r))=some (conv l e' (g a r))) :
  PR.bind (some (conv l e x)) F=some (conv l e' (x.then g)):=by
 cases x with
 | bad i=>rfl
 | ok a r=>exact h a r hw.1 hw.2.2 hw.2.1
theorem F1 {β β':Type} {e':β→Int→β'} {c:Prop} [Decidable c] {b:Bool} {x y:Option (PR β')} {x' y':PV β} (hb:b=decide c) (h1:c→x=some (conv l e' x')) (h2:¬ c→y=some (conv l e' y')):cond b x y=some (conv l e' (if c then x' else y')):=by
 subst hb
 by_cases h:c
 ·rw [if_pos h,decide_eq_true h];exact h1 h
 ·rw [if_neg h,decide_eq_false h];exact h2 h
theorem Vn (a b:Int):(a == b)=decide (a=b):=by
 by_cases h:a=b
 ·rw [decide_eq_true h,beq_iff_eq];exact h
 ·rw [decide_eq_false h,beq_eq_false_iff_ne];exact h
theorem G2 (b:Bool):b=decide (b=true):=by cases b <;> rfl
variable (k:Nat) (hl:l.length≤1000000) (hg:Good ts) (hs:ts <:+ l)
include hg hs
theorem Kp:Eh.f k l (ix l ts)=some (hd ts):=by
 unfold Eh.f
 rw [Z8 hg hs]
 rfl
theorem MR (w:ByteArray):EB.f k l (ix l ts) w=some (AN w ts):=by
 unfold EB.f
 rw [Kp k hg hs]
 simp only [Aj,AN,isT]
 cases (hd ts).1 == (2:Int) <;> cases (hd ts).1 == (5:Int) <;> rfl
include hl
theorem got_eq (w:ByteArray):CJ.f k l (ix l ts) w=some (AN w ts,ix l (if AN w ts then ts.tail else ts)):=by
 unfold CJ.f
 rw [MR k hg hs]
 simp only [Aj]
 cases h:AN w ts with
 | true=>simp only [cond_true,if_true,MS hl hg hs (AX h)]
 | false=>rfl
theorem He (w:ByteArray):Dj.f k l (ix l ts) w=some (conv l eU (Ew w ts)):=by
 unfold Dj.f Ew
 rw [got_eq k hl hg hs]
 simp only [Aj]
 cases h:AN w ts with
 | true=>rfl
 | false =>
  simp only [Bool.not_false,cond_true,Bool.false_eq_true,if_false]
  rw [Kp k hg hs]
  rfl
theorem name_eq:Hc.f k l (ix l ts)=some (conv l eT (Jk 6 ts)):=by
 unfold Hc.f Jk
 rw [Kp k hg hs]
 simp only [Aj,BA]
 by_cases h:(hd ts).1=1
 ·rw [if_pos h,h,MS hl hg hs (by omega)]
  rfl
 ·rw [if_neg h,show ((hd ts).1 != 1)=true by rw [bne_iff_ne];exact h]
  rfl
omit hl
theorem Akl:Ni.f k l (ix l ts)=some (O5 ts):=by
 unfold Ni.f O5
 simp only [Kp k hg hs,MR k hg hs,Aj,Jy,Tq,Tr]
 generalize ((hd ts).1 == (6:Int))=b1
 generalize AN (⟨#[101,110,100]⟩:ByteArray) ts=b2
 generalize AN (⟨#[101,108,115,101]⟩:ByteArray) ts=b3
 generalize AN (⟨#[101,108,115,101,105,102]⟩:ByteArray) ts=b4
 cases b1 <;> cases b2 <;> cases b3 <;> cases b4 <;> rfl
end
theorem A2f (k:Nat) (ts:List Tk):P3.f k (hd ts).1 (hd ts).2.1 (hd ts).2.2.1 (hd ts).2.2.2=some (Fu ts):=by
 unfold P3.f Fu AN isT
 simp only [BA,kOr,Ap9,kLt,kGt,kLe,kGe,kNe,Aqi,Aqb,Aqt,Ph,Aqy,Aqx,Aqs]
 generalize (hd ts).1=kd
 generalize (hd ts).2.1.toList=tx
 have hsw:(cond (kd != (5:Int)) (some (kd != (2:Int))) (some false):Option Bool)=some (!(kd == 2 || kd == 5)):=by
  rw [bne,bne]
  cases kd == (5:Int) <;> cases kd == (2:Int) <;> rfl
 rw [hsw]
 simp only [Aj]
 cases (kd == 2 || kd == 5) with
 | false=>simp
 | true =>
  simp only [Bool.not_true,cond_false,Bool.true_and]
  generalize (tx == (⟨#[111,114]⟩:ByteArray).toList)=b
  cases b with
  | true=>rfl
  | false =>
  generalize (tx == (⟨#[97,110,100]⟩:ByteArray).toList)=b
  cases b with
  | true=>rfl
  | false =>
  generalize (tx == (⟨#[60]⟩:ByteArray).toList)=b1
  generalize (tx == (⟨#[62]⟩:ByteArray).toList)=b2
  generalize (tx == (⟨#[60,61]⟩:ByteArray).toList)=b3
  generalize (tx == (⟨#[62,61]⟩:ByteArray).toList)=b4
  generalize (tx == (⟨#[126,61]⟩:ByteArray).toList)=b5
  generalize (tx == (⟨#[61,61]⟩:ByteArray).toList)=b6
  generalize (tx == (⟨#[46,46]⟩:ByteArray).toList)=b7
  generalize (tx == (⟨#[43]⟩:ByteArray).toList)=b8
  generalize (tx == (⟨#[45]⟩:ByteArray).toList)=b9
  generalize (tx == (⟨#[42]⟩:ByteArray).toList)=c1
  generalize (tx == (⟨#[47,47]⟩:ByteArray).toList)=c2
  generalize (tx == (⟨#[37]⟩:ByteArray).toList)=c3
  cases b1 with
  | true=>rfl
  | false =>
  cases b2 with
  | true=>rfl
  | false =>
  cases b3 with
  | true=>rfl
  | false =>
  cases b4 with
  | true=>rfl
  | false =>
  cases b5 with
  | true=>rfl
  | false =>
  cases b6 with
  | true=>rfl
  | false =>
  cases b7 with
  | true=>rfl
  | false =>
  cases b8 <;> cases b9 <;> cases c1 <;> cases c2 <;> cases c3 <;> rfl
section
variable {l:List Tk}
theorem Bjw (a b:List UInt8):(a == b)=decide (a=b):=by
 by_cases h:a=b
 ·rw [decide_eq_true h,beq_iff_eq];exact h
 ·rw [decide_eq_false h,beq_eq_false_iff_ne];exact h
theorem Btk {ts:List Tk}:Jk 5 ts=(Jk 6 ts).then fun n r=>.ok (.mk 5 n.text n.n n.at_ n.kids) r:=by
 unfold Jk
 split <;> rfl
theorem G0 {α:Type} {b:Nat} {xs ys:List α} (h:(xs.length+ys.length) * b≤140737488355328):apd b xs ys=some (xs++ys):=by
 unfold apd
 rw [decide_eq_true h]
 rfl
variable (hl:l.length≤1000000)
include hl
theorem Ath (J:List Tree→Int→Option (PR (List Tree×Int))) (hJ:∀ a i,J a i=some (.ok (a,i))):∀ (m:Nat) (acc:List Tree) (ts:List Tk),Good ts→ts <:+ l→ts.length < m→acc.length+ts.length≤1000000 →
  Hs.l0 m l J acc (ix l ts)=some (conv l eL (LJ acc ts))
 | 0,_,_,_,_,h,_=>by omega
 | m+1,acc,ts,hg,hs,hm,ha=>by
  rw [Hs.l0,got_eq m hl hg hs,RE acc hg]
  simp only [Aj]
  refine F1 (G2 _) (fun hc=>?_) fun hc=>?_
  ·simp only [hc,if_true]
   obtain ⟨g1,g2,g3⟩:=hg.tail (AX hc)
   rw [name_eq m hl g1 (g3.trans hs)]
   refine Do (fName 6 g1) fun n r hr hrs hn=>?_
   simp only [eT,Fg]
   rw [G0 (by simp only [AD,Be];omega)]
   simp only [Aj]
   exact Ath J hJ m _ r hr (hrs.trans (g3.trans hs)) (by omega) (by simp only [AM,AD,Be];omega)
  ·simp only [if_neg hc,hJ]
   rfl
theorem Aa3 (k:Nat) {ts:List Tk} (hg:Good ts) (hs:ts <:+ l) (hk:ts.length≤k):Hs.f k l (ix l ts)=some (conv l eL (KT ts)):=by
 unfold Hs.f KT
 rw [name_eq k hl hg hs]
 refine Do (fName 6 hg) fun n r hr hrs hn=>?_
 simp only [BA,eT,Fg]
 have:=hrs.length_le
 have:=hs.length_le
 exact Ath hl _ (fun _ _=>rfl) k _ r hr (hrs.trans hs) (by omega) (by simp only [AD,Be];omega)
end
structure AE (l:List Tk) (k:Nat):Prop where
 exp:∀ least ts,0≤least→Good ts→ts <:+ l→16 * ts.length+5≤k→(PE.at k).Df l (ix l ts) least=some (conv l eT (Gy least ts))
 operand:∀ ts,Good ts→ts <:+ l→16 * ts.length+4≤k→(PE.at k).I1 l (ix l ts)=some (conv l eT (RF ts))
 ET:∀ ts,Good ts→ts <:+ l→16 * ts.length+3≤k→(PE.at k).DU l (ix l ts)=some (conv l eT (Mv ts))
 fields:∀ ts,Good ts→ts <:+ l→16 * ts.length+7≤k→(PE.at k).FS l (ix l ts)=some (conv l eL (Mu [] ts))
 field:∀ ts,Good ts→ts <:+ l→16 * ts.length+6≤k→(PE.at k).Iy l (ix l ts)=some (conv l eT (RB ts))
 D1:∀ ts,Good ts→ts <:+ l→16 * ts.length+6≤k→(PE.at k).DM l (ix l ts)=some (conv l eL (Ik ts))
section
variable {l:List Tk} (hl:l.length≤1000000) {k:Nat} (ih:AE l k)
include hl ih
theorem As5 (least:Int) (h0:0≤least) (r2:Int×ByteArray×Int×Int×List Tree×Int):∀ (m:Nat) (n:Tree) (ts:List Tk),n.at_=r2.2.2.2.1→Good ts→ts <:+ l→ts.length < m→16 * ts.length≤k →
  Df.l0 m (PE.at k) l least r2 n.kind n.text n.n n.kids (ix l ts)=some (conv l eT (RD least n ts))
 | 0,_,_,_,_,_,h,_=>by omega
 | m+1,n,ts,hn,hg,hs,hm,hk=>by
  rw [Df.l0,Kp m hg hs,Btd n h0 hg]
  simp only [Aj,A2f]
  refine F1 rfl (fun hc=>?_) fun hc=>?_
  ·rw [← hn];rfl
  ·obtain ⟨g1,g2,g3⟩:=hg.tail (Qi (by omega))
   have hb:=Aje ts
   simp only [BA]
   rw [MS hl hg hs (Qi (by omega)),wrapM (Fu ts - 1) (by omega) (by omega)]
   have hq:(0:Int)≤(if Fu ts=4 then 3 else Fu ts):=by split <;> omega
   have key:∀ q:Int,q=(if Fu ts=4 then 3 else Fu ts)→PR.bind ((PE.at k).Df l (ix l ts.tail) q) (fun r25=>Df.l0 m (PE.at k) l least r2 (11:Int) (hd ts).2.1 (0:Int) ([(Tree.mk n.kind n.text n.n r2.2.2.2.1 n.kids),(Tree.mk r25.1 r25.2.1 r25.2.2.1 r25.2.2.2.1 r25.2.2.2.2.1)]) r25.2.2.2.2.2)=some (conv l eT ((Gy (if Fu ts=4 then 3 else Fu ts) ts.tail).then fun m r=>RD least (.mk 11 (hd ts).2.1 0 n.at_ [n,m]) r)):=by
    intro q hqe
    subst hqe
    rw [ih.exp _ _ hq g1 (g3.trans hs) (by omega)]
    refine Do (E4 hq g1) fun x r hr hrs hrn=>?_
    simp only [eT,Fg]
    rw [← hn,Fg]
    exact As5 least h0 r2 m (.mk 11 (hd ts).2.1 0 n.at_ [n,x]) r hn hr (hrs.trans (g3.trans hs)) (by omega) (by omega)
   by_cases h4:Fu ts=4
   ·rw [show (Fu ts == (4:Int))=true by rw [beq_iff_eq];exact h4]
    exact key _ (by rw [if_pos h4,h4];rfl)
   ·rw [show (Fu ts == (4:Int))=false by rw [beq_eq_false_iff_ne];exact h4]
    exact key _ (by rw [if_neg h4])
theorem exp_eq (least:Int) (h0:0≤least) {ts:List Tk} (hg:Good ts) (hs:ts <:+ l) (hk:16 * ts.length+4≤k):Df.g (PE.at k) k l (ix l ts) least=some (conv l eT (Gy least ts)):=by
 unfold Df.g
 rw [ih.operand ts hg hs hk,Bs6 h0 hg]
 refine Do (Alc hg) fun n r hr hrs hn=>?_
 exact As5 hl ih least h0 (eT n (ix l r)) k n r rfl hr (hrs.trans hs) (by omega) (by omega)
theorem operand_eq {ts:List Tk} (hg:Good ts) (hs:ts <:+ l) (hk:16 * ts.length+3≤k):I1.g (PE.at k) k l (ix l ts)=some (conv l eT (RF ts)):=by
 unfold I1.g
 rw [Kp k hg hs,Bte hg]
 simp only [Aj,BA,MR k hg hs,got_eq k hl hg hs]
 refine F1 (Vn _ _) (fun hc=>?_) fun h3=>?_
 ·rw [MS hl hg hs (by omega)];rfl
 refine F1 (Vn _ _) (fun hc=>?_) fun h4=>?_
 ·rw [MS hl hg hs (by omega)];rfl
 refine F1 (G2 _) (fun hc=>?_) fun h5=>?_
 ·rw [MS hl hg hs (AX hc)];rfl
 refine F1 (G2 _) (fun hc=>?_) fun h6=>?_
 ·rw [MS hl hg hs (AX hc)];rfl
 refine F1 (G2 _) (fun hc=>?_) fun h7=>?_
 ·rw [MS hl hg hs (AX hc)];rfl
 have hun:∀ (h8:(AN Tu ts || AN Tt ts || AN Ph ts)=true),PR.bind ((PE.at k).Df l (ix l ts.tail) (7:Int)) (fun r21=>some (PR.ok ((10:Int),(hd ts).2.1,(0:Int),(hd ts).2.2.2,[(Tree.mk r21.1 r21.2.1 r21.2.2.1 r21.2.2.2.1 r21.2.2.2.2.1)],r21.2.2.2.2.2)))=some (conv l eT ((Gy 7 ts.tail).then fun m r=>.ok (.mk 10 (hd ts).2.1 0 (hd ts).2.2.2 [m]) r)):=fun h8=>by
  obtain ⟨g1,g2,g3⟩:=hg.tail (or3 rfl rfl rfl h8)
  rw [ih.exp 7 _ (by omega) g1 (g3.trans hs) (by omega)]
  refine Do (E4 (by omega) g1) fun x r hr hrs hn=>?_
  simp only [eT,Fg]
  rfl
 cases hA:AN Tu ts with
 | true =>
  have h8:(AN Tu ts || AN Tt ts || AN Ph ts)=true:=by rw [hA];rfl
  rw [hA] at h8
  simp only [cond_true,if_true,h8]
  exact hun (by rw [hA];rfl)
 | false =>
 simp only [Bool.false_eq_true,if_false,cond_false,Bool.false_or,got_eq k hl hg hs,Aj]
 cases hB:AN Tt ts with
 | true =>
  simp only [cond_true,if_true,Bool.true_or]
  exact hun (by rw [hB];simp)
 | false =>
 simp only [Bool.false_eq_true,if_false,cond_false,Bool.false_or,got_eq k hl hg hs,Aj]
 cases hC:AN Ph ts with
 | true =>
  simp only [cond_true,if_true]
  exact hun (by rw [hC];simp)
 | false =>
 simp only [Bool.false_eq_true,if_false,cond_false,got_eq k hl hg hs,Aj]
 refine F1 (G2 _) (fun hc=>?_) fun h9=>?_
 ·simp only [hc,if_true]
  obtain ⟨g1,g2,g3⟩:=hg.tail (AX hc)
  rw [ih.fields _ g1 (g3.trans hs) (by omega)]
  refine Do (Ak5 _ g1) fun x r hr hrs hn=>?_
  rfl
 ·simp only [if_neg h9]
  rw [ih.ET _ hg hs (by omega)]
  have:=Do (e':=eT) (F:=fun r38:Int×ByteArray×Int×Int×List Tree×Int=>some (PR.ok (r38.1,r38.2.1,r38.2.2.1,r38.2.2.2.1,r38.2.2.2.2.1,r38.2.2.2.2.2))) (g:=fun n r=>.ok n r) (l:=l) (S2 hg) (e:=eT) (fun n r _ _ _=>rfl)
  rw [this]
  cases Mv ts <;> rfl
theorem Aky (J:List Tree→Int→Option (PR (List Tree×Int))) (hJ:∀ a i,J a i=some (.ok (a,i))):∀ (m:Nat) (acc:List Tree) (ts:List Tk),Good ts→ts <:+ l→ts.length < m→acc.length+ts.length≤1000000→16 * ts.length≤k →
  DM.l0 m (PE.at k) l J acc (ix l ts)=some (conv l eL (RA acc ts))
 | 0,_,_,_,_,h,_,_=>by omega
 | m+1,acc,ts,hg,hs,hm,ha,hk=>by
  rw [DM.l0,got_eq m hl hg hs,Ax5 acc hg]
  simp only [Aj]
  refine F1 (G2 _) (fun hc=>?_) fun hc=>?_
  ·simp only [hc,if_true]
   obtain ⟨g1,g2,g3⟩:=hg.tail (AX hc)
   rw [ih.exp 0 _ (by omega) g1 (g3.trans hs) (by omega)]
   refine Do (E4 (by omega) g1) fun n r hr hrs hn=>?_
   simp only [eT,Fg]
   rw [G0 (by simp only [AD,Be];omega)]
   simp only [Aj]
   exact Aky J hJ m _ r hr (hrs.trans (g3.trans hs)) (by omega) (by simp only [AM,AD,Be];omega) (by omega)
  ·simp only [if_neg hc,hJ]
   rfl
theorem Akz {ts:List Tk} (hg:Good ts) (hs:ts <:+ l) (hk:16 * ts.length+5≤k):DM.g (PE.at k) k l (ix l ts)=some (conv l eL (Ik ts)):=by
 unfold DM.g
 rw [ih.exp 0 ts (by omega) hg hs hk,Ax6 hg]
 refine Do (E4 (by omega) hg) fun n r hr hrs hn=>?_
 simp only [BA,eT,Fg]
 have:=hs.length_le
 exact Aky hl ih _ (fun _ _=>rfl) k _ r hr (hrs.trans hs) (by omega) (by simp only [AD,Be];omega) (by omega)
theorem Alg (J:List Tree→Int→Option (PR (List Tree×Int))) (hJ:∀ a r,Good r→r <:+ l→J a (ix l r)=some (conv l eL ((Ew QH r).then fun _ r=>.ok a r))):∀ (m:Nat) (acc:List Tree) (ts:List Tk),Good ts→ts <:+ l→ts.length < m→acc.length+ts.length≤1000000→16 * ts.length+6≤k →
  FS.l0 m (PE.at k) l J acc (ix l ts)=some (conv l eL (Mu acc ts))
 | 0,_,_,_,_,h,_,_=>by omega
 | m+1,acc,ts,hg,hs,hm,ha,hk=>by
  rw [FS.l0,MR m hg hs,Bta acc hg]
  simp only [Aj]
  by_cases hR:AN QH ts=true
  ·rw [if_pos hR,show AN (⟨#[125]⟩:ByteArray) ts=true from hR]
   simp only [Bool.not_true,cond_false]
   rw [hJ acc ts hg hs]
   unfold Ew
   rw [if_pos hR]
   rfl
  ·rw [if_neg hR,show AN (⟨#[125]⟩:ByteArray) ts=false from by simpa using hR]
   simp only [Bool.not_false,cond_true]
   rw [ih.field ts hg hs hk]
   refine Do (Ak3 hg) fun x r hr hrs hn=>?_
   simp only [eT,Fg]
   rw [G0 (by simp only [AD,Be];omega)]
   have hrl:=hrs.trans hs
   simp only [Aj,BA,got_eq m hl hr hrl]
   have more:∀ {w:ByteArray},AN w r=true→FS.l0 m (PE.at k) l J (acc++[x]) (ix l r.tail)=some (conv l eL (Mu (acc++[x]) r.tail)):=fun hc=>by
    obtain ⟨g1,g2,g3⟩:=hr.tail (AX hc)
    exact Alg J hJ m _ _ g1 (g3.trans hrl) (by omega) (by simp only [AM,AD,Be];omega) (by omega)
   by_cases hc:AN G5 r=true
   ·rw [if_pos hc,show AN (⟨#[44]⟩:ByteArray) r=true from hc]
    simp only [Bool.not_true,cond_false,if_true]
    exact more hc
   ·rw [if_neg hc,show AN (⟨#[44]⟩:ByteArray) r=false from by simpa using hc]
    simp only [Bool.not_false,cond_true,Bool.false_eq_true,if_false,got_eq m hl hr hrl,Aj]
    by_cases hd:AN J0 r=true
    ·rw [if_pos hd,show AN (⟨#[59]⟩:ByteArray) r=true from hd]
     simp only [Bool.not_true,cond_false,if_true]
     exact more hd
    ·rw [if_neg hd,show AN (⟨#[59]⟩:ByteArray) r=false from by simpa using hd]
     simp only [Bool.not_false,cond_true,Bool.false_eq_true,if_false]
     exact hJ _ _ hr hrl
theorem fields_eq {ts:List Tk} (hg:Good ts) (hs:ts <:+ l) (hk:16 * ts.length+6≤k):FS.g (PE.at k) k l (ix l ts)=some (conv l eL (Mu [] ts)):=by
 unfold FS.g
 simp only [BA]
 have:=hs.length_le
 refine Alg hl ih _ (fun a r hr hrs=>?_) k [] ts hg hs (by omega) (by simp only [Be];omega) hk
 rw [He k hl hr hrs]
 exact Do (Ep _ hr) fun _ r2 hr2 _ _=>rfl
theorem A6f {ts:List Tk} (hg:Good ts) (hs:ts <:+ l) (hk:16 * ts.length+5≤k):Iy.g (PE.at k) k l (ix l ts)=some (conv l eT (RB ts)):=by
 unfold Iy.g
 rw [Kp k hg hs,Bs9 hg]
 simp only [Aj,BA,got_eq k hl hg hs]
 refine F1 (G2 _) (fun hc=>?_) fun h1=>?_
 ·simp only [hc,if_true]
  obtain ⟨g1,g2,g3⟩:=hg.tail (AX hc)
  rw [ih.exp 0 _ (by omega) g1 (g3.trans hs) (by omega)]
  refine Do (E4 (by omega) g1) fun x r hr hrs hn=>?_
  simp only [eT,Fg]
  have h1:=hrs.trans (g3.trans hs)
  rw [He k hl hr h1]
  refine Do (Ep _ hr) fun _ r2 hr2 IK hn2=>?_
  simp only [eU]
  rw [He k hl hr2 (IK.trans h1)]
  refine Do (Ep _ hr2) fun _ r3 hr3 Lt hn3=>?_
  simp only [eU]
  rw [ih.exp 0 _ (by omega) hr3 (Lt.trans (IK.trans h1)) (by omega)]
  refine Do (E4 (by omega) hr3) fun y r4 hr4 VM hn4=>?_
  simp only [eT,Fg]
  rw [G0 (by simp)]
  rfl
 simp only [if_neg h1]
 have hq:((cond ((hd ts).1 == (1:Int)) ((AZ l (IntKind.i64.wrap (ix l ts+(1:Int)))).bind fun x57=>cond (x57.1 == (5:Int)) ((AZ l (IntKind.i64.wrap (ix l ts+(1:Int)))).bind fun x65=>some (x65.2.1.toList == (⟨#[61]⟩:ByteArray).toList)) (some false)) (some false)):Option Bool)=some (decide ((hd ts).1=1∧(hd ts.tail).1=5∧(hd ts.tail).2.1.toList=GU.toList)):=by
  by_cases h:(hd ts).1=1
  ·obtain ⟨g1,g2,g3⟩:=hg.tail (by omega)
   rw [MS hl hg hs (by omega),Z8 g1 (g3.trans hs),h]
   simp only [beq_self_eq_true,cond_true,Aj,true_and]
   by_cases h5:(hd ts.tail).1=5
   ·rw [h5]
    simp only [beq_self_eq_true,cond_true,true_and]
    exact congrArg some (Bjw _ _)
   ·rw [show ((hd ts.tail).1 == (5:Int))=false by rw [beq_eq_false_iff_ne];exact h5]
    simp [h5]
  ·rw [show ((hd ts).1 == (1:Int))=false by rw [beq_eq_false_iff_ne];exact h]
   simp [h]
 rw [hq]
 simp only [Aj]
 refine F1 rfl (fun hc=>?_) fun h2=>?_
 ·obtain ⟨h1,h5,he⟩:=hc
  obtain ⟨g1,g2,g3⟩:=hg.tail (by omega)
  obtain ⟨g4,g5,g6⟩:=g1.tail (by omega)
  rw [name_eq k hl hg hs]
  unfold Jk
  rw [if_pos h1]
  simp only [conv,PR.bind,eT,Tree.kind,Tree.text,Tree.n,Tree.at_,Tree.kids]
  have hE:AN GU ts.tail=true:=by unfold AN isT;rw [h5,he];simp
  rw [He k hl g1 (g3.trans hs)]
  unfold Ew
  rw [if_pos hE]
  simp only [conv,eU]
  rw [ih.exp 0 _ (by omega) g4 (g6.trans (g3.trans hs)) (by omega)]
  have:=Do (l:=l) (e:=eT) (e':=eT) (x:=Gy 0 ts.tail.tail) (F:=fun r13=>(apd 64 [Tree.mk 5 (hd ts).2.1 0 (hd ts).2.2.2 []] [(Tree.mk r13.1 r13.2.1 r13.2.2.1 r13.2.2.2.1 r13.2.2.2.2.1)]).bind fun QO=>some (PR.ok ((14:Int),(⟨#[]⟩:ByteArray),(0:Int),(hd ts).2.2.2,QO,r13.2.2.2.2.2))) (g:=fun v r=>.ok (.mk 14 noB 0 (hd ts).2.2.2 [.mk 5 (hd ts).2.1 0 (hd ts).2.2.2 [],v]) r) (E4 (by omega) g4) (fun y r4 hr4 VM hn4=>by
   simp only [eT,Fg]
   rw [G0 (by simp)]
   rfl)
  exact this
 ·rw [ih.exp 0 _ (by omega) hg hs (by omega)]
  refine Do (E4 (by omega) hg) fun y r4 hr4 VM hn4=>?_
  simp only [eT,Fg]
  rw [G0 (by simp)]
  rfl
theorem U2 (r2:Tk):∀ (m:Nat) (n:Tree) (ts:List Tk),Good ts→ts <:+ l→ts.length < m→16 * ts.length≤k →
  DU.l0 m (PE.at k) l r2 n.kind n.text n.n n.at_ n.kids (ix l ts)=some (conv l eT (Nq r2.2.2.2 n ts))
 | 0,_,_,_,_,h,_=>by omega
 | m+1,n,ts,hg,hs,hm,hk=>by
  rw [DU.l0,got_eq m hl hg hs,Btl _ n hg]
  simp only [Aj,Fg]
  refine F1 (G2 _) (fun hc=>?_) fun h1=>?_
  ·simp only [hc,if_true]
   obtain ⟨g1,g2,g3⟩:=hg.tail (AX hc)
   rw [ih.exp 0 _ (by omega) g1 (g3.trans hs) (by omega)]
   refine Do (E4 (by omega) g1) fun x r hr hrs hn=>?_
   simp only [eT,Fg]
   have hrl:=hrs.trans (g3.trans hs)
   rw [He m hl hr hrl]
   refine Do (Ep _ hr) fun _ r2' hr2 IK hn2=>?_
   exact U2 r2 m (.mk 7 noB 0 r2.2.2.2 [n,x]) r2' hr2 (IK.trans hrl) (by omega) (by omega)
  simp only [if_neg h1,got_eq m hl hg hs,Aj]
  refine F1 (G2 _) (fun hc=>?_) fun h2=>?_
  ·simp only [hc,if_true]
   obtain ⟨g1,g2,g3⟩:=hg.tail (AX hc)
   rw [name_eq m hl g1 (g3.trans hs),Btk,then_assoc]
   refine Do (fName 6 g1) fun x r hr hrs hn=>?_
   exact U2 r2 m (.mk 7 noB 0 r2.2.2.2 [n,.mk 5 x.text x.n x.at_ x.kids]) r hr (hrs.trans (g3.trans hs)) (by omega) (by omega)
  simp only [if_neg h2,got_eq m hl hg hs,Aj]
  refine F1 (G2 _) (fun hc=>?_) fun h3=>?_
  ·simp only [hc,if_true]
   obtain ⟨g1,g2,g3⟩:=hg.tail (AX hc)
   have gs:=g3.trans hs
   have hlen:=hs.length_le
   simp only [BA,MR m g1 gs,Aj]
   unfold Afv
   have tl:∀ (xs:List Tree) (r:List Tk),Good r→r <:+ l→r.length≤ts.tail.length→PR.bind (Dj.f m l (ix l r) (⟨#[41]⟩:ByteArray)) (fun Fy=>DU.l0 m (PE.at k) l r2 (8:Int) (⟨#[]⟩:ByteArray) (0:Int) r2.2.2.2 (n :: xs) Fy)=some (conv l eT ((Ew Jz r).then fun _ r=>Nq r2.2.2.2 (.mk 8 noB 0 r2.2.2.2 (n :: xs)) r)):=fun xs r hr hrl hn=>by
    rw [He m hl hr hrl]
    refine Do (Ep _ hr) fun _ r2' hr2 IK hn2=>?_
    exact U2 r2 m (.mk 8 noB 0 r2.2.2.2 (n :: xs)) r2' hr2 (IK.trans hrl) (by omega) (by omega)
   by_cases hR:AN Jz ts.tail=true
   ·rw [if_pos hR,show AN (⟨#[41]⟩:ByteArray) ts.tail=true from hR]
    exact tl [] _ g1 gs (Nat.le_refl _)
   ·rw [if_neg hR,show AN (⟨#[41]⟩:ByteArray) ts.tail=false from by simpa using hR]
    simp only [Bool.not_false,cond_true]
    rw [ih.D1 _ g1 gs (by omega)]
    cases hv:Ik ts.tail with
    | bad i=>rfl
    | ok xs r =>
     have hf:=N9 g1
     rw [hv] at hf
     have hxl:=Ws g1 hv
     show (apd 64 [n] xs).bind _=_
     rw [G0 (by simp only [AD,Be];omega)]
     exact tl xs r hf.1 (hf.2.2.trans gs) (by have:=hf.2.1;omega)
  ·simp only [if_neg h3]
   rfl
theorem Axi {ts:List Tk} (hg:Good ts) (hs:ts <:+ l) (hk:16 * ts.length+2≤k):DU.g (PE.at k) k l (ix l ts)=some (conv l eT (Mv ts)):=by
 unfold DU.g
 rw [Kp k hg hs,Btm hg]
 simp only [Aj,BA,got_eq k hl hg hs]
 refine F1 (G2 _) (fun hc=>?_) fun h1=>?_
 ·simp only [hc,if_true]
  obtain ⟨g1,g2,g3⟩:=hg.tail (AX hc)
  rw [ih.exp 0 _ (by omega) g1 (g3.trans hs) (by omega)]
  refine Do (E4 (by omega) g1) fun x r hr hrs hn=>?_
  simp only [eT,Fg]
  have hrl:=hrs.trans (g3.trans hs)
  rw [He k hl hr hrl]
  refine Do (Ep _ hr) fun _ r2' hr2 IK hn2=>?_
  exact U2 hl ih (hd ts) k (.mk 9 noB 0 (hd ts).2.2.2 [x]) r2' hr2 (IK.trans hrl) (by omega) (by omega)
 ·simp only [if_neg h1]
  rw [name_eq k hl hg hs]
  refine Do (fName 6 hg) fun n r hr hrs hn=>?_
  exact U2 hl ih (hd ts) k n r hr (hrs.trans hs) (by omega) (by omega)
end
theorem aE {l:List Tk} (hl:l.length≤1000000):∀ k,AE l k
 | 0=>by constructor <;> intros <;> omega
 | k+1=>by
  have ih:=aE hl k
  exact ⟨fun least ts h0 hg hs h=>exp_eq hl ih least h0 hg hs (by omega),fun ts hg hs h=>operand_eq hl ih hg hs (by omega),fun ts hg hs h=>Axi hl ih hg hs (by omega),fun ts hg hs h=>fields_eq hl ih hg hs (by omega),fun ts hg hs h=>A6f hl ih hg hs (by omega),fun ts hg hs h=>Akz hl ih hg hs (by omega)⟩
theorem Ax9 (pre:List Tree):∀ (n:Nat) (acc:List Tree) (ts:List Tk),ts.length≤n→Good ts→LJ (pre++acc) ts=(LJ acc ts).then fun xs r=>.ok (pre++xs) r
 | 0,_,[],_,hg=>hg.elim
 | n+1,acc,ts,hn,hg=>by
  rw [RE _ hg,RE acc hg]
  by_cases hc:AN G5 ts=true
  ·rw [if_pos hc,if_pos hc,then_assoc]
   obtain ⟨g1,g2,g3⟩:=hg.tail (AX hc)
   refine Axr (fName 6 g1) fun x r hr hl=>?_
   rw [Cj]
   exact Ax9 pre n _ r (by omega) hr
  ·rw [if_neg hc,if_neg hc];rfl
structure AS (l:List Tk) (k:Nat):Prop where
 block:∀ c ts,Good ts→ts <:+ l→16 * ts.length+9≤k→(PS.at k).Dr l (ix l ts) c=some (conv l eT (Hy c ts))
 function:∀ ts,AN Ts ts=true→Good ts→ts <:+ l→16 * ts.length+7≤k→(PS.at k).Iz l (ix l ts)=some (conv l eT (RC ts))
 stat:∀ ts,Good ts→ts <:+ l→16 * ts.length+7≤k→(PS.at k).I2 l (ix l ts)=some (conv l eT (RG ts))
 branches:∀ ts,Good ts→ts <:+ l→16 * ts.length+6≤k→(PS.at k).Gh l (ix l ts)=some (conv l eL (Oh [] ts))
 loop:∀ at_ ts,Good ts→ts <:+ l→16 * ts.length+8≤k→(PS.at k).I0 l (ix l ts) at_=some (conv l eT (UF at_ ts))
 plain:∀ ts,Good ts→ts <:+ l→16 * ts.length+6≤k→(PS.at k).Gi l (ix l ts)=some (conv l eT (UG ts))
section
variable {l:List Tk} (hl:l.length≤1000000)
include hl
theorem S3 (k:Nat) {ts:List Tk} (hg:Good ts) (hs:ts <:+ l) (hk:16 * ts.length+4≤k):Df.f k l (ix l ts) 0=some (conv l eT (Gy 0 ts)):=exp_eq hl (aE hl k) 0 (by omega) hg hs hk
theorem V0 (k:Nat) {ts:List Tk} (hg:Good ts) (hs:ts <:+ l) (hk:16 * ts.length+5≤k):DM.f k l (ix l ts)=some (conv l eL (Ik ts)):=Akz hl (aE hl k) hg hs hk
theorem Alj (k:Nat) {ts:List Tk} (hg:Good ts) (hs:ts <:+ l) (hk:16 * ts.length+2≤k):DU.f k l (ix l ts)=some (conv l eT (Mv ts)):=Axi hl (aE hl k) hg hs hk
omit hl in
theorem A2k {ts:List Tk} (h:AN Tp ts=true) (hg:Good ts):LI ts=(Hy false ts.tail).then fun b r=>(Ew Jy r).then fun _ r=>.ok b r:=by
 rw [Ax4 hg]
 unfold Ew
 rw [if_pos h]
 rfl
variable {k:Nat} (ih:AS l k)
include ih
theorem Ayl (F:Tree→Option (List Tree)) (G:List Tree→Int→Option (PR (Int×ByteArray×Int×Int×List Tree×Int))) (g:Tree→Tree) {ts:List Tk} (hg:Good ts) (hs:ts <:+ l) (hk:16 * ts.length+9≤k+16)
  (hG:∀ b r,Good r→r <:+ l→∃ xs,F b=some xs∧G xs (ix l r)=some (conv l eT (.ok (g b) r))) :
  PR.bind (Dj.f k l (ix l ts) (⟨#[100,111]⟩:ByteArray)) (fun r36=>PR.bind ((PS.at k).Dr l r36 false) fun r38=>(F (Tree.mk r38.1 r38.2.1 r38.2.2.1 r38.2.2.2.1 r38.2.2.2.2.1)).bind fun l49=>PR.bind (Dj.f k l r38.2.2.2.2.2 (⟨#[101,110,100]⟩:ByteArray)) fun Ht=>G l49 Ht) =
   some (conv l eT ((LI ts).then fun b r=>.ok (g b) r)):=by
 rw [He k hl hg hs,Ax4 hg,then_assoc]
 refine Do (Ep _ hg) fun _ r hr hrs hn=>?_
 simp only [eU]
 have h1:=hrs.trans hs
 rw [ih.block false r hr h1 (by omega),then_assoc]
 refine Do (LX false hr) fun b r2 hr2 IK hn2=>?_
 simp only [eT,Fg]
 have h2:=IK.trans h1
 obtain ⟨xs,hF,_⟩:=hG b r2 hr2 h2
 rw [hF,then_assoc]
 simp only [Aj]
 rw [He k hl hr2 h2]
 refine Do (Ep _ hr2) fun _ r3 hr3 Lt hn3=>?_
 obtain ⟨xs',hF',hG'⟩:=hG b r3 hr3 (Lt.trans h2)
 rw [hF] at hF'
 cases hF'
 exact hG'
theorem XQ (chunk:Bool) (r2:Tk):∀ (m:Nat) (acc:List Tree) (ts:List Tk),Good ts→ts <:+ l→16 * ts.length+6 < m→acc.length+ts.length≤1000000→16 * ts.length+8≤k →
  Dr.l0 m (PS.at k) l chunk r2 acc (ix l ts)=some (conv l eT (Og chunk r2.2.2.2 acc ts))
 | 0,_,_,_,_,h,_,_=>by omega
 | m+1,acc,ts,hg,hs,hm,ha,hk=>by
  rw [Dr.l0,Kp m hg hs,Bsv chunk _ acc hg]
  simp only [Aj,got_eq m hl hg hs]
  refine F1 (G2 _) (fun hc=>?_) fun h1=>?_
  ·simp only [hc,if_true]
   obtain ⟨g1,g2,g3⟩:=hg.tail (AX hc)
   exact XQ chunk r2 m acc _ g1 (g3.trans hs) (by omega) (by omega) (by omega)
  simp only [if_neg h1,got_eq m hl hg hs,Aj]
  refine F1 (G2 _) (fun hc=>?_) fun h2=>?_
  ·simp only [hc,if_true]
   obtain ⟨g1,g2,g3⟩:=hg.tail (AX hc)
   have gs:=g3.trans hs
   have hend:∀ (xs:List Tree) (r:List Tk),Good r→r <:+ l→(CJ.f m l (ix l r) (⟨#[59]⟩:ByteArray)).bind (fun r25=>(apd 64 acc [(Tree.mk (30:Int) (⟨#[]⟩:ByteArray) (0:Int) (hd ts).2.2.2 xs)]).bind fun l29=>some (PR.ok ((20:Int),(⟨#[]⟩:ByteArray),(0:Int),r2.2.2.2,l29,r25.2)))=some (conv l eT (.ok (.mk 20 noB 0 r2.2.2.2 (acc++[.mk 30 noB 0 (hd ts).2.2.2 xs])) (if AN J0 r then r.tail else r))):=fun xs r hr hrl=>by
    rw [got_eq m hl hr hrl,G0 (by simp only [AD,Be];omega)]
    rfl
   simp only [BA,Akl m g1 gs,MR m g1 gs,Aj]
   unfold Afx
   cases hE:O5 ts.tail with
   | true =>
    simp only [Bool.not_true,cond_false,Aj,Bool.true_or,if_true]
    exact hend [] _ g1 gs
   | false =>
    simp only [Bool.not_false,cond_true,Aj,Bool.false_or]
    by_cases hS:AN J0 ts.tail=true
    ·rw [if_pos hS,show AN (⟨#[59]⟩:ByteArray) ts.tail=true from hS]
     exact hend [] _ g1 gs
    ·rw [if_neg hS,show AN (⟨#[59]⟩:ByteArray) ts.tail=false from by simpa using hS]
     simp only [Bool.not_false,cond_true]
     rw [V0 hl m g1 gs (by omega)]
     refine Do (N9 g1) fun xs r hr hrs hn=>?_
     exact hend xs r hr (hrs.trans gs)
  simp only [if_neg h2,MR m hg hs,Akl m hg hs,Aj]
  have hq:(cond chunk (some (AN (⟨#[102,117,110,99,116,105,111,110]⟩:ByteArray) ts)) (some false):Option Bool)=some (chunk && AN Ts ts):=by cases chunk <;> rfl
  rw [hq]
  simp only [Aj]
  have more:∀ (x:Tree) (r:List Tk),Good r→r <:+ ts→r.length+1≤ts.length→((apd 64 acc [x]).bind fun l56=>Dr.l0 m (PS.at k) l chunk r2 l56 (ix l r))=some (conv l eT (Og chunk r2.2.2.2 (acc++[x]) r)):=fun x r hr hrs hn=>by
   rw [G0 (by simp only [AD,Be];omega)]
   exact XQ chunk r2 m _ r hr (hrs.trans hs) (by omega) (by simp only [AM,AD,Be];omega) (by omega)
  refine F1 (G2 _) (fun hc=>?_) fun h3=>?_
  ·simp only [Bool.and_eq_true] at hc
   rw [ih.function ts hc.2 hg hs (by omega)]
   refine Do (Ak8 (AX hc.2) hg) fun x r hr hrs hn=>?_
   simp only [eT,Fg]
   exact more x r hr hrs hn
  refine F1 (G2 _) (fun hc=>rfl) fun h4=>?_
  rw [ih.stat ts hg hs (by omega)]
  refine Do (Ald hg) fun x r hr hrs hn=>?_
  simp only [eT,Fg]
  exact more x r hr hrs hn
theorem Ajh (c:Bool) {ts:List Tk} (hg:Good ts) (hs:ts <:+ l) (hk:16 * ts.length+8≤k):Dr.g (PS.at k) k l (ix l ts) c=some (conv l eT (Hy c ts)):=by
 unfold Dr.g
 rw [Kp k hg hs,Bsw c hg]
 simp only [Aj]
 have:=hs.length_le
 exact XQ hl ih c (hd ts) k [] ts hg hs (by omega) (by simp only [Be];omega) hk
theorem A7j {ts:List Tk} (hf:AN Ts ts=true) (hg:Good ts) (hs:ts <:+ l) (hk:16 * ts.length+6≤k):Iz.g (PS.at k) k l (ix l ts)=some (conv l eT (RC ts)):=by
 unfold Iz.g
 rw [Kp k hg hs,Btc (AX hf) hg]
 simp only [Aj]
 rw [He k hl hg hs]
 unfold Ew
 rw [if_pos hf]
 obtain ⟨g1,g2,g3⟩:=hg.tail (AX hf)
 have gs:=g3.trans hs
 have hle:=hs.length_le
 show PR.bind (Hc.f k l (ix l ts.tail)) _=_
 rw [name_eq k hl g1 gs]
 refine Do (fName 6 g1) fun nm r hr hrs hn=>?_
 simp only [eT]
 have h1:=hrs.trans gs
 rw [He k hl hr h1]
 refine Do (Ep _ hr) fun _ r2 hr2 IK hn2=>?_
 simp only [eU,BA]
 have h2:=IK.trans h1
 have tl:∀ (ps:List Tree) (r:List Tk),Good r→r <:+ l→r.length+1≤ts.length→ps.length≤1000000→PR.bind (Dj.f k l (ix l r) (⟨#[41]⟩:ByteArray)) (fun r21=>PR.bind ((PS.at k).Dr l r21 false) fun EO=>(apd 64 ps [(Tree.mk EO.1 EO.2.1 EO.2.2.1 EO.2.2.2.1 EO.2.2.2.2.1)]).bind fun l32=>PR.bind (Dj.f k l EO.2.2.2.2.2 (⟨#[101,110,100]⟩:ByteArray)) fun Ih=>some (PR.ok ((31:Int),nm.text,((ps.length:Nat):Int),(hd ts).2.2.2,l32,Ih))) =
   some (conv l eT ((Ew Jz r).then fun _ r=>(Hy false r).then fun b r=>(Ew Jy r).then fun _ r=>.ok (.mk 31 nm.text ps.length (hd ts).2.2.2 (ps++[b])) r)):=fun ps r hr hrl hn hps=>by
  rw [He k hl hr hrl]
  refine Do (Ep _ hr) fun _ s hs1 hss hn'=>?_
  simp only [eU]
  have h3:=hss.trans hrl
  rw [ih.block false s hs1 h3 (by omega)]
  refine Do (LX false hs1) fun b s2 hs2 Zz Bwy=>?_
  simp only [eT,Fg]
  rw [G0 (by simp only [AD,Be];omega)]
  simp only [Aj]
  rw [He k hl hs2 (Zz.trans h3)]
  exact Do (Ep _ hs2) fun _ s3 _ _ _=>rfl
 rw [MR k hr2 h2]
 simp only [Aj]
 unfold Afw
 by_cases hR:AN Jz r2=true
 ·rw [if_pos hR,show AN (⟨#[41]⟩:ByteArray) r2=true from hR]
  exact tl [] r2 hr2 h2 (by omega) (by simp)
 ·rw [if_neg hR,show AN (⟨#[41]⟩:ByteArray) r2=false from by simpa using hR]
  simp only [Bool.not_false,cond_true]
  rw [Aa3 hl k hr2 h2 (by omega)]
  cases hv:KT r2 with
  | bad i=>rfl
  | ok ps s =>
   have hf:=S1 hr2
   rw [hv] at hf
   have hln:=Aar hr2 hv
   exact tl ps s hf.1 (hf.2.2.trans h2) (by have:=hf.2.1;omega) (by omega)
theorem Ajo (J:List Tree→Int→Option (PR (List Tree×Int))) (hJ:∀ a r,Good r→r <:+ l→16 * r.length+9≤k→a.length≤1000000→J a (ix l r)=some (conv l eL (if AN Tq r then (Hy false r.tail).then fun c r=>(Ew Jy r).then fun _ r=>.ok (a++[c]) r else (Ew Jy r).then fun _ r=>.ok a r))) :
  ∀ (m:Nat) (acc:List Tree) (ts:List Tk),Good ts→ts <:+ l→16 * ts.length+4 < m→acc.length+2 * ts.length≤1000000→16 * ts.length≤k→Gh.l0 m (PS.at k) l J acc (ix l ts)=some (conv l eL (Oh acc ts))
 | 0,_,_,_,_,h,_,_=>by omega
 | m+1,acc,ts,hg,hs,hm,ha,hk=>by
  rw [Gh.l0,S3 hl m hg hs (by omega),Bs5 acc hg]
  refine Do (E4 (by omega) hg) fun e r hr hrs hn=>?_
  simp only [eT,Fg]
  have h1:=hrs.trans hs
  rw [G0 (by simp only [AD,Be];omega)]
  simp only [Aj]
  rw [He m hl hr h1]
  refine Do (Ep _ hr) fun _ r2 hr2 IK hn2=>?_
  simp only [eU]
  have h2:=IK.trans h1
  rw [ih.block false r2 hr2 h2 (by omega)]
  refine Do (LX false hr2) fun b r3 hr3 Lt hn3=>?_
  simp only [eT,Fg]
  have h3:=Lt.trans h2
  rw [G0 (by simp only [AM,AD,Be];omega)]
  simp only [Aj,got_eq m hl hr3 h3]
  by_cases hc:AN Tr r3=true
  ·rw [if_pos hc,show AN (⟨#[101,108,115,101,105,102]⟩:ByteArray) r3=true from hc]
   simp only [Bool.not_true,cond_false,if_true]
   obtain ⟨g1,g2,g3⟩:=hr3.tail (AX hc)
   exact Ajo J hJ m _ _ g1 (g3.trans h3) (by omega) (by simp only [AM,AD,Be];omega) (by omega)
  ·rw [if_neg hc,show AN (⟨#[101,108,115,101,105,102]⟩:ByteArray) r3=false from by simpa using hc]
   simp only [Bool.not_false,cond_true,Bool.false_eq_true,if_false]
   exact hJ _ r3 hr3 h3 (by omega) (by simp only [AM,AD,Be];omega)
theorem A2l {ts:List Tk} (hg:Good ts) (hs:ts <:+ l) (hk:16 * ts.length+5≤k) (hl2:l.length≤400000):Gh.g (PS.at k) k l (ix l ts)=some (conv l eL (Oh [] ts)):=by
 unfold Gh.g
 simp only [BA]
 have hle:=hs.length_le
 refine Ajo hl ih _ (fun a r hr hrl hk2 ha=>?_) k [] ts hg hs (by omega) (by simp only [Be];omega) (by omega)
 rw [got_eq k hl hr hrl]
 simp only [Aj]
 refine F1 (G2 _) (fun hc=>?_) fun h1=>?_
 ·simp only [hc,if_true]
  obtain ⟨g1,g2,g3⟩:=hr.tail (AX hc)
  have gs:=g3.trans hrl
  rw [ih.block false _ g1 gs (by omega)]
  refine Do (LX false g1) fun c r3 hr3 Lt hn3=>?_
  simp only [eT,Fg]
  rw [G0 (by simp only [AD,Be];omega)]
  simp only [Aj]
  rw [He k hl hr3 (Lt.trans gs)]
  exact Do (Ep _ hr3) fun _ _ _ _ _=>rfl
 ·simp only [if_neg h1]
  rw [He k hl hr hrl]
  exact Do (Ep _ hr) fun _ _ _ _ _=>rfl
theorem A6y (at_:Int) {ts:List Tk} (hg:Good ts) (hs:ts <:+ l) (hk:16 * ts.length+7≤k):I0.g (PS.at k) k l (ix l ts) at_=some (conv l eT (UF at_ ts)):=by
 unfold I0.g
 rw [name_eq k hl hg hs,Btb at_ hg]
 refine Do (fName 6 hg) fun n r hr hrs hn=>?_
 simp only [eT,Fg,BA]
 have h1:=hrs.trans hs
 have hle:=hs.length_le
 have tl:∀ (kd nn:Int) (xs:List Tree) (r:List Tk),Good r→r <:+ l→r.length+1≤ts.length→xs.length≤1000000→PR.bind (Dj.f k l (ix l r) (⟨#[100,111]⟩:ByteArray)) (fun r19=>PR.bind ((PS.at k).Dr l r19 false) fun r21=>(apd 64 xs [(Tree.mk r21.1 r21.2.1 r21.2.2.1 r21.2.2.2.1 r21.2.2.2.2.1)]).bind fun Je=>PR.bind (Dj.f k l r21.2.2.2.2.2 (⟨#[101,110,100]⟩:ByteArray)) fun Ig=>some (PR.ok (kd,(⟨#[]⟩:ByteArray),nn,at_,Je,Ig))) =
   some (conv l eT ((LI r).then fun bd r=>.ok (.mk kd noB nn at_ (xs++[bd])) r)):=fun kd nn xs r hr hrl hn hxs =>
  Ayl hl ih (fun b=>apd 64 xs [b]) (fun Je Ig=>some (PR.ok (kd,(⟨#[]⟩:ByteArray),nn,at_,Je,Ig))) (fun bd=>.mk kd noB nn at_ (xs++[bd])) hr hrl (by omega) fun b s hs1 hsl=>⟨_,G0 (by simp only [AD,Be];omega),rfl⟩
 rw [got_eq k hl hr h1]
 simp only [Aj]
 refine F1 (G2 _) (fun hc=>?_) fun hne=>?_
 ·simp only [hc,if_true]
  obtain ⟨g1,g2,g3⟩:=hr.tail (AX hc)
  have gs:=g3.trans h1
  rw [S3 hl k g1 gs (by omega)]
  refine Do (E4 (by omega) g1) fun a r2 hr2 IK hn2=>?_
  simp only [eT,Fg]
  have h2:=IK.trans gs
  rw [G0 (by simp)]
  simp only [Aj]
  rw [He k hl hr2 h2]
  refine Do (Ep _ hr2) fun _ r3 hr3 Lt hn3=>?_
  simp only [eU]
  have h3:=Lt.trans h2
  rw [S3 hl k hr3 h3 (by omega)]
  refine Do (E4 (by omega) hr3) fun b r4 hr4 VM hn4=>?_
  simp only [eT,Fg]
  have h4:=VM.trans h3
  rw [G0 (by simp)]
  simp only [Aj,got_eq k hl hr4 h4]
  unfold Xm
  by_cases hC:AN G5 r4=true
  ·rw [if_pos hC,show AN (⟨#[44]⟩:ByteArray) r4=true from hC]
   simp only [cond_true,if_true]
   obtain ⟨g5,g6,g7⟩:=hr4.tail (AX hC)
   have gs5:=g7.trans h4
   rw [S3 hl k g5 gs5 (by omega),then_assoc]
   refine Do (E4 (by omega) g5) fun c r5 hr5 Beu hn5=>?_
   simp only [eT,Fg]
   rw [G0 (by simp)]
   exact tl 26 0 _ r5 hr5 (Beu.trans gs5) (by omega) (by simp)
  ·rw [if_neg hC,show AN (⟨#[44]⟩:ByteArray) r4=false from by simpa using hC]
   simp only [cond_false,Bool.false_eq_true,if_false]
   have:=tl 26 0 ([n]++[a]++[b]) r4 hr4 h4 (by omega) (by simp)
   simp only [PV.then,List.append_nil]
   exact this
 ·simp only [if_neg hne,got_eq k hl hr h1,Aj]
  have tl2:∀ (xs:List Tree) (r:List Tk),Good r→r <:+ l→r.length+1≤ts.length→xs.length+r.length≤ts.length+1→PR.bind (Dj.f k l (ix l r) (⟨#[105,110]⟩:ByteArray)) (fun WW=>PR.bind (DM.f k l WW) fun PG=>(apd 64 xs PG.1).bind fun Lv=>PR.bind (Dj.f k l PG.2 (⟨#[100,111]⟩:ByteArray)) fun r19=>PR.bind ((PS.at k).Dr l r19 false) fun r21=>(apd 64 Lv [(Tree.mk r21.1 r21.2.1 r21.2.2.1 r21.2.2.2.1 r21.2.2.2.2.1)]).bind fun Je=>PR.bind (Dj.f k l r21.2.2.2.2.2 (⟨#[101,110,100]⟩:ByteArray)) fun Ig=>some (PR.ok ((27:Int),(⟨#[]⟩:ByteArray),((xs.length:Nat):Int),at_,Je,Ig))) =
    some (conv l eT ((Ew ZW r).then fun _ r=>(Ik r).then fun es r=>(LI r).then fun bd r=>.ok (.mk 27 noB xs.length at_ (xs++es++[bd])) r)):=fun xs r hr hrl hn hx=>by
   rw [He k hl hr hrl]
   refine Do (Ep _ hr) fun _ r3 hr3 Lt hn3=>?_
   simp only [eU]
   have h3:=Lt.trans hrl
   rw [V0 hl k hr3 h3 (by omega)]
   cases hv:Ik r3 with
   | bad i=>rfl
   | ok es s =>
    have hf:=N9 hr3
    rw [hv] at hf
    have hln:=Ws hr3 hv
    show (apd 64 xs es).bind _=_
    rw [G0 (by omega)]
    exact tl 27 xs.length (xs++es) s hf.1 (hf.2.2.trans h3) (by have:=hf.2.1;omega) (by simp only [AM];omega)
  by_cases hC:AN G5 r=true
  ·rw [show AN (⟨#[44]⟩:ByteArray) r=true from hC]
   simp only [cond_true,if_true]
   obtain ⟨g1,g2,g3⟩:=hr.tail (AX hC)
   have gs:=g3.trans h1
   rw [Aa3 hl k g1 gs (by omega)]
   have e:LJ [n] r=(KT r.tail).then fun xs r=>.ok ([n]++xs) r:=by
    rw [RE _ hr,if_pos hC]
    unfold KT
    rw [then_assoc]
    exact Axr (fName 6 g1) fun x s hs1 _=>Ax9 [n] _ [x] s (Nat.le_refl _) hs1
   rw [e,then_assoc]
   cases hv:KT r.tail with
   | bad i=>rfl
   | ok xs s =>
    have hf:=S1 g1
    rw [hv] at hf
    have hln:=Aar g1 hv
    show (apd 64 [n] xs).bind _=_
    rw [G0 (by simp only [AD,Be];omega)]
    exact tl2 ([n]++xs) s hf.1 (hf.2.2.trans gs) (by have:=hf.2.1;omega) (by simp only [AM,AD,Be];omega)
  ·rw [show AN (⟨#[44]⟩:ByteArray) r=false from by simpa using hC]
   simp only [cond_false,Bool.false_eq_true,if_false]
   rw [RE _ hr,if_neg hC]
   exact tl2 [n] r hr h1 (by omega) (by simp only [AD,Be];omega)
theorem Br0 {ts:List Tk} (hg:Good ts) (hs:ts <:+ l) (hk:16 * ts.length+6≤k):I2.g (PS.at k) k l (ix l ts)=some (conv l eT (RG ts)):=by
 unfold I2.g
 rw [Kp k hg hs,Btj hg]
 simp only [Aj,BA,got_eq k hl hg hs]
 have hle:=hs.length_le
 refine F1 (G2 _) (fun hc=>?_) fun h1=>?_
 ·simp only [hc,if_true]
  obtain ⟨g1,g2,g3⟩:=hg.tail (AX hc)
  have gs:=g3.trans hs
  rw [A2k hc hg,then_assoc,ih.block false _ g1 gs (by omega)]
  refine Do (LX false g1) fun b r hr hrs hn=>?_
  simp only [eT,Fg]
  rw [He k hl hr (hrs.trans gs),then_assoc]
  exact Do (Ep _ hr) fun _ _ _ _ _=>rfl
 simp only [if_neg h1,got_eq k hl hg hs,Aj]
 refine F1 (G2 _) (fun hc=>?_) fun h2=>?_
 ·simp only [hc,if_true]
  obtain ⟨g1,g2,g3⟩:=hg.tail (AX hc)
  have gs:=g3.trans hs
  rw [S3 hl k g1 gs (by omega)]
  refine Do (E4 (by omega) g1) fun e r hr hrs hn=>?_
  simp only [eT,Fg]
  exact Ayl hl ih (fun b=>apd 64 [e] [b]) (fun l49 Ht=>some (PR.ok ((25:Int),(⟨#[]⟩:ByteArray),(0:Int),(hd ts).2.2.2,l49,Ht))) (fun b=>.mk 25 noB 0 (hd ts).2.2.2 [e,b]) hr (hrs.trans gs) (by omega) fun b s _ _=>⟨_,G0 (by simp),rfl⟩
 simp only [if_neg h2,got_eq k hl hg hs,Aj]
 refine F1 (G2 _) (fun hc=>?_) fun h3=>?_
 ·simp only [hc,if_true]
  obtain ⟨g1,g2,g3⟩:=hg.tail (AX hc)
  rw [ih.branches _ g1 (g3.trans hs) (by omega)]
  exact Do (Ak2 _ g1) fun _ _ _ _ _=>rfl
 simp only [if_neg h3,got_eq k hl hg hs,Aj]
 have same:∀ {x:PV Tree},(PR.bind (some (conv l eT x)) fun EP=>some (PR.ok (EP.1,EP.2.1,EP.2.2.1,EP.2.2.2.1,EP.2.2.2.2.1,EP.2.2.2.2.2)))=some (conv l eT x):=fun {x}=>by cases x <;> rfl
 refine F1 (G2 _) (fun hc=>?_) fun h4=>?_
 ·simp only [hc,if_true]
  obtain ⟨g1,g2,g3⟩:=hg.tail (AX hc)
  rw [ih.loop _ _ g1 (g3.trans hs) (by omega)]
  exact same
 simp only [if_neg h4,got_eq k hl hg hs,Aj]
 refine F1 (G2 _) (fun hc=>?_) fun h5=>?_
 ·simp only [hc,if_true]
  obtain ⟨g1,g2,g3⟩:=hg.tail (AX hc)
  have gs:=g3.trans hs
  rw [Aa3 hl k g1 gs (by omega)]
  cases hv:KT ts.tail with
  | bad i=>rfl
  | ok xs r =>
   have hf:=S1 g1
   rw [hv] at hf
   have hln:=Aar g1 hv
   have hrl:=hf.2.2.trans gs
   show (CJ.f k l (ix l r) _).bind _=some (conv l eT ((Xl r).then _))
   rw [got_eq k hl hf.1 hrl]
   unfold Xl
   simp only [Aj,eL]
   by_cases hE:AN GU r=true
   ·rw [if_pos hE,show AN (⟨#[61]⟩:ByteArray) r=true from hE]
    simp only [cond_true,if_true]
    obtain ⟨g4,g5,g6⟩:=hf.1.tail (AX hE)
    have h6:=hf.2.1
    rw [V0 hl k g4 (g6.trans hrl) (by omega)]
    cases hv2:Ik r.tail with
    | bad i=>rfl
    | ok es s =>
     have Bwu:=Ws g4 hv2
     show (apd 64 xs es).bind _=_
     rw [G0 (by omega)]
     rfl
   ·rw [if_neg hE,show AN (⟨#[61]⟩:ByteArray) r=false from by simpa using hE]
    simp only [cond_false,Bool.false_eq_true,if_false,PV.then,List.append_nil]
    rfl
 simp only [if_neg h5,got_eq k hl hg hs,Aj]
 refine F1 (G2 _) (fun hc=>?_) fun h6=>?_
 ·simp only [hc,if_true]
  rfl
 simp only [if_neg h6]
 rw [ih.plain _ hg hs (by omega)]
 exact same
omit ih in
theorem targets_eq (J:List Tree→Int→Option (PR (Int×ByteArray×Int×Int×List Tree×Int))) (g:List Tree→List Tk→PV Tree) (N:Nat) (hJ:∀ a r,Good r→r <:+ l→r.length≤N→a.length+r.length≤1000000→J a (ix l r)=some (conv l eT (g a r))) :
  ∀ (m:Nat) (acc:List Tree) (e:Tree) (ts:List Tk),Good ts→ts <:+ l→16 * ts.length+2 < m→ts.length≤N→acc.length+ts.length+1≤1000000→Gi.l0 m l J e.kind e.text e.n e.at_ e.kids acc (ix l ts)=some (conv l eT ((RH acc e ts).then g))
 | 0,_,_,_,_,_,h,_,_=>by omega
 | m+1,acc,e,ts,hg,hs,hm,hN,ha=>by
  rw [Gi.l0,Btn acc e hg]
  simp only [BA,Fg]
  have ht:P4.f m e.kind e.text e.n e.at_ e.kids=some (decide (e.kind=6∨e.kind=7)):=by
   unfold P4.f
   rw [Vn,Vn]
   by_cases h6:e.kind=6
   ·simp [h6]
   ·simp [h6]
  rw [ht]
  simp only [Aj]
  by_cases hk:e.kind=6∨e.kind=7
  ·rw [if_pos hk,decide_eq_true hk]
   simp only [Bool.not_true,cond_false]
   rw [G0 (by simp only [AD,Be];omega)]
   simp only [Aj,got_eq m hl hg hs]
   by_cases hc:AN G5 ts=true
   ·rw [show AN (⟨#[44]⟩:ByteArray) ts=true from hc]
    simp only [Bool.not_true,cond_false,if_true]
    rw [then_assoc]
    obtain ⟨g1,g2,g3⟩:=hg.tail (AX hc)
    have gs:=g3.trans hs
    rw [Alj hl m g1 gs (by omega)]
    refine Do (S2 g1) fun x r hr hrs hn=>?_
    exact targets_eq J g N hJ m _ x r hr (hrs.trans gs) (by omega) (by omega) (by simp only [AM,AD,Be];omega)
   ·rw [show AN (⟨#[44]⟩:ByteArray) ts=false from by simpa using hc]
    simp only [Bool.not_false,cond_true,Bool.false_eq_true,if_false]
    exact hJ _ ts hg hs (by omega) (by simp only [AM,AD,Be];omega)
  ·rw [if_neg hk,decide_eq_false hk]
   rfl
omit ih in
theorem Bos (k:Nat) {ts:List Tk} (hg:Good ts) (hs:ts <:+ l) (hk:16 * ts.length+5≤k):Gi.g (PS.at k) k l (ix l ts)=some (conv l eT (UG ts)):=by
 unfold Gi.g
 rw [Alj hl k hg hs (by omega),Bti hg]
 have hle:=hs.length_le
 refine Do (S2 hg) fun e r hr hrs hn=>?_
 have h1:=hrs.trans hs
 simp only [eT,Fg,MR k hr h1,Aj,BA]
 have hq:(cond (!AN (⟨#[61]⟩:ByteArray) r) (some (!AN (⟨#[44]⟩:ByteArray) r)) (some false):Option Bool)=some (!(AN GU r || AN G5 r)):=by
  show (cond (!AN GU r) (some (!AN G5 r)) (some false):Option Bool)=_
  cases AN GU r <;> cases AN G5 r <;> rfl
 rw [hq]
 simp only [Aj]
 cases hb:(AN GU r || AN G5 r) with
 | true =>
  simp only [Bool.not_true,cond_false,if_true]
  refine targets_eq hl _ (fun l r=>(Ew GU r).then fun _ r=>(Ik r).then fun es r=>.ok (.mk 22 noB l.length e.at_ (l++es)) r) r.length (fun a s hs1 hsl hsn ha=>?_) k [] e r hr h1 (by omega) (Nat.le_refl _) (by simp only [Be];omega)
  rw [He k hl hs1 hsl]
  refine Do (Ep _ hs1) fun _ s2 hs2 Zz hn2=>?_
  simp only [eU]
  have h2:=Zz.trans hsl
  have hkey:16 * s2.length+5≤k:=by have:=hs2;omega
  rw [V0 hl k hs2 h2 hkey]
  cases hv:Ik s2 with
  | bad i=>rfl
  | ok es s3 =>
   have hln:=Ws hs2 hv
   show (apd 64 a es).bind _=_
   rw [G0 (by omega)]
   rfl
 | false =>
  simp only [Bool.not_false,cond_true,Bool.false_eq_true,if_false]
  by_cases h8:e.kind=8
  ·rw [if_pos h8,h8]
   rfl
  ·rw [if_neg h8,show (e.kind != 8)=true by rw [bne_iff_ne];exact h8]
   simp only [cond_true,Kp k hr h1,Aj]
   rfl
end
theorem aS {l:List Tk} (hl:l.length≤400000):∀ k,AS l k
 | 0=>by constructor <;> intros <;> omega
 | k+1=>by
  have ih:=aS hl k
  have h1:l.length≤1000000:=by omega
  exact ⟨fun c ts hg hs h=>Ajh h1 ih c hg hs (by omega),fun ts hf hg hs h=>A7j h1 ih hf hg hs (by omega),fun ts hg hs h=>Br0 h1 ih hg hs (by omega),fun ts hg hs h=>A2l h1 ih hg hs (by omega) hl,fun at_ ts hg hs h=>A6y h1 ih at_ hg hs (by omega),fun ts hg hs h=>Bos h1 k hg hs (by omega)⟩
theorem A6e {l:List Tk} (hl:l.length≤400000) (k:Nat) (c:Bool) {ts:List Tk} (hg:Good ts) (hs:ts <:+ l) (hk:16 * ts.length+8≤k):Dr.f k l (ix l ts) c=some (conv l eT (Hy c ts)):=Ajh (by omega) (aS hl k) c hg hs hk
mutual
def sz:Tree→Nat
 | .mk _ _ _ _ l=>At l+1
def At:List Tree→Nat
 | []=>0
 | x :: l=>sz x+At l
end
mutual
/-- Nodes begin in order. -/
def DP:Tree→Prop
 | .mk k _ _ a l=>Gb a l∧(k=20→l.Pairwise fun x y=>x.at_ < y.at_)
def Gb (a:Int):List Tree→Prop
 | []=>True
 | x :: l=>(a≤x.at_∧DP x)∧Gb a l
end
theorem WA {a:Int}:∀ {l:List Tree},Gb a l ↔ ∀ x ∈ l,a≤x.at_∧DP x
 | []=>by simp [Gb]
 | x :: l=>by simp [Gb,WA (l:=l)]
theorem D9:∀ (l m:List Tree),At (l++m)=At l+At m
 | [],m=>by simp [At]
 | x :: l,m=>by simp only [List.cons_append,At,D9 l m];omega
theorem DR:∀ (l:List Tree),l.length≤At l
 | []=>Nat.zero_le _
 | .mk _ _ _ _ _ :: l=>by
  have:=DR l
  simp only [AD,At,sz]
  omega
def Asc (ts:List Tk):Prop:=ts.Pairwise fun a b=>a.2.2.2 < b.2.2.2
def at0 (ts:List Tk):Int:=(hd ts).2.2.2
structure C_ (n:Nat) (ts r:List Tk):Prop where
 good:Good r
 CD:Asc r
 len:r.length+n≤ts.length
 le:at0 ts≤at0 r
 lt:r.length < ts.length→at0 ts < at0 r
theorem C_.refl {ts:List Tk} (hg:Good ts) (ha:Asc ts):C_ 0 ts ts:=⟨hg,ha,Nat.le_refl _,Int.le_refl _,fun h=>absurd h (Nat.lt_irrefl _)⟩
theorem C_.trans {n m:Nat} {ts r s:List Tk} (h:C_ n ts r) (h':C_ m r s):C_ (n+m) ts s:=by
 refine ⟨h'.good,h'.CD,?_,?_,fun hl=>?_⟩
 ·have:=h.len;have:=h'.len;omega
 ·have:=h.le;have:=h'.le;omega
 ·by_cases hr:r.length < ts.length
  ·have:=h.lt hr;have:=h'.le;omega
  ·have:=h'.lt (by omega);have:=h.le;omega
theorem C_.weak {n m:Nat} {ts r:List Tk} (h:C_ n ts r) (hm:m≤n):C_ m ts r:=⟨h.good,h.CD,by have:=h.len;omega,h.le,h.lt⟩
theorem C_.tail {n:Nat} {ts r:List Tk} (h:C_ n ts r) (h6:(hd r).1≠6):C_ (n+1) ts r.tail:=by
 obtain ⟨g1,g2,_⟩:=h.good.tail h6
 refine h.trans (m:=1) ⟨g1,?_,by omega,?_,?_⟩
 ·cases r with
  | nil=>exact h.CD
  | cons t r=>exact (List.pairwise_cons.1 h.CD).2
 all_goals
  cases r with
  | nil=>exact h.good.elim
  | cons t r =>
   cases r with
   | nil=>exact g1.elim
   | cons u r =>
    have:=(List.pairwise_cons.1 h.CD).1 u (Cy ..)
    simp only [at0,hd,List.tail_cons,List.headD_cons]
    omega
def R {α:Type} (x:Option (PV α)) (Q:α→List Tk→Prop):Prop:=∀ a r,x=some (.ok a r)→Q a r
section
variable {α β:Type} {x y:Option (PV α)} {f:α→List Tk→Option (PV β)} {Q Q1:α→List Tk→Prop} {Q2:β→List Tk→Prop}
theorem R.bind (h1:R x Q1) (h2:∀ a r,Q1 a r→R (f a r) Q2):R (PV.bind x f) Q2:=fun a r h=>by
 rcases bind_some h with ⟨i,_,he⟩ | ⟨a',r',hx,hf⟩
 ·cases he
 ·exact h2 a' r' (h1 a' r' hx) a r hf
theorem R.none:R (none:Option (PV α)) Q:=fun _ _ h=>by cases h
theorem R.bad {i:Int}:R (some (.bad i):Option (PV α)) Q:=fun _ _ h=>by cases h
theorem R.ok {a:α} {r:List Tk} (h:Q a r):R (some (.ok a r)) Q:=fun _ _ h'=>by cases h';exact h
theorem R.ite {c:Prop} [Decidable c] (h1:c→R x Q) (h2:¬ c→R y Q):R (if c then x else y) Q:=by
 by_cases h:c
 ·rw [if_pos h];exact h1 h
 ·rw [if_neg h];exact h2 h
theorem R.weak (h:R x Q1) (h2:∀ a r,Q1 a r→Q a r):R x Q:=fun a r h'=>h2 a r (h a r h')
end
structure TE (b:Nat) (ts:List Tk) (n:Tree) (r:List Tk):Prop where
 B7:C_ 1 ts r
 at_:n.at_=at0 ts
 ord:DP n
 size:sz n+b+4 * r.length≤4 * ts.length
structure LE (m:Nat) (lo:Int) (acc:List Tree) (ts:List Tk) (l:List Tree) (r:List Tk):Prop where
 B7:C_ m ts r
 ord:Gb lo l
 size:At l+4 * r.length≤At acc+4 * ts.length
theorem Gb.snoc {lo:Int} {l:List Tree} {x:Tree} (h:Gb lo l) (h1:lo≤x.at_) (h2:DP x):Gb lo (l++[x]):=by
 rw [WA] at h ⊢
 intro y hy
 rcases EG.1 hy with hy | hy
 ·exact h y hy
 ·obtain rfl:=DG.1 hy;exact ⟨h1,h2⟩
theorem Gb.app {lo:Int} {l m:List Tree} (h:Gb lo l) (h':Gb lo m):Gb lo (l++m):=by
 rw [WA] at *
 intro y hy
 exact (EG.1 hy).elim (h y) (h' y)
theorem Gb.weak {lo lo':Int} {l:List Tree} (h:Gb lo l) (h1:lo'≤lo):Gb lo' l:=by
 rw [WA] at *
 exact fun y hy=>⟨Int.le_trans h1 (h y hy).1,(h y hy).2⟩
theorem DP.mk {k:Int} {t:ByteArray} {n a:Int} {l:List Tree} (h:Gb a l) (hk:k≠20):DP (.mk k t n a l):=⟨h,fun e=>absurd e hk⟩
theorem one {lo:Int} {x:Tree} (h1:lo≤x.at_) (h2:DP x):Gb lo [x]:=⟨⟨h1,h2⟩,trivial⟩
theorem I6 {w:ByteArray} {n:Nat} {ts s:List Tk} (h:C_ n ts s):R (Gw w s) fun _ r=>C_ (n+1) ts r∧r.length+1=s.length:=by
 refine R.ite (fun hc=>R.ok ⟨h.tail (AX hc),?_⟩) fun _=>R.bad
 exact (h.good.tail (AX hc)).2.1
theorem Ry {k:Int} {ts:List Tk} (hk:k≠20) (hg:Good ts) (ha:Asc ts):R (Jg k ts) (TE 1 ts):=by
 refine R.ite (fun hc=>R.ok ?_) fun _=>R.bad
 have h6:(hd ts).1≠6:=by omega
 have:=(hg.tail h6).2.1
 exact ⟨((C_.refl hg ha).tail h6).weak (by omega),rfl,DP.mk trivial hk,by simp only [sz,At];omega⟩
theorem Ad5:∀ (f:Nat) (acc:List Tree) (lo:Int) (ts:List Tk),Good ts→Asc ts→lo≤at0 ts→Gb lo acc→R (GL f acc ts) (LE 0 lo acc ts)
 | 0,_,_,_,_,_,_,_=>R.none
 | f+1,acc,lo,ts,hg,ha,hlo,hacc=>by
  unfold GL
  refine R.ite (fun hc=>?_) fun _=>R.ok ⟨C_.refl hg ha,hacc,Nat.le_refl _⟩
  have ht:=(C_.refl hg ha).tail (AX hc)
  have:=ht.len;have:=ht.le
  refine R.bind (Ry (by decide) ht.good ht.CD) fun n r hn=>?_
  have:=hn.at_;have:=hn.size
  refine R.weak (Ad5 f _ lo r hn.B7.good hn.B7.CD (by have:=hn.B7.le;omega) (hacc.snoc (by omega) hn.ord)) fun l s hl=>?_
  have:=hl.size
  rw [D9] at this
  simp only [At] at this
  exact ⟨((ht.trans hn.B7).trans hl.B7).weak (by omega),hl.ord,by omega⟩
theorem Avv (f:Nat) {lo:Int} {ts:List Tk} (hg:Good ts) (ha:Asc ts) (hlo:lo≤at0 ts):R (Ng f ts) (LE 1 lo [] ts):=by
 refine R.bind (Ry (by decide) hg ha) fun n r hn=>?_
 have:=hn.at_;have:=hn.size
 refine R.weak (Ad5 f _ lo r hn.B7.good hn.B7.CD (by have:=hn.B7.le;omega) (one (by omega) hn.ord)) fun l s hl=>?_
 have:=hl.size
 simp only [At] at this ⊢
 exact ⟨(hn.B7.trans hl.B7).weak (by omega),hl.ord,by simp only [At];omega⟩
structure OE (f:Nat):Prop where
 exp:∀ least ts,0≤least→Good ts→Asc ts→R (DH f least ts) (TE 1 ts)
 loop:∀ least n ts,0≤least→Good ts→Asc ts→DP n→n.at_≤at0 ts→R (FQ f least n ts) fun n' r=>C_ 0 ts r∧n'.at_=n.at_∧DP n'∧sz n'+4 * r.length≤sz n+4 * ts.length
 operand:∀ ts,Good ts→Asc ts→R (FB f ts) (TE 1 ts)
 fields:∀ acc lo ts,Good ts→Asc ts→lo≤at0 ts→Gb lo acc→R (FA f acc ts) (LE 1 lo acc ts)
 field:∀ ts,Good ts→Asc ts→R (Gc f ts) (TE 0 ts)
 ET:∀ ts,Good ts→Asc ts→R (Fm f ts) (TE 1 ts)
 DV:∀ at_ n ts,Good ts→Asc ts→DP n→at_=n.at_→n.at_≤at0 ts→R (Fl f at_ n ts) fun n' r=>C_ 0 ts r∧n'.at_=n.at_∧DP n'∧sz n'+4 * r.length≤sz n+4 * ts.length
 D1:∀ lo ts,Good ts→Asc ts→lo≤at0 ts→R (Fk f ts) (LE 1 lo [] ts)
 GG:∀ acc lo ts,Good ts→Asc ts→lo≤at0 ts→Gb lo acc→R (FP f acc ts) (LE 0 lo acc ts)
theorem QU {k:Int} {t:ByteArray} {n:Int} {ts:List Tk} (hk:k≠20) (hg:Good ts) (ha:Asc ts) (h6:(hd ts).1≠6):TE 1 ts (.mk k t n (hd ts).2.2.2 []) ts.tail:=by
 have:=(hg.tail h6).2.1
 exact ⟨((C_.refl hg ha).tail h6).weak (by omega),rfl,DP.mk trivial hk,by simp only [sz,At];omega⟩
theorem rE:∀ f,OE f
 | 0=>by constructor <;> intros <;> (first | unfold DH | unfold FQ | unfold FB | unfold FA | unfold Gc | unfold Fm | unfold Fl | unfold Fk | unfold FP) <;> exact R.none
 | f+1=>by
  have ih:=rE f
  constructor
  ·intro least ts hl hg ha;unfold DH
   refine R.bind (ih.operand ts hg ha) fun n r hn=>?_
   have:=hn.at_;have:=hn.size;have:=hn.B7.le
   refine R.weak (ih.loop least n r hl hn.B7.good hn.B7.CD hn.ord (by omega)) fun n' s ⟨h1,h2,h3,h4⟩=>?_
   exact ⟨(hn.B7.trans h1).weak (by omega),by omega,h3,by omega⟩
  ·intro least n ts hl hg ha hn hat;unfold FQ
   refine R.ite (fun _=>R.ok ⟨C_.refl hg ha,rfl,hn,Nat.le_refl _⟩) fun hc=>?_
   have hb:=Aje ts
   have ht:=(C_.refl hg ha).tail (Qi (by omega))
   have:=ht.len;have:=ht.le
   refine R.bind (ih.exp _ _ (by split <;> omega) ht.good ht.CD) fun m r hm=>?_
   have:=hm.at_;have:=hm.size;have:=hm.B7.le
   refine R.weak (ih.loop least _ r hl hm.B7.good hm.B7.CD (DP.mk ⟨⟨Int.le_refl _,hn⟩,⟨by omega,hm.ord⟩,trivial⟩ (by decide)) (show n.at_≤_ by omega)) fun n' s ⟨h1,h2,h3,h4⟩=>?_
   simp only [sz,At] at h4
   exact ⟨((ht.trans hm.B7).trans h1).weak (by omega),h2,h3,by omega⟩
  ·intro ts hg ha;unfold FB
   refine R.ite (fun h=>R.ok (QU (by decide) hg ha (by omega))) fun _=>?_
   refine R.ite (fun h=>R.ok (QU (by decide) hg ha (by omega))) fun _=>?_
   refine R.ite (fun h=>R.ok (QU (by decide) hg ha (AX h))) fun _=>?_
   refine R.ite (fun h=>R.ok (QU (by decide) hg ha (AX h))) fun _=>?_
   refine R.ite (fun h=>R.ok (QU (by decide) hg ha (AX h))) fun _=>?_
   refine R.ite (fun h=>?_) fun _=>?_
   ·have h6:(hd ts).1≠6:=by
     simp only [Bool.or_eq_true] at h
     rcases h with (h | h) | h <;> exact AX h
    have ht:=(C_.refl hg ha).tail h6
    have:=ht.len;have:=ht.le
    refine R.bind (ih.exp _ _ (by decide) ht.good ht.CD) fun m r hm=>R.ok ?_
    have:=hm.at_;have:=hm.size;have:=hm.B7.le
    exact ⟨(ht.trans hm.B7).weak (by omega),rfl,DP.mk (one (show at0 ts≤_ by omega) hm.ord) (by decide),by simp only [sz,At];omega⟩
   refine R.ite (fun h=>?_) fun _=>ih.ET ts hg ha
   have ht:=(C_.refl hg ha).tail (AX h)
   have:=ht.len;have:=ht.le
   refine R.bind (ih.fields [] (at0 ts) _ ht.good ht.CD (by omega) trivial) fun l r hl=>R.ok ?_
   have h5:=hl.size
   simp only [At] at h5
   exact ⟨(ht.trans hl.B7).weak (by omega),rfl,DP.mk hl.ord (by decide),by simp only [sz];omega⟩
  ·intro acc lo ts hg ha hlo hacc;unfold FA
   refine R.ite (fun h=>?_) fun _=>?_
   ·have ht:=(C_.refl hg ha).tail (AX h)
    have:=ht.len
    exact R.ok ⟨ht.weak (by omega),hacc,by omega⟩
   refine R.bind (ih.field ts hg ha) fun x r hx=>?_
   have:=hx.at_;have:=hx.size;have:=hx.B7.le
   have hacc':=hacc.snoc (x:=x) (by omega) hx.ord
   refine R.ite (fun h=>?_) fun _=>?_
   ·have ht:=hx.B7.tail (AX h)
    have:=ht.len;have:=ht.le
    have:=(hx.B7.good.tail (AX h)).2.1
    refine R.weak (ih.fields _ lo _ ht.good ht.CD (by omega) hacc') fun l s hl=>?_
    have h5:=hl.size
    simp only [D9,At] at h5
    exact ⟨(ht.trans hl.B7).weak (by omega),hl.ord,by omega⟩
   refine R.ite (fun h=>?_) fun _=>?_
   ·have ht:=hx.B7.tail (AX h)
    have:=ht.len;have:=ht.le
    have:=(hx.B7.good.tail (AX h)).2.1
    refine R.weak (ih.fields _ lo _ ht.good ht.CD (by omega) hacc') fun l s hl=>?_
    have h5:=hl.size
    simp only [D9,At] at h5
    exact ⟨(ht.trans hl.B7).weak (by omega),hl.ord,by omega⟩
   refine R.bind (I6 hx.B7) fun _ s ⟨hs,hs2⟩=>R.ok ?_
   exact ⟨hs.weak (by omega),hacc',by simp only [D9,At];omega⟩
  ·intro ts hg ha;unfold Gc
   refine R.ite (fun h=>?_) fun _=>?_
   ·have ht:=(C_.refl hg ha).tail (AX h)
    have:=ht.len;have:=ht.le
    refine R.bind (ih.exp _ _ (by decide) ht.good ht.CD) fun k r hk=>?_
    have:=hk.at_;have:=hk.size;have:=hk.B7.le
    refine R.bind (I6 (ht.trans hk.B7)) fun _ r2 ⟨h2,h2'⟩=>?_
    refine R.bind (I6 h2) fun _ r3 ⟨h3,h3'⟩=>?_
    have:=h3.le
    refine R.bind (ih.exp _ _ (by decide) h3.good h3.CD) fun v r4 hv=>R.ok ?_
    have:=hv.at_;have:=hv.size
    exact ⟨(h3.trans hv.B7).weak (by omega),rfl,DP.mk ⟨⟨show at0 ts≤_ by omega,hk.ord⟩,⟨show at0 ts≤_ by omega,hv.ord⟩,trivial⟩ (by decide),by simp only [sz,At];omega⟩
   refine R.ite (fun h=>?_) fun _=>?_
   ·obtain ⟨h1,h2,_⟩:=h
    have ht:=((C_.refl hg ha).tail (by omega)).tail (by omega)
    have:=ht.len;have:=ht.le
    refine R.bind (ih.exp _ _ (by decide) ht.good ht.CD) fun v r hv=>R.ok ?_
    have:=hv.at_;have:=hv.size
    exact ⟨(ht.trans hv.B7).weak (by omega),rfl,DP.mk ⟨⟨Int.le_refl _,DP.mk trivial (by decide)⟩,⟨show at0 ts≤_ by omega,hv.ord⟩,trivial⟩ (by decide),by simp only [sz,At];omega⟩
   ·refine R.bind (ih.exp _ _ (by decide) hg ha) fun v r hv=>R.ok ?_
    have:=hv.at_;have:=hv.size
    exact ⟨hv.B7,rfl,DP.mk (one (show at0 ts≤_ by omega) hv.ord) (by decide),by simp only [sz,At];omega⟩
  ·intro ts hg ha;unfold Fm
   refine R.ite (fun h=>?_) fun _=>?_
   ·have ht:=(C_.refl hg ha).tail (AX h)
    have:=ht.len;have:=ht.le
    refine R.bind (ih.exp _ _ (by decide) ht.good ht.CD) fun e r he=>?_
    have:=he.at_;have:=he.size
    refine R.bind (I6 (ht.trans he.B7)) fun _ r2 ⟨h2,h2'⟩=>?_
    have:=h2.le
    refine R.weak (ih.DV _ _ r2 h2.good h2.CD (DP.mk (one (show at0 ts≤_ by omega) he.ord) (by decide)) rfl (show at0 ts≤_ by omega)) fun n' s ⟨h3,h4,h5,h6⟩=>?_
    simp only [sz,At] at h6
    exact ⟨(h2.trans h3).weak (by omega),h4,h5,by omega⟩
   ·refine R.bind (Ry (by decide) hg ha) fun n r hn=>?_
    have:=hn.at_;have:=hn.size;have:=hn.B7.le
    refine R.weak (ih.DV _ _ r hn.B7.good hn.B7.CD hn.ord hn.at_.symm (by omega)) fun n' s ⟨h3,h4,h5,h6⟩=>?_
    exact ⟨(hn.B7.trans h3).weak (by omega),by omega,h5,by omega⟩
  ·intro at_ n ts hg ha hn he hat;unfold Fl
   subst he
   refine R.ite (fun h=>?_) fun _=>?_
   ·have ht:=(C_.refl hg ha).tail (AX h)
    have:=ht.len;have:=ht.le
    refine R.bind (ih.exp _ _ (by decide) ht.good ht.CD) fun e r he=>?_
    have:=he.at_;have:=he.size
    refine R.bind (I6 (ht.trans he.B7)) fun _ r2 ⟨h2,h2'⟩=>?_
    have:=h2.le
    refine R.weak (ih.DV _ _ r2 h2.good h2.CD (DP.mk ⟨⟨Int.le_refl _,hn⟩,⟨by omega,he.ord⟩,trivial⟩ (by decide)) rfl (show n.at_≤_ by omega)) fun n' s ⟨h3,h4,h5,h6⟩=>?_
    simp only [sz,At] at h6
    exact ⟨(h2.trans h3).weak (by omega),h4,h5,by omega⟩
   refine R.ite (fun h=>?_) fun _=>?_
   ·have ht:=(C_.refl hg ha).tail (AX h)
    have:=ht.len;have:=ht.le
    refine R.bind (Ry (by decide) ht.good ht.CD) fun e r he=>?_
    have:=he.at_;have:=he.size;have:=he.B7.le
    refine R.weak (ih.DV _ _ r he.B7.good he.B7.CD (DP.mk ⟨⟨Int.le_refl _,hn⟩,⟨by omega,he.ord⟩,trivial⟩ (by decide)) rfl (show n.at_≤_ by omega)) fun n' s ⟨h3,h4,h5,h6⟩=>?_
    simp only [sz,At] at h6
    exact ⟨((ht.trans he.B7).trans h3).weak (by omega),h4,h5,by omega⟩
   refine R.ite (fun h=>?_) fun _=>R.ok ⟨C_.refl hg ha,rfl,hn,Nat.le_refl _⟩
   have ht:=(C_.refl hg ha).tail (AX h)
   have:=ht.len;have:=ht.le
   refine R.bind (Q1:=LE 0 n.at_ [] ts.tail) ?_ fun l r hl=>?_
   ·refine R.ite (fun _=>R.ok ⟨C_.refl ht.good ht.CD,trivial,Nat.le_refl _⟩) fun _=>?_
    exact R.weak (ih.D1 n.at_ _ ht.good ht.CD (by omega)) fun l r hl=>⟨hl.B7.weak (by omega),hl.ord,hl.size⟩
   refine R.bind (I6 (ht.trans hl.B7)) fun _ r2 ⟨h2,h2'⟩=>?_
   have:=h2.le
   have h7:=hl.size
   simp only [At] at h7
   refine R.weak (ih.DV _ _ r2 h2.good h2.CD (DP.mk ⟨⟨Int.le_refl _,hn⟩,hl.ord⟩ (by decide)) rfl (show n.at_≤_ by omega)) fun n' s ⟨h3,h4,h5,h6⟩=>?_
   simp only [sz,At] at h6
   exact ⟨(h2.trans h3).weak (by omega),h4,h5,by omega⟩
  ·intro lo ts hg ha hlo;unfold Fk
   refine R.bind (ih.exp _ _ (by decide) hg ha) fun e r he=>?_
   have:=he.at_;have:=he.size;have:=he.B7.le
   refine R.weak (ih.GG _ lo r he.B7.good he.B7.CD (by omega) (one (by omega) he.ord)) fun l s hl=>?_
   have h7:=hl.size
   simp only [At] at h7
   exact ⟨(he.B7.trans hl.B7).weak (by omega),hl.ord,by simp only [At];omega⟩
  ·intro acc lo ts hg ha hlo hacc;unfold FP
   refine R.ite (fun h=>?_) fun _=>R.ok ⟨C_.refl hg ha,hacc,Nat.le_refl _⟩
   have ht:=(C_.refl hg ha).tail (AX h)
   have:=ht.len;have:=ht.le
   refine R.bind (ih.exp _ _ (by decide) ht.good ht.CD) fun e r he=>?_
   have:=he.at_;have:=he.size;have:=he.B7.le
   refine R.weak (ih.GG _ lo r he.B7.good he.B7.CD (by omega) (hacc.snoc (by omega) he.ord)) fun l s hl=>?_
   have h7:=hl.size
   simp only [D9,At] at h7
   exact ⟨((ht.trans he.B7).trans hl.B7).weak (by omega),hl.ord,by omega⟩
structure TB (ts:List Tk) (n:Tree) (r:List Tk):Prop where
 B7:C_ 0 ts r
 at_:n.at_=at0 ts
 ord:DP n
 size:sz n+4 * r.length≤4 * ts.length+1
 kind:n.kind=20
structure OS (f:Nat):Prop where
 block:∀ c ts,Good ts→Asc ts→R (Fc f c ts) (TB ts)
 EI:∀ c at_ acc ts,Good ts→Asc ts→at_≤at0 ts→Gb at_ acc→(acc.Pairwise fun x y=>x.at_ < y.at_)→(∀ x ∈ acc,x.at_ < at0 ts)→R (Fj f c at_ acc ts) fun n r=>C_ 0 ts r∧n.at_=at_∧DP n∧sz n+4 * r.length≤At acc+4 * ts.length+1∧n.kind=20
 function:∀ ts,(hd ts).1≠6→Good ts→Asc ts→R (Ge f ts) (TE 0 ts)
 body:∀ ts,Good ts→Asc ts→R (Fx f ts) fun b r=>C_ 2 ts r∧at0 ts≤b.at_∧DP b∧sz b+4 * r.length+7≤4 * ts.length
 stat:∀ ts,Good ts→Asc ts→R (Gg f ts) (TE 0 ts)
 branches:∀ acc lo ts,Good ts→Asc ts→lo≤at0 ts→Gb lo acc→R (FO f acc ts) (LE 1 lo acc ts)
 for_:∀ at_ ts,Good ts→Asc ts→at_≤at0 ts→R (Gd f at_ ts) fun n r=>C_ 1 ts r∧n.at_=at_∧DP n∧sz n+4 * r.length≤4 * ts.length
 plain:∀ ts,Good ts→Asc ts→R (Gf f ts) (TE 0 ts)
 targets:∀ acc lo e ts,Good ts→Asc ts→lo≤at0 ts→Gb lo acc→lo≤e.at_→DP e→R (FR f acc e ts) fun l r=>C_ 0 ts r∧Gb lo l∧At l+4 * r.length≤At acc+sz e+4 * ts.length
theorem Avd {acc:List Tree} {x:Tree} (h:acc.Pairwise fun x y=>x.at_ < y.at_) (h2:∀ y ∈ acc,y.at_ < x.at_):(acc++[x]).Pairwise fun x y=>x.at_ < y.at_:=by
 refine List.pairwise_append.2 ⟨h,List.pairwise_singleton ..,fun y hy z hz=>?_⟩
 obtain rfl:=DG.1 hz
 exact h2 y hy
theorem rS:∀ f,OS f
 | 0=>by constructor <;> intros <;> (first | unfold Fc | unfold Fj | unfold Ge | unfold Fx | unfold Gg | unfold FO | unfold Gd | unfold Gf | unfold FR) <;> exact R.none
 | f+1=>by
  have ih:=rS f
  have ie:=rE f
  constructor
  ·intro c ts hg ha;unfold Fc
   refine R.weak (ih.EI c _ [] ts hg ha (Int.le_refl _) trivial List.Pairwise.nil (fun _ h=>by cases h)) fun n r ⟨h1,h2,h3,h4,h5⟩=>?_
   simp only [At] at h4
   exact ⟨h1,h2,h3,by omega,h5⟩
  ·intro c at_ acc ts hg ha hat hacc hp hlt;unfold Fj
   have next:∀ x r,TE 0 ts x r→R (Fj f c at_ (acc++[x]) r) fun n r=>C_ 0 ts r∧n.at_=at_∧DP n∧sz n+4 * r.length≤At acc+4 * ts.length+1∧n.kind=20:=fun x r hx=>by
    have:=hx.at_;have:=hx.size;have:=hx.B7.len
    have h9:=hx.B7.lt (by omega)
    refine R.weak (ih.EI c at_ (acc++[x]) r hx.B7.good hx.B7.CD (by omega) (hacc.snoc (by omega) hx.ord) (Avd hp fun y hy=>by have:=hlt y hy;omega) fun y hy=>?_) fun n s ⟨h1,h2,h3,h4,h5⟩=>?_
    ·rcases EG.1 hy with hy | hy
     ·have:=hlt y hy;omega
     ·obtain rfl:=DG.1 hy;omega
    ·simp only [D9,At] at h4
     exact ⟨(hx.B7.trans h1).weak (by omega),h2,h3,by omega,h5⟩
   refine R.ite (fun h=>?_) fun _=>?_
   ·have ht:=(C_.refl hg ha).tail (AX h)
    have:=ht.len;have:=ht.le
    refine R.weak (ih.EI c at_ acc _ ht.good ht.CD (by omega) hacc hp fun x hx=>by have:=hlt x hx;omega) fun n s ⟨h1,h2,h3,h4,h5⟩=>?_
    exact ⟨(ht.trans h1).weak (by omega),h2,h3,by omega,h5⟩
   refine R.ite (fun h=>?_) fun _=>?_
   ·have ht:=(C_.refl hg ha).tail (AX h)
    have:=ht.len;have:=ht.le
    refine R.bind (Q1:=LE 0 (at0 ts) [] ts.tail) ?_ fun l r hl=>?_
    ·refine R.ite (fun _=>R.ok ⟨C_.refl ht.good ht.CD,trivial,Nat.le_refl _⟩) fun _=>?_
     exact R.weak (ie.D1 (at0 ts) _ ht.good ht.CD (by omega)) fun l r hl=>⟨hl.B7.weak (by omega),hl.ord,hl.size⟩
    have h7:=hl.size
    simp only [At] at h7
    have hr:C_ 0 ts (if AN J0 r=true then r.tail else r)∧(if AN J0 r=true then r.tail else r).length≤r.length:=by
     split
     ·rename_i hc
      have:=(hl.B7.good.tail (AX hc)).2.1
      exact ⟨((ht.trans hl.B7).tail (AX hc)).weak (by omega),by omega⟩
     ·exact ⟨(ht.trans hl.B7).weak (by omega),Nat.le_refl _⟩
    have:=hr.2
    refine R.ok ⟨hr.1,rfl,⟨hacc.snoc (show at_≤at0 ts by omega) (DP.mk hl.ord (by decide)),fun _=>Avd hp fun y hy=>hlt y hy⟩,?_,rfl⟩
    simp only [sz,At,D9]
    omega
   refine R.ite (fun h=>?_) fun _=>?_
   ·simp only [Bool.and_eq_true] at h
    exact R.bind (ih.function ts (AX h.2) hg ha) next
   refine R.ite (fun h=>?_) fun _=>R.bind (ih.stat ts hg ha) next
   refine R.ok ⟨C_.refl hg ha,rfl,⟨hacc,fun _=>hp⟩,?_,rfl⟩
   simp only [sz];omega
  ·intro ts h6 hg ha;unfold Ge
   have ht:=(C_.refl hg ha).tail h6
   have:=ht.len;have:=ht.le
   refine R.bind (Ry (by decide) ht.good ht.CD) fun nm r hn=>?_
   have:=hn.size
   have hnp:1≤sz nm:=by cases nm;simp only [sz];omega
   refine R.bind (I6 (ht.trans hn.B7)) fun _ r2 ⟨h2,h2'⟩=>?_
   have:=h2.le
   refine R.bind (Q1:=LE 0 (at0 ts) [] r2) ?_ fun ps r3 hl=>?_
   ·refine R.ite (fun _=>R.ok ⟨C_.refl h2.good h2.CD,trivial,Nat.le_refl _⟩) fun _=>?_
    exact R.weak (Avv f h2.good h2.CD (by omega)) fun l r hl=>⟨hl.B7.weak (by omega),hl.ord,hl.size⟩
   refine R.bind (I6 (h2.trans hl.B7)) fun _ r4 ⟨h4,h4'⟩=>?_
   have h7:=hl.size
   simp only [At] at h7
   have:=h4.le
   refine R.bind (ih.block false r4 h4.good h4.CD) fun b r5 hb=>?_
   have:=hb.at_;have:=hb.size
   refine R.bind (I6 (h4.trans hb.B7)) fun _ r6 ⟨h8,h8'⟩=>R.ok ?_
   refine ⟨h8.weak (by omega),rfl,DP.mk (hl.ord.snoc (show at0 ts≤_ by omega) hb.ord) (by decide),?_⟩
   simp only [sz,At,D9]
   omega
  ·intro ts hg ha;unfold Fx
   refine R.bind (I6 (C_.refl hg ha)) fun _ r ⟨h1,h1'⟩=>?_
   have:=h1.le
   refine R.bind (ih.block false r h1.good h1.CD) fun b r2 hb=>?_
   have:=hb.at_;have:=hb.size
   refine R.bind (I6 (h1.trans hb.B7)) fun _ r3 ⟨h3,h3'⟩=>R.ok ?_
   exact ⟨h3.weak (by omega),by omega,hb.ord,by omega⟩
  ·intro ts hg ha;unfold Gg
   refine R.ite (fun h=>?_) fun _=>?_
   ·refine R.bind (ih.body ts hg ha) fun b r ⟨h1,h2,h3,h4⟩=>R.ok ?_
    exact ⟨h1.weak (by omega),rfl,DP.mk (one (show at0 ts≤_ by omega) h3) (by decide),by simp only [sz,At];omega⟩
   refine R.ite (fun h=>?_) fun _=>?_
   ·have ht:=(C_.refl hg ha).tail (AX h)
    have:=ht.len;have:=ht.le
    refine R.bind (ie.exp _ _ (by decide) ht.good ht.CD) fun e r he=>?_
    have:=he.at_;have:=he.size;have:=he.B7.le
    refine R.bind (ih.body r he.B7.good he.B7.CD) fun b r ⟨h1,h2,h3,h4⟩=>R.ok ?_
    exact ⟨((ht.trans he.B7).trans h1).weak (by omega),rfl,DP.mk ⟨⟨show at0 ts≤_ by omega,he.ord⟩,⟨show at0 ts≤_ by omega,h3⟩,trivial⟩ (by decide),by simp only [sz,At];omega⟩
   refine R.ite (fun h=>?_) fun _=>?_
   ·have ht:=(C_.refl hg ha).tail (AX h)
    have:=ht.len;have:=ht.le
    refine R.bind (ih.branches [] (at0 ts) _ ht.good ht.CD (by omega) trivial) fun l r hl=>R.ok ?_
    have h7:=hl.size
    simp only [At] at h7
    exact ⟨(ht.trans hl.B7).weak (by omega),rfl,DP.mk hl.ord (by decide),by simp only [sz];omega⟩
   refine R.ite (fun h=>?_) fun _=>?_
   ·have ht:=(C_.refl hg ha).tail (AX h)
    have:=ht.len;have:=ht.le
    refine R.weak (ih.for_ (at0 ts) _ ht.good ht.CD (by omega)) fun n r ⟨h1,h2,h3,h4⟩=>?_
    exact ⟨(ht.trans h1).weak (by omega),h2,h3,by omega⟩
   refine R.ite (fun h=>?_) fun _=>?_
   ·have ht:=(C_.refl hg ha).tail (AX h)
    have:=ht.len;have:=ht.le
    refine R.bind (Avv f ht.good ht.CD (lo:=at0 ts) (by omega)) fun l r hl=>?_
    have:=hl.B7.le
    have h7:=hl.size
    simp only [At] at h7
    refine R.bind (Q1:=LE 0 (at0 ts) [] r) ?_ fun es r2 he=>R.ok ?_
    ·refine R.ite (fun hc=>?_) fun _=>R.ok ⟨C_.refl hl.B7.good hl.B7.CD,trivial,Nat.le_refl _⟩
     have ht2:=(C_.refl hl.B7.good hl.B7.CD).tail (AX hc)
     have:=ht2.len;have:=ht2.le
     exact R.weak (ie.D1 (at0 ts) _ ht2.good ht2.CD (by omega)) fun l r hl=>⟨(ht2.trans hl.B7).weak (by omega),hl.ord,by have:=hl.size;omega⟩
    have h8:=he.size
    simp only [At] at h8
    exact ⟨((ht.trans hl.B7).trans he.B7).weak (by omega),rfl,DP.mk (hl.ord.app he.ord) (by decide),by simp only [sz,D9];omega⟩
   refine R.ite (fun h=>?_) fun _=>ih.plain ts hg ha
   have:=QU (k:=29) (t:=noB) (n:=0) (by decide) hg ha (AX h)
   exact R.ok ⟨this.B7,this.at_,this.ord,by have:=this.size;omega⟩
  ·intro acc lo ts hg ha hlo hacc;unfold FO
   refine R.bind (ie.exp _ _ (by decide) hg ha) fun e r he=>?_
   have:=he.at_;have:=he.size;have:=he.B7.le
   refine R.bind (I6 he.B7) fun _ r2 ⟨h2,h2'⟩=>?_
   have:=h2.le
   refine R.bind (ih.block false r2 h2.good h2.CD) fun b r3 hb=>?_
   have:=hb.at_;have:=hb.size;have:=hb.B7.le
   have h3:=h2.trans hb.B7
   have hacc':=(hacc.snoc (x:=e) (by omega) he.ord).snoc (x:=b) (by omega) hb.ord
   refine R.ite (fun h=>?_) fun _=>?_
   ·have ht:=h3.tail (AX h)
    have:=ht.le
    have:=(h3.good.tail (AX h)).2.1
    refine R.weak (ih.branches _ lo _ ht.good ht.CD (by omega) hacc') fun l s hl=>?_
    have h7:=hl.size
    simp only [D9,At] at h7
    exact ⟨(ht.trans hl.B7).weak (by omega),hl.ord,by omega⟩
   refine R.ite (fun h=>?_) fun _=>?_
   ·have ht:=h3.tail (AX h)
    have:=ht.le
    have:=(h3.good.tail (AX h)).2.1
    refine R.bind (ih.block false _ ht.good ht.CD) fun c r4 hc=>?_
    have:=hc.at_;have:=hc.size
    refine R.bind (I6 (ht.trans hc.B7)) fun _ r5 ⟨h5,h5'⟩=>R.ok ?_
    exact ⟨h5.weak (by omega),hacc'.snoc (by omega) hc.ord,by simp only [D9,At];omega⟩
   ·refine R.bind (I6 h3) fun _ r5 ⟨h5,h5'⟩=>R.ok ?_
    exact ⟨h5.weak (by omega),hacc',by simp only [D9,At];omega⟩
  ·intro at_ ts hg ha hat;unfold Gd
   refine R.bind (Ry (by decide) hg ha) fun n r hn=>?_
   have:=hn.at_;have:=hn.size;have:=hn.B7.le
   refine R.ite (fun h=>?_) fun _=>?_
   ·have ht:=hn.B7.tail (AX h)
    have:=ht.le
    have:=(hn.B7.good.tail (AX h)).2.1
    refine R.bind (ie.exp _ _ (by decide) ht.good ht.CD) fun a r2 h2=>?_
    have:=h2.at_;have:=h2.size
    refine R.bind (I6 (ht.trans h2.B7)) fun _ r3 ⟨h3,h3'⟩=>?_
    have:=h3.le
    refine R.bind (ie.exp _ _ (by decide) h3.good h3.CD) fun b r4 h4=>?_
    have:=h4.at_;have:=h4.size;have:=h4.B7.le
    refine R.bind (Q1:=LE 0 at_ [] r4) ?_ fun cs r5 h5=>?_
    ·refine R.ite (fun hc=>?_) fun _=>R.ok ⟨C_.refl h4.B7.good h4.B7.CD,trivial,Nat.le_refl _⟩
     have ht2:=(C_.refl h4.B7.good h4.B7.CD).tail (AX hc)
     have:=ht2.len;have:=ht2.le
     refine R.bind (ie.exp _ _ (by decide) ht2.good ht2.CD) fun c s hc=>R.ok ?_
     have:=hc.at_;have:=hc.size
     exact ⟨(ht2.trans hc.B7).weak (by omega),one (by omega) hc.ord,by simp only [At];omega⟩
    have h7:=h5.size
    simp only [At] at h7
    have:=h5.B7.le
    refine R.bind (ih.body r5 h5.B7.good h5.B7.CD) fun bd r6 ⟨h8,h9,h10,h11⟩=>R.ok ?_
    refine ⟨(((h3.trans h4.B7).trans h5.B7).trans h8).weak (by omega),rfl,DP.mk ?_ (by decide),by simp only [sz,D9,At];omega⟩
    exact ((((one (x:=n) (by omega) hn.ord).snoc (x:=a) (by omega) h2.ord).snoc (x:=b) (by omega) h4.ord).app h5.ord).snoc (x:=bd) (by omega) h10
   refine R.bind (Ad5 f [n] at_ r hn.B7.good hn.B7.CD (by omega) (one (by omega) hn.ord)) fun l r2 hl=>?_
   have h7:=hl.size
   simp only [At] at h7
   refine R.bind (I6 (hn.B7.trans hl.B7)) fun _ r3 ⟨h3,h3'⟩=>?_
   have:=h3.le
   refine R.bind (ie.D1 at_ r3 h3.good h3.CD (by omega)) fun es r4 h4=>?_
   have h8:=h4.size
   simp only [At] at h8
   have:=h4.B7.le
   refine R.bind (ih.body r4 h4.B7.good h4.B7.CD) fun bd r6 ⟨h9,h10,h11,h12⟩=>R.ok ?_
   exact ⟨((h3.trans h4.B7).trans h9).weak (by omega),rfl,DP.mk ((hl.ord.app h4.ord).snoc (x:=bd) (by omega) h11) (by decide),by simp only [sz,D9,At];omega⟩
  ·intro ts hg ha;unfold Gf
   refine R.bind (ie.ET ts hg ha) fun e r he=>?_
   have:=he.at_;have:=he.size;have:=he.B7.le
   refine R.ite (fun h=>?_) fun _=>?_
   ·refine R.bind (ih.targets [] (at0 ts) e r he.B7.good he.B7.CD (by omega) trivial (by omega) he.ord) fun l r2 ⟨h1,h2,h3⟩=>?_
    simp only [At] at h3
    refine R.bind (I6 (he.B7.trans h1)) fun _ r3 ⟨h4,h4'⟩=>?_
    have:=h4.le
    refine R.bind (ie.D1 (at0 ts) r3 h4.good h4.CD (by omega)) fun es r4 h5=>R.ok ?_
    have h6:=h5.size
    simp only [At] at h6
    exact ⟨(h4.trans h5.B7).weak (by omega),he.at_,DP.mk ((h2.app h5.ord).weak (by omega)) (by decide),by simp only [sz,D9];omega⟩
   refine R.ite (fun h=>R.ok ?_) fun _=>R.bad
   exact ⟨he.B7,he.at_,DP.mk (one (Int.le_refl _) he.ord) (by decide),by simp only [sz,At];omega⟩
  ·intro acc lo e ts hg ha hlo hacc he0 he;unfold FR
   refine R.ite (fun h=>?_) fun _=>R.bad
   have hacc':=hacc.snoc he0 he
   refine R.ite (fun h=>?_) fun _=>R.ok ⟨C_.refl hg ha,hacc',by simp only [D9,At];omega⟩
   have ht:=(C_.refl hg ha).tail (AX h)
   have:=ht.len;have:=ht.le
   refine R.bind (ie.ET _ ht.good ht.CD) fun e' r hx=>?_
   have:=hx.at_;have:=hx.size;have:=hx.B7.le
   refine R.weak (ih.targets _ lo e' r hx.B7.good hx.B7.CD (by omega) hacc' (by omega) hx.ord) fun l s ⟨h1,h2,h3⟩=>?_
   simp only [D9,At] at h3
   exact ⟨((ht.trans hx.B7).trans h1).weak (by omega),h2,by omega⟩
theorem Bsz {c:Bool} {ts r:List Tk} {b:Tree} (hg:Good ts) (ha:Asc ts) (h:Hy c ts=.ok b r):TB ts b r :=
 (rS _).block c ts hg ha b r ((P0 c hg (by unfold fu;omega:_≤fu ts)).trans (congrArg some h))
end
section
namespace Lx
theorem Ael (f:Nat) (l:Bs) (at_:Nat) (acc:List Tok):Ij (f+1) l at_ acc =
  match ES (l.drop (C1 Dv l)) with
  | .done=>.inr (acc++[⟨6,[],0,at_+C1 Dv l⟩])
  | .skip n=>Ij f ((l.drop (C1 Dv l)).drop n) (at_+C1 Dv l+n) acc
  | .tok kind text n len=>Ij f ((l.drop (C1 Dv l)).drop len) (at_+C1 Dv l+len) (acc++[⟨kind,text,n,at_+C1 Dv l⟩])
  | .bad c r=>.inl (c,(at_+C1 Dv l+r:Nat)):=rfl
end Lx
namespace Lx
theorem N_ (l:Bs):(∀ n,ES l=.skip n→1≤n∧n≤l.length)∧(∀ k t n len,ES l=.tok k t n len→1≤len∧len≤l.length) :=
 ⟨fun n h=>Aw7 l n h,fun k t n len h=>Aw8 l k t n len h⟩
theorem Xe:∀ (f g:Nat) (l:Bs) (at_:Nat) (acc:List Tok),l.length < f→l.length < g→Ij f l at_ acc=Ij g l at_ acc
 | 0,_,l,_,_,h,_=>by omega
 | _,0,l,_,_,_,h=>by omega
 | f+1,g+1,l,at_,acc,h,h'=>by
  rw [Ael,Ael]
  have hd:(l.drop (C1 Dv l)).length≤l.length:=by rw [Cv];omega
  cases hst:ES (l.drop (C1 Dv l)) with
  | done=>rfl
  | bad c r=>rfl
  | skip n =>
   have:=(N_ _).1 n hst
   exact Xe f g _ _ _ (by rw [Cv];omega) (by rw [Cv];omega)
  | tok k t n len =>
   have:=(N_ _).2 k t n len hst
   exact Xe f g _ _ _ (by rw [Cv];omega) (by rw [Cv];omega)
def Un (l:Bs) (at_:Nat) (acc:List Tok):(Int×Int) ⊕ List Tok:=Ij (l.length+1) l at_ acc
theorem Awj (l:Bs) (at_:Nat) (acc:List Tok):Un l at_ acc =
  match ES (l.drop (C1 Dv l)) with
  | .done=>.inr (acc++[⟨6,[],0,at_+C1 Dv l⟩])
  | .skip n=>Un ((l.drop (C1 Dv l)).drop n) (at_+C1 Dv l+n) acc
  | .tok kind text n len=>Un ((l.drop (C1 Dv l)).drop len) (at_+C1 Dv l+len) (acc++[⟨kind,text,n,at_+C1 Dv l⟩])
  | .bad c r=>.inl (c,(at_+C1 Dv l+r:Nat)):=by
 unfold Un
 rw [Ael]
 have hd:(l.drop (C1 Dv l)).length≤l.length:=by rw [Cv];omega
 cases hst:ES (l.drop (C1 Dv l)) with
 | done=>rfl
 | bad c r=>rfl
 | skip n =>
  have:=(N_ _).1 n hst
  exact Xe _ _ _ _ _ (by rw [Cv];omega) (by omega)
 | tok k t n len =>
  have:=(N_ _).2 k t n len hst
  exact Xe _ _ _ _ _ (by rw [Cv];omega) (by omega)
end Lx
end
section
open Go Go.RowKit Lx
def Ov:Nat→Nat→List Tok→Prop
 | _,_,[]=>False
 | lo,hi,x :: t=>lo≤x.at_∧x.at_≤hi∧((x.kind=6∧t=[])∨(x.kind≠6∧Ov (x.at_+1) hi t))
theorem Ov.weak:∀ {t:List Tok} {lo lo' hi:Nat},lo'≤lo→Ov lo hi t→Ov lo' hi t
 | [],_,_,_,_,h=>h
 | _ :: _,_,_,_,hl,⟨h1,h2,h3⟩=>⟨Nat.le_trans hl h1,h2,h3⟩
theorem Br2 (l:Bs) (k:Int) (t:Bs) (n:Int) (len:Nat) (h:ES l=.tok k t n len):k≠6:=by
 unfold ES at h
 dsimp only at h
 repeat' split at h
 all_goals first | (cases h;done) | (simp only [Step.tok.injEq] at h;obtain ⟨rfl,_⟩:=h;(repeat' split) <;> decide)
theorem Aem:∀ (f:Nat) (l:Bs) (at_:Nat) (acc t:List Tok),l.length < f→Ij f l at_ acc=.inr t→∃ t',t=acc++t'∧Ov at_ (at_+l.length) t'
 | 0,l,_,_,_,hf,_=>absurd hf (Nat.not_lt_zero _)
 | f+1,l,at_,acc,t,hf,h=>by
  unfold Ij at h
  dsimp only at h
  have hk:=LD Dv l
  have hdl:(l.drop (C1 Dv l)).length=l.length - C1 Dv l:=Cv
  cases hst:ES (l.drop (C1 Dv l)) with
  | done =>
   rw [hst] at h
   cases h
   exact ⟨_,rfl,by show at_≤at_+_;omega,by show at_+_≤_;omega,.inl ⟨rfl,rfl⟩⟩
  | bad c r=>rw [hst] at h;cases h
  | skip q =>
   have hq:=(N_ _).1 q hst
   rw [hst] at h
   dsimp only at h
   have hlen:((l.drop (C1 Dv l)).drop q).length=l.length - C1 Dv l - q:=by rw [Cv,hdl]
   obtain ⟨t',e,hR⟩:=Aem f _ _ _ _ (by omega) h
   refine ⟨t',e,?_⟩
   rw [show at_+l.length=at_+C1 Dv l+q+((l.drop (C1 Dv l)).drop q).length by omega]
   exact hR.weak (by omega)
  | tok kd tx x len =>
   have hq:=(N_ _).2 _ _ _ _ hst
   rw [hst] at h
   dsimp only at h
   have hlen:((l.drop (C1 Dv l)).drop len).length=l.length - C1 Dv l - len:=by rw [Cv,hdl]
   obtain ⟨t',e,hR⟩:=Aem f _ _ _ _ (by omega) h
   refine ⟨⟨kd,tx,x,at_+C1 Dv l⟩ :: t',by rw [e,Cj];rfl,by show at_≤at_+_;omega,by show at_+_≤_;omega,.inr ⟨Br2 _ _ _ _ _ hst,?_⟩⟩
   rw [show at_+l.length=at_+C1 Dv l+len+((l.drop (C1 Dv l)).drop len).length by omega]
   exact hR.weak (by show at_+_+1≤_;omega)
theorem Ov.good:∀ {t:List Tok} {lo hi:Nat},Ov lo hi t→Good (t.map Kx)∧Asc (t.map Kx)∧(∀ x ∈ t.map Kx,(lo:Int)≤x.2.2.2∧x.2.2.2≤hi)∧lo+t.length≤hi+1
 | [],_,_,h=>h.elim
 | x :: t,lo,hi,⟨h1,h2,h3⟩=>by
  rcases h3 with ⟨h6,rfl⟩ | ⟨h6,hR⟩
  ·refine ⟨h6,List.pairwise_singleton ..,fun y hy=>?_,by simp;omega⟩
   obtain rfl:=DG.1 hy
   exact ⟨by show (lo:Int)≤x.at_;omega,by show (x.at_:Int)≤hi;omega⟩
  ·obtain ⟨g1,g2,g3,g4⟩:=hR.good
   refine ⟨?_,List.pairwise_cons.2 ⟨fun y hy=>?_,g2⟩,fun y hy=>?_,by simp only [AD];omega⟩
   ·cases t with
    | nil=>exact hR.elim
    | cons u t=>exact ⟨h6,g1⟩
   ·have:=(g3 y hy).1
    show (x.at_:Int) < _
    omega
   ·rcases List.mem_cons.1 hy with rfl | hy
    ·exact ⟨by show (lo:Int)≤x.at_;omega,by show (x.at_:Int)≤hi;omega⟩
    ·have:=g3 y hy
     exact ⟨by omega,this.2⟩
structure Aio (n:Nat) (ts:List Tk):Prop where
 good:Good ts
 CD:Asc ts
 at_:∀ x ∈ ts,0≤x.2.2.2∧x.2.2.2≤n
 len:ts.length≤20001
theorem Aep (s:ByteArray) (t:List Tok) (h:Ii (bs s)=.inr t):Aio s.size (t.map Kx):=by
 unfold Ii at h
 split at h
 ·cases h
 ·rename_i hs
  have hl:(bs s).length=s.size:=Dg s
  obtain ⟨t',e,hR⟩:=Aem _ _ _ _ _ (Nat.lt_succ_self _) h
  rw [List.nil_append] at e
  subst e
  obtain ⟨g1,g2,g3,g4⟩:=hR.good
  refine ⟨g1,g2,fun x hx=>?_,by rw [List.length_map];omega⟩
  have:=g3 x hx
  omega
end
section
open Go Go.RowKit
structure Cx (n:Int) (ts:List Tk):Prop where
 good:Good ts
 CD:Asc ts
 at_:∀ x ∈ ts,0≤x.2.2.2∧x.2.2.2≤n
theorem Cx.suf {n:Int} {ts r:List Tk} (h:Cx n ts) (hg:Good r) (hs:r <:+ ts):Cx n r:=⟨hg,List.Pairwise.sublist hs.sublist h.CD,fun x hx=>h.at_ x (hs.subset hx)⟩
theorem Cx.tail {n:Int} {ts:List Tk} (h:Cx n ts) (h6:(hd ts).1≠6):Cx n ts.tail:=h.suf (h.good.tail h6).1 (h.good.tail h6).2.2
theorem Cx.hd {n:Int} {ts:List Tk} (h:Cx n ts):0≤(hd ts).2.2.2∧(hd ts).2.2.2≤n:=by
 cases ts with
 | nil=>exact h.good.elim
 | cons t ts=>exact h.at_ t (Cy ..)
def BB {α:Type} (n:Int) (x:Option (PV α)):Prop:=∀ i,x=some (.bad i)→0≤i∧i≤n
section
variable {α β:Type} {n:Int} {m:Nat} {ts:List Tk} {x y:Option (PV α)} {f:α→List Tk→Option (PV β)}
theorem BB.bind (hC:Cx n ts) (hs:Step m ts x) (h1:BB n x) (h2:∀ a r,x=some (.ok a r)→Cx n r→BB n (f a r)):BB n (PV.bind x f):=fun i h=>by
 rcases bind_some h with ⟨j,hx,he⟩ | ⟨a,r,hx,hf⟩
 ·cases he;exact h1 _ hx
 ·obtain ⟨g1,_,g3⟩:=hs hC.good _ hx
  exact h2 a r hx (hC.suf g1 g3) i hf
theorem BB.ok {a:α} {r:List Tk}:BB n (some (.ok a r)):=fun _ h=>by cases h
theorem BB.bad {i:Int} (h:0≤i∧i≤n):BB n (some (.bad i):Option (PV α)):=fun _ h'=>by cases h';exact h
end
variable {n:Int}
structure GvE (n:Int) (f:Nat):Prop where
 exp:∀ least ts,0≤least→Cx n ts→BB n (DH f least ts)
 loop:∀ least t ts,0≤least→Cx n ts→BB n (FQ f least t ts)
 operand:∀ ts,Cx n ts→BB n (FB f ts)
 fields:∀ acc ts,Cx n ts→BB n (FA f acc ts)
 field:∀ ts,Cx n ts→BB n (Gc f ts)
 ET:∀ ts,Cx n ts→BB n (Fm f ts)
 DV:∀ at_ t ts,Cx n ts→BB n (Fl f at_ t ts)
 D1:∀ ts,Cx n ts→BB n (Fk f ts)
 GG:∀ acc ts,Cx n ts→BB n (FP f acc ts)
structure GvS (n:Int) (f:Nat):Prop where
 block:∀ c ts,Cx n ts→BB n (Fc f c ts)
 EI:∀ c at_ acc ts,Cx n ts→BB n (Fj f c at_ acc ts)
 function:∀ ts,(hd ts).1≠6→Cx n ts→BB n (Ge f ts)
 body:∀ ts,Cx n ts→BB n (Fx f ts)
 stat:∀ ts,Cx n ts→BB n (Gg f ts)
 branches:∀ acc ts,Cx n ts→BB n (FO f acc ts)
 for_:∀ at_ ts,Cx n ts→BB n (Gd f at_ ts)
 plain:∀ ts,Cx n ts→BB n (Gf f ts)
 targets:∀ acc e ts,Cx n ts→0≤e.at_∧e.at_≤n→BB n (FR f acc e ts)
end
section
namespace Lx
def Closed' (a:Bs):Prop:=∀ i,[45,45].isPrefixOf (a.drop i)=true→10 ∈ a.drop i
theorem Closed'.drop {a:Bs} (h:Closed' a) (k:Nat):Closed' (a.drop k):=fun i hi=>by
 rw [List.drop_drop] at hi ⊢
 exact h _ hi
theorem A1l (l:Bs) (c:Int) (r:Nat) (h:ES l=.bad c r):c≠0:=by
 have ht:∀ q f (l acc:Bs) i c r,Hu q f l acc i=.bad c r→c≠0:=by
  intro q f
  induction f with
  | zero=>intro l acc i c r h;cases h;decide
  | succ f ih =>
   intro l acc i c r h
   cases l with
   | nil=>cases h;decide
   | cons b t =>
    simp only [Hu] at h
    split at h
    ·cases h;decide
    split at h
    ·split at h
     ·cases h;decide
     ·cases h
    split at h
    ·split at h
     ·cases h;decide
     ·cases h;decide
     ·exact ih _ _ _ _ _ h
    ·exact ih _ _ _ _ _ h
 unfold ES at h
 by_cases h0:l=[]
 ·rw [if_pos h0] at h;cases h
 rw [if_neg h0] at h
 by_cases h1:[45,45].isPrefixOf l=true
 ·rw [if_pos h1] at h;cases h
 rw [if_neg h1] at h
 by_cases h2:Mc (CC l).1=true
 ·rw [if_pos h2] at h
  dsimp only at h
  split at h
  ·cases h;decide
  ·cases h
 rw [if_neg h2] at h
 by_cases h3:Kh (CC l).1=true
 ·rw [if_pos h3] at h
  dsimp only at h
  split at h
  ·rename_i hp
   cases h
   exact hp
  ·cases h
 rw [if_neg h3] at h
 split at h
 ·split at h
  ·rename_i c' r' hx
   cases h
   exact ht _ _ _ _ _ _ _ hx
  ·cases h
 ·split at h
  ·cases h;decide
  ·cases h
theorem Bqw:∀ (n:Nat) (l:Bs) (at_:Nat) (acc:List Tok) (c p:Int),l.length≤n→Un l at_ acc=.inl (c,p)→c≠0:=by
 intro n
 induction n with
 | zero =>
  intro l at_ acc c p hn h
  have:l=[]:=List.eq_nil_of_length_eq_zero (by omega)
  subst this
  rw [Awj] at h
  have e0:ES (([]:Bs).drop (C1 Dv []))=.done:=rfl
  rw [e0] at h
  cases h
 | succ n ih =>
  intro l at_ acc c p hn h
  rw [Awj] at h
  have hk:=LD Dv l
  cases hst:ES (l.drop (C1 Dv l)) with
  | done=>rw [hst] at h;cases h
  | bad c' r =>
   rw [hst] at h
   simp only [Sum.inl.injEq,Prod.mk.injEq] at h
   rw [← h.1]
   exact A1l _ _ _ hst
  | skip q =>
   have:=(N_ _).1 q hst
   rw [Cv] at this
   rw [hst] at h
   exact ih _ _ _ _ _ (by rw [Cv,Cv];omega) h
  | tok kd tx x len =>
   have:=(N_ _).2 _ _ _ _ hst
   rw [Cv] at this
   rw [hst] at h
   exact ih _ _ _ _ _ (by rw [Cv,Cv];omega) h
end Lx
end
section
open Go Go.RowKit Lx
abbrev Out:=Int×ByteArray×Int×Int×List Tree×Int×Int
def Nf (c a:Int):Out:=(0,⟨#[]⟩,0,0,[],c,a)
def PM (n:Tree):Out:=(n.kind,n.text,n.n,n.at_,n.kids,0,0)
def JH (s:ByteArray):Out :=
 match Ii (bs s) with
 | .inl (c,a)=>Nf c a
 | .inr t=>match PN (t.map Kx) with
  | .ok n _=>PM n
  | .bad i=>Nf 4 i
theorem Aek (l:Bs) (c p:Int) (h:Ii l=.inl (c,p)):c≠0:=by
 unfold Ii at h
 split at h
 ·simp only [Sum.inl.injEq,Prod.mk.injEq] at h
  omega
 ·exact Bqw l.length l 0 [] c p (Nat.le_refl _) h
theorem Afs {n:Nat} {ts:List Tk} (h:Aio n ts):(∃ b r,Hy true ts=.ok b r∧TB ts b r∧((hd r).1=6∧PN ts=.ok b r∨(hd r).1≠6∧PN ts=.bad (hd r).2.2.2))∨∃ i,Hy true ts=.bad i∧PN ts=.bad i:=by
 unfold PN
 cases hb:Hy true ts with
 | bad i=>exact .inr ⟨i,rfl,rfl⟩
 | ok b r =>
  refine .inl ⟨b,r,rfl,Bsz h.good h.CD hb,?_⟩
  by_cases h6:(hd r).1=6
  ·exact .inl ⟨h6,by simp [PV.then,h6]⟩
  ·exact .inr ⟨h6,by simp [PV.then,h6]⟩
theorem Auu {s:ByteArray} {c p:Int} (h:Ii (bs s)=.inl (c,p)):JH s=Nf c p:=by unfold JH;rw [h]
theorem Auv {s:ByteArray} {t:List Tok} {b:Tree} {r:List Tk} (h:Ii (bs s)=.inr t) (hv:PN (t.map Kx)=.ok b r):JH s=PM b:=by unfold JH;rw [h];simp only [hv]
theorem WF {s:ByteArray} {t:List Tok} {i:Int} (h:Ii (bs s)=.inr t) (hv:PN (t.map Kx)=.bad i):JH s=Nf 4 i:=by unfold JH;rw [h];simp only [hv]
theorem Bg2 (l:List Tk):ix l l=0:=by unfold ix;omega
theorem Au4 (k:Nat) (hk:400000≤k) (s:ByteArray):Nh.f k s=some (JH s):=by
 unfold Nh.f T9.f Aas JH
 simp only [Aj]
 cases hs:Ii (bs s) with
 | inl x =>
  obtain ⟨c,p⟩:=x
  have:=Aek _ _ _ hs
  simp only
  rw [show (c != 0)=true by rw [bne_iff_ne];exact this]
  rfl
 | inr t =>
  have hT:=Aep s t hs
  simp only [bne_self_eq_false,cond_false]
  have hf:=A6e (l:=t.map Kx) (by have:=hT.len;omega) k true hT.good (List.suffix_refl _) (by have:=hT.len;omega)
  rw [Bg2] at hf
  rw [hf]
  rcases Afs hT with ⟨b,r,hb,hB,h6⟩ | ⟨i,hb,he⟩
  ·have hw:=LX true hT.good
   rw [hb] at hw ⊢
   obtain ⟨hg,_,Be4⟩:=hw
   simp only [conv,PR.elim,BA]
   unfold Eh.f
   simp only [eT]
   rw [Z8 hg Be4]
   simp only [Aj]
   rcases h6 with ⟨h6,he⟩ | ⟨h6,he⟩
   ·rw [he,show ((hd r).1 != 6)=false by rw [bne_eq_false_iff_eq];exact h6]
    rfl
   ·rw [he,show ((hd r).1 != 6)=true by rw [bne_iff_ne];exact h6]
    rfl
  ·rw [hb,he]
   rfl
def shp (k n:Int) (t:ByteArray) (l:List Tree):Prop :=
 t.size≤30000∧k≠31∧(k=7→l.length=2)∧(k=25→l.length=2)∧(k=26→4≤l.length)∧(k=21∨k=22→∃ m:Nat,n=m∧m≤l.length)∧(k=27→∃ m:Nat,n=m∧m+1≤l.length)
mutual
def wfT:Tree→Prop
 | .mk k t n _ l=>shp k n t l∧H6 l
def H6:List Tree→Prop
 | []=>True
 | x :: l=>wfT x∧H6 l
end
theorem RL:∀ {l:List Tree},H6 l ↔ ∀ x ∈ l,wfT x
 | []=>by simp [H6]
 | x :: l=>by simp [H6,RL (l:=l)]
theorem IE {l m:List Tree} (h:H6 l) (h':H6 m):H6 (l++m):=by
 rw [RL] at *
 intro y hy
 exact (EG.1 hy).elim (h y) (h' y)
theorem wf1 {x:Tree} (h:wfT x):H6 [x]:=⟨h,trivial⟩
def fnT:Tree→Prop
 | .mk k t n _ l=>t.size≤30000∧k=31∧(∃ m:Nat,n=m∧l.length=m+1)∧H6 l
def Afh (x:Tree):Prop:=wfT x∨fnT x
def wfC:Tree→Prop
 | .mk k t _ _ l=>k=20∧t.size≤30000∧∀ x ∈ l,Afh x
def TT (ts:List Tk):Prop:=∀ x ∈ ts,x.2.1.size≤30000
theorem TT.tail {ts:List Tk} (h:TT ts):TT ts.tail:=fun x hx=>h x (List.mem_of_mem_tail hx)
theorem TT.hd {ts:List Tk} (h:TT ts):(hd ts).2.1.size≤30000:=by
 cases ts with
 | nil=>decide
 | cons x t=>exact h x (Cy ..)
abbrev WT (n:Tree) (r:List Tk):Prop:=wfT n∧TT r
abbrev WL (l:List Tree) (r:List Tk):Prop:=H6 l∧TT r
theorem Oi {k:Int} {t:ByteArray} {n a:Int} {l:List Tree} (h1:t.size≤30000) (h2:H6 l) (h3:k≠31) (h4:k=7→l.length=2) (h5:k=25→l.length=2) (h6:k=26→4≤l.length) (h7:k=21∨k=22→∃ m:Nat,n=m∧m≤l.length) (h8:k=27→∃ m:Nat,n=m∧m+1≤l.length):wfT (.mk k t n a l):=⟨⟨h1,h3,h4,h5,h6,h7,h8⟩,h2⟩
theorem wfe {k:Int} {t:ByteArray} {n a:Int} {l:List Tree} (h1:t.size≤30000) (h2:H6 l) (h3:k≠31∧k≠7∧k≠25∧k≠26∧k≠21∧k≠22∧k≠27):wfT (.mk k t n a l):=by
 refine Oi h1 h2 h3.1 ?_ ?_ ?_ ?_ ?_ <;> intro h <;> exfalso
 ·exact h3.2.1 h
 ·exact h3.2.2.1 h
 ·exact h3.2.2.2.1 h
 ·exact h.elim h3.2.2.2.2.1 h3.2.2.2.2.2.1
 ·exact h3.2.2.2.2.2.2 h
theorem nx {p q:Prop} [Decidable p] (h:decide p=false) (hp:p):q:=absurd hp (of_decide_eq_false h)
theorem Ga:noB.size≤30000:=by decide
theorem ID {w:ByteArray} {ts:List Tk} (h:TT ts):R (Gw w ts) fun _ r=>TT r:=R.ite (fun _=>R.ok h.tail) fun _=>R.bad
theorem RJ {k:Int} {ts:List Tk} (hk:k≠31∧k≠7∧k≠25∧k≠26∧k≠21∧k≠22∧k≠27) (h:TT ts):R (Jg k ts) fun n r=>WT n r∧n.text.size≤30000:=R.ite (fun _=>R.ok ⟨⟨wfe h.hd trivial hk,h.tail⟩,h.hd⟩) fun _=>R.bad
theorem Af2:∀ (f:Nat) (acc:List Tree) (ts:List Tk),TT ts→H6 acc→R (GL f acc ts) WL
 | 0,_,_,_,_=>R.none
 | f+1,acc,ts,h,ha=>by
  unfold GL
  exact R.ite (fun _=>R.bind (RJ (by decide) h.tail) fun n r hn=>Af2 f _ r hn.1.2 (IE ha (wf1 hn.1.1))) fun _=>R.ok ⟨ha,h⟩
theorem Ayc (f:Nat) {ts:List Tk} (h:TT ts):R (Ng f ts) WL:=R.bind (RJ (by decide) h) fun n r hn=>Af2 f _ r hn.1.2 (wf1 hn.1.1)
structure WE (f:Nat):Prop where
 exp:∀ least ts,TT ts→R (DH f least ts) WT
 loop:∀ least n ts,TT ts→wfT n→R (FQ f least n ts) WT
 operand:∀ ts,TT ts→R (FB f ts) WT
 fields:∀ acc ts,TT ts→H6 acc→R (FA f acc ts) WL
 field:∀ ts,TT ts→R (Gc f ts) WT
 ET:∀ ts,TT ts→R (Fm f ts) WT
 DV:∀ at_ n ts,TT ts→wfT n→R (Fl f at_ n ts) WT
 D1:∀ ts,TT ts→R (Fk f ts) WL
 GG:∀ acc ts,TT ts→H6 acc→R (FP f acc ts) WL
theorem wE:∀ f,WE f
 | 0=>by constructor <;> intros <;> (first | rw [DH] | rw [FQ] | rw [FB] | rw [FA] | rw [Gc] | rw [Fm] | rw [Fl] | rw [Fk] | rw [FP]) <;> exact R.none
 | f+1=>by
  have ih:=wE f
  constructor
  ·intro least ts h;unfold DH
   exact R.bind (ih.operand ts h) fun n r hn=>ih.loop _ _ _ hn.2 hn.1
  ·intro least n ts h hw;unfold FQ
   refine R.ite (fun _=>R.ok ⟨hw,h⟩) fun _=>R.bind (ih.exp _ _ h.tail) fun m r hm=>ih.loop _ _ _ hm.2 ?_
   exact wfe h.hd ⟨hw,hm.1,trivial⟩ (by decide)
  ·intro ts h;unfold FB
   refine R.ite (fun _=>R.ok ⟨wfe Ga trivial (by decide),h.tail⟩) fun _=>?_
   refine R.ite (fun _=>R.ok ⟨wfe h.hd trivial (by decide),h.tail⟩) fun _=>?_
   refine R.ite (fun _=>R.ok ⟨wfe Ga trivial (by decide),h.tail⟩) fun _=>?_
   refine R.ite (fun _=>R.ok ⟨wfe Ga trivial (by decide),h.tail⟩) fun _=>?_
   refine R.ite (fun _=>R.ok ⟨wfe Ga trivial (by decide),h.tail⟩) fun _=>?_
   refine R.ite (fun _=>R.bind (ih.exp _ _ h.tail) fun m r hm=>R.ok ⟨wfe h.hd (wf1 hm.1) (by decide),hm.2⟩) fun _=>?_
   refine R.ite (fun _=>R.bind (ih.fields _ _ h.tail trivial) fun l r hl=>R.ok ⟨wfe Ga hl.1 (by decide),hl.2⟩) fun _=>?_
   exact ih.ET _ h
  ·intro acc ts h ha;unfold FA
   refine R.ite (fun _=>R.ok ⟨ha,h.tail⟩) fun _=>R.bind (ih.field ts h) fun x r hx=>?_
   have hs:=IE ha (wf1 hx.1)
   refine R.ite (fun _=>ih.fields _ _ hx.2.tail hs) fun _=>R.ite (fun _=>ih.fields _ _ hx.2.tail hs) fun _=>?_
   exact R.bind (ID hx.2) fun _ s hr=>R.ok ⟨hs,hr⟩
  ·intro ts h;unfold Gc
   refine R.ite (fun _=>?_) fun _=>R.ite (fun _=>?_) fun _=>?_
   ·refine R.bind (ih.exp _ _ h.tail) fun k r hk=>R.bind (ID hk.2) fun _ r hr=>R.bind (ID hr) fun _ r hr=>R.bind (ih.exp _ _ hr) fun v r hv=>R.ok ⟨?_,hv.2⟩
    exact wfe Ga ⟨hk.1,hv.1,trivial⟩ (by decide)
   ·refine R.bind (ih.exp _ _ h.tail.tail) fun v r hv=>R.ok ⟨?_,hv.2⟩
    exact wfe Ga ⟨wfe h.hd trivial (by decide),hv.1,trivial⟩ (by decide)
   ·exact R.bind (ih.exp _ _ h) fun v r hv=>R.ok ⟨wfe Ga (wf1 hv.1) (by decide),hv.2⟩
  ·intro ts h;unfold Fm
   refine R.ite (fun _=>?_) fun _=>?_
   ·exact R.bind (ih.exp _ _ h.tail) fun e r he=>R.bind (ID he.2) fun _ r hr=>ih.DV _ _ _ hr (wfe Ga (wf1 he.1) (by decide))
   ·exact R.bind (RJ (by decide) h) fun n r hn=>ih.DV _ _ _ hn.1.2 hn.1.1
  ·intro at_ n ts h hw;unfold Fl
   refine R.ite (fun _=>?_) fun _=>R.ite (fun _=>?_) fun _=>R.ite (fun _=>?_) fun _=>R.ok ⟨hw,h⟩
   ·refine R.bind (ih.exp _ _ h.tail) fun e r he=>R.bind (ID he.2) fun _ r hr=>ih.DV _ _ _ hr ?_
    exact Oi Ga ⟨hw,he.1,trivial⟩ (by decide) (fun _=>rfl) (nx rfl) (nx rfl) (nx rfl) (nx rfl)
   ·refine R.bind (RJ (by decide) h.tail) fun e r he=>ih.DV _ _ _ he.1.2 ?_
    exact Oi Ga ⟨hw,he.1.1,trivial⟩ (by decide) (fun _=>rfl) (nx rfl) (nx rfl) (nx rfl) (nx rfl)
   ·refine R.bind (Q1:=WL) (R.ite (fun _=>R.ok ⟨trivial,h.tail⟩) fun _=>ih.D1 _ h.tail) fun l r hl=>R.bind (ID hl.2) fun _ r hr=>ih.DV _ _ _ hr ?_
    exact wfe Ga ⟨hw,hl.1⟩ (by decide)
  ·intro ts h;unfold Fk
   exact R.bind (ih.exp _ _ h) fun e r he=>ih.GG _ _ he.2 (wf1 he.1)
  ·intro acc ts h ha;unfold FP
   exact R.ite (fun _=>R.bind (ih.exp _ _ h.tail) fun e r he=>ih.GG _ _ he.2 (IE ha (wf1 he.1))) fun _=>R.ok ⟨ha,h⟩
def OZ (c:Bool) (x:Tree):Prop:=wfT x∨(c=true∧fnT x)
structure WS (f:Nat):Prop where
 block:∀ c ts,TT ts→R (Fc f c ts) fun n r=>(∃ a l,n=.mk 20 noB 0 a l∧∀ x ∈ l,OZ c x)∧TT r
 EI:∀ c at_ acc ts,TT ts→(∀ x ∈ acc,OZ c x)→R (Fj f c at_ acc ts) fun n r=>(∃ a l,n=.mk 20 noB 0 a l∧∀ x ∈ l,OZ c x)∧TT r
 function:∀ ts,TT ts→R (Ge f ts) fun n r=>fnT n∧TT r
 body:∀ ts,TT ts→R (Fx f ts) WT
 stat:∀ ts,TT ts→R (Gg f ts) WT
 branches:∀ acc ts,TT ts→H6 acc→R (FO f acc ts) WL
 for_:∀ at_ ts,TT ts→R (Gd f at_ ts) WT
 plain:∀ ts,TT ts→R (Gf f ts) WT
 targets:∀ acc e ts,TT ts→H6 acc→wfT e→R (FR f acc e ts) WL
theorem Bgr {a:Int} {l:List Tree} (h:∀ x ∈ l,OZ false x):wfT (.mk 20 noB 0 a l) :=
 wfe Ga (RL.2 fun x hx=>(h x hx).elim id fun h=>nomatch h.1) (by decide)
theorem Z9 {c:Bool} {acc:List Tree} {x:Tree} (h:∀ y ∈ acc,OZ c y) (hx:OZ c x):∀ y ∈ acc++[x],OZ c y:=fun y hy=>by
 rcases EG.1 hy with hy | hy
 ·exact h y hy
 ·obtain rfl:=DG.1 hy;exact hx
theorem wS:∀ f,WS f
 | 0=>by constructor <;> intros <;> (first | unfold Fc | unfold Fj | unfold Ge | unfold Fx | unfold Gg | unfold FO | unfold Gd | unfold Gf | unfold FR) <;> exact R.none
 | f+1=>by
  have ih:=wS f
  have ie:=wE f
  have blk:∀ ts,TT ts→R (Fc f false ts) WT:=fun ts h=>R.weak (ih.block false ts h) fun n r ⟨⟨a,l,e,hl⟩,hr⟩=>⟨by rw [e];exact Bgr hl,hr⟩
  constructor
  ·intro c ts h;unfold Fc
   exact ih.EI _ _ _ _ h (fun _ hx=>nomatch hx)
  ·intro c at_ acc ts h ha;unfold Fj
   refine R.ite (fun _=>ih.EI _ _ _ _ h.tail ha) fun _=>R.ite (fun _=>?_) fun _=>R.ite (fun hc=>?_) fun _=>R.ite (fun _=>R.ok ⟨⟨_,_,rfl,ha⟩,h⟩) fun _=>?_
   ·refine R.bind (Q1:=WL) (R.ite (fun _=>R.ok ⟨trivial,h.tail⟩) fun _=>ie.D1 _ h.tail) fun l r hl=>R.ok ⟨⟨_,_,rfl,?_⟩,?_⟩
    ·exact Z9 ha (.inl (wfe Ga hl.1 (by decide)))
    ·split
     ·exact hl.2.tail
     ·exact hl.2
   ·have hc':c=true:=by simp only [Bool.and_eq_true] at hc;exact hc.1
    exact R.bind (ih.function ts h) fun x r hx=>ih.EI _ _ _ _ hx.2 (Z9 ha (.inr ⟨hc',hx.1⟩))
   ·exact R.bind (ih.stat ts h) fun x r hx=>ih.EI _ _ _ _ hx.2 (Z9 ha (.inl hx.1))
  ·intro ts h;unfold Ge
   refine R.bind (RJ (by decide) h.tail) fun nm r hn=>R.bind (ID hn.1.2) fun _ r hr=>R.bind (Q1:=WL) (R.ite (fun _=>R.ok ⟨trivial,hr⟩) fun _=>Ayc f hr) fun ps r hp=>R.bind (ID hp.2) fun _ r hr=>R.bind (blk _ hr) fun b r hb=>R.bind (ID hb.2) fun _ r hr=>R.ok ⟨?_,hr⟩
   exact ⟨hn.2,rfl,⟨ps.length,rfl,by simp⟩,IE hp.1 (wf1 hb.1)⟩
  ·intro ts h;unfold Fx
   exact R.bind (ID h) fun _ r hr=>R.bind (blk _ hr) fun b r hb=>R.bind (ID hb.2) fun _ r hr=>R.ok ⟨hb.1,hr⟩
  ·intro ts h;unfold Gg
   refine R.ite (fun _=>?_) fun _=>R.ite (fun _=>?_) fun _=>R.ite (fun _=>?_) fun _=>R.ite (fun _=>ih.for_ _ _ h.tail) fun _=>R.ite (fun _=>?_) fun _=>R.ite (fun _=>R.ok ⟨wfe Ga trivial (by decide),h.tail⟩) fun _=>ih.plain _ h
   ·exact R.bind (ih.body ts h) fun b r hb=>R.ok ⟨wfe Ga (wf1 hb.1) (by decide),hb.2⟩
   ·refine R.bind (ie.exp _ _ h.tail) fun e r he=>R.bind (ih.body _ he.2) fun b r hb=>R.ok ⟨?_,hb.2⟩
    exact Oi Ga ⟨he.1,hb.1,trivial⟩ (by decide) (nx rfl) (fun _=>rfl) (nx rfl) (nx rfl) (nx rfl)
   ·exact R.bind (ih.branches _ _ h.tail trivial) fun l r hl=>R.ok ⟨wfe Ga hl.1 (by decide),hl.2⟩
   ·refine R.bind (Ayc f h.tail) fun l r hl=>R.bind (Q1:=WL) (R.ite (fun _=>ie.D1 _ hl.2.tail) fun _=>R.ok ⟨trivial,hl.2⟩) fun es r he=>R.ok ⟨?_,he.2⟩
    exact Oi Ga (IE hl.1 he.1) (by decide) (nx rfl) (nx rfl) (nx rfl) (fun _=>⟨l.length,rfl,by simp⟩) (nx rfl)
  ·intro acc ts h ha;unfold FO
   refine R.bind (ie.exp _ _ h) fun e r he=>R.bind (ID he.2) fun _ r hr=>R.bind (blk _ hr) fun b r hb=>?_
   have h2:=IE (IE ha (wf1 he.1)) (wf1 hb.1)
   refine R.ite (fun _=>ih.branches _ _ hb.2.tail h2) fun _=>R.ite (fun _=>?_) fun _=>?_
   ·exact R.bind (blk _ hb.2.tail) fun c r hc=>R.bind (ID hc.2) fun _ r hr=>R.ok ⟨IE h2 (wf1 hc.1),hr⟩
   ·exact R.bind (ID hb.2) fun _ r hr=>R.ok ⟨h2,hr⟩
  ·intro at_ ts h;unfold Gd
   refine R.bind (RJ (by decide) h) fun n r hn=>R.ite (fun _=>?_) fun _=>?_
   ·refine R.bind (ie.exp _ _ hn.1.2.tail) fun a r ha=>R.bind (ID ha.2) fun _ r hr=>R.bind (ie.exp _ _ hr) fun b r hb=>R.bind (Q1:=WL) (R.ite (fun _=>R.bind (ie.exp _ _ hb.2.tail) fun c r hc=>R.ok ⟨wf1 hc.1,hc.2⟩) fun _=>R.ok ⟨trivial,hb.2⟩) fun cs r hcs=>R.bind (ih.body _ hcs.2) fun bd r hbd=>R.ok ⟨?_,hbd.2⟩
    exact Oi Ga (IE (IE (IE (IE (wf1 hn.1.1) (wf1 ha.1)) (wf1 hb.1)) hcs.1) (wf1 hbd.1)) (by decide) (nx rfl) (nx rfl) (fun _=>by simp) (nx rfl) (nx rfl)
   ·refine R.bind (Af2 f _ _ hn.1.2 (wf1 hn.1.1)) fun l r hl=>R.bind (ID hl.2) fun _ r hr=>R.bind (ie.D1 _ hr) fun es r he=>R.bind (ih.body _ he.2) fun bd r hbd=>R.ok ⟨?_,hbd.2⟩
    exact Oi Ga (IE (IE hl.1 he.1) (wf1 hbd.1)) (by decide) (nx rfl) (nx rfl) (nx rfl) (nx rfl) (fun _=>⟨l.length,rfl,by simp⟩)
  ·intro ts h;unfold Gf
   refine R.bind (ie.ET ts h) fun e r he=>R.ite (fun _=>?_) fun _=>R.ite (fun _=>R.ok ⟨wfe Ga (wf1 he.1) (by decide),he.2⟩) fun _=>R.bad
   refine R.bind (ih.targets _ _ _ he.2 trivial he.1) fun l r hl=>R.bind (ID hl.2) fun _ r hr=>R.bind (ie.D1 _ hr) fun es r hes=>R.ok ⟨?_,hes.2⟩
   exact Oi Ga (IE hl.1 hes.1) (by decide) (nx rfl) (nx rfl) (nx rfl) (fun _=>⟨l.length,rfl,by simp⟩) (nx rfl)
  ·intro acc e ts h ha hw;unfold FR
   refine R.ite (fun _=>?_) fun _=>R.bad
   exact R.ite (fun _=>R.bind (ie.ET _ h.tail) fun e' r he=>ih.targets _ _ _ he.2 (IE ha (wf1 hw)) he.1) fun _=>R.ok ⟨IE ha (wf1 hw),h⟩
theorem Afb (q:UInt8):∀ (f:Nat) (l acc:Bs) (i:Nat) (v:Bs) (k:Nat),Hu q f l acc i=.ok v k→v.length≤10000
 | 0,_,_,_,_,_,h=>by unfold Hu at h;cases h
 | f+1,[],_,_,_,_,h=>by unfold Hu at h;cases h
 | f+1,b :: t,acc,i,v,k,h=>by
  unfold Hu at h
  split at h
  ·cases h
  split at h
  ·split at h
   ·cases h
   ·cases h;omega
  split at h
  ·split at h
   ·cases h
   ·cases h
   ·exact Afb q f _ _ _ _ _ h
  ·exact Afb q f _ _ _ _ _ h
theorem Bq6:∀ s ∈ I7,s.length≤20000:=by decide
theorem Br3 (l:Bs) (hl:l.length≤20000) (k:Int) (t:Bs) (n:Int) (len:Nat) (h:ES l=.tok k t n len):t.length≤20000:=by
 unfold ES at h
 dsimp only at h
 repeat' split at h
 all_goals first
  | (cases h;done)
  | (simp only [Step.tok.injEq] at h;obtain ⟨_,rfl,_⟩:=h;rw [List.length_take];omega)
  | (rename_i hx;simp only [Step.tok.injEq] at h;obtain ⟨_,rfl,_⟩:=h;first | exact Nat.le_trans (Afb _ _ _ _ _ _ _ hx) (by decide) | exact Bq6 _ (List.mem_of_find?_eq_some hx))
theorem Aeo:∀ (f:Nat) (l:Bs) (at_:Nat) (acc t:List Tok),l.length≤20000→(∀ x ∈ acc,x.text.length≤20000)→Ij f l at_ acc=.inr t→∀ x ∈ t,x.text.length≤20000
 | 0,l,at_,acc,t,hl,ha,h=>by
  unfold Ij at h
  cases h
  intro x hx
  rcases EG.1 hx with hx | hx
  ·exact ha x hx
  ·obtain rfl:=DG.1 hx;exact Nat.zero_le _
 | f+1,l,at_,acc,t,hl,ha,h=>by
  unfold Ij at h
  dsimp only at h
  have hdl:(l.drop (C1 Dv l)).length≤20000:=by rw [Cv];omega
  cases hst:ES (l.drop (C1 Dv l)) with
  | done =>
   rw [hst] at h
   cases h
   intro x hx
   rcases EG.1 hx with hx | hx
   ·exact ha x hx
   ·obtain rfl:=DG.1 hx;exact Nat.zero_le _
  | bad c r=>rw [hst] at h;cases h
  | skip q =>
   rw [hst] at h
   exact Aeo f _ _ _ _ (by rw [Cv];omega) ha h
  | tok kd tx x len =>
   rw [hst] at h
   refine Aeo f _ _ _ _ (by rw [Cv];omega) (fun y hy=>?_) h
   rcases EG.1 hy with hy | hy
   ·exact ha y hy
   ·obtain rfl:=DG.1 hy;exact Br3 _ hdl _ _ _ _ hst
theorem Awo {s:ByteArray} {t:List Tok} (h:Ii (bs s)=.inr t):TT (t.map Kx):=by
 unfold Ii at h
 split at h
 ·cases h
 intro x hx
 obtain ⟨y,hy,rfl⟩:=List.mem_map.1 hx
 have:=Aeo _ _ _ [] _ (by omega) (fun _ hx=>absurd hx (List.not_mem_nil)) h y hy
 show (str y.text).size≤30000
 rw [U0];omega
theorem val_ok {α:Type} {x:Option (PV α)} {a:α} {r:List Tk} (h:val x=.ok a r):x=some (.ok a r):=by
 cases x with
 | none=>cases h
 | some v=>exact congrArg some h
theorem Bol (s:ByteArray):(∃ c a,c≠0∧JH s=Nf c a)∨∃ n,JH s=PM n∧wfC n∧sz n≤80010:=by
 cases hs:Ii (bs s) with
 | inl x =>
  obtain ⟨c,p⟩:=x
  exact .inl ⟨c,p,Aek _ _ _ hs,Auu hs⟩
 | inr t =>
  have hT:=Aep s t hs
  rcases Afs hT with ⟨b,r,hb,hB,⟨_,he⟩ | ⟨_,he⟩⟩ | ⟨j,hb,he⟩
  ·refine .inr ⟨b,Auv hs he,?_,?_⟩
   ·obtain ⟨⟨a,l,rfl,hl⟩,_⟩:=(wS (fu _)).block true _ (Awo hs) _ _ (val_ok hb)
    exact ⟨rfl,Ga,fun x hx=>Or.elim (hl x hx) .inl (fun h=>.inr h.2)⟩
   ·have:=hB.size;have:=hT.len;omega
  ·exact .inl ⟨4,_,by decide,WF hs he⟩
  ·exact .inl ⟨4,_,by decide,WF hs he⟩
end
section
open Go Go.RowKit
def Kg.f (_k:Nat) (a0:ByteArray):Option (Bool):=(cond (a0.toList == (⟨#[116,97,98,108,101]⟩:ByteArray).toList) (some true) (some (a0.toList == (⟨#[117,116,102,56]⟩:ByteArray).toList)):Option Bool).bind fun q1=>some (q1)
theorem Kg.ok {k:Nat} {a0:ByteArray} {r:Bool} (h:Kg.f k a0=some r): Ct Tryz.prog 48 #[sv a0] [] [] (fun e l1=>e=.returned (bv r)∧l1=[]):=by
 refine Cz (args:=[sv a0]) Tryz.func48 rfl (B0 rfl) ?_
 intro A X hh_
 unfold Kg.f at h
 refine ksr (kx 1 (Ad (bnd h fun q1 hq1 h=>?_)))
 refine Gr [(2,bv q1)] (X) ?_ ?_
 ·clear hq1
  refine Cr ?_
  obtain rfl:=Ap h
  exact kdn rfl
 ·have h:=hq1
  clear hq1
  refine Bc (kx 3 ?_)
  refine Dw 5 h (fun h=>?_) fun h=>?_
  ·exact kx 4 (Ad (C2 ⟨gb (Ap h),trivial⟩))
  ·exact kx 4 (Ad (C2 ⟨gb (Ap h),trivial⟩))
def KC (i:Int×Int):Value:=.iface 68 (.agg #[.int .i64 i.1,.int .i64 i.2])
def GR.f (_k:Nat) (a0:Int) (a1:Int):Option (PR (Unit) (Int×Int)):=some (PR.bad (a0,a1))
theorem GR.ok {k:Nat} {a0 a1:Int} {r:PR (Unit) (Int×Int)} (h:GR.f k a0 a1=some r): Ct Tryz.prog 20 #[iv a0,iv a1] [] [] (PR.Post KC (fun (r:Unit) e l1=>e=.returned (.tuple #[])∧l1=[]) r):=by
 refine Cz (args:=[iv a0,iv a1]) Tryz.func20 rfl (B0 rfl) ?_
 intro A X hh_
 unfold GR.f at h
 refine Bc (kx 4 ?_)
 obtain rfl:=Ap h
 exact Arx (v:=KC (a0,a1)) (by kernel_rfl) (by kernel_rfl) (by kernel_rfl) (Ari [] (BH PR.Ai4))
def EY.f (k:Nat) (Ac:Int) (Ae:ByteArray) (Ez:Int) (Ai:Int) (Au:List Tree) (a1:Int) (a2:Int):Option (PR (Unit) (Int×Int)):=cond (decide (a1 > a2)) (PR.bind (GR.f k 6 Ai) fun r3=>some (PR.ok ())) (some (PR.ok ()))
theorem EY.ok {k B2:Nat} {Ac Ez Ai a1 a2:Int} {Ae:ByteArray} {Au:List Tree} {BF:Ab} {B1:Ar} {r:PR (Unit) (Int×Int)} (h:EY.f k Ac Ae Ez Ai Au a1 a2=some r) (Ck:RdR (Bb 54) BF (Aa B1 Au B2) Au): Ct Tryz.prog 33 #[.agg #[iv Ac,sv Ae,iv Ez,iv Ai,Aa B1 Au B2],iv a1,iv a2] [] [BF] (PR.Post KC (fun (r:Unit) e l1=>e=.returned (.tuple #[])∧l1=[]) r):=by
 refine Cz (args:=[.agg #[iv Ac,sv Ae,iv Ez,iv Ai,Aa B1 Au B2],iv a1,iv a2]) Tryz.func33 rfl (B0 rfl) ?_
 intro A X hh_
 obtain ⟨SL,_⟩:=hh_
 unfold EY.f at h
 refine ksr (knp #[iv Ac,sv Ae,iv Ez,iv Ai,Aa B1 Au B2] 54 fun b1=>(AY (kx 3 (Ad ?_))))
 refine AF h (fun h=>?_) fun h=>?_
 ·refine Bc (kx 1 (kld 0 3 rfl (K.drop (B_ h (fun _ hr3=>(GR.ok hr3)) rfl trivial (fun _ e=>kpn 0 e rfl) fun r3 h=>?_))))
  rintro _ _ ⟨rfl,rfl⟩
  refine GI (knl (Cw ?_))
  obtain rfl:=Ap h
  exact V_ ⟨rfl,rfl⟩ rfl
 ·refine Bt (Cw ?_)
  obtain rfl:=Ap h
  exact K.drop (V_ ⟨rfl,rfl⟩ rfl)
def ER.l0:Nat→(a0:List ByteArray)→(a1:ByteArray)→(J1:(Unit→Option (Int)))→(x2:Int)→Option (Int)
 | 0,_,_,_,_=>none
 | m3+1,a0,a1,J1,x2=>cond (decide (x2 < ((a0.length:Nat):Int))) ((AZ a0 x2).bind fun x5=>cond (a1.toList == x5.toList) (some (x2)) (ER.l0 m3 a0 a1 J1 (IntKind.i64.wrap (x2+1)))) (J1 ())
def ER.f (k:Nat) (a0:List ByteArray) (a1:ByteArray):Option (Int):=BA (fun (_:Unit)=>some ((-1:Int))) (fun J1=>ER.l0 k a0 a1 J1 0)
theorem ER.ok {k Eo:Nat} {a0:Ag} {a1:ByteArray} {IY:Ab} {Ej:Ar} {r:Int} (h:ER.f k a0 a1=some r) (M3:Bf encS 1 IY (Aa Ej a0 Eo) a0): Ct Tryz.prog 90 #[Aa Ej a0 Eo,sv a1] [] [IY] (fun e l1=>e=.returned (iv r)∧l1=[]):=by
 refine Cz (args:=[Aa Ej a0 Eo,sv a1]) Tryz.func90 rfl (B0 rfl) ?_
 intro A X hh_
 obtain ⟨MK,_⟩:=hh_
 unfold ER.f at h
 refine ksr (kx 1 (Ad ?_))
 obtain ⟨J1,hJ1,h⟩:=CG h
 refine CH (τ:=Unit) (fun t=>[]) (fun t=>X) (fun t=>J1 ()=some r) ?_ ?_
 ·rintro ⟨⟩ h
  subst hJ1
  refine ksr (kx 1 (Ad (Cr ?_)))
  obtain rfl:=Ap h
  exact kdn rfl
 ·skip
  refine ksr (kx 3 (Ad (Co (EL (τ:=Int) (fun t=>[(0,Aa Ej a0 Eo),(1,sv a1),(7,iv ((a0.length:Nat):Int)),(8,iv t)]) (fun t=>X) (fun m t=>ER.l0 m a0 a1 J1 t=some r) k 0 h sb rfl ?_))))
  clear h
  rintro m3 x2 h
  cases m3 with
  | zero=>simp [ER.l0] at h
  | succ m3 =>
   simp only [ER.l0] at h
   refine ksr (kx 1 (Ad (Bz ?_)))
   refine AF h (fun h=>?_) fun h=>?_
   ·refine Bt (AB (Bz (Co (ksr (kx 2 (AY (kx 3 (bnd h fun x5 hx5 h=>(F8 (T:=9) (kd:=.i64) IZ rfl hx5 M3 fun p6 e7 y8=>?_)))))))))
    have e7:Elem _ p6 [sv x5]:=e7
    refine Hk rfl (by kernel_rfl) (by kernel_rfl) (by kernel_rfl) (by kernel_rfl) e7 MK (kx 1 (Ad ?_))
    refine AF h (fun h=>?_) fun h=>?_
    ·refine ksr (kx 2 (Ad (Cr (DK (CZ (CZ (DK (CZ ?_))))))))
     obtain rfl:=Ap h
     exact kdn rfl
    ·exact Bt (Bo (AB (Bc (kx 2 (Ad (Ea m3 (IntKind.i64.wrap (x2+1)) (Nat.lt_succ_self _) h sb rfl))))))
   ·exact E6 (CY (CY (E7 (AB (AV () h trivial rfl)))))
def Dt (x:Int×Int×ByteArray):List Value:=[.int .i64 x.1,.int .i64 x.2.1,.string x.2.2]
theorem Yb:Ex Dt 3:=⟨fun _=>rfl,fun _=>rfl⟩
def G8.l0:Nat→(a0:List (Int×Int×ByteArray))→(Af:Int)→(As:Int)→(Aq:ByteArray)→(J2:(Unit→Option (Int)))→(x3:Int)→Option (Int)
 | 0,_,_,_,_,_,_=>none
 | m4+1,a0,Af,As,Aq,J2,x3=>cond (decide (x3 < ((a0.length:Nat):Int))) ((AZ a0 x3).bind fun x6=>cond ((Af == x6.1) && ((As == x6.2.1) && ((Aq.toList == x6.2.2.toList) && true))) (some (x3)) (G8.l0 m4 a0 Af As Aq J2 (IntKind.i64.wrap (x3+1)))) (J2 ())
def G8.f (k:Nat) (a0:Bl) (Af:Int) (As:Int) (Aq:ByteArray):Option (Int):=BA (fun (_:Unit)=>some ((-1:Int))) (fun J2=>G8.l0 k a0 Af As Aq J2 0)
theorem G8.ok {k Eo:Nat} {a0:Bl} {Af As r:Int} {Aq:ByteArray} {IY:Ab} {Ej:Ar} (h:G8.f k a0 Af As Aq=some r) (M3:Bf Dt 3 IY (Aa Ej a0 Eo) a0): Ct Tryz.prog 113 #[Aa Ej a0 Eo,.agg #[iv Af,iv As,sv Aq]] [] [IY] (fun e l1=>e=.returned (iv r)∧l1=[]):=by
 refine Cz (args:=[Aa Ej a0 Eo,.agg #[iv Af,iv As,sv Aq]]) Tryz.func113 rfl (B0 rfl) ?_
 intro A X hh_
 obtain ⟨MK,_⟩:=hh_
 unfold G8.f at h
 refine ksr (knp #[iv Af,iv As,sv Aq] 78 fun b1=>(kx 1 (Ad ?_)))
 obtain ⟨J2,hJ2,h⟩:=CG h
 refine CH (τ:=Unit) (fun t=>[]) (fun t=>X) (fun t=>J2 ()=some r) ?_ ?_
 ·rintro ⟨⟩ h
  subst hJ2
  refine ksr (kx 1 (Ad (Cr ?_)))
  obtain rfl:=Ap h
  exact kdn rfl
 ·skip
  refine ksr (kx 3 (Ad (Co (EL (τ:=Int) (fun t=>[(0,Aa Ej a0 Eo),(3,pt b1),(7,iv ((a0.length:Nat):Int)),(8,iv t)]) (fun t=>bk b1 #[iv Af,iv As,sv Aq] 78 :: X) (fun m t=>G8.l0 m a0 Af As Aq J2 t=some r) k 0 h sb rfl ?_))))
  clear h
  rintro m4 x3 h
  cases m4 with
  | zero=>simp [G8.l0] at h
  | succ m4 =>
   simp only [G8.l0] at h
   refine ksr (kx 1 (Ad (Bz ?_)))
   refine AF h (fun h=>?_) fun h=>?_
   ·refine Bt (AB (Bz (Co (ksr (kx 2 (Ad (Bz (IN [(0,3),(1,0),(2,0),(3,0),(4,3)] [bk b1 #[iv Af,iv As,sv Aq] 78,IY] (fun w h_=>⟨h_.sat.on _ (.head _),h_.sat.on _ (.tail _ MK),trivial⟩) (Gt 0 0 3 rfl (Ax 2 ?_))))))))))
    refine bnd h fun x6 hx6 h=>(QK (T:=78) (kd:=.i64) Yb rfl hx6 M3 fun p7 e8 y9=>?_)
    have e8:Elem _ p7 [iv x6.1,iv x6.2.1,sv x6.2.2]:=e8
    refine IM rfl e8 (fun w h_=>h_.mem _ (.tail _ (.head _))) (BY (Wf (r:=((Af == x6.1) && ((As == x6.2.1) && ((Aq.toList == x6.2.2.toList) && true)))) (xs:=#[iv Af,iv As,sv Aq]) (ys:=#[iv x6.1,iv x6.2.1,sv x6.2.2]) false (by kernel_rfl) rfl (by kernel_rfl) (by kernel_rfl) (by kernel_rfl) (by kernel_rfl) (by kernel_rfl) (by kernel_rfl) (by kernel_rfl) (Ad ?_)))
    refine AF h (fun h=>?_) fun h=>?_
    ·refine ksr (kx 2 (Ad (Cr (DK (CZ (CZ (DK (CZ ?_))))))))
     obtain rfl:=Ap h
     exact K.drop (kdn rfl)
    ·exact Bt (Bo (AB (Bc (kx 2 (Ad (Ea m4 (IntKind.i64.wrap (x3+1)) (Nat.lt_succ_self _) h sb rfl))))))
   ·exact E6 (CY (CY (E7 (AB (K.drop (AV () h trivial rfl))))))
def LG.f (k:Nat) (a0:List ByteArray) (a1:ByteArray):Option (Bool):=(ER.f k a0 a1).bind fun r1=>some (decide (r1 ≥ 0))
theorem LG.ok {k Eo:Nat} {a0:Ag} {a1:ByteArray} {IY:Ab} {Ej:Ar} {r:Bool} (h:LG.f k a0 a1=some r) (M3:Bf encS 1 IY (Aa Ej a0 Eo) a0): Ct Tryz.prog 88 #[Aa Ej a0 Eo,sv a1] [] [IY] (fun e l1=>e=.returned (bv r)∧l1=[]):=by
 refine Cz (args:=[Aa Ej a0 Eo,sv a1]) Tryz.func88 rfl (B0 rfl) ?_
 intro A X hh_
 obtain ⟨MK,_⟩:=hh_
 unfold LG.f at h
 refine ksr (kx 1 (AY (kx 2 (bnd h fun r1 hr1 h=>(FN (ER.ok hr1 M3) ⟨MK,trivial⟩ (kx 2 (Ad (Cr ?_))))))))
 obtain rfl:=Ap h
 exact kdn rfl
def PJ.f (k:Nat) (a0:List (Int×Int×ByteArray)) (Af:Int) (As:Int) (Aq:ByteArray):Option (Bool):=(G8.f k a0 Af As Aq).bind fun r2=>some (decide (r2 ≥ 0))
theorem PJ.ok {k Eo:Nat} {a0:Bl} {Af As:Int} {Aq:ByteArray} {IY:Ab} {Ej:Ar} {r:Bool} (h:PJ.f k a0 Af As Aq=some r) (M3:Bf Dt 3 IY (Aa Ej a0 Eo) a0): Ct Tryz.prog 89 #[Aa Ej a0 Eo,.agg #[iv Af,iv As,sv Aq]] [] [IY] (fun e l1=>e=.returned (bv r)∧l1=[]):=by
 refine Cz (args:=[Aa Ej a0 Eo,.agg #[iv Af,iv As,sv Aq]]) Tryz.func89 rfl (B0 rfl) ?_
 intro A X hh_
 obtain ⟨MK,_⟩:=hh_
 unfold PJ.f at h
 refine ksr (knp #[iv Af,iv As,sv Aq] 78 fun b1=>(kx 1 (AY (kx 1 (CE 0 0 3 rfl (K.drop (bnd h fun r2 hr2 h=>(FN (G8.ok hr2 M3) ⟨MK,trivial⟩ (kx 2 (Ad ?_))))))))))
 refine Cr ?_
 obtain rfl:=Ap h
 exact kdn rfl
def ME.f (k:Nat) (a0:ByteArray):Option (Int):=cond (a0.toList == (⟨#[45]⟩:ByteArray).toList) (some (0)) ((strings_Fields.f k (⟨#[112,114,105,110,116,32,116,121,112,101,32,116,111,115,116,114,105,110,103,32,116,111,110,117,109,98,101,114,32,110,101,120,116,32,112,97,105,114,115,32,105,112,97,105,114,115,32,114,97,119,108,101,110,32,115,116,97,116,115,32,112,114,111,98,101,115,32,45,32,116,97,98,108,101,46,105,110,115,101,114,116,32,116,97,98,108,101,46,114,101,109,111,118,101,32,116,97,98,108,101,46,99,111,110,99,97,116,32,116,97,98,108,101,46,117,110,112,97,99,107,32,116,97,98,108,101,46,109,111,118,101,32,116,97,98,108,101,46,115,111,114,116,32,117,116,102,56,46,108,101,110,32,117,116,102,56,46,99,104,97,114,32,117,116,102,56,46,99,111,100,101,112,111,105,110,116,32,117,116,102,56,46,111,102,102,115,101,116,32,117,116,102,56,46,99,111,100,101,115,32,45]⟩:ByteArray)).bind fun r2=>(ER.f k r2 a0).bind fun r7=>some (IntKind.i64.wrap (r7+1)))
theorem ME.ok {k:Nat} {a0:ByteArray} {G:Ab} {r:Int} (h:ME.f k a0=some r) (hG:E2 G): Ct Tryz.prog 52 #[sv a0] [] [G] (fun e l1=>e=.returned (iv r)∧l1=[]):=by
 refine Cz (args:=[sv a0]) Tryz.func52 rfl (B0 rfl) ?_
 intro A X hh_
 obtain ⟨BU,_⟩:=hh_
 unfold ME.f at h
 refine ksr (kx 1 (Ad (Bz (ksr (kx 2 (Ad ?_))))))
 refine AF h (fun h=>?_) fun h=>?_
 ·refine ksr (kx 1 (Ad (Cr (CZ ?_))))
  obtain rfl:=Ap h
  exact kdn rfl
 ·refine Bt (AB (ksr (bnd h fun r2 hr2 h=>(B6 (strings_Fields.ok hr2 hG) rfl ⟨BU,trivial⟩ ?_))))
  rintro _ _ ⟨h3,A4,k5,o6,rfl,rfl⟩
  refine Fb (kx 1 (bnd h fun r7 hr7 h=>(FN (ER.ok hr7 (Ah.rd o6)) ⟨(.head _),trivial⟩ (K.drop (kx 2 (Ad (Cr ?_)))))))
  obtain rfl:=Ap h
  exact kdn rfl
theorem A2y (p q:Value) (w:World) :
  CallsD Tryz.prog 19 #[p,q] .returning w fun e u' w'=>e=.returned (.tuple #[])∧u'=.returning∧w=w':=by
 refine callsD_of_wpS Tryz.func19 rfl fun c₀ cs hu=>?_
 apply wpS_seq
 apply wpS_region
 simp [wpOpsS,go_sem,recoverD,hu,Tryz.ntmps19,Exit.thenS,Array.replicate_succ]
 refine wpS_of_wp ?_
 go_wp2
 cases c₀
 simp_all [bodyPostS,results,Tryz.results19]
theorem Ajy {A w:World} {X:List Ab} {p q:Nat} {x0 x1 y0 y1:Value} {i:Int×Int} (hw:St A (blk p (.cells #[x0,x1] 33 (0,0)) :: blk q (.cells #[y0,y1] 28 (0,0)) :: X) w) :
  CallsD Tryz.prog 19 #[.pointer (some ⟨p,0,none⟩),.pointer (some ⟨q,0,none⟩)] (.panicking [{ v:=KC i,recovered:=false }]) w fun e u' w'=>e=.returned (.tuple #[])∧settle u'=.returning∧St A (blk p (.cells #[.slice none 0 0,.slice none 0 0] 33 (0,0)) :: blk q (.cells #[.int .i64 i.1,.int .i64 i.2] 28 (0,0)) :: X) w':=by
 refine callsD_of_wpS Tryz.func19 rfl fun c₀ cs hu=>?_
 apply wpS_seq
 apply wpS_region
 simp [wpOpsS,go_sem,recoverD,hu,Tryz.ntmps19,Exit.thenS,Array.replicate_succ]
 refine wpS_of_wp ?_
 refine (?_:K [] A Tryz.f19.ntmps [(0,.pointer (some ⟨p,0,none⟩)),(1,.pointer (some ⟨q,0,none⟩)),(5,.iface 68 (.agg #[.int .i64 i.1,.int .i64 i.2]))] (blk p (.cells #[x0,x1] 33 (0,0)) :: blk q (.cells #[y0,y1] 28 (0,0)) :: X) _) _ w ⟨rfl,rfl,?_⟩ hw
 rotate_left
 ·intro j v hj
  simp only [Env.get] at hj
  match j with
  | 0=>cases hj;rfl
  | 1=>cases hj;rfl
  | 2=>cases hj
  | 3=>cases hj
  | 4=>cases hj
  | 5=>cases hj;rfl
  | j+6=>cases hj
 refine Co ?_
 refine Bz ?_
 refine Bc ?_
 refine Wh 1 [(0,.pointer (some ⟨p,0,none⟩)),(1,.pointer (some ⟨q,0,none⟩)),(5,.iface 68 (.agg #[.int .i64 i.1,.int .i64 i.2])),(7,.bool false)] (by kernel_rfl) ?_
 refine KG ?_
 refine AB ?_
 refine VW (by kernel_rfl) ?_
 refine Bz ?_
 refine Bc ?_
 refine Wh 3 [(0,.pointer (some ⟨p,0,none⟩)),(1,.pointer (some ⟨q,0,none⟩)),(5,.iface 68 (.agg #[.int .i64 i.1,.int .i64 i.2])),(9,.bool true),(10,.agg #[.int .i64 i.1,.int .i64 i.2])] (by kernel_rfl) ?_
 refine KG ?_
 refine AB ?_
 refine VX (by kernel_rfl) ?_
 refine Bz ?_
 refine Bc ?_
 refine Wg (.cells #[.int .i64 (0:Int),.int .i64 (0:Int)] 68 (0,0)) (fun b=>.pointer (some ⟨b,0,none⟩)) (by kernel_rfl) (by kernel_rfl) (fun _=>by kernel_rfl) fun b1=>?_
 refine Tw (cs':=#[.int .i64 i.1,.int .i64 i.2]) [.st ⟨b1,0,none⟩ (.int .i64 i.1),.st ⟨b1,1,none⟩ (.int .i64 i.2)] (by kernel_rfl) (by kernel_rfl) (by kernel_rfl) ⟨rfl,rfl,trivial⟩ (by kernel_rfl) ?_
 refine KG ?_
 refine AB ?_
 refine Tv [(0,0),(1,3),(2,1)] (fun w=>FG [blk b1 (.cells #[.int .i64 i.1,.int .i64 i.2] 68 (0,0))] w) (by kernel_rfl) (by kernel_rfl) (fun _ _ d _ _ h=>by cases d <;> exact h) (fun w h_=>⟨h_.sat.on _ (.head _),trivial⟩) ?_
 simp only [EN,List.filterMap_cons,List.filterMap_nil,List.getElem?_toArray,List.getElem?_cons_zero,List.getElem?_cons_succ,Option.map_some,List.drop_succ_cons,List.drop_zero,AD,Be]
 refine Ar2 1 [(0,.pointer (some ⟨p,0,none⟩)),(1,.pointer (some ⟨q,0,none⟩)),(3,.pointer (some ⟨b1,0,none⟩)),(11,.agg #[.slice none 0 0,.slice none 0 0])] (by kernel_rfl) (by kernel_rfl) ?_
 refine Wj (v:=.agg #[.int .i64 i.1,.int .i64 i.2]) [blk b1 (.cells #[.int .i64 i.1,.int .i64 i.2] 68 (0,0))] [.val (.int .i64 i.1),.val (.int .i64 i.2)] [.ld ⟨b1,0,none⟩ (.int .i64 i.1),.ld ⟨b1,1,none⟩ (.int .i64 i.2)] (by kernel_rfl) (by kernel_rfl) (by kernel_rfl) (fun _ h=>h) ⟨⟨0,_,_,_,rfl,rfl,rfl⟩,⟨0,_,_,_,rfl,rfl,rfl⟩,trivial⟩ ?_
 refine Aah (by kernel_rfl) ?_
 refine K.Ao ?_
 refine W4 (cs':=#[.slice none 0 0,.slice none 0 0]) [.st ⟨p,0,none⟩ (.slice none 0 0),.st ⟨p,1,none⟩ (.slice none 0 0)] (by kernel_rfl) (by kernel_rfl) ⟨rfl,rfl,trivial⟩ (by kernel_rfl) ?_
 refine Pi (fun w h_=>⟨h_.sat.on _ (.tail _ (.head _)),trivial⟩) ?_
 refine Aaf ?_
 refine K.Ak ?_
 refine Tw (cs':=#[.int .i64 i.1,.int .i64 i.2]) [.st ⟨q,0,none⟩ (.int .i64 i.1),.st ⟨q,1,none⟩ (.int .i64 i.2)] (by kernel_rfl) (by kernel_rfl) (by kernel_rfl) ⟨rfl,rfl,trivial⟩ (by kernel_rfl) ?_
 refine K.Ak ?_
 refine K.drop ?_
 refine KG ?_
 refine Bo ?_
 refine K.Ao ?_
 intro a' w' ha' hw'
 have hd:=ha'.defers
 simp [bodyPostS,results,Tryz.results19,hd,settle]
 exact hw'
def FD:FH (ByteArray×Int×Int×Int×List (Int×Int×ByteArray)):=rS1 4 (fun x=>[.string x.1,.int .i64 x.2.1,.int .i64 x.2.2.1,.int .i64 x.2.2.2.1]) (fun _=>⟨rfl,rfl⟩) Dt 78 3 (fun x=>x.2.2.2.2)
theorem Xa {x:ByteArray×Int×Int×Int×Bl} {H:Ab} {A:Ar} {c:Nat} (h:Ah Dt 78 3 H (.slice A (x.2.2.2.2).length c) (x.2.2.2.2)):FD.own x H [sv x.1,iv x.2.1,iv x.2.2.1,iv x.2.2.2.1,.slice A (x.2.2.2.2).length c]:=⟨A,c,rfl,h⟩
theorem Bqb {x:ByteArray×Int×Int×Int×Bl} {H:Ab} {cs:List Value} (h:FD.rd x H cs):∃ A c,cs=[sv x.1,iv x.2.1,iv x.2.2.1,iv x.2.2.2.1,.slice A (x.2.2.2.2).length c]∧Bf Dt 3 H (.slice A (x.2.2.2.2).length c) (x.2.2.2.2):=h
theorem S0:Ft Tryz.prog 23 9 1 16 Tryz.t9 (sv noS):=⟨by kernel_rfl,by kernel_rfl,by kernel_rfl,by kernel_rfl,by kernel_rfl,by kernel_rfl,by decide⟩
def MG.f (k:Nat) (Ac:Db) (Ae:Ag) (Bu:ByteArray) (Bv:Int) (Bx:Int) (BO:Int) (By:Bl) (B9:Ag) (BP:Int) (Bg:Ag) (a1:ByteArray):Option Ag:=(LG.f k Ae a1).bind fun r1=>cond (!r1) ((apd 16 Ae [a1]).bind fun l4=>some (l4)) (some (Ae))
theorem MG.ok {k b0 Aw BN Bm Cq CB Cb:Nat} {Ac:Db} {Ae B9 Bg r:Ag} {Bu a1:ByteArray} {Bv Bx BO BP:Int} {By:Bl} {B8 C7 Dc Dq EU:Ab} {Av BM Cp CA Ca:Ar} (h:MG.f k Ac Ae Bu Bv Bx BO By B9 BP Bg a1=some r) (AK:RdR FD B8 (Aa Av Ac Aw) Ac) (Ds:Ah encS 9 1 C7 (Aa BM Ae BN) Ae) (DF:Bf Dt 3 Dc (Aa Cp By Cq) By) (D_:Bf encS 1 Dq (Aa CA B9 CB) B9) (Ek:Bf encS 1 EU (Aa Ca Bg Cb) Bg): Ct Tryz.prog 49 #[pt b0,sv a1] [bk b0 #[Aa Av Ac Aw,Aa BM Ae BN,pt Bm] 75,C7,bk Bm #[sv Bu,iv Bv,iv Bx,iv BO,Aa Cp By Cq,Aa CA B9 CB,iv BP,Aa Ca Bg Cb] 73] [B8,Dc,Dq,EU] (fun e l1=>∃ (H0_:Ab) (A0_:Ar) (c0_:Nat),Ah encS 9 1 H0_ (Aa A0_ r c0_) r∧e=.returned (.tuple #[])∧l1=[bk b0 #[Aa Av Ac Aw,Aa A0_ r c0_,pt Bm] 75,H0_,bk Bm #[sv Bu,iv Bv,iv Bx,iv BO,Aa Cp By Cq,Aa CA B9 CB,iv BP,Aa Ca Bg Cb] 73]):=by
 refine Cz (args:=[pt b0,sv a1]) Tryz.func49 rfl (B0 rfl) ?_
 intro A X hh_
 obtain ⟨Ba,YI,VK,Fa,_⟩:=hh_
 unfold MG.f at h
 refine K.eq (env':=[(0,pt b0),(1,sv a1)]) (l':=bk b0 #[Aa Av Ac Aw,Aa BM Ae BN,pt Bm] 75 :: C7 :: bk Bm #[sv Bu,iv Bv,iv Bx,iv BO,Aa Cp By Cq,Aa CA B9 CB,iv BP,Aa Ca Bg Cb] 73 :: X) rfl rfl (ksr (kx 4 (kld 0 1 rfl (kx 1 (bnd h fun r1 hr1 h=>(FN (LG.ok hr1 (Ah.rd Ds)) ⟨(.tail _ (.head _)),trivial⟩ (kx 1 (Ad ?_))))))))
 refine AF h (fun h=>?_) fun h=>?_
 ·refine Bc (kx 5 (kld 0 1 rfl (kx 1 (De #[sv a1] 9 1 fun b3=>(K.Ak (bnd h fun l4 hl4 h=>(QJ (ys:=[a1]) IZ rfl S0 hl4 Ds (NY (n:=1) IZ [a1] (by kernel_rfl) rfl (by decide) 1 rfl) fun h5 A6 k7 o8=>(K.Ao (K.drop (kx 3 ?_))))))))))
  refine K.Ao (AQ 1 1 #[Aa Av Ac Aw,Aa A6 l4 k7,pt Bm] (knl (Cw ?_)))
  obtain rfl:=Ap h
  exact kdv (.tuple #[]) [bk b0 #[Aa Av Ac Aw,Aa A6 l4 k7,pt Bm] 75,h5,bk Bm #[sv Bu,iv Bv,iv Bx,iv BO,Aa Cp By Cq,Aa CA B9 CB,iv BP,Aa Ca Bg Cb] 73] (BH ⟨h5,A6,k7,o8,rfl,rfl⟩)
 ·refine Bt (Cw ?_)
  obtain rfl:=Ap h
  exact kdv (.tuple #[]) [bk b0 #[Aa Av Ac Aw,Aa BM Ae BN,pt Bm] 75,C7,bk Bm #[sv Bu,iv Bv,iv Bx,iv BO,Aa Cp By Cq,Aa CA B9 CB,iv BP,Aa Ca Bg Cb] 73] (BH ⟨C7,BM,BN,Ds,rfl,rfl⟩)
def O2.f (k:Nat) (Ac:Db) (Ae:Ag) (Bu:ByteArray) (Bv:Int) (Bx:Int) (BO:Int) (By:Bl) (B9:Ag) (BP:Int) (Bg:Ag) (Af:Int) (As:ByteArray) (Aq:Int) (AC:Int) (Am:List Tree):Option (PR Ag (Int×Int)):=(Kg.f k As).bind fun r2=>cond r2 (PR.bind (GR.f k 5 AC) fun r4=>some (PR.ok (Ae))) ((LG.f k B9 As).bind fun r6=>cond r6 (some (PR.ok (Ae))) ((LG.f k Bg As).bind fun r8=>cond r8 (PR.bind (GR.f k 5 AC) fun r10=>some (PR.ok (Ae))) ((MG.f k Ac Ae Bu Bv Bx BO By B9 BP Bg As).bind fun r12=>some (PR.ok (r12)))))
theorem O2.ok {k b0 Aw BN Bm Cq CB Cb Bj:Nat} {Ac:Db} {Ae B9 Bg:Ag} {Bu As:ByteArray} {Bv Bx BO BP Af Aq AC:Int} {By:Bl} {Am:List Tree} {B8 C7 Dc Dq EU Cs:Ab} {Av BM Cp CA Ca Bi:Ar} {r:PR Ag (Int×Int)} (h:O2.f k Ac Ae Bu Bv Bx BO By B9 BP Bg Af As Aq AC Am=some r) (AK:RdR FD B8 (Aa Av Ac Aw) Ac) (Ds:Ah encS 9 1 C7 (Aa BM Ae BN) Ae) (DF:Bf Dt 3 Dc (Aa Cp By Cq) By) (D_:Bf encS 1 Dq (Aa CA B9 CB) B9) (Ek:Bf encS 1 EU (Aa Ca Bg Cb) Bg) (BJ:RdR (Bb 54) Cs (Aa Bi Am Bj) Am): Ct Tryz.prog 51 #[pt b0,.agg #[iv Af,sv As,iv Aq,iv AC,Aa Bi Am Bj]] [bk b0 #[Aa Av Ac Aw,Aa BM Ae BN,pt Bm] 75,C7,bk Bm #[sv Bu,iv Bv,iv Bx,iv BO,Aa Cp By Cq,Aa CA B9 CB,iv BP,Aa Ca Bg Cb] 73] [B8,Dc,Dq,EU,Cs] (PR.Post KC (fun (r:Ag) e l1=>∃ (H0_:Ab) (A0_:Ar) (c0_:Nat),Ah encS 9 1 H0_ (Aa A0_ r c0_) r∧e=.returned (.tuple #[])∧l1=[bk b0 #[Aa Av Ac Aw,Aa A0_ r c0_,pt Bm] 75,H0_,bk Bm #[sv Bu,iv Bv,iv Bx,iv BO,Aa Cp By Cq,Aa CA B9 CB,iv BP,Aa Ca Bg Cb] 73]) r):=by
 refine Cz (args:=[pt b0,.agg #[iv Af,sv As,iv Aq,iv AC,Aa Bi Am Bj]]) Tryz.func51 rfl (B0 rfl) ?_
 intro A X hh_
 obtain ⟨Ba,YI,VK,Fa,BD,_⟩:=hh_
 unfold O2.f at h
 refine K.eq (env':=[(0,pt b0),(1,.agg #[iv Af,sv As,iv Aq,iv AC,Aa Bi Am Bj])]) (l':=bk b0 #[Aa Av Ac Aw,Aa BM Ae BN,pt Bm] 75 :: C7 :: bk Bm #[sv Bu,iv Bv,iv Bx,iv BO,Aa Cp By Cq,Aa CA B9 CB,iv BP,Aa Ca Bg Cb] 73 :: X) rfl rfl (ksr (knp #[iv Af,sv As,iv Aq,iv AC,Aa Bi Am Bj] 54 fun b1=>(Ad (Co (ksr (kx 1 (kld 0 1 rfl (bnd h fun r2 hr2 h=>(FN (Kg.ok hr2) trivial (kx 1 ?_))))))))))
 refine Ad ?_
 refine AF h (fun h=>?_) fun h=>?_
 ·refine Bc (kx 1 (kld 0 3 rfl (K.drop (B_ h (fun _ hr4=>(GR.ok hr4)) rfl trivial (fun _ e=>BZ (kpn 3 e rfl)) fun r4 h=>?_))))
  rintro _ _ ⟨rfl,rfl⟩
  refine GI (knl (Bo (Cw ?_)))
  obtain rfl:=Ap h
  exact kdv (.tuple #[]) [bk b0 #[Aa Av Ac Aw,Aa BM Ae BN,pt Bm] 75,C7,bk Bm #[sv Bu,iv Bv,iv Bx,iv BO,Aa Cp By Cq,Aa CA B9 CB,iv BP,Aa Ca Bg Cb] 73] (BH (PR.okI ⟨C7,BM,BN,Ds,rfl,rfl⟩))
 ·refine Bz (kpr [(0,0),(1,0),(2,0),(3,3),(4,0),(5,0),(6,3),(7,0),(8,3)] [0,1,3] (Ax 3 (AU 1 2 rfl (Ax 2 (AU 2 5 rfl (Ax 1 (AU 0 1 rfl (BY (bnd h fun r6 MN h=>(FN (LG.ok MN D_) ⟨(t4 VK),trivial⟩ ?_))))))))))
  refine kx 1 (Ad ?_)
  refine AF h (fun h=>?_) fun h=>?_
  ·refine Bt (Bo (Cw ?_))
   obtain rfl:=Ap h
   exact kdv (.tuple #[]) [bk b0 #[Aa Av Ac Aw,Aa BM Ae BN,pt Bm] 75,C7,bk Bm #[sv Bu,iv Bv,iv Bx,iv BO,Aa Cp By Cq,Aa CA B9 CB,iv BP,Aa Ca Bg Cb] 73] (K.drop (BH (PR.okI ⟨C7,BM,BN,Ds,rfl,rfl⟩)))
  ·refine Bz (kpr [(0,0),(1,0),(2,0),(3,3),(4,0),(5,0),(6,3),(7,0),(8,3)] [0,1,3] (Ax 3 (AU 1 2 rfl (Ax 2 (AU 2 7 rfl (Ax 1 (AU 0 1 rfl (BY (bnd h fun r8 hr8 h=>(FN (LG.ok hr8 Ek) ⟨(t4 Fa),trivial⟩ ?_))))))))))
   refine kx 1 (Ad ?_)
   refine AF h (fun h=>?_) fun h=>?_
   ·refine Bc (kx 1 (kld 0 3 rfl (K.drop (B_ h (fun _ Lq=>(GR.ok Lq)) rfl trivial (fun _ e=>BZ (kpn 3 e rfl)) fun r10 h=>?_))))
    rintro _ _ ⟨rfl,rfl⟩
    refine GI (knl (Bo (Cw ?_)))
    obtain rfl:=Ap h
    exact kdv (.tuple #[]) [bk b0 #[Aa Av Ac Aw,Aa BM Ae BN,pt Bm] 75,C7,bk Bm #[sv Bu,iv Bv,iv Bx,iv BO,Aa Cp By Cq,Aa CA B9 CB,iv BP,Aa Ca Bg Cb] 73] (BH (PR.okI ⟨C7,BM,BN,Ds,rfl,rfl⟩))
   ·refine Bc (kx 2 (kld 0 1 rfl (K.drop (K.Ak (K.Ak (K.Ak (bnd h fun r12 Y_ h=>(B6 (MG.ok Y_ AK Ds DF D_ Ek) rfl ⟨Ba,YI,VK,Fa,trivial⟩ ?_))))))))
    rintro _ _ ⟨h13,GN,k15,o16,rfl,rfl⟩
    refine NS (knl (Bo (Cw ?_)))
    obtain rfl:=Ap h
    exact kdv (.tuple #[]) [bk b0 #[Aa Av Ac Aw,Aa GN r12 k15,pt Bm] 75,h13,bk Bm #[sv Bu,iv Bv,iv Bx,iv BO,Aa Cp By Cq,Aa CA B9 CB,iv BP,Aa Ca Bg Cb] 73] (BH (PR.okI ⟨h13,GN,k15,o16,rfl,rfl⟩))
theorem A5i:Ft Tryz.prog 38 78 3 32 Tryz.t78 (.agg #[iv 0,iv 0,sv noS]):=⟨by kernel_rfl,by kernel_rfl,by kernel_rfl,by kernel_rfl,by kernel_rfl,by kernel_rfl,by decide⟩
def MF.f (k:Nat) (Ac:Db) (Ae:Ag) (Bu:ByteArray) (Bv:Int) (Bx:Int) (BO:Int) (By:Bl) (B9:Ag) (BP:Int) (Bg:Ag) (Af:Int) (As:ByteArray) (Aq:Int) (AC:Int) (Am:List Tree) (Ef:Int) (La:Int) (Lb:ByteArray):Option (PR Bl (Int×Int)):=(PJ.f k By Ef La Lb).bind fun r3=>cond (!r3) (PR.bind (EY.f k Af As Aq AC Am (IntKind.i64.wrap (((By.length:Nat):Int)+1)) 250) fun r5=>(apd 32 By [(Ef,La,Lb)]).bind fun l8=>some (PR.ok (l8))) (some (PR.ok (By)))
theorem MF.ok {k b0 Aw BN Bm Cq CB Cb Bj:Nat} {Ac:Db} {Ae B9 Bg:Ag} {Bu As Lb:ByteArray} {Bv Bx BO BP Af Aq AC Ef La:Int} {By:Bl} {Am:List Tree} {B8 C7 Dc Dq EU Cs:Ab} {Av BM Cp CA Ca Bi:Ar} {r:PR Bl (Int×Int)} (h:MF.f k Ac Ae Bu Bv Bx BO By B9 BP Bg Af As Aq AC Am Ef La Lb=some r) (AK:RdR FD B8 (Aa Av Ac Aw) Ac) (Ds:Bf encS 1 C7 (Aa BM Ae BN) Ae) (DF:Ah Dt 78 3 Dc (Aa Cp By Cq) By) (D_:Bf encS 1 Dq (Aa CA B9 CB) B9) (Ek:Bf encS 1 EU (Aa Ca Bg Cb) Bg) (BJ:RdR (Bb 54) Cs (Aa Bi Am Bj) Am): Ct Tryz.prog 50 #[pt b0,.agg #[iv Af,sv As,iv Aq,iv AC,Aa Bi Am Bj],.agg #[iv Ef,iv La,sv Lb]] [bk b0 #[Aa Av Ac Aw,Aa BM Ae BN,pt Bm] 75,bk Bm #[sv Bu,iv Bv,iv Bx,iv BO,Aa Cp By Cq,Aa CA B9 CB,iv BP,Aa Ca Bg Cb] 73,Dc] [B8,C7,Dq,EU,Cs] (PR.Post KC (fun (r:Bl) e l1=>∃ (H0_:Ab) (A0_:Ar) (c0_:Nat),Ah Dt 78 3 H0_ (Aa A0_ r c0_) r∧e=.returned (.tuple #[])∧l1=[bk b0 #[Aa Av Ac Aw,Aa BM Ae BN,pt Bm] 75,bk Bm #[sv Bu,iv Bv,iv Bx,iv BO,Aa A0_ r c0_,Aa CA B9 CB,iv BP,Aa Ca Bg Cb] 73,H0_]) r):=by
 refine Cz (args:=[pt b0,.agg #[iv Af,sv As,iv Aq,iv AC,Aa Bi Am Bj],.agg #[iv Ef,iv La,sv Lb]]) Tryz.func50 rfl (B0 rfl) ?_
 intro A X hh_
 obtain ⟨Ba,YH,VK,Fa,BD,_⟩:=hh_
 unfold MF.f at h
 refine K.eq (env':=[(0,pt b0),(1,.agg #[iv Af,sv As,iv Aq,iv AC,Aa Bi Am Bj]),(2,.agg #[iv Ef,iv La,sv Lb])]) (l':=bk b0 #[Aa Av Ac Aw,Aa BM Ae BN,pt Bm] 75 :: bk Bm #[sv Bu,iv Bv,iv Bx,iv BO,Aa Cp By Cq,Aa CA B9 CB,iv BP,Aa Ca Bg Cb] 73 :: Dc :: X) rfl rfl (ksr (knp #[iv Af,sv As,iv Aq,iv AC,Aa Bi Am Bj] 54 fun b1=>(knp #[iv Ef,iv La,sv Lb] 78 fun b2=>(Ad (Bz (kpr [(0,0),(1,0),(2,0),(3,3),(4,0),(5,0),(6,0),(7,3),(8,3)] [0,2,3] (Ax 3 (AU 1 2 rfl (Ax 3 (AU 2 4 rfl ?_))))))))))
 refine Gt 0 0 3 rfl (BY (bnd h fun r3 hr3 h=>(FN (PJ.ok hr3 (Ah.rd DF)) ⟨(.tail _ (.tail _ (.tail _ (.tail _ (.head _))))),trivial⟩ (kx 1 (Ad ?_)))))
 refine AF h (fun h=>?_) fun h=>?_
 ·refine Bz (kpr [(0,3),(1,0),(2,0),(3,0),(4,3),(5,0),(6,0),(7,0),(8,3),(9,0),(10,0)] [1,2,3] (Gt 0 0 5 rfl (Ax 3 (AU 1 2 rfl (Ax 3 (AU 2 4 rfl (Ax 2 (BY (B_ h (fun _ hr5=>(EY.ok hr5 BJ)) rfl ⟨(t5 BD),trivial⟩ (fun _ e=>Bk (kpn 5 e rfl)) fun r5 h=>?_)))))))))
  rintro _ _ ⟨rfl,rfl⟩
  refine GI (K.Ao (K.drop (Ad (kpr [(0,0),(1,0),(2,0),(3,3),(4,0),(5,0),(6,0),(7,3),(8,0),(9,0),(10,0),(11,3),(12,3),(13,1),(14,1)] [0,1,2] (Ax 3 (AU 1 2 rfl (Ax 3 (AU 1 2 rfl (Ax 3 (AU 2 4 rfl ?_))))))))))
  refine Gt 0 0 3 rfl (kpt (Hq #[iv Ef,iv La,sv Lb] 78 1 fun b7=>(Dp [1,2,3] rfl (kpt (K.Bq (bnd h fun l8 hl8 h=>(Acz (ys:=[(Ef,La,Lb)]) Yb rfl A5i (by kernel_rfl) (by kernel_rfl) (by kernel_rfl) (by kernel_rfl) hl8 DF (NY (n:=1) Yb [(Ef,La,Lb)] (by kernel_rfl) rfl (by decide) 1 rfl) fun h9 Fz k11 Hm=>(Dp [2,3,4] rfl (BY (kx 3 ?_))))))))))
  refine K.Bq (AQ 4 1 #[sv Bu,iv Bv,iv Bx,iv BO,Aa Fz l8 k11,Aa CA B9 CB,iv BP,Aa Ca Bg Cb] (K.Ak (K.drop (K.Ak (K.drop (knl (Cw ?_)))))))
  obtain rfl:=Ap h
  exact kdv (.tuple #[]) [bk b0 #[Aa Av Ac Aw,Aa BM Ae BN,pt Bm] 75,bk Bm #[sv Bu,iv Bv,iv Bx,iv BO,Aa Fz l8 k11,Aa CA B9 CB,iv BP,Aa Ca Bg Cb] 73,h9] (K.Ao (K.Ao (K.Ak (BH (PR.okI ⟨h9,Fz,k11,Hm,rfl,rfl⟩)))))
 ·refine Bt (Cw ?_)
  obtain rfl:=Ap h
  exact kdv (.tuple #[]) [bk b0 #[Aa Av Ac Aw,Aa BM Ae BN,pt Bm] 75,bk Bm #[sv Bu,iv Bv,iv Bx,iv BO,Aa Cp By Cq,Aa CA B9 CB,iv BP,Aa Ca Bg Cb] 73,Dc] (K.drop (K.drop (BH (PR.okI ⟨Dc,Cp,Cq,DF,rfl,rfl⟩))))
def GQ.l0:Nat→(a2:List Tree)→(J7:(List ByteArray)→Option (PR (Int×List ByteArray) (Int×Int)))→(x10:Int)→(Ly:List ByteArray)→Option (PR (Int×List ByteArray) (Int×Int))
 | 0,_,_,_,_=>none
 | m16+1,a2,J7,x10,Ly=>cond (decide (x10 < ((a2.length:Nat):Int))) ((AZ a2 x10).bind fun x18=>BA (fun (_:Unit)=>(apd 16 Ly [x18.text]).bind fun Je=>GQ.l0 m16 a2 J7 (IntKind.i64.wrap (x10+1)) Je) (fun J28=>(Kg.f m16 x18.text).bind fun Ig=>cond Ig (PR.bind (GR.f m16 5 x18.at_) fun Ih=>J28 ()) (J28 ()))) (J7 Ly)
def GQ.f (k:Nat) (Ac:Db) (Ae:Ag) (Bu:ByteArray) (Bv:Int) (Bx:Int) (BO:Int) (By:Bl) (B9:Ag) (BP:Int) (Bg:Ag) (Af:Int) (As:ByteArray) (Aq:Int) (AC:Int) (Am:List Tree) (a2:List Tree):Option (PR (Int×Ag) (Int×Int)):=BA (fun (l2:Ag)=>PR.bind (EY.f k Af As Aq AC Am ((l2.length:Nat):Int) 60) fun r8=>some (PR.ok ((if ((l2.length:Nat):Int) > BO then ((l2.length:Nat):Int) else BO),l2))) (fun J7=>GQ.l0 k a2 J7 0 B9)
theorem GQ.ok {k b0 Aw BN Bm Cq CB Cb Bj FY:Nat} {Ac:Db} {Ae B9 Bg:Ag} {Bu As:ByteArray} {Bv Bx BO BP Af Aq AC:Int} {By:Bl} {Am a2:List Tree} {B8 C7 Dc Dq EU Cs Kb:Ab} {Av BM Cp CA Ca Bi FX:Ar} {r:PR (Int×Ag) (Int×Int)} (h:GQ.f k Ac Ae Bu Bv Bx BO By B9 BP Bg Af As Aq AC Am a2=some r) (AK:RdR FD B8 (Aa Av Ac Aw) Ac) (Ds:Bf encS 1 C7 (Aa BM Ae BN) Ae) (DF:Bf Dt 3 Dc (Aa Cp By Cq) By) (D_:Ah encS 9 1 Dq (Aa CA B9 CB) B9) (Ek:Bf encS 1 EU (Aa Ca Bg Cb) Bg) (BJ:RdR (Bb 54) Cs (Aa Bi Am Bj) Am) (N3:RdR (Bb 54) Kb (Aa FX a2 FY) a2): Ct Tryz.prog 34 #[pt b0,.agg #[iv Af,sv As,iv Aq,iv AC,Aa Bi Am Bj],Aa FX a2 FY] [bk b0 #[Aa Av Ac Aw,Aa BM Ae BN,pt Bm] 75,bk Bm #[sv Bu,iv Bv,iv Bx,iv BO,Aa Cp By Cq,Aa CA B9 CB,iv BP,Aa Ca Bg Cb] 73,Dq] [B8,C7,Dc,EU,Cs,Kb] (PR.Post KC (fun (r:Int×Ag) e l1=>∃ (H0_:Ab) (A0_:Ar) (c0_:Nat),Ah encS 9 1 H0_ (Aa A0_ r.2 c0_) r.2∧e=.returned (.tuple #[])∧l1=[bk b0 #[Aa Av Ac Aw,Aa BM Ae BN,pt Bm] 75,bk Bm #[sv Bu,iv Bv,iv Bx,iv r.1,Aa Cp By Cq,Aa A0_ r.2 c0_,iv BP,Aa Ca Bg Cb] 73,H0_]) r):=by
 refine Cz (args:=[pt b0,.agg #[iv Af,sv As,iv Aq,iv AC,Aa Bi Am Bj],Aa FX a2 FY]) Tryz.func34 rfl (B0 rfl) ?_
 intro A X hh_
 obtain ⟨Ba,YH,YI,Fa,BD,ML,_⟩:=hh_
 unfold GQ.f at h
 refine K.eq (env':=[(0,pt b0),(1,.agg #[iv Af,sv As,iv Aq,iv AC,Aa Bi Am Bj]),(2,Aa FX a2 FY)]) (l':=bk b0 #[Aa Av Ac Aw,Aa BM Ae BN,pt Bm] 75 :: bk Bm #[sv Bu,iv Bv,iv Bx,iv BO,Aa Cp By Cq,Aa CA B9 CB,iv BP,Aa Ca Bg Cb] 73 :: Dq :: X) rfl rfl (ksr (knp #[iv Af,sv As,iv Aq,iv AC,Aa Bi Am Bj] 54 fun b1=>(Ad ?_)))
 obtain ⟨J7,hJ7,h⟩:=CG h
 refine CH (τ:=Ag×Ab×Ar×Nat) (fun t=>[(0,pt b0),(4,pt b1)]) (fun t=>bk b1 #[iv Af,sv As,iv Aq,iv AC,Aa Bi Am Bj] 54 :: bk b0 #[Aa Av Ac Aw,Aa BM Ae BN,pt Bm] 75 :: bk Bm #[sv Bu,iv Bv,iv Bx,iv BO,Aa Cp By Cq,Aa t.2.2.1 t.1 t.2.2.2,iv BP,Aa Ca Bg Cb] 73 :: t.2.1 :: X) (fun t=>J7 t.1=some r∧Ah encS 9 1 t.2.1 (Aa t.2.2.1 t.1 t.2.2.2) t.1) ?_ ?_
 ·rintro ⟨l2,h3,A4,k5⟩ ⟨h,o6⟩
  subst hJ7
  refine Bz (kpr [(0,3),(1,0),(2,0),(3,0),(4,3),(5,0),(6,0),(7,3),(8,0)] [0,1,2] (Gt 0 0 5 rfl (Ax 3 (AU 1 2 rfl (Ax 2 (AU 2 5 rfl (Ax 1 (BY (B_ h (fun _ hr8=>(EY.ok hr8 BJ)) rfl ⟨(t4 BD),trivial⟩ (fun _ e=>Bk (kpn 4 e rfl)) fun r8 h=>?_)))))))))
  rintro _ _ ⟨rfl,rfl⟩
  refine GI (K.drop (Ad (kpr [(0,0),(1,0),(2,0),(3,3),(4,0),(5,0),(6,0),(7,3),(8,0),(9,0),(10,0),(11,3),(12,0),(13,0),(14,0),(15,3),(16,0),(17,0),(18,3),(19,0),(20,0)] [0,1] (Ax 3 (AU 0 2 rfl (Ax 3 (AU 0 2 rfl (Ax 3 (AU 1 3 rfl (Ax 3 ?_))))))))))
  refine AU 0 2 rfl (Ax 2 (AU 1 5 rfl (Ax 2 (BY (kx 3 (K.Ao (AQ 3 1 #[sv Bu,iv Bv,iv Bx,iv (if ((l2.length:Nat):Int) > BO then ((l2.length:Nat):Int) else BO),Aa Cp By Cq,Aa A4 l2 k5,iv BP,Aa Ca Bg Cb] (knl (Cw ?_)))))))))
  obtain rfl:=Ap h
  exact kdv (.tuple #[]) [bk b0 #[Aa Av Ac Aw,Aa BM Ae BN,pt Bm] 75,bk Bm #[sv Bu,iv Bv,iv Bx,iv (if ((l2.length:Nat):Int) > BO then ((l2.length:Nat):Int) else BO),Aa Cp By Cq,Aa A4 l2 k5,iv BP,Aa Ca Bg Cb] 73,h3] (K.Ak (K.Ao (K.Ak (BH (PR.okI ⟨h3,A4,k5,o6,rfl,rfl⟩)))))
 ·skip
  refine ksr (kx 3 (Ad (Co (EL (τ:=Int×Ag×Ab×Ar×Nat) (fun t=>[(0,pt b0),(4,pt b1),(8,Aa FX a2 FY),(9,iv ((a2.length:Nat):Int)),(10,iv t.1)]) (fun t=>bk b1 #[iv Af,sv As,iv Aq,iv AC,Aa Bi Am Bj] 54 :: bk b0 #[Aa Av Ac Aw,Aa BM Ae BN,pt Bm] 75 :: bk Bm #[sv Bu,iv Bv,iv Bx,iv BO,Aa Cp By Cq,Aa t.2.2.2.1 t.2.1 t.2.2.2.2,iv BP,Aa Ca Bg Cb] 73 :: t.2.2.1 :: X) (fun m t=>GQ.l0 m a2 J7 t.1 t.2.1=some r∧Ah encS 9 1 t.2.2.1 (Aa t.2.2.2.1 t.2.1 t.2.2.2.2) t.2.1) k (0,B9,Dq,CA,CB) ⟨h,D_⟩ sb rfl ?_))))
  clear h
  rintro m16 ⟨x10,Ly,h12,K0,k14⟩ ⟨h,o15⟩
  cases m16 with
  | zero=>simp [GQ.l0] at h
  | succ m16 =>
   simp only [GQ.l0] at h
   refine ksr (kx 1 (Ad (Bz ?_)))
   refine AF h (fun h=>?_) fun h=>?_
   ·refine Bt (AB (Bz (Co (ksr (bnd h fun x18 Bfs h=>(DL (T:=54) (kd:=.i64) (R:=(Bb 54)) rfl Bfs N3 fun p19 u22 q23 e20 y21=>?_))))))
    obtain ⟨Fs,k25,rfl,JE⟩:=DI 54 q23
    refine E8 rfl e20 (t4 ML) (knp #[iv 0,sv noS,iv 0,iv 0,nS] 54 fun b27=>(AQ 0 5 #[iv x18.kind,sv x18.text,iv x18.n,iv x18.at_,Aa Fs x18.kids k25] (Ad ?_)))
    obtain ⟨J28,Y5,h⟩:=CG h
    refine CH (τ:=Unit) (fun t=>[(0,pt b0),(4,pt b1),(7,pt b27),(8,Aa FX a2 FY),(9,iv ((a2.length:Nat):Int)),(10,iv x10)]) (fun t=>bk b27 #[iv x18.kind,sv x18.text,iv x18.n,iv x18.at_,Aa Fs x18.kids k25] 54 :: bk b1 #[iv Af,sv As,iv Aq,iv AC,Aa Bi Am Bj] 54 :: bk b0 #[Aa Av Ac Aw,Aa BM Ae BN,pt Bm] 75 :: bk Bm #[sv Bu,iv Bv,iv Bx,iv BO,Aa Cp By Cq,Aa K0 Ly k14,iv BP,Aa Ca Bg Cb] 73 :: h12 :: X) (fun t=>J28 ()=some r) ?_ ?_
    ·rintro ⟨⟩ h
     subst Y5
     refine kpr [(0,0),(1,0),(2,0),(3,3),(4,0),(5,0),(6,0),(7,3),(8,0),(9,0),(10,3),(11,0),(12,3),(13,1),(14,1)] [0,2,3] (Ax 3 (AU 1 2 rfl (Ax 3 (AU 1 2 rfl (Ax 2 (AU 2 5 rfl (Ax 1 (AU 0 1 rfl (kpt (Hq #[sv x18.text] 9 1 fun b29=>?_))))))))))
     refine Dp [1,3,4] rfl (kpt (K.mv5 (bnd h fun Je YG h=>(Acz (ys:=[x18.text]) IZ rfl S0 (by kernel_rfl) (by kernel_rfl) (by kernel_rfl) (by kernel_rfl) YG o15 (NY (n:=1) IZ [x18.text] (by kernel_rfl) rfl (by decide) 1 rfl) fun h31 Mz k33 Ic=>(Dp [2,4,5] rfl (BY (kx 2 (K.mv5 (AQ 5 1 #[sv Bu,iv Bv,iv Bx,iv BO,Aa Cp By Cq,Aa Mz Je k33,iv BP,Aa Ca Bg Cb] (K.Ak ?_))))))))))
     refine K.drop (K.Ak (K.drop (knl (Bo (AB (Bc (kx 2 (Ad (K.Ao (K.Ao ?_))))))))))
     exact K.mv3 (K.mv3 (Ea m16 (IntKind.i64.wrap (x10+1),Je,h31,Mz,k33) (Nat.lt_succ_self _) ⟨h,Ic⟩ sb rfl))
    ·skip
     refine ksr (kx 1 (kld 0 1 rfl (bnd h fun Ig OK h=>(FN (Kg.ok OK) trivial (Ad ?_)))))
     refine AF h (fun h=>?_) fun h=>?_
     ·refine Bc (kx 1 (kld 0 3 rfl (B_ h (fun _ OL=>(GR.ok OL)) rfl trivial (fun _ e=>Bk (BZ (Bk (Bk (BZ (Bk (kpn 5 e rfl))))))) fun Ih h=>?_)))
      rintro _ _ ⟨rfl,rfl⟩
      exact GI (Ad (AV () h sb rfl))
     ·exact Bt (AB (AV () h sb rfl))
   ·exact E6 (CY (CY (E7 (AB (AV (Ly,h12,K0,k14) ⟨h,o15⟩ sb rfl)))))
end
end Go.Proofs.YtkdjiehclahliaaGreatDoor
