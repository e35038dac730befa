/- Texts of mine for checkRenames_card, part 4. -/
import Derived.Test.YtdkgnlaneccioaaGreatDoorCrC
set_option linter.unusedSimpArgs false
set_option linter.unusedVariables false
set_option linter.unusedSectionVars false
namespace Go.Proofs.YtdkgnlaneccioaaGreatDoor
open Go Go.RowKit
def Le {α : Type} (x y : Option α) : Prop := ∀ v, x = some v → y = some v
section
variable {α β : Type}
theorem Le.refl (x : Option α) : Le x x := fun _ h => h
theorem Le.none (x : Option α) : Le none x := fun _ h => by cases h
theorem Le.trans {x y z : Option α} (h1 : Le x y) (h2 : Le y z) : Le x z := fun v h => h2 v (h1 v h)
theorem Le.bind {x y : Option (PV α)} {f g : α → List Tk → Option (PV β)} (h : Le x y) (hf : ∀ a r, Le (f a r) (g a r)) : Le (PV.bind x f) (PV.bind y g) := fun v hv => by
 rcases bind_some hv with ⟨i, hx, rfl⟩ | ⟨a, r, hx, h2⟩
 ·rw [h _ hx]; rfl
 ·rw [h _ hx]; exact hf a r _ h2
theorem Le.ite {c : Prop} [Decidable c] {x y x' y' : Option α} (h1 : Le x x') (h2 : Le y y') : Le (if c then x else y) (if c then x' else y') := by
 by_cases h : c
 ·rw [if_pos h, if_pos h]; exact h1
 ·rw [if_neg h, if_neg h]; exact h2
end
theorem le_namesL : ∀ (f : Nat) (acc : List Tree) (ts : List Tk), Le (pNamesL f acc ts) (pNamesL (f + 1) acc ts)
 | 0, _, _ => Le.none _
 | f + 1, acc, ts => by
  rw [pNamesL, pNamesL]
  exact Le.ite (Le.bind (Le.refl _) fun _ _ => le_namesL f _ _) (Le.refl _)
theorem le_names (f : Nat) (ts : List Tk) : Le (pNames f ts) (pNames (f + 1) ts) := Le.bind (Le.refl _) fun _ _ => le_namesL f _ _
structure LeE (f : Nat) : Prop where
 exp : ∀ least ts, Le (pExp f least ts) (pExp (f + 1) least ts)
 loop : ∀ least n ts, Le (pLoop f least n ts) (pLoop (f + 1) least n ts)
 operand : ∀ ts, Le (pOperand f ts) (pOperand (f + 1) ts)
 fields : ∀ acc ts, Le (pFields f acc ts) (pFields (f + 1) acc ts)
 field : ∀ ts, Le (pField f ts) (pField (f + 1) ts)
 suffixed : ∀ ts, Le (pSuffixed f ts) (pSuffixed (f + 1) ts)
 sufL : ∀ at_ n ts, Le (pSufL f at_ n ts) (pSufL (f + 1) at_ n ts)
 exps : ∀ ts, Le (pExps f ts) (pExps (f + 1) ts)
 expsL : ∀ acc ts, Le (pExpsL f acc ts) (pExpsL (f + 1) acc ts)
theorem leE : ∀ f, LeE f
 | 0 => by constructor <;> intros <;> (first | rw [pExp] | rw [pLoop] | rw [pOperand] | rw [pFields] | rw [pField] | rw [pSuffixed] | rw [pSufL] | rw [pExps] | rw [pExpsL]) <;> exact Le.none _
 | f + 1 => by
  have ih := leE f
  constructor
  ·intro least ts; rw [pExp, pExp]
   exact Le.bind (ih.operand _) fun _ _ => ih.loop _ _ _
  ·intro least n ts; rw [pLoop, pLoop]
   exact Le.ite (Le.refl _) (Le.bind (ih.exp _ _) fun _ _ => ih.loop _ _ _)
  ·intro ts; rw [pOperand, pOperand]
   exact Le.ite (Le.refl _) (Le.ite (Le.refl _) (Le.ite (Le.refl _) (Le.ite (Le.refl _) (Le.ite (Le.refl _) (Le.ite (Le.bind (ih.exp _ _) fun _ _ => Le.refl _) (Le.ite (Le.bind (ih.fields _ _) fun _ _ => Le.refl _) (ih.suffixed _)))))))
  ·intro acc ts; rw [pFields, pFields]
   exact Le.ite (Le.refl _) (Le.bind (ih.field _) fun _ _ => Le.ite (ih.fields _ _) (Le.ite (ih.fields _ _) (Le.refl _)))
  ·intro ts; rw [pField, pField]
   exact Le.ite (Le.bind (ih.exp _ _) fun _ _ => Le.bind (Le.refl _) fun _ _ => Le.bind (Le.refl _) fun _ _ => Le.bind (ih.exp _ _) fun _ _ => Le.refl _) (Le.ite (Le.bind (ih.exp _ _) fun _ _ => Le.refl _) (Le.bind (ih.exp _ _) fun _ _ => Le.refl _))
  ·intro ts; rw [pSuffixed, pSuffixed]
   exact Le.ite (Le.bind (ih.exp _ _) fun _ _ => Le.bind (Le.refl _) fun _ _ => ih.sufL _ _ _) (Le.bind (Le.refl _) fun _ _ => ih.sufL _ _ _)
  ·intro at_ n ts; rw [pSufL, pSufL]
   exact Le.ite (Le.bind (ih.exp _ _) fun _ _ => Le.bind (Le.refl _) fun _ _ => ih.sufL _ _ _) (Le.ite (Le.bind (Le.refl _) fun _ _ => ih.sufL _ _ _) (Le.ite (Le.bind (Le.ite (Le.refl _) (ih.exps _)) fun _ _ => Le.bind (Le.refl _) fun _ _ => ih.sufL _ _ _) (Le.refl _)))
  ·intro ts; rw [pExps, pExps]
   exact Le.bind (ih.exp _ _) fun _ _ => ih.expsL _ _
  ·intro acc ts; rw [pExpsL, pExpsL]
   exact Le.ite (Le.bind (ih.exp _ _) fun _ _ => ih.expsL _ _) (Le.refl _)
structure LeS (f : Nat) : Prop where
 block : ∀ c ts, Le (pBlock f c ts) (pBlock (f + 1) c ts)
 blockL : ∀ c at_ acc ts, Le (pBlockL f c at_ acc ts) (pBlockL (f + 1) c at_ acc ts)
 function : ∀ ts, Le (pFunction f ts) (pFunction (f + 1) ts)
 body : ∀ ts, Le (pBody f ts) (pBody (f + 1) ts)
 stat : ∀ ts, Le (pStat f ts) (pStat (f + 1) ts)
 branches : ∀ acc ts, Le (pBranches f acc ts) (pBranches (f + 1) acc ts)
 for_ : ∀ at_ ts, Le (pFor f at_ ts) (pFor (f + 1) at_ ts)
 plain : ∀ ts, Le (pPlain f ts) (pPlain (f + 1) ts)
 targets : ∀ acc e ts, Le (pTargets f acc e ts) (pTargets (f + 1) acc e ts)
theorem leS : ∀ f, LeS f
 | 0 => by constructor <;> intros <;> (first | rw [pBlock] | rw [pBlockL] | rw [pFunction] | rw [pBody] | rw [pStat] | rw [pBranches] | rw [pFor] | rw [pPlain] | rw [pTargets]) <;> exact Le.none _
 | f + 1 => by
  have ih := leS f
  have ie := leE f
  constructor
  ·intro c ts; rw [pBlock, pBlock]; exact ih.blockL _ _ _ _
  ·intro c at_ acc ts; rw [pBlockL, pBlockL]
   exact Le.ite (ih.blockL _ _ _ _) (Le.ite (Le.bind (Le.ite (Le.refl _) (ie.exps _)) fun _ _ => Le.refl _) (Le.ite (Le.bind (ih.function _) fun _ _ => ih.blockL _ _ _ _) (Le.ite (Le.refl _) (Le.bind (ih.stat _) fun _ _ => ih.blockL _ _ _ _))))
  ·intro ts; rw [pFunction, pFunction]
   exact Le.bind (Le.refl _) fun _ _ => Le.bind (Le.refl _) fun _ _ => Le.bind (Le.ite (Le.refl _) (le_names _ _)) fun _ _ => Le.bind (Le.refl _) fun _ _ => Le.bind (ih.block _ _) fun _ _ => Le.refl _
  ·intro ts; rw [pBody, pBody]
   exact Le.bind (Le.refl _) fun _ _ => Le.bind (ih.block _ _) fun _ _ => Le.refl _
  ·intro ts; rw [pStat, pStat]
   exact Le.ite (Le.bind (ih.body _) fun _ _ => Le.refl _) (Le.ite (Le.bind (ie.exp _ _) fun _ _ => Le.bind (ih.body _) fun _ _ => Le.refl _) (Le.ite (Le.bind (ih.branches _ _) fun _ _ => Le.refl _) (Le.ite (ih.for_ _ _) (Le.ite (Le.bind (le_names _ _) fun _ _ => Le.bind (Le.ite (ie.exps _) (Le.refl _)) fun _ _ => Le.refl _) (Le.ite (Le.refl _) (ih.plain _))))))
  ·intro acc ts; rw [pBranches, pBranches]
   exact Le.bind (ie.exp _ _) fun _ _ => Le.bind (Le.refl _) fun _ _ => Le.bind (ih.block _ _) fun _ _ => Le.ite (ih.branches _ _) (Le.ite (Le.bind (ih.block _ _) fun _ _ => Le.refl _) (Le.refl _))
  ·intro at_ ts; rw [pFor, pFor]
   exact Le.bind (Le.refl _) fun _ _ => Le.ite (Le.bind (ie.exp _ _) fun _ _ => Le.bind (Le.refl _) fun _ _ => Le.bind (ie.exp _ _) fun _ _ => Le.bind (Le.ite (Le.bind (ie.exp _ _) fun _ _ => Le.refl _) (Le.refl _)) fun _ _ => Le.bind (ih.body _) fun _ _ => Le.refl _) (Le.bind (le_namesL _ _ _) fun _ _ => Le.bind (Le.refl _) fun _ _ => Le.bind (ie.exps _) fun _ _ => Le.bind (ih.body _) fun _ _ => Le.refl _)
  ·intro ts; rw [pPlain, pPlain]
   exact Le.bind (ie.suffixed _) fun _ _ => Le.ite (Le.bind (ih.targets _ _ _) fun _ _ => Le.bind (Le.refl _) fun _ _ => Le.bind (ie.exps _) fun _ _ => Le.refl _) (Le.refl _)
  ·intro acc e ts; rw [pTargets, pTargets]
   exact Le.ite (Le.ite (Le.bind (ie.suffixed _) fun _ _ => ih.targets _ _ _) (Le.refl _)) (Le.refl _)
theorem le_up {α : Type} {p : Nat → Option α} (h : ∀ f, Le (p f) (p (f + 1))) {f f' : Nat} (h0 : f ≤ f') : Le (p f) (p f') := by
 induction f' with
 | zero => rw [Nat.le_zero.1 h0]; exact Le.refl _
 | succ f' ih =>
  rcases Nat.lt_or_ge f (f' + 1) with h1 | h1
  ·exact (ih (by omega)).trans (h f')
  ·rw [show f = f' + 1 by omega]; exact Le.refl _
def val {α : Type} (x : Option (PV α)) : PV α := x.getD (.bad 0)
def fu (ts : List Tk) : Nat := 16 * ts.length + 16
theorem val_up {α : Type} {p : Nat → Option (PV α)} (h : ∀ f, Le (p f) (p (f + 1))) {f f0 : Nat} (h1 : ∃ v, p f = some v) (h2 : ∃ v, p f0 = some v) : p f = some (val (p f0)) := by
 obtain ⟨v, hv⟩ := h1
 obtain ⟨v0, hv0⟩ := h2
 rcases Nat.le_total f f0 with h' | h'
 ·have := le_up h h' v hv
  rw [hv, this]; rfl
 ·have := le_up h h' v0 hv0
  rw [this, hv0]; rfl
def vNamesL (acc : List Tree) (ts : List Tk) : PV (List Tree) := val (pNamesL (fu ts) acc ts)
def vExp (least : Int) (ts : List Tk) : PV Tree := val (pExp (fu ts) least ts)
def vLoop (least : Int) (n : Tree) (ts : List Tk) : PV Tree := val (pLoop (fu ts) least n ts)
def vOperand (ts : List Tk) : PV Tree := val (pOperand (fu ts) ts)
def vFields (acc : List Tree) (ts : List Tk) : PV (List Tree) := val (pFields (fu ts) acc ts)
def vField (ts : List Tk) : PV Tree := val (pField (fu ts) ts)
def vSuffixed (ts : List Tk) : PV Tree := val (pSuffixed (fu ts) ts)
def vSufL (at_ : Int) (n : Tree) (ts : List Tk) : PV Tree := val (pSufL (fu ts) at_ n ts)
def vExps (ts : List Tk) : PV (List Tree) := val (pExps (fu ts) ts)
def vExpsL (acc : List Tree) (ts : List Tk) : PV (List Tree) := val (pExpsL (fu ts) acc ts)
def vBlock (c : Bool) (ts : List Tk) : PV Tree := val (pBlock (fu ts) c ts)
def vBlockL (c : Bool) (at_ : Int) (acc : List Tree) (ts : List Tk) : PV Tree := val (pBlockL (fu ts) c at_ acc ts)
def vFunction (ts : List Tk) : PV Tree := val (pFunction (fu ts) ts)
def vBody (ts : List Tk) : PV Tree := val (pBody (fu ts) ts)
def vStat (ts : List Tk) : PV Tree := val (pStat (fu ts) ts)
def vBranches (acc : List Tree) (ts : List Tk) : PV (List Tree) := val (pBranches (fu ts) acc ts)
def vFor (at_ : Int) (ts : List Tk) : PV Tree := val (pFor (fu ts) at_ ts)
def vPlain (ts : List Tk) : PV Tree := val (pPlain (fu ts) ts)
def vTargets (acc : List Tree) (e : Tree) (ts : List Tk) : PV (List Tree) := val (pTargets (fu ts) acc e ts)
def vWant (w : ByteArray) (ts : List Tk) : PV Unit := if isH w ts then .ok () ts.tail else .bad (hd ts).2.2.2
def vName (kind : Int) (ts : List Tk) : PV Tree := if (hd ts).1 = 1 then .ok (.mk kind (hd ts).2.1 0 (hd ts).2.2.2 []) ts.tail else .bad (hd ts).2.2.2
section
variable {ts : List Tk} {f : Nat}
theorem pWant_v (w : ByteArray) (ts : List Tk) : pWant w ts = some (vWant w ts) := by unfold pWant vWant; split <;> rfl
theorem pName_v (k : Int) (ts : List Tk) : pName k ts = some (vName k ts) := by unfold pName vName; split <;> rfl
theorem pNamesL_v (acc : List Tree) (hg : Good ts) (hf : 16 * ts.length + 1 ≤ f) : pNamesL f acc ts = some (vNamesL acc ts) := val_up (p := fun f => pNamesL f acc ts) (fun f => le_namesL f acc ts) (tot_namesL _ _ _ hg hf) (tot_namesL _ _ _ hg (by unfold fu; omega))
theorem pExp_v {least : Int} (hl : 0 ≤ least) (hg : Good ts) (hf : 16 * ts.length + 5 ≤ f) : pExp f least ts = some (vExp least ts) := val_up (p := fun f => pExp f least ts) (fun f => (leE f).exp _ _) ((totE _).exp _ _ hl hg hf) ((totE _).exp _ _ hl hg (by unfold fu; omega))
theorem pLoop_v {least : Int} (n : Tree) (hl : 0 ≤ least) (hg : Good ts) (hf : 16 * ts.length + 1 ≤ f) : pLoop f least n ts = some (vLoop least n ts) := val_up (p := fun f => pLoop f least n ts) (fun f => (leE f).loop _ _ _) ((totE _).loop _ _ _ hl hg hf) ((totE _).loop _ _ _ hl hg (by unfold fu; omega))
theorem pOperand_v (hg : Good ts) (hf : 16 * ts.length + 4 ≤ f) : pOperand f ts = some (vOperand ts) := val_up (p := fun f => pOperand f ts) (fun f => (leE f).operand _) ((totE _).operand _ hg hf) ((totE _).operand _ hg (by unfold fu; omega))
theorem pFields_v (acc : List Tree) (hg : Good ts) (hf : 16 * ts.length + 7 ≤ f) : pFields f acc ts = some (vFields acc ts) := val_up (p := fun f => pFields f acc ts) (fun f => (leE f).fields _ _) ((totE _).fields _ _ hg hf) ((totE _).fields _ _ hg (by unfold fu; omega))
theorem pField_v (hg : Good ts) (hf : 16 * ts.length + 6 ≤ f) : pField f ts = some (vField ts) := val_up (p := fun f => pField f ts) (fun f => (leE f).field _) ((totE _).field _ hg hf) ((totE _).field _ hg (by unfold fu; omega))
theorem pSuffixed_v (hg : Good ts) (hf : 16 * ts.length + 3 ≤ f) : pSuffixed f ts = some (vSuffixed ts) := val_up (p := fun f => pSuffixed f ts) (fun f => (leE f).suffixed _) ((totE _).suffixed _ hg hf) ((totE _).suffixed _ hg (by unfold fu; omega))
theorem pSufL_v (at_ : Int) (n : Tree) (hg : Good ts) (hf : 16 * ts.length + 1 ≤ f) : pSufL f at_ n ts = some (vSufL at_ n ts) := val_up (p := fun f => pSufL f at_ n ts) (fun f => (leE f).sufL _ _ _) ((totE _).sufL _ _ _ hg hf) ((totE _).sufL _ _ _ hg (by unfold fu; omega))
theorem pExps_v (hg : Good ts) (hf : 16 * ts.length + 6 ≤ f) : pExps f ts = some (vExps ts) := val_up (p := fun f => pExps f ts) (fun f => (leE f).exps _) ((totE _).exps _ hg hf) ((totE _).exps _ hg (by unfold fu; omega))
theorem pExpsL_v (acc : List Tree) (hg : Good ts) (hf : 16 * ts.length + 1 ≤ f) : pExpsL f acc ts = some (vExpsL acc ts) := val_up (p := fun f => pExpsL f acc ts) (fun f => (leE f).expsL _ _) ((totE _).expsL _ _ hg hf) ((totE _).expsL _ _ hg (by unfold fu; omega))
theorem pBlock_v (c : Bool) (hg : Good ts) (hf : 16 * ts.length + 9 ≤ f) : pBlock f c ts = some (vBlock c ts) := val_up (p := fun f => pBlock f c ts) (fun f => (leS f).block _ _) ((totS _).block _ _ hg hf) ((totS _).block _ _ hg (by unfold fu; omega))
theorem pBlockL_v (c : Bool) (at_ : Int) (acc : List Tree) (hg : Good ts) (hf : 16 * ts.length + 8 ≤ f) : pBlockL f c at_ acc ts = some (vBlockL c at_ acc ts) := val_up (p := fun f => pBlockL f c at_ acc ts) (fun f => (leS f).blockL _ _ _ _) ((totS _).blockL _ _ _ _ hg hf) ((totS _).blockL _ _ _ _ hg (by unfold fu; omega))
theorem pFunction_v (h6 : (hd ts).1 ≠ 6) (hg : Good ts) (hf : 16 * ts.length + 7 ≤ f) : pFunction f ts = some (vFunction ts) := val_up (p := fun f => pFunction f ts) (fun f => (leS f).function _) ((totS _).function _ h6 hg hf) ((totS _).function _ h6 hg (by unfold fu; omega))
theorem pBody_v (hg : Good ts) (hf : 16 * ts.length + 6 ≤ f) : pBody f ts = some (vBody ts) := val_up (p := fun f => pBody f ts) (fun f => (leS f).body _) ((totS _).body _ hg hf) ((totS _).body _ hg (by unfold fu; omega))
theorem pStat_v (hg : Good ts) (hf : 16 * ts.length + 7 ≤ f) : pStat f ts = some (vStat ts) := val_up (p := fun f => pStat f ts) (fun f => (leS f).stat _) ((totS _).stat _ hg hf) ((totS _).stat _ hg (by unfold fu; omega))
theorem pBranches_v (acc : List Tree) (hg : Good ts) (hf : 16 * ts.length + 6 ≤ f) : pBranches f acc ts = some (vBranches acc ts) := val_up (p := fun f => pBranches f acc ts) (fun f => (leS f).branches _ _) ((totS _).branches _ _ hg hf) ((totS _).branches _ _ hg (by unfold fu; omega))
theorem pFor_v (at_ : Int) (hg : Good ts) (hf : 16 * ts.length + 1 ≤ f) : pFor f at_ ts = some (vFor at_ ts) := val_up (p := fun f => pFor f at_ ts) (fun f => (leS f).for_ _ _) ((totS _).for_ _ _ hg hf) ((totS _).for_ _ _ hg (by unfold fu; omega))
theorem pPlain_v (hg : Good ts) (hf : 16 * ts.length + 6 ≤ f) : pPlain f ts = some (vPlain ts) := val_up (p := fun f => pPlain f ts) (fun f => (leS f).plain _) ((totS _).plain _ hg hf) ((totS _).plain _ hg (by unfold fu; omega))
theorem pTargets_v (acc : List Tree) (e : Tree) (hg : Good ts) (hf : 16 * ts.length + 1 ≤ f) : pTargets f acc e ts = some (vTargets acc e ts) := val_up (p := fun f => pTargets f acc e ts) (fun f => (leS f).targets _ _ _) ((totS _).targets _ _ _ hg hf) ((totS _).targets _ _ _ hg (by unfold fu; omega))
theorem fWant (w : ByteArray) (hg : Good ts) : Fwd 1 ts (vWant w ts) := step_want w ts hg _ (pWant_v w ts)
theorem fName (k : Int) (hg : Good ts) : Fwd 1 ts (vName k ts) := step_name k ts hg _ (pName_v k ts)
theorem fNamesL (acc : List Tree) (hg : Good ts) : Fwd 0 ts (vNamesL acc ts) := step_namesL _ _ ts hg _ (pNamesL_v acc hg (by unfold fu; omega : _ ≤ fu ts))
theorem fExp {least : Int} (hl : 0 ≤ least) (hg : Good ts) : Fwd 1 ts (vExp least ts) := (stepE _).exp _ _ hg _ (pExp_v hl hg (by unfold fu; omega : _ ≤ fu ts))
theorem fOperand (hg : Good ts) : Fwd 1 ts (vOperand ts) := (stepE _).operand _ hg _ (pOperand_v hg (by unfold fu; omega : _ ≤ fu ts))
theorem fFields (acc : List Tree) (hg : Good ts) : Fwd 1 ts (vFields acc ts) := (stepE _).fields _ _ hg _ (pFields_v acc hg (by unfold fu; omega : _ ≤ fu ts))
theorem fField (hg : Good ts) : Fwd 1 ts (vField ts) := (stepE _).field _ hg _ (pField_v hg (by unfold fu; omega : _ ≤ fu ts))
theorem fSuffixed (hg : Good ts) : Fwd 1 ts (vSuffixed ts) := (stepE _).suffixed _ hg _ (pSuffixed_v hg (by unfold fu; omega : _ ≤ fu ts))
theorem fExps (hg : Good ts) : Fwd 1 ts (vExps ts) := (stepE _).exps _ hg _ (pExps_v hg (by unfold fu; omega : _ ≤ fu ts))
theorem fBlock (c : Bool) (hg : Good ts) : Fwd 0 ts (vBlock c ts) := (stepS _).block _ _ hg _ (pBlock_v c hg (by unfold fu; omega : _ ≤ fu ts))
theorem fFunction (h6 : (hd ts).1 ≠ 6) (hg : Good ts) : Fwd 1 ts (vFunction ts) := (stepS _).function _ h6 hg _ (pFunction_v h6 hg (by unfold fu; omega : _ ≤ fu ts))
theorem fBody (hg : Good ts) : Fwd 1 ts (vBody ts) := (stepS _).body _ hg _ (pBody_v hg (by unfold fu; omega : _ ≤ fu ts))
theorem fStat (hg : Good ts) : Fwd 1 ts (vStat ts) := (stepS _).stat _ hg _ (pStat_v hg (by unfold fu; omega : _ ≤ fu ts))
theorem fBranches (acc : List Tree) (hg : Good ts) : Fwd 1 ts (vBranches acc ts) := (stepS _).branches _ _ hg _ (pBranches_v acc hg (by unfold fu; omega : _ ≤ fu ts))
theorem fTargets (acc : List Tree) (e : Tree) (hg : Good ts) : Fwd 0 ts (vTargets acc e ts) := (stepS _).targets _ _ _ hg _ (pTargets_v acc e hg (by unfold fu; omega : _ ≤ fu ts))
end
def PV.then {α β : Type} : PV α → (α → List Tk → PV β) → PV β
 | .ok a r, f => f a r
 | .bad i, _ => .bad i
section
variable {α β : Type} {n : Nat} {ts : List Tk}
theorem eq_bind {x : Option (PV α)} {vx : PV α} {f : α → List Tk → Option (PV β)} {g : α → List Tk → PV β} (hx : x = some vx) (hw : Fwd n ts vx) (hf : ∀ a r, Good r → r.length + n ≤ ts.length → f a r = some (g a r)) : PV.bind x f = some (vx.then g) := by
 subst hx
 cases vx with
 | bad i => rfl
 | ok a r => exact hf a r hw.1 hw.2.1
theorem eq_if {c : Prop} [Decidable c] {y z : Option α} {y' z' : α} (h1 : c → y = some y') (h2 : ¬ c → z = some z') : (if c then y else z) = some (if c then y' else z') := by
 by_cases h : c
 ·rw [if_pos h, if_pos h]; exact h1 h
 ·rw [if_neg h, if_neg h]; exact h2 h
theorem fwd_if {c : Prop} [Decidable c] {y z : PV α} (h1 : c → Fwd n ts y) (h2 : ¬ c → Fwd n ts z) : Fwd n ts (if c then y else z) := by
 by_cases h : c
 ·rw [if_pos h]; exact h1 h
 ·rw [if_neg h]; exact h2 h
theorem fwd_weak {m : Nat} {x : PV α} (h : Fwd n ts x) (hm : m ≤ n) : Fwd m ts x := by
 cases x with
 | bad => trivial
 | ok a r => exact ⟨h.1, by have := h.2.1; omega, h.2.2⟩
theorem fwd_ok {a : α} (hg : Good ts) : Fwd 0 ts (.ok a ts) := ⟨hg, Nat.le_refl _, List.suffix_refl _⟩
theorem fwd_tail {x : PV α} (hg : Good ts) (h6 : (hd ts).1 ≠ 6) (h : Fwd n ts.tail x) : Fwd (n + 1) ts x := by
 obtain ⟨g1, g2, g3⟩ := hg.tail h6
 cases x with
 | bad => trivial
 | ok a r => exact ⟨h.1, by have := h.2.1; omega, h.2.2.trans g3⟩
theorem fwd_then {m : Nat} {x : PV α} {f : α → List Tk → PV β} (h1 : Fwd n ts x) (h2 : ∀ a r, Good r → r.length + n ≤ ts.length → Fwd m r (f a r)) : Fwd (n + m) ts (x.then f) := by
 cases x with
 | bad => trivial
 | ok a r =>
  obtain ⟨g1, g2, g3⟩ := h1
  have := h2 a r g1 g2
  show Fwd (n + m) ts (f a r)
  cases hf : f a r with
  | bad => trivial
  | ok b s =>
   rw [hf] at this
   exact ⟨this.1, by have := this.2.1; omega, this.2.2.trans g3⟩
end
section
variable {ts : List Tk}
theorem or3 {a b c : Bool} {ts : List Tk} {x y z : ByteArray} (ha : a = isH x ts) (hb : b = isH y ts) (hc : c = isH z ts) (h : (a || b || c) = true) : (hd ts).1 ≠ 6 := by
 subst ha hb hc
 simp only [Bool.or_eq_true] at h
 rcases h with (h | h) | h <;> exact isH_ne h
theorem vNamesL_eq (acc : List Tree) (hg : Good ts) : vNamesL acc ts = if isH kComma ts then (vName 6 ts.tail).then fun n r => vNamesL (acc ++ [n]) r else .ok acc ts := by
 have h := pNamesL_v acc hg (f := fu ts + 1) (by unfold fu; omega)
 rw [pNamesL] at h
 refine Option.some.inj (h.symm.trans (eq_if (fun hc => ?_) fun _ => rfl))
 obtain ⟨g1, g2, _⟩ := hg.tail (isH_ne hc)
 exact eq_bind (pName_v _ _) (fName 6 g1) fun a r hr hn => pNamesL_v _ hr (by unfold fu; omega)
def vNames (ts : List Tk) : PV (List Tree) := (vName 6 ts).then fun n r => vNamesL [n] r
theorem pNames_v {f : Nat} (hg : Good ts) (hf : 16 * ts.length + 1 ≤ f) : pNames f ts = some (vNames ts) := eq_bind (pName_v _ _) (fName 6 hg) fun a r hr hn => pNamesL_v _ hr (by omega)
theorem fNames (hg : Good ts) : Fwd 1 ts (vNames ts) := fwd_then (fName 6 hg) fun _ _ hr _ => fNamesL _ hr
theorem vExp_eq {least : Int} (hl : 0 ≤ least) (hg : Good ts) : vExp least ts = (vOperand ts).then fun n r => vLoop least n r := by
 have h := pExp_v hl hg (f := fu ts + 1) (by unfold fu; omega)
 rw [pExp] at h
 exact Option.some.inj (h.symm.trans (eq_bind (pOperand_v hg (by unfold fu; omega)) (fOperand hg) fun a r hr hn => pLoop_v _ hl hr (by unfold fu; omega)))
theorem vLoop_eq {least : Int} (n : Tree) (hl : 0 ≤ least) (hg : Good ts) : vLoop least n ts = if bindsH ts ≤ least then .ok n ts else (vExp (if bindsH ts = 4 then 3 else bindsH ts) ts.tail).then fun m r => vLoop least (.mk 11 (hd ts).2.1 0 n.at_ [n, m]) r := by
 have h := pLoop_v n hl hg (f := fu ts + 1) (by unfold fu; omega)
 rw [pLoop] at h
 refine Option.some.inj (h.symm.trans (eq_if (fun _ => rfl) fun hb => ?_))
 obtain ⟨g1, g2, _⟩ := hg.tail (bindsH_ne (by omega))
 have hq : (0 : Int) ≤ (if bindsH ts = 4 then 3 else bindsH ts) := by split <;> omega
 exact eq_bind (pExp_v hq g1 (by unfold fu; omega)) (fExp hq g1) fun a r hr hn => pLoop_v _ hl hr (by unfold fu; omega)
theorem vOperand_eq (hg : Good ts) : vOperand ts =
  if (hd ts).1 = 3 then .ok (.mk 4 noB (hd ts).2.2.1 (hd ts).2.2.2 []) ts.tail
  else if (hd ts).1 = 4 then .ok (.mk 5 (hd ts).2.1 0 (hd ts).2.2.2 []) ts.tail
  else if isH kNil ts then .ok (.mk 1 noB 0 (hd ts).2.2.2 []) ts.tail
  else if isH kTrue ts then .ok (.mk 2 noB 0 (hd ts).2.2.2 []) ts.tail
  else if isH kFalse ts then .ok (.mk 3 noB 0 (hd ts).2.2.2 []) ts.tail
  else if isH kNot ts || isH kHash ts || isH kMinus ts then (vExp 7 ts.tail).then fun m r => .ok (.mk 10 (hd ts).2.1 0 (hd ts).2.2.2 [m]) r
  else if isH kLc ts then (vFields [] ts.tail).then fun l r => .ok (.mk 12 noB 0 (hd ts).2.2.2 l) r
  else vSuffixed ts := by
 have h := pOperand_v hg (f := fu ts + 1) (by unfold fu; omega)
 rw [pOperand] at h
 refine Option.some.inj (h.symm.trans (eq_if (fun _ => rfl) fun _ => eq_if (fun _ => rfl) fun _ => eq_if (fun _ => rfl) fun _ => eq_if (fun _ => rfl) fun _ => eq_if (fun _ => rfl) fun _ => eq_if (fun hc => ?_) fun _ => eq_if (fun hc => ?_) fun _ => pSuffixed_v hg (by unfold fu; omega)))
 ·obtain ⟨g1, g2, _⟩ := hg.tail (or3 rfl rfl rfl hc)
  exact eq_bind (pExp_v (by omega) g1 (by unfold fu; omega)) (fExp (by omega) g1) fun _ _ _ _ => rfl
 ·obtain ⟨g1, g2, _⟩ := hg.tail (isH_ne hc)
  exact eq_bind (pFields_v _ g1 (by unfold fu; omega)) (fFields _ g1) fun _ _ _ _ => rfl
theorem vFields_eq (acc : List Tree) (hg : Good ts) : vFields acc ts =
  if isH kRc ts then .ok acc ts.tail
  else (vField ts).then fun x r =>
   if isH kComma r then vFields (acc ++ [x]) r.tail
   else if isH kSemi r then vFields (acc ++ [x]) r.tail
   else (vWant kRc r).then fun _ r => .ok (acc ++ [x]) r := by
 have h := pFields_v acc hg (f := fu ts + 1) (by unfold fu; omega)
 rw [pFields] at h
 refine Option.some.inj (h.symm.trans (eq_if (fun _ => rfl) fun _ => eq_bind (pField_v hg (by unfold fu; omega)) (fField hg) fun x r hr hn => eq_if (fun hc => ?_) fun _ => eq_if (fun hc => ?_) fun _ => eq_bind (pWant_v _ _) (fWant _ hr) fun _ _ _ _ => rfl))
 ·obtain ⟨g1, g2, _⟩ := hr.tail (isH_ne hc)
  exact pFields_v _ g1 (by unfold fu; omega)
 ·obtain ⟨g1, g2, _⟩ := hr.tail (isH_ne hc)
  exact pFields_v _ g1 (by unfold fu; omega)
theorem vField_eq (hg : Good ts) : vField ts =
  if isH kLb ts then
   (vExp 0 ts.tail).then fun k r => (vWant kRb r).then fun _ r => (vWant kEq r).then fun _ r => (vExp 0 r).then fun v r => .ok (.mk 14 noB 0 (hd ts).2.2.2 [k, v]) r
  else if (hd ts).1 = 1 ∧ (hd ts.tail).1 = 5 ∧ (hd ts.tail).2.1.toList = kEq.toList then
   (vExp 0 ts.tail.tail).then fun v r => .ok (.mk 14 noB 0 (hd ts).2.2.2 [.mk 5 (hd ts).2.1 0 (hd ts).2.2.2 [], v]) r
  else (vExp 0 ts).then fun v r => .ok (.mk 13 noB 0 (hd ts).2.2.2 [v]) r := by
 have h := pField_v hg (f := fu ts + 1) (by unfold fu; omega)
 rw [pField] at h
 refine Option.some.inj (h.symm.trans (eq_if (fun hc => ?_) fun _ => eq_if (fun hc => ?_) fun _ => eq_bind (pExp_v (by omega) hg (by unfold fu; omega)) (fExp (by omega) hg) fun _ _ _ _ => rfl))
 ·obtain ⟨g1, g2, _⟩ := hg.tail (isH_ne hc)
  exact eq_bind (pExp_v (by omega) g1 (by unfold fu; omega)) (fExp (by omega) g1) fun _ r hr hn => eq_bind (pWant_v _ _) (fWant _ hr) fun _ r2 hr2 hn2 => eq_bind (pWant_v _ _) (fWant _ hr2) fun _ r3 hr3 hn3 => eq_bind (pExp_v (by omega) hr3 (by unfold fu; omega)) (fExp (by omega) hr3) fun _ _ _ _ => rfl
 ·obtain ⟨h1, h2, _⟩ := hc
  obtain ⟨g1, g2, _⟩ := hg.tail (by omega)
  obtain ⟨g3, g4, _⟩ := g1.tail (by omega)
  exact eq_bind (pExp_v (by omega) g3 (by unfold fu; omega)) (fExp (by omega) g3) fun _ _ _ _ => rfl
theorem vSuffixed_eq (hg : Good ts) : vSuffixed ts =
  if isH kLp ts then (vExp 0 ts.tail).then fun e r => (vWant kRp r).then fun _ r => vSufL (hd ts).2.2.2 (.mk 9 noB 0 (hd ts).2.2.2 [e]) r
  else (vName 6 ts).then fun n r => vSufL (hd ts).2.2.2 n r := by
 have h := pSuffixed_v hg (f := fu ts + 1) (by unfold fu; omega)
 rw [pSuffixed] at h
 refine Option.some.inj (h.symm.trans (eq_if (fun hc => ?_) fun _ => eq_bind (pName_v _ _) (fName _ hg) fun _ r hr hn => pSufL_v _ _ hr (by unfold fu; omega)))
 obtain ⟨g1, g2, _⟩ := hg.tail (isH_ne hc)
 exact eq_bind (pExp_v (by omega) g1 (by unfold fu; omega)) (fExp (by omega) g1) fun _ r hr hn => eq_bind (pWant_v _ _) (fWant _ hr) fun _ r2 hr2 hn2 => pSufL_v _ _ hr2 (by unfold fu; omega)
def vArgs (ts : List Tk) : PV (List Tree) := if isH kRp ts then .ok [] ts else vExps ts
theorem fArgs (hg : Good ts) : Fwd 0 ts (vArgs ts) := fwd_if (fun _ => fwd_ok hg) fun _ => fwd_weak (fExps hg) (by omega)
theorem vSufL_eq (at_ : Int) (n : Tree) (hg : Good ts) : vSufL at_ n ts =
  if isH kLb ts then (vExp 0 ts.tail).then fun e r => (vWant kRb r).then fun _ r => vSufL at_ (.mk 7 noB 0 at_ [n, e]) r
  else if isH kDot ts then (vName 5 ts.tail).then fun e r => vSufL at_ (.mk 7 noB 0 at_ [n, e]) r
  else if isH kLp ts then (vArgs ts.tail).then fun l r => (vWant kRp r).then fun _ r => vSufL at_ (.mk 8 noB 0 at_ (n :: l)) r
  else .ok n ts := by
 have h := pSufL_v at_ n hg (f := fu ts + 1) (by unfold fu; omega)
 rw [pSufL] at h
 refine Option.some.inj (h.symm.trans (eq_if (fun hc => ?_) fun _ => eq_if (fun hc => ?_) fun _ => eq_if (fun hc => ?_) fun _ => rfl))
 ·obtain ⟨g1, g2, _⟩ := hg.tail (isH_ne hc)
  exact eq_bind (pExp_v (by omega) g1 (by unfold fu; omega)) (fExp (by omega) g1) fun _ r hr hn => eq_bind (pWant_v _ _) (fWant _ hr) fun _ r2 hr2 hn2 => pSufL_v _ _ hr2 (by unfold fu; omega)
 ·obtain ⟨g1, g2, _⟩ := hg.tail (isH_ne hc)
  exact eq_bind (pName_v _ _) (fName _ g1) fun _ r hr hn => pSufL_v _ _ hr (by unfold fu; omega)
 ·obtain ⟨g1, g2, _⟩ := hg.tail (isH_ne hc)
  exact eq_bind (eq_if (fun _ => rfl) fun _ => pExps_v g1 (by unfold fu; omega)) (fArgs g1) fun _ r hr hn => eq_bind (pWant_v _ _) (fWant _ hr) fun _ r2 hr2 hn2 => pSufL_v _ _ hr2 (by unfold fu; omega)
theorem vExps_eq (hg : Good ts) : vExps ts = (vExp 0 ts).then fun e r => vExpsL [e] r := by
 have h := pExps_v hg (f := fu ts + 1) (by unfold fu; omega)
 rw [pExps] at h
 exact Option.some.inj (h.symm.trans (eq_bind (pExp_v (by omega) hg (by unfold fu; omega)) (fExp (by omega) hg) fun a r hr hn => pExpsL_v _ hr (by unfold fu; omega)))
theorem vExpsL_eq (acc : List Tree) (hg : Good ts) : vExpsL acc ts = if isH kComma ts then (vExp 0 ts.tail).then fun e r => vExpsL (acc ++ [e]) r else .ok acc ts := by
 have h := pExpsL_v acc hg (f := fu ts + 1) (by unfold fu; omega)
 rw [pExpsL] at h
 refine Option.some.inj (h.symm.trans (eq_if (fun hc => ?_) fun _ => rfl))
 obtain ⟨g1, g2, _⟩ := hg.tail (isH_ne hc)
 exact eq_bind (pExp_v (by omega) g1 (by unfold fu; omega)) (fExp (by omega) g1) fun a r hr hn => pExpsL_v _ hr (by unfold fu; omega)
theorem vBlock_eq (c : Bool) (hg : Good ts) : vBlock c ts = vBlockL c (hd ts).2.2.2 [] ts := by
 have h := pBlock_v c hg (f := fu ts + 1) (by unfold fu; omega)
 rw [pBlock] at h
 exact Option.some.inj (h.symm.trans (pBlockL_v _ _ _ hg (by unfold fu; omega)))
def vRets (ts : List Tk) : PV (List Tree) := if endsH ts || isH kSemi ts then .ok [] ts else vExps ts
theorem fRets (hg : Good ts) : Fwd 0 ts (vRets ts) := fwd_if (fun _ => fwd_ok hg) fun _ => fwd_weak (fExps hg) (by omega)
theorem vBlockL_eq (c : Bool) (at_ : Int) (acc : List Tree) (hg : Good ts) : vBlockL c at_ acc ts =
  if isH kSemi ts then vBlockL c at_ acc ts.tail
  else if isH kReturn ts then (vRets ts.tail).then fun l r => .ok (.mk 20 noB 0 at_ (acc ++ [.mk 30 noB 0 (hd ts).2.2.2 l])) (if isH kSemi r then r.tail else r)
  else if c && isH kFunction ts then (vFunction ts).then fun x r => vBlockL c at_ (acc ++ [x]) r
  else if endsH ts then .ok (.mk 20 noB 0 at_ acc) ts
  else (vStat ts).then fun x r => vBlockL c at_ (acc ++ [x]) r := by
 have h := pBlockL_v c at_ acc hg (f := fu ts + 1) (by unfold fu; omega)
 rw [pBlockL] at h
 refine Option.some.inj (h.symm.trans (eq_if (fun hc => ?_) fun _ => eq_if (fun hc => ?_) fun _ => eq_if (fun hc => ?_) fun _ => eq_if (fun _ => rfl) fun _ => ?_))
 ·obtain ⟨g1, g2, _⟩ := hg.tail (isH_ne hc)
  exact pBlockL_v _ _ _ g1 (by unfold fu; omega)
 ·obtain ⟨g1, g2, _⟩ := hg.tail (isH_ne hc)
  exact eq_bind (eq_if (fun _ => rfl) fun _ => pExps_v g1 (by unfold fu; omega)) (fRets g1) fun _ r hr hn => rfl
 ·simp only [Bool.and_eq_true] at hc
  exact eq_bind (pFunction_v (isH_ne hc.2) hg (by unfold fu; omega)) (fFunction (isH_ne hc.2) hg) fun _ r hr hn => pBlockL_v _ _ _ hr (by unfold fu; omega)
 ·exact eq_bind (pStat_v hg (by unfold fu; omega)) (fStat hg) fun _ r hr hn => pBlockL_v _ _ _ hr (by unfold fu; omega)
def vParams (ts : List Tk) : PV (List Tree) := if isH kRp ts then .ok [] ts else vNames ts
theorem fParams (hg : Good ts) : Fwd 0 ts (vParams ts) := fwd_if (fun _ => fwd_ok hg) fun _ => fwd_weak (fNames hg) (by omega)
theorem vFunction_eq (h6 : (hd ts).1 ≠ 6) (hg : Good ts) : vFunction ts =
  (vName 6 ts.tail).then fun nm r => (vWant kLp r).then fun _ r => (vParams r).then fun ps r => (vWant kRp r).then fun _ r => (vBlock false r).then fun b r => (vWant kEnd r).then fun _ r => .ok (.mk 31 nm.text ps.length (hd ts).2.2.2 (ps ++ [b])) r := by
 have h := pFunction_v h6 hg (f := fu ts + 1) (by unfold fu; omega)
 rw [pFunction] at h
 obtain ⟨g1, g2, _⟩ := hg.tail h6
 exact Option.some.inj (h.symm.trans (eq_bind (pName_v _ _) (fName _ g1) fun _ r hr hn => eq_bind (pWant_v _ _) (fWant _ hr) fun _ r2 hr2 hn2 => eq_bind (eq_if (fun _ => rfl) fun _ => pNames_v hr2 (by unfold fu; omega)) (fParams hr2) fun _ r3 hr3 hn3 => eq_bind (pWant_v _ _) (fWant _ hr3) fun _ r4 hr4 hn4 => eq_bind (pBlock_v _ hr4 (by unfold fu; omega)) (fBlock _ hr4) fun _ r5 hr5 hn5 => eq_bind (pWant_v _ _) (fWant _ hr5) fun _ _ _ _ => rfl))
theorem vBody_eq (hg : Good ts) : vBody ts = (vWant kDo ts).then fun _ r => (vBlock false r).then fun b r => (vWant kEnd r).then fun _ r => .ok b r := by
 have h := pBody_v hg (f := fu ts + 1) (by unfold fu; omega)
 rw [pBody] at h
 exact Option.some.inj (h.symm.trans (eq_bind (pWant_v _ _) (fWant _ hg) fun _ r2 hr2 hn2 => eq_bind (pBlock_v _ hr2 (by unfold fu; omega)) (fBlock _ hr2) fun _ r5 hr5 hn5 => eq_bind (pWant_v _ _) (fWant _ hr5) fun _ _ _ _ => rfl))
def vInit (ts : List Tk) : PV (List Tree) := if isH kEq ts then vExps ts.tail else .ok [] ts
theorem fInit (hg : Good ts) : Fwd 0 ts (vInit ts) := fwd_if (fun hc => fwd_weak (fwd_tail hg (isH_ne hc) (fExps (hg.tail (isH_ne hc)).1)) (by omega)) fun _ => fwd_ok hg
theorem vStat_eq (hg : Good ts) : vStat ts =
  if isH kDo ts then (vBody ts).then fun b r => .ok (.mk 28 noB 0 (hd ts).2.2.2 [b]) r
  else if isH kWhile ts then (vExp 0 ts.tail).then fun e r => (vBody r).then fun b r => .ok (.mk 25 noB 0 (hd ts).2.2.2 [e, b]) r
  else if isH kIf ts then (vBranches [] ts.tail).then fun l r => .ok (.mk 24 noB 0 (hd ts).2.2.2 l) r
  else if isH kFor ts then vFor (hd ts).2.2.2 ts.tail
  else if isH kLocal ts then (vNames ts.tail).then fun l r => (vInit r).then fun es r => .ok (.mk 21 noB l.length (hd ts).2.2.2 (l ++ es)) r
  else if isH kBreak ts then .ok (.mk 29 noB 0 (hd ts).2.2.2 []) ts.tail
  else vPlain ts := by
 have h := pStat_v hg (f := fu ts + 1) (by unfold fu; omega)
 rw [pStat] at h
 refine Option.some.inj (h.symm.trans (eq_if (fun hc => ?_) fun _ => eq_if (fun hc => ?_) fun _ => eq_if (fun hc => ?_) fun _ => eq_if (fun hc => ?_) fun _ => eq_if (fun hc => ?_) fun _ => eq_if (fun hc => rfl) fun _ => pPlain_v hg (by unfold fu; omega)))
 ·exact eq_bind (pBody_v hg (by unfold fu; omega)) (fBody hg) fun _ _ _ _ => rfl
 ·obtain ⟨g1, g2, _⟩ := hg.tail (isH_ne hc)
  exact eq_bind (pExp_v (by omega) g1 (by unfold fu; omega)) (fExp (by omega) g1) fun _ r hr hn => eq_bind (pBody_v hr (by unfold fu; omega)) (fBody hr) fun _ _ _ _ => rfl
 ·obtain ⟨g1, g2, _⟩ := hg.tail (isH_ne hc)
  exact eq_bind (pBranches_v _ g1 (by unfold fu; omega)) (fBranches _ g1) fun _ _ _ _ => rfl
 ·obtain ⟨g1, g2, _⟩ := hg.tail (isH_ne hc)
  exact pFor_v _ g1 (by unfold fu; omega)
 ·obtain ⟨g1, g2, _⟩ := hg.tail (isH_ne hc)
  refine eq_bind (pNames_v g1 (by unfold fu; omega)) (fNames g1) fun _ r hr hn => eq_bind (eq_if (fun hc => ?_) fun _ => rfl) (fInit hr) fun _ _ _ _ => rfl
  obtain ⟨g3, g4, _⟩ := hr.tail (isH_ne hc)
  exact pExps_v g3 (by unfold fu; omega)
theorem vBranches_eq (acc : List Tree) (hg : Good ts) : vBranches acc ts =
  (vExp 0 ts).then fun e r => (vWant kThen r).then fun _ r => (vBlock false r).then fun b r =>
   if isH kElseif r then vBranches (acc ++ [e] ++ [b]) r.tail
   else if isH kElse r then (vBlock false r.tail).then fun c r => (vWant kEnd r).then fun _ r => .ok (acc ++ [e] ++ [b] ++ [c]) r
   else (vWant kEnd r).then fun _ r => .ok (acc ++ [e] ++ [b]) r := by
 have h := pBranches_v acc hg (f := fu ts + 1) (by unfold fu; omega)
 rw [pBranches] at h
 refine Option.some.inj (h.symm.trans (eq_bind (pExp_v (by omega) hg (by unfold fu; omega)) (fExp (by omega) hg) fun _ r hr hn => eq_bind (pWant_v _ _) (fWant _ hr) fun _ r2 hr2 hn2 => eq_bind (pBlock_v _ hr2 (by unfold fu; omega)) (fBlock _ hr2) fun _ r3 hr3 hn3 => eq_if (fun hc => ?_) fun _ => eq_if (fun hc => ?_) fun _ => eq_bind (pWant_v _ _) (fWant _ hr3) fun _ _ _ _ => rfl))
 ·obtain ⟨g1, g2, _⟩ := hr3.tail (isH_ne hc)
  exact pBranches_v _ g1 (by unfold fu; omega)
 ·obtain ⟨g1, g2, _⟩ := hr3.tail (isH_ne hc)
  exact eq_bind (pBlock_v _ g1 (by unfold fu; omega)) (fBlock _ g1) fun _ r4 hr4 hn4 => eq_bind (pWant_v _ _) (fWant _ hr4) fun _ _ _ _ => rfl
def vStep (ts : List Tk) : PV (List Tree) := if isH kComma ts then (vExp 0 ts.tail).then fun c r => .ok [c] r else .ok [] ts
theorem fStep (hg : Good ts) : Fwd 0 ts (vStep ts) := fwd_if (fun hc => fwd_weak (fwd_tail hg (isH_ne hc) (fwd_then (fExp (by omega) (hg.tail (isH_ne hc)).1) fun _ _ hr _ => fwd_ok hr)) (by omega)) fun _ => fwd_ok hg
theorem vFor_eq (at_ : Int) (hg : Good ts) : vFor at_ ts =
  (vName 6 ts).then fun n r =>
   if isH kEq r then
    (vExp 0 r.tail).then fun a r => (vWant kComma r).then fun _ r => (vExp 0 r).then fun b r => (vStep r).then fun cs r => (vBody r).then fun bd r => .ok (.mk 26 noB 0 at_ ([n] ++ [a] ++ [b] ++ cs ++ [bd])) r
   else
    (vNamesL [n] r).then fun l r => (vWant kIn r).then fun _ r => (vExps r).then fun es r => (vBody r).then fun bd r => .ok (.mk 27 noB l.length at_ (l ++ es ++ [bd])) r := by
 have h := pFor_v at_ hg (f := fu ts + 1) (by unfold fu; omega)
 rw [pFor] at h
 refine Option.some.inj (h.symm.trans (eq_bind (pName_v _ _) (fName _ hg) fun n r hr hn => eq_if (fun hc => ?_) fun _ => ?_))
 ·obtain ⟨g1, g2, _⟩ := hr.tail (isH_ne hc)
  refine eq_bind (pExp_v (by omega) g1 (by unfold fu; omega)) (fExp (by omega) g1) fun _ r2 hr2 hn2 => eq_bind (pWant_v _ _) (fWant _ hr2) fun _ r3 hr3 hn3 => eq_bind (pExp_v (by omega) hr3 (by unfold fu; omega)) (fExp (by omega) hr3) fun _ r4 hr4 hn4 => eq_bind (vx := vStep r4) (eq_if (fun hc => ?_) fun _ => rfl) (fStep hr4) fun _ r5 hr5 hn5 => eq_bind (pBody_v hr5 (by unfold fu; omega)) (fBody hr5) fun _ _ _ _ => rfl
  obtain ⟨g3, g4, _⟩ := hr4.tail (isH_ne hc)
  exact eq_bind (pExp_v (by omega) g3 (by unfold fu; omega)) (fExp (by omega) g3) fun _ _ _ _ => rfl
 ·exact eq_bind (pNamesL_v _ hr (by unfold fu; omega)) (fNamesL _ hr) fun _ r2 hr2 hn2 => eq_bind (pWant_v _ _) (fWant _ hr2) fun _ r3 hr3 hn3 => eq_bind (pExps_v hr3 (by unfold fu; omega)) (fExps hr3) fun _ r4 hr4 hn4 => eq_bind (pBody_v hr4 (by unfold fu; omega)) (fBody hr4) fun _ _ _ _ => rfl
theorem vPlain_eq (hg : Good ts) : vPlain ts =
  (vSuffixed ts).then fun e r =>
   if isH kEq r || isH kComma r then (vTargets [] e r).then fun l r => (vWant kEq r).then fun _ r => (vExps r).then fun es r => .ok (.mk 22 noB l.length e.at_ (l ++ es)) r
   else if e.kind = 8 then .ok (.mk 23 noB 0 e.at_ [e]) r else .bad (hd r).2.2.2 := by
 have h := pPlain_v hg (f := fu ts + 1) (by unfold fu; omega)
 rw [pPlain] at h
 refine Option.some.inj (h.symm.trans (eq_bind (pSuffixed_v hg (by unfold fu; omega)) (fSuffixed hg) fun e r hr hn => eq_if (fun hc => ?_) fun _ => eq_if (fun _ => rfl) fun _ => rfl))
 exact eq_bind (pTargets_v _ _ hr (by unfold fu; omega)) (fTargets _ _ hr) fun _ r2 hr2 hn2 => eq_bind (pWant_v _ _) (fWant _ hr2) fun _ r3 hr3 hn3 => eq_bind (pExps_v hr3 (by unfold fu; omega)) (fExps hr3) fun _ _ _ _ => rfl
theorem vTargets_eq (acc : List Tree) (e : Tree) (hg : Good ts) : vTargets acc e ts =
  if e.kind = 6 ∨ e.kind = 7 then
   if isH kComma ts then (vSuffixed ts.tail).then fun e' r => vTargets (acc ++ [e]) e' r else .ok (acc ++ [e]) ts
  else .bad e.at_ := by
 have h := pTargets_v acc e hg (f := fu ts + 1) (by unfold fu; omega)
 rw [pTargets] at h
 refine Option.some.inj (h.symm.trans (eq_if (fun _ => eq_if (fun hc => ?_) fun _ => rfl) fun _ => rfl))
 obtain ⟨g1, g2, _⟩ := hg.tail (isH_ne hc)
 exact eq_bind (pSuffixed_v g1 (by unfold fu; omega)) (fSuffixed g1) fun _ r hr hn => pTargets_v _ _ hr (by unfold fu; omega)
end
def vAll (ts : List Tk) : PV Tree := (vBlock true ts).then fun b r => if (hd r).1 = 6 then .ok b r else .bad (hd r).2.2.2
end Go.Proofs.YtdkgnlaneccioaaGreatDoor
namespace Go.Proofs.YtdkgnlaneccioaaGreatDoor
open Go Go.RowKit
theorem then_assoc {α β γ : Type} (x : PV α) (f : α → List Tk → PV β) (g : β → List Tk → PV γ) : (x.then f).then g = x.then fun a r => (f a r).then g := by cases x <;> rfl
theorem then_congr {α β : Type} {n : Nat} {ts : List Tk} {x : PV α} (hw : Fwd n ts x) {f g : α → List Tk → PV β} (h : ∀ a r, Good r → r.length + n ≤ ts.length → f a r = g a r) : x.then f = x.then g := by
 cases x with
 | bad => rfl
 | ok a r => exact h a r hw.1 hw.2.1
theorem then_ok {α β : Type} {x : PV α} {f : α → List Tk → PV β} {b : β} {r : List Tk} (h : x.then f = .ok b r) : ∃ a s, x = .ok a s ∧ f a s = .ok b r := by
 cases x with
 | bad => cases h
 | ok a s => exact ⟨a, s, rfl, h⟩
theorem len_namesL : ∀ (n : Nat) (acc : List Tree) (ts : List Tk), ts.length ≤ n → Good ts → ∀ l r, vNamesL acc ts = .ok l r → l.length + r.length ≤ acc.length + ts.length
 | 0, _, [], _, hg, _, _, _ => hg.elim
 | n + 1, acc, ts, hn, hg, l, r, h => by
  rw [vNamesL_eq acc hg] at h
  split at h
  ·rename_i hc
   obtain ⟨g1, g2, _⟩ := hg.tail (isH_ne hc)
   obtain ⟨a, s, h1, h2⟩ := then_ok h
   have hf := fName 6 g1
   rw [h1] at hf
   have := len_namesL n (acc ++ [a]) s (by have := hf.2.1; omega) hf.1 l r h2
   have := hf.2.1
   simp only [List.length_append, List.length_cons, List.length_nil] at *
   omega
  ·cases h; omega
theorem len_names {ts : List Tk} (hg : Good ts) {l : List Tree} {r : List Tk} (h : vNames ts = .ok l r) : l.length + r.length ≤ ts.length := by
 obtain ⟨a, s, h1, h2⟩ := then_ok h
 have hf := fName 6 hg
 rw [h1] at hf
 have := len_namesL _ [a] s (Nat.le_refl _) hf.1 l r h2
 have := hf.2.1
 simp only [List.length_cons, List.length_nil] at *
 omega
theorem len_expsL : ∀ (n : Nat) (acc : List Tree) (ts : List Tk), ts.length ≤ n → Good ts → ∀ l r, vExpsL acc ts = .ok l r → l.length + r.length ≤ acc.length + ts.length
 | 0, _, [], _, hg, _, _, _ => hg.elim
 | n + 1, acc, ts, hn, hg, l, r, h => by
  rw [vExpsL_eq acc hg] at h
  split at h
  ·rename_i hc
   obtain ⟨g1, g2, _⟩ := hg.tail (isH_ne hc)
   obtain ⟨a, s, h1, h2⟩ := then_ok h
   have hf := fExp (least := 0) (by omega) g1
   rw [h1] at hf
   have := len_expsL n (acc ++ [a]) s (by have := hf.2.1; omega) hf.1 l r h2
   have := hf.2.1
   simp only [List.length_append, List.length_cons, List.length_nil] at *
   omega
  ·cases h; omega
theorem len_exps {ts : List Tk} (hg : Good ts) {l : List Tree} {r : List Tk} (h : vExps ts = .ok l r) : l.length + r.length ≤ ts.length := by
 rw [vExps_eq hg] at h
 obtain ⟨a, s, h1, h2⟩ := then_ok h
 have hf := fExp (least := 0) (by omega) hg
 rw [h1] at hf
 have := len_expsL _ [a] s (Nat.le_refl _) hf.1 l r h2
 have := hf.2.1
 simp only [List.length_cons, List.length_nil] at *
 omega
end Go.Proofs.YtdkgnlaneccioaaGreatDoor
namespace Go.Proofs.YtdkgnlaneccioaaGreatDoor
open Go Go.RowKit
def ix (l ts : List Tk) : Int := (l.length : Int) - (ts.length : Int)
theorem wrap64 (x : Int) (h1 : -9223372036854775808 ≤ x) (h2 : x ≤ 9223372036854775807) : IntKind.i64.wrap x = x := by
 unfold IntKind.wrap; simp [IntKind.bits, IntKind.signed]; omega
section
variable {l ts : List Tk}
theorem drop_ix (hs : ts <:+ l) : l.drop (l.length - ts.length) = ts := by
 obtain ⟨p, rfl⟩ := hs
 simp
theorem idx_hd (hg : Good ts) (hs : ts <:+ l) : lIdx l (ix l ts) = some (hd ts) := by
 have hle := hs.length_le
 unfold lIdx ix
 rw [if_pos (by omega), show ((l.length : Int) - (ts.length : Int)).toNat = l.length - ts.length by omega]
 have := drop_ix hs
 rw [← List.head?_drop, this]
 cases ts with
 | nil => exact hg.elim
 | cons t ts => rfl
theorem ix_tail (hl : l.length ≤ 1000000) (hg : Good ts) (hs : ts <:+ l) (h6 : (hd ts).1 ≠ 6) : IntKind.i64.wrap (ix l ts + 1) = ix l ts.tail := by
 obtain ⟨_, g2, _⟩ := hg.tail h6
 have hle := hs.length_le
 unfold ix
 rw [wrap64 _ (by omega) (by omega)]
 omega
def conv {α β : Type} (l : List Tk) (e : α → Int → β) : PV α → PR β
 | .ok a r => .ok (e a (ix l r))
 | .bad i => .bad i
def eT (n : Tree) (i : Int) : Int × ByteArray × Int × Int × List Tree × Int := (n.kind, n.text, n.n, n.at_, n.kids, i)
def eL (n : List Tree) (i : Int) : List Tree × Int := (n, i)
def eU (_ : Unit) (i : Int) : Int := i
theorem tree_eta (n : Tree) : Tree.mk n.kind n.text n.n n.at_ n.kids = n := by cases n; rfl
theorem conv_bind {α β α' β' : Type} {e : α → Int → α'} {e' : β → Int → β'} {x : PV α} {F : α' → Option (PR β')} {g : α → List Tk → PV β} {n : Nat} (hw : Fwd n ts x) (h : ∀ a r, Good r → r <:+ ts → r.length + n ≤ ts.length → F (e a (ix l r)) = some (conv l e' (g a r))) :
  PR.bind (some (conv l e x)) F = some (conv l e' (x.then g)) := by
 cases x with
 | bad i => rfl
 | ok a r => exact h a r hw.1 hw.2.2 hw.2.1
theorem conv_if {β β' : Type} {e' : β → Int → β'} {c : Prop} [Decidable c] {b : Bool} {x y : Option (PR β')} {x' y' : PV β} (hb : b = decide c) (h1 : c → x = some (conv l e' x')) (h2 : ¬ c → y = some (conv l e' y')) : cond b x y = some (conv l e' (if c then x' else y')) := by
 subst hb
 by_cases h : c
 ·rw [if_pos h, decide_eq_true h]; exact h1 h
 ·rw [if_neg h, decide_eq_false h]; exact h2 h
theorem beq_dec (a b : Int) : (a == b) = decide (a = b) := by
 by_cases h : a = b
 ·rw [decide_eq_true h, beq_iff_eq]; exact h
 ·rw [decide_eq_false h, beq_eq_false_iff_ne]; exact h
theorem bool_dec (b : Bool) : b = decide (b = true) := by cases b <;> rfl
variable (k : Nat) (hl : l.length ≤ 1000000) (hg : Good ts) (hs : ts <:+ l)
include hg hs
theorem now_eq : parse_parser_now.f k l (ix l ts) = some (hd ts) := by
 unfold parse_parser_now.f
 rw [idx_hd hg hs]
 rfl
theorem is_eq (w : ByteArray) : parse_parser_is.f k l (ix l ts) w = some (isH w ts) := by
 unfold parse_parser_is.f
 rw [now_eq k hg hs]
 simp only [Option.bind_some, isH, isT]
 cases (hd ts).1 == (2 : Int) <;> cases (hd ts).1 == (5 : Int) <;> rfl
include hl
theorem got_eq (w : ByteArray) : parse_parser_got.f k l (ix l ts) w = some (isH w ts, ix l (if isH w ts then ts.tail else ts)) := by
 unfold parse_parser_got.f
 rw [is_eq k hg hs]
 simp only [Option.bind_some]
 cases h : isH w ts with
 | true => simp only [cond_true, if_true, ix_tail hl hg hs (isH_ne h)]
 | false => rfl
theorem want_eq (w : ByteArray) : parse_parser_want.f k l (ix l ts) w = some (conv l eU (vWant w ts)) := by
 unfold parse_parser_want.f vWant
 rw [got_eq k hl hg hs]
 simp only [Option.bind_some]
 cases h : isH w ts with
 | true => rfl
 | false =>
  simp only [Bool.not_false, cond_true, Bool.false_eq_true, if_false]
  rw [now_eq k hg hs]
  rfl
theorem name_eq : parse_parser_name.f k l (ix l ts) = some (conv l eT (vName 6 ts)) := by
 unfold parse_parser_name.f vName
 rw [now_eq k hg hs]
 simp only [Option.bind_some, joinF]
 by_cases h : (hd ts).1 = 1
 ·rw [if_pos h, h, ix_tail hl hg hs (by omega)]
  rfl
 ·rw [if_neg h, show ((hd ts).1 != 1) = true by rw [bne_iff_ne]; exact h]
  rfl
omit hl
theorem ends_eq : parse_parser_ends.f k l (ix l ts) = some (endsH ts) := by
 unfold parse_parser_ends.f endsH
 simp only [now_eq k hg hs, is_eq k hg hs, Option.bind_some, kEnd, kElse, kElseif]
 generalize ((hd ts).1 == (6 : Int)) = b1
 generalize isH (⟨#[101, 110, 100]⟩ : ByteArray) ts = b2
 generalize isH (⟨#[101, 108, 115, 101]⟩ : ByteArray) ts = b3
 generalize isH (⟨#[101, 108, 115, 101, 105, 102]⟩ : ByteArray) ts = b4
 cases b1 <;> cases b2 <;> cases b3 <;> cases b4 <;> rfl
end
theorem binds_eq (k : Nat) (ts : List Tk) : parse_binds.f k (hd ts).1 (hd ts).2.1 (hd ts).2.2.1 (hd ts).2.2.2 = some (bindsH ts) := by
 unfold parse_binds.f bindsH isH isT
 simp only [joinF, kOr, kAnd, kLt, kGt, kLe, kGe, kNe, kEqq, kCat, kPlus, kMinus, kStar, kSlash, kPct]
 generalize (hd ts).1 = kd
 generalize (hd ts).2.1.toList = tx
 have hsw : (cond (kd != (5 : Int)) (some (kd != (2 : Int))) (some false) : Option Bool) = some (!(kd == 2 || kd == 5)) := by
  rw [bne, bne]
  cases kd == (5 : Int) <;> cases kd == (2 : Int) <;> rfl
 rw [hsw]
 simp only [Option.bind_some]
 cases (kd == 2 || kd == 5) with
 | false => simp
 | true =>
  simp only [Bool.not_true, cond_false, Bool.true_and]
  generalize (tx == (⟨#[111, 114]⟩ : ByteArray).toList) = b
  cases b with
  | true => rfl
  | false =>
  generalize (tx == (⟨#[97, 110, 100]⟩ : ByteArray).toList) = b
  cases b with
  | true => rfl
  | false =>
  generalize (tx == (⟨#[60]⟩ : ByteArray).toList) = b1
  generalize (tx == (⟨#[62]⟩ : ByteArray).toList) = b2
  generalize (tx == (⟨#[60, 61]⟩ : ByteArray).toList) = b3
  generalize (tx == (⟨#[62, 61]⟩ : ByteArray).toList) = b4
  generalize (tx == (⟨#[126, 61]⟩ : ByteArray).toList) = b5
  generalize (tx == (⟨#[61, 61]⟩ : ByteArray).toList) = b6
  generalize (tx == (⟨#[46, 46]⟩ : ByteArray).toList) = b7
  generalize (tx == (⟨#[43]⟩ : ByteArray).toList) = b8
  generalize (tx == (⟨#[45]⟩ : ByteArray).toList) = b9
  generalize (tx == (⟨#[42]⟩ : ByteArray).toList) = c1
  generalize (tx == (⟨#[47, 47]⟩ : ByteArray).toList) = c2
  generalize (tx == (⟨#[37]⟩ : ByteArray).toList) = c3
  cases b1 with
  | true => rfl
  | false =>
  cases b2 with
  | true => rfl
  | false =>
  cases b3 with
  | true => rfl
  | false =>
  cases b4 with
  | true => rfl
  | false =>
  cases b5 with
  | true => rfl
  | false =>
  cases b6 with
  | true => rfl
  | false =>
  cases b7 with
  | true => rfl
  | false =>
  cases b8 <;> cases b9 <;> cases c1 <;> cases c2 <;> cases c3 <;> rfl
end Go.Proofs.YtdkgnlaneccioaaGreatDoor
namespace Go.Proofs.YtdkgnlaneccioaaGreatDoor
open Go Go.RowKit
section
variable {l : List Tk}
theorem lbeq_dec (a b : List UInt8) : (a == b) = decide (a = b) := by
 by_cases h : a = b
 ·rw [decide_eq_true h, beq_iff_eq]; exact h
 ·rw [decide_eq_false h, beq_eq_false_iff_ne]; exact h
theorem vStr_eq {ts : List Tk} : vName 5 ts = (vName 6 ts).then fun n r => .ok (.mk 5 n.text n.n n.at_ n.kids) r := by
 unfold vName
 split <;> rfl
theorem apd_ok' {α : Type} {b : Nat} {xs ys : List α} (h : (xs.length + ys.length) * b ≤ 140737488355328) : apd b xs ys = some (xs ++ ys) := by
 unfold apd
 rw [decide_eq_true h]
 rfl
variable (hl : l.length ≤ 1000000)
include hl
theorem namesL_eq (J : List Tree → Int → Option (PR (List Tree × Int))) (hJ : ∀ a i, J a i = some (.ok (a, i))) : ∀ (m : Nat) (acc : List Tree) (ts : List Tk), Good ts → ts <:+ l → ts.length < m → acc.length + ts.length ≤ 1000000 →
  parse_parser_names.l0 m l J acc (ix l ts) = some (conv l eL (vNamesL acc ts))
 | 0, _, _, _, _, h, _ => by omega
 | m + 1, acc, ts, hg, hs, hm, ha => by
  rw [parse_parser_names.l0, got_eq m hl hg hs, vNamesL_eq acc hg]
  simp only [Option.bind_some]
  refine conv_if (bool_dec _) (fun hc => ?_) fun hc => ?_
  ·simp only [hc, if_true]
   obtain ⟨g1, g2, g3⟩ := hg.tail (isH_ne hc)
   rw [name_eq m hl g1 (g3.trans hs)]
   refine conv_bind (fName 6 g1) fun n r hr hrs hn => ?_
   simp only [eT, tree_eta]
   rw [apd_ok' (by simp only [List.length_cons, List.length_nil]; omega)]
   simp only [Option.bind_some]
   exact namesL_eq J hJ m _ r hr (hrs.trans (g3.trans hs)) (by omega) (by simp only [List.length_append, List.length_cons, List.length_nil]; omega)
  ·simp only [if_neg hc, hJ]
   rfl
theorem names_eqA (k : Nat) {ts : List Tk} (hg : Good ts) (hs : ts <:+ l) (hk : ts.length ≤ k) : parse_parser_names.f k l (ix l ts) = some (conv l eL (vNames ts)) := by
 unfold parse_parser_names.f vNames
 rw [name_eq k hl hg hs]
 refine conv_bind (fName 6 hg) fun n r hr hrs hn => ?_
 simp only [joinF, eT, tree_eta]
 have := hrs.length_le
 have := hs.length_le
 exact namesL_eq hl _ (fun _ _ => rfl) k _ r hr (hrs.trans hs) (by omega) (by simp only [List.length_cons, List.length_nil]; omega)
end
structure AE (l : List Tk) (k : Nat) : Prop where
 exp : ∀ least ts, 0 ≤ least → Good ts → ts <:+ l → 16 * ts.length + 5 ≤ k → (PE.at k).parse_parser_exp l (ix l ts) least = some (conv l eT (vExp least ts))
 operand : ∀ ts, Good ts → ts <:+ l → 16 * ts.length + 4 ≤ k → (PE.at k).parse_parser_operand l (ix l ts) = some (conv l eT (vOperand ts))
 suffixed : ∀ ts, Good ts → ts <:+ l → 16 * ts.length + 3 ≤ k → (PE.at k).parse_parser_suffixed l (ix l ts) = some (conv l eT (vSuffixed ts))
 fields : ∀ ts, Good ts → ts <:+ l → 16 * ts.length + 7 ≤ k → (PE.at k).parse_parser_fields l (ix l ts) = some (conv l eL (vFields [] ts))
 field : ∀ ts, Good ts → ts <:+ l → 16 * ts.length + 6 ≤ k → (PE.at k).parse_parser_field l (ix l ts) = some (conv l eT (vField ts))
 exps : ∀ ts, Good ts → ts <:+ l → 16 * ts.length + 6 ≤ k → (PE.at k).parse_parser_exps l (ix l ts) = some (conv l eL (vExps ts))
section
variable {l : List Tk} (hl : l.length ≤ 1000000) {k : Nat} (ih : AE l k)
include hl ih
theorem loop_eq (least : Int) (h0 : 0 ≤ least) (r2 : Int × ByteArray × Int × Int × List Tree × Int) : ∀ (m : Nat) (n : Tree) (ts : List Tk), n.at_ = r2.2.2.2.1 → Good ts → ts <:+ l → ts.length < m → 16 * ts.length ≤ k →
  parse_parser_exp.l0 m (PE.at k) l least r2 n.kind n.text n.n n.kids (ix l ts) = some (conv l eT (vLoop least n ts))
 | 0, _, _, _, _, _, h, _ => by omega
 | m + 1, n, ts, hn, hg, hs, hm, hk => by
  rw [parse_parser_exp.l0, now_eq m hg hs, vLoop_eq n h0 hg]
  simp only [Option.bind_some, binds_eq]
  refine conv_if rfl (fun hc => ?_) fun hc => ?_
  ·rw [← hn]; rfl
  ·obtain ⟨g1, g2, g3⟩ := hg.tail (bindsH_ne (by omega))
   have hb := bindsH_range ts
   simp only [joinF]
   rw [ix_tail hl hg hs (bindsH_ne (by omega)), wrap64 (bindsH ts - 1) (by omega) (by omega)]
   have hq : (0 : Int) ≤ (if bindsH ts = 4 then 3 else bindsH ts) := by split <;> omega
   have key : ∀ q : Int, q = (if bindsH ts = 4 then 3 else bindsH ts) → PR.bind ((PE.at k).parse_parser_exp l (ix l ts.tail) q) (fun r25 => parse_parser_exp.l0 m (PE.at k) l least r2 (11 : Int) (hd ts).2.1 (0 : Int) ([(Tree.mk n.kind n.text n.n r2.2.2.2.1 n.kids), (Tree.mk r25.1 r25.2.1 r25.2.2.1 r25.2.2.2.1 r25.2.2.2.2.1)]) r25.2.2.2.2.2) = some (conv l eT ((vExp (if bindsH ts = 4 then 3 else bindsH ts) ts.tail).then fun m r => vLoop least (.mk 11 (hd ts).2.1 0 n.at_ [n, m]) r)) := by
    intro q hqe
    subst hqe
    rw [ih.exp _ _ hq g1 (g3.trans hs) (by omega)]
    refine conv_bind (fExp hq g1) fun x r hr hrs hrn => ?_
    simp only [eT, tree_eta]
    rw [← hn, tree_eta]
    exact loop_eq least h0 r2 m (.mk 11 (hd ts).2.1 0 n.at_ [n, x]) r hn hr (hrs.trans (g3.trans hs)) (by omega) (by omega)
   by_cases h4 : bindsH ts = 4
   ·rw [show (bindsH ts == (4 : Int)) = true by rw [beq_iff_eq]; exact h4]
    exact key _ (by rw [if_pos h4, h4]; rfl)
   ·rw [show (bindsH ts == (4 : Int)) = false by rw [beq_eq_false_iff_ne]; exact h4]
    exact key _ (by rw [if_neg h4])
theorem exp_eq (least : Int) (h0 : 0 ≤ least) {ts : List Tk} (hg : Good ts) (hs : ts <:+ l) (hk : 16 * ts.length + 4 ≤ k) : parse_parser_exp.g (PE.at k) k l (ix l ts) least = some (conv l eT (vExp least ts)) := by
 unfold parse_parser_exp.g
 rw [ih.operand ts hg hs hk, vExp_eq h0 hg]
 refine conv_bind (fOperand hg) fun n r hr hrs hn => ?_
 exact loop_eq hl ih least h0 (eT n (ix l r)) k n r rfl hr (hrs.trans hs) (by omega) (by omega)
theorem operand_eq {ts : List Tk} (hg : Good ts) (hs : ts <:+ l) (hk : 16 * ts.length + 3 ≤ k) : parse_parser_operand.g (PE.at k) k l (ix l ts) = some (conv l eT (vOperand ts)) := by
 unfold parse_parser_operand.g
 rw [now_eq k hg hs, vOperand_eq hg]
 simp only [Option.bind_some, joinF, is_eq k hg hs, got_eq k hl hg hs]
 refine conv_if (beq_dec _ _) (fun hc => ?_) fun h3 => ?_
 ·rw [ix_tail hl hg hs (by omega)]; rfl
 refine conv_if (beq_dec _ _) (fun hc => ?_) fun h4 => ?_
 ·rw [ix_tail hl hg hs (by omega)]; rfl
 refine conv_if (bool_dec _) (fun hc => ?_) fun h5 => ?_
 ·rw [ix_tail hl hg hs (isH_ne hc)]; rfl
 refine conv_if (bool_dec _) (fun hc => ?_) fun h6 => ?_
 ·rw [ix_tail hl hg hs (isH_ne hc)]; rfl
 refine conv_if (bool_dec _) (fun hc => ?_) fun h7 => ?_
 ·rw [ix_tail hl hg hs (isH_ne hc)]; rfl
 have hun : ∀ (h8 : (isH kNot ts || isH kHash ts || isH kMinus ts) = true), PR.bind ((PE.at k).parse_parser_exp l (ix l ts.tail) (7 : Int)) (fun r21 => some (PR.ok ((10 : Int), (hd ts).2.1, (0 : Int), (hd ts).2.2.2, [(Tree.mk r21.1 r21.2.1 r21.2.2.1 r21.2.2.2.1 r21.2.2.2.2.1)], r21.2.2.2.2.2))) = some (conv l eT ((vExp 7 ts.tail).then fun m r => .ok (.mk 10 (hd ts).2.1 0 (hd ts).2.2.2 [m]) r)) := fun h8 => by
  obtain ⟨g1, g2, g3⟩ := hg.tail (or3 rfl rfl rfl h8)
  rw [ih.exp 7 _ (by omega) g1 (g3.trans hs) (by omega)]
  refine conv_bind (fExp (by omega) g1) fun x r hr hrs hn => ?_
  simp only [eT, tree_eta]
  rfl
 cases hA : isH kNot ts with
 | true =>
  have h8 : (isH kNot ts || isH kHash ts || isH kMinus ts) = true := by rw [hA]; rfl
  rw [hA] at h8
  simp only [cond_true, if_true, h8]
  exact hun (by rw [hA]; rfl)
 | false =>
 simp only [Bool.false_eq_true, if_false, cond_false, Bool.false_or, got_eq k hl hg hs, Option.bind_some]
 cases hB : isH kHash ts with
 | true =>
  simp only [cond_true, if_true, Bool.true_or]
  exact hun (by rw [hB]; simp)
 | false =>
 simp only [Bool.false_eq_true, if_false, cond_false, Bool.false_or, got_eq k hl hg hs, Option.bind_some]
 cases hC : isH kMinus ts with
 | true =>
  simp only [cond_true, if_true]
  exact hun (by rw [hC]; simp)
 | false =>
 simp only [Bool.false_eq_true, if_false, cond_false, got_eq k hl hg hs, Option.bind_some]
 refine conv_if (bool_dec _) (fun hc => ?_) fun h9 => ?_
 ·simp only [hc, if_true]
  obtain ⟨g1, g2, g3⟩ := hg.tail (isH_ne hc)
  rw [ih.fields _ g1 (g3.trans hs) (by omega)]
  refine conv_bind (fFields _ g1) fun x r hr hrs hn => ?_
  rfl
 ·simp only [if_neg h9]
  rw [ih.suffixed _ hg hs (by omega)]
  have := conv_bind (e' := eT) (F := fun r38 : Int × ByteArray × Int × Int × List Tree × Int => some (PR.ok (r38.1, r38.2.1, r38.2.2.1, r38.2.2.2.1, r38.2.2.2.2.1, r38.2.2.2.2.2))) (g := fun n r => .ok n r) (l := l) (fSuffixed hg) (e := eT) (fun n r _ _ _ => rfl)
  rw [this]
  cases vSuffixed ts <;> rfl
theorem expsL_eq (J : List Tree → Int → Option (PR (List Tree × Int))) (hJ : ∀ a i, J a i = some (.ok (a, i))) : ∀ (m : Nat) (acc : List Tree) (ts : List Tk), Good ts → ts <:+ l → ts.length < m → acc.length + ts.length ≤ 1000000 → 16 * ts.length ≤ k →
  parse_parser_exps.l0 m (PE.at k) l J acc (ix l ts) = some (conv l eL (vExpsL acc ts))
 | 0, _, _, _, _, h, _, _ => by omega
 | m + 1, acc, ts, hg, hs, hm, ha, hk => by
  rw [parse_parser_exps.l0, got_eq m hl hg hs, vExpsL_eq acc hg]
  simp only [Option.bind_some]
  refine conv_if (bool_dec _) (fun hc => ?_) fun hc => ?_
  ·simp only [hc, if_true]
   obtain ⟨g1, g2, g3⟩ := hg.tail (isH_ne hc)
   rw [ih.exp 0 _ (by omega) g1 (g3.trans hs) (by omega)]
   refine conv_bind (fExp (by omega) g1) fun n r hr hrs hn => ?_
   simp only [eT, tree_eta]
   rw [apd_ok' (by simp only [List.length_cons, List.length_nil]; omega)]
   simp only [Option.bind_some]
   exact expsL_eq J hJ m _ r hr (hrs.trans (g3.trans hs)) (by omega) (by simp only [List.length_append, List.length_cons, List.length_nil]; omega) (by omega)
  ·simp only [if_neg hc, hJ]
   rfl
theorem exps_eq {ts : List Tk} (hg : Good ts) (hs : ts <:+ l) (hk : 16 * ts.length + 5 ≤ k) : parse_parser_exps.g (PE.at k) k l (ix l ts) = some (conv l eL (vExps ts)) := by
 unfold parse_parser_exps.g
 rw [ih.exp 0 ts (by omega) hg hs hk, vExps_eq hg]
 refine conv_bind (fExp (by omega) hg) fun n r hr hrs hn => ?_
 simp only [joinF, eT, tree_eta]
 have := hs.length_le
 exact expsL_eq hl ih _ (fun _ _ => rfl) k _ r hr (hrs.trans hs) (by omega) (by simp only [List.length_cons, List.length_nil]; omega) (by omega)
theorem fieldsL_eq (J : List Tree → Int → Option (PR (List Tree × Int))) (hJ : ∀ a r, Good r → r <:+ l → J a (ix l r) = some (conv l eL ((vWant kRc r).then fun _ r => .ok a r))) : ∀ (m : Nat) (acc : List Tree) (ts : List Tk), Good ts → ts <:+ l → ts.length < m → acc.length + ts.length ≤ 1000000 → 16 * ts.length + 6 ≤ k →
  parse_parser_fields.l0 m (PE.at k) l J acc (ix l ts) = some (conv l eL (vFields acc ts))
 | 0, _, _, _, _, h, _, _ => by omega
 | m + 1, acc, ts, hg, hs, hm, ha, hk => by
  rw [parse_parser_fields.l0, is_eq m hg hs, vFields_eq acc hg]
  simp only [Option.bind_some]
  by_cases hR : isH kRc ts = true
  ·rw [if_pos hR, show isH (⟨#[125]⟩ : ByteArray) ts = true from hR]
   simp only [Bool.not_true, cond_false]
   rw [hJ acc ts hg hs]
   unfold vWant
   rw [if_pos hR]
   rfl
  ·rw [if_neg hR, show isH (⟨#[125]⟩ : ByteArray) ts = false from by simpa using hR]
   simp only [Bool.not_false, cond_true]
   rw [ih.field ts hg hs hk]
   refine conv_bind (fField hg) fun x r hr hrs hn => ?_
   simp only [eT, tree_eta]
   rw [apd_ok' (by simp only [List.length_cons, List.length_nil]; omega)]
   have hrl := hrs.trans hs
   simp only [Option.bind_some, joinF, got_eq m hl hr hrl]
   have more : ∀ {w : ByteArray}, isH w r = true → parse_parser_fields.l0 m (PE.at k) l J (acc ++ [x]) (ix l r.tail) = some (conv l eL (vFields (acc ++ [x]) r.tail)) := fun hc => by
    obtain ⟨g1, g2, g3⟩ := hr.tail (isH_ne hc)
    exact fieldsL_eq J hJ m _ _ g1 (g3.trans hrl) (by omega) (by simp only [List.length_append, List.length_cons, List.length_nil]; omega) (by omega)
   by_cases hc : isH kComma r = true
   ·rw [if_pos hc, show isH (⟨#[44]⟩ : ByteArray) r = true from hc]
    simp only [Bool.not_true, cond_false, if_true]
    exact more hc
   ·rw [if_neg hc, show isH (⟨#[44]⟩ : ByteArray) r = false from by simpa using hc]
    simp only [Bool.not_false, cond_true, Bool.false_eq_true, if_false, got_eq m hl hr hrl, Option.bind_some]
    by_cases hd : isH kSemi r = true
    ·rw [if_pos hd, show isH (⟨#[59]⟩ : ByteArray) r = true from hd]
     simp only [Bool.not_true, cond_false, if_true]
     exact more hd
    ·rw [if_neg hd, show isH (⟨#[59]⟩ : ByteArray) r = false from by simpa using hd]
     simp only [Bool.not_false, cond_true, Bool.false_eq_true, if_false]
     exact hJ _ _ hr hrl
theorem fields_eq {ts : List Tk} (hg : Good ts) (hs : ts <:+ l) (hk : 16 * ts.length + 6 ≤ k) : parse_parser_fields.g (PE.at k) k l (ix l ts) = some (conv l eL (vFields [] ts)) := by
 unfold parse_parser_fields.g
 simp only [joinF]
 have := hs.length_le
 refine fieldsL_eq hl ih _ (fun a r hr hrs => ?_) k [] ts hg hs (by omega) (by simp only [List.length_nil]; omega) hk
 rw [want_eq k hl hr hrs]
 exact conv_bind (fWant _ hr) fun _ r2 hr2 _ _ => rfl
theorem field_eq {ts : List Tk} (hg : Good ts) (hs : ts <:+ l) (hk : 16 * ts.length + 5 ≤ k) : parse_parser_field.g (PE.at k) k l (ix l ts) = some (conv l eT (vField ts)) := by
 unfold parse_parser_field.g
 rw [now_eq k hg hs, vField_eq hg]
 simp only [Option.bind_some, joinF, got_eq k hl hg hs]
 refine conv_if (bool_dec _) (fun hc => ?_) fun h1 => ?_
 ·simp only [hc, if_true]
  obtain ⟨g1, g2, g3⟩ := hg.tail (isH_ne hc)
  rw [ih.exp 0 _ (by omega) g1 (g3.trans hs) (by omega)]
  refine conv_bind (fExp (by omega) g1) fun x r hr hrs hn => ?_
  simp only [eT, tree_eta]
  have h1 := hrs.trans (g3.trans hs)
  rw [want_eq k hl hr h1]
  refine conv_bind (fWant _ hr) fun _ r2 hr2 hrs2 hn2 => ?_
  simp only [eU]
  rw [want_eq k hl hr2 (hrs2.trans h1)]
  refine conv_bind (fWant _ hr2) fun _ r3 hr3 hrs3 hn3 => ?_
  simp only [eU]
  rw [ih.exp 0 _ (by omega) hr3 (hrs3.trans (hrs2.trans h1)) (by omega)]
  refine conv_bind (fExp (by omega) hr3) fun y r4 hr4 hrs4 hn4 => ?_
  simp only [eT, tree_eta]
  rw [apd_ok' (by simp)]
  rfl
 simp only [if_neg h1]
 have hq : ((cond ((hd ts).1 == (1 : Int)) ((lIdx l (IntKind.i64.wrap (ix l ts + (1 : Int)))).bind fun x57 => cond (x57.1 == (5 : Int)) ((lIdx l (IntKind.i64.wrap (ix l ts + (1 : Int)))).bind fun x65 => some (x65.2.1.toList == (⟨#[61]⟩ : ByteArray).toList)) (some false)) (some false)) : Option Bool) = some (decide ((hd ts).1 = 1 ∧ (hd ts.tail).1 = 5 ∧ (hd ts.tail).2.1.toList = kEq.toList)) := by
  by_cases h : (hd ts).1 = 1
  ·obtain ⟨g1, g2, g3⟩ := hg.tail (by omega)
   rw [ix_tail hl hg hs (by omega), idx_hd g1 (g3.trans hs), h]
   simp only [beq_self_eq_true, cond_true, Option.bind_some, true_and]
   by_cases h5 : (hd ts.tail).1 = 5
   ·rw [h5]
    simp only [beq_self_eq_true, cond_true, true_and]
    exact congrArg some (lbeq_dec _ _)
   ·rw [show ((hd ts.tail).1 == (5 : Int)) = false by rw [beq_eq_false_iff_ne]; exact h5]
    simp [h5]
  ·rw [show ((hd ts).1 == (1 : Int)) = false by rw [beq_eq_false_iff_ne]; exact h]
   simp [h]
 rw [hq]
 simp only [Option.bind_some]
 refine conv_if rfl (fun hc => ?_) fun h2 => ?_
 ·obtain ⟨h1, h5, he⟩ := hc
  obtain ⟨g1, g2, g3⟩ := hg.tail (by omega)
  obtain ⟨g4, g5, g6⟩ := g1.tail (by omega)
  rw [name_eq k hl hg hs]
  unfold vName
  rw [if_pos h1]
  simp only [conv, PR.bind, eT, Tree.kind, Tree.text, Tree.n, Tree.at_, Tree.kids]
  have hE : isH kEq ts.tail = true := by unfold isH isT; rw [h5, he]; simp
  rw [want_eq k hl g1 (g3.trans hs)]
  unfold vWant
  rw [if_pos hE]
  simp only [conv, eU]
  rw [ih.exp 0 _ (by omega) g4 (g6.trans (g3.trans hs)) (by omega)]
  have := conv_bind (l := l) (e := eT) (e' := eT) (x := vExp 0 ts.tail.tail) (F := fun r13 => (apd 64 [Tree.mk 5 (hd ts).2.1 0 (hd ts).2.2.2 []] [(Tree.mk r13.1 r13.2.1 r13.2.2.1 r13.2.2.2.1 r13.2.2.2.2.1)]).bind fun l22 => some (PR.ok ((14 : Int), (⟨#[]⟩ : ByteArray), (0 : Int), (hd ts).2.2.2, l22, r13.2.2.2.2.2))) (g := fun v r => .ok (.mk 14 noB 0 (hd ts).2.2.2 [.mk 5 (hd ts).2.1 0 (hd ts).2.2.2 [], v]) r) (fExp (by omega) g4) (fun y r4 hr4 hrs4 hn4 => by
   simp only [eT, tree_eta]
   rw [apd_ok' (by simp)]
   rfl)
  exact this
 ·rw [ih.exp 0 _ (by omega) hg hs (by omega)]
  refine conv_bind (fExp (by omega) hg) fun y r4 hr4 hrs4 hn4 => ?_
  simp only [eT, tree_eta]
  rw [apd_ok' (by simp)]
  rfl
theorem sufL_eq (r2 : Tk) : ∀ (m : Nat) (n : Tree) (ts : List Tk), Good ts → ts <:+ l → ts.length < m → 16 * ts.length ≤ k →
  parse_parser_suffixed.l0 m (PE.at k) l r2 n.kind n.text n.n n.at_ n.kids (ix l ts) = some (conv l eT (vSufL r2.2.2.2 n ts))
 | 0, _, _, _, _, h, _ => by omega
 | m + 1, n, ts, hg, hs, hm, hk => by
  rw [parse_parser_suffixed.l0, got_eq m hl hg hs, vSufL_eq _ n hg]
  simp only [Option.bind_some, tree_eta]
  refine conv_if (bool_dec _) (fun hc => ?_) fun h1 => ?_
  ·simp only [hc, if_true]
   obtain ⟨g1, g2, g3⟩ := hg.tail (isH_ne hc)
   rw [ih.exp 0 _ (by omega) g1 (g3.trans hs) (by omega)]
   refine conv_bind (fExp (by omega) g1) fun x r hr hrs hn => ?_
   simp only [eT, tree_eta]
   have hrl := hrs.trans (g3.trans hs)
   rw [want_eq m hl hr hrl]
   refine conv_bind (fWant _ hr) fun _ r2' hr2 hrs2 hn2 => ?_
   exact sufL_eq r2 m (.mk 7 noB 0 r2.2.2.2 [n, x]) r2' hr2 (hrs2.trans hrl) (by omega) (by omega)
  simp only [if_neg h1, got_eq m hl hg hs, Option.bind_some]
  refine conv_if (bool_dec _) (fun hc => ?_) fun h2 => ?_
  ·simp only [hc, if_true]
   obtain ⟨g1, g2, g3⟩ := hg.tail (isH_ne hc)
   rw [name_eq m hl g1 (g3.trans hs), vStr_eq, then_assoc]
   refine conv_bind (fName 6 g1) fun x r hr hrs hn => ?_
   exact sufL_eq r2 m (.mk 7 noB 0 r2.2.2.2 [n, .mk 5 x.text x.n x.at_ x.kids]) r hr (hrs.trans (g3.trans hs)) (by omega) (by omega)
  simp only [if_neg h2, got_eq m hl hg hs, Option.bind_some]
  refine conv_if (bool_dec _) (fun hc => ?_) fun h3 => ?_
  ·simp only [hc, if_true]
   obtain ⟨g1, g2, g3⟩ := hg.tail (isH_ne hc)
   have gs := g3.trans hs
   have hlen := hs.length_le
   simp only [joinF, is_eq m g1 gs, Option.bind_some]
   unfold vArgs
   have tl : ∀ (xs : List Tree) (r : List Tk), Good r → r <:+ l → r.length ≤ ts.tail.length → PR.bind (parse_parser_want.f m l (ix l r) (⟨#[41]⟩ : ByteArray)) (fun r63 => parse_parser_suffixed.l0 m (PE.at k) l r2 (8 : Int) (⟨#[]⟩ : ByteArray) (0 : Int) r2.2.2.2 (n :: xs) r63) = some (conv l eT ((vWant kRp r).then fun _ r => vSufL r2.2.2.2 (.mk 8 noB 0 r2.2.2.2 (n :: xs)) r)) := fun xs r hr hrl hn => by
    rw [want_eq m hl hr hrl]
    refine conv_bind (fWant _ hr) fun _ r2' hr2 hrs2 hn2 => ?_
    exact sufL_eq r2 m (.mk 8 noB 0 r2.2.2.2 (n :: xs)) r2' hr2 (hrs2.trans hrl) (by omega) (by omega)
   by_cases hR : isH kRp ts.tail = true
   ·rw [if_pos hR, show isH (⟨#[41]⟩ : ByteArray) ts.tail = true from hR]
    exact tl [] _ g1 gs (Nat.le_refl _)
   ·rw [if_neg hR, show isH (⟨#[41]⟩ : ByteArray) ts.tail = false from by simpa using hR]
    simp only [Bool.not_false, cond_true]
    rw [ih.exps _ g1 gs (by omega)]
    cases hv : vExps ts.tail with
    | bad i => rfl
    | ok xs r =>
     have hf := fExps g1
     rw [hv] at hf
     have hxl := len_exps g1 hv
     show (apd 64 [n] xs).bind _ = _
     rw [apd_ok' (by simp only [List.length_cons, List.length_nil]; omega)]
     exact tl xs r hf.1 (hf.2.2.trans gs) (by have := hf.2.1; omega)
  ·simp only [if_neg h3]
   rfl
theorem suffixed_eq {ts : List Tk} (hg : Good ts) (hs : ts <:+ l) (hk : 16 * ts.length + 2 ≤ k) : parse_parser_suffixed.g (PE.at k) k l (ix l ts) = some (conv l eT (vSuffixed ts)) := by
 unfold parse_parser_suffixed.g
 rw [now_eq k hg hs, vSuffixed_eq hg]
 simp only [Option.bind_some, joinF, got_eq k hl hg hs]
 refine conv_if (bool_dec _) (fun hc => ?_) fun h1 => ?_
 ·simp only [hc, if_true]
  obtain ⟨g1, g2, g3⟩ := hg.tail (isH_ne hc)
  rw [ih.exp 0 _ (by omega) g1 (g3.trans hs) (by omega)]
  refine conv_bind (fExp (by omega) g1) fun x r hr hrs hn => ?_
  simp only [eT, tree_eta]
  have hrl := hrs.trans (g3.trans hs)
  rw [want_eq k hl hr hrl]
  refine conv_bind (fWant _ hr) fun _ r2' hr2 hrs2 hn2 => ?_
  exact sufL_eq hl ih (hd ts) k (.mk 9 noB 0 (hd ts).2.2.2 [x]) r2' hr2 (hrs2.trans hrl) (by omega) (by omega)
 ·simp only [if_neg h1]
  rw [name_eq k hl hg hs]
  refine conv_bind (fName 6 hg) fun n r hr hrs hn => ?_
  exact sufL_eq hl ih (hd ts) k n r hr (hrs.trans hs) (by omega) (by omega)
end
theorem aE {l : List Tk} (hl : l.length ≤ 1000000) : ∀ k, AE l k
 | 0 => by constructor <;> intros <;> omega
 | k + 1 => by
  have ih := aE hl k
  exact ⟨fun least ts h0 hg hs h => exp_eq hl ih least h0 hg hs (by omega), fun ts hg hs h => operand_eq hl ih hg hs (by omega), fun ts hg hs h => suffixed_eq hl ih hg hs (by omega), fun ts hg hs h => fields_eq hl ih hg hs (by omega), fun ts hg hs h => field_eq hl ih hg hs (by omega), fun ts hg hs h => exps_eq hl ih hg hs (by omega)⟩
end Go.Proofs.YtdkgnlaneccioaaGreatDoor
namespace Go.Proofs.YtdkgnlaneccioaaGreatDoor
open Go Go.RowKit
theorem vNamesL_pre (pre : List Tree) : ∀ (n : Nat) (acc : List Tree) (ts : List Tk), ts.length ≤ n → Good ts → vNamesL (pre ++ acc) ts = (vNamesL acc ts).then fun xs r => .ok (pre ++ xs) r
 | 0, _, [], _, hg => hg.elim
 | n + 1, acc, ts, hn, hg => by
  rw [vNamesL_eq _ hg, vNamesL_eq acc hg]
  by_cases hc : isH kComma ts = true
  ·rw [if_pos hc, if_pos hc, then_assoc]
   obtain ⟨g1, g2, g3⟩ := hg.tail (isH_ne hc)
   refine then_congr (fName 6 g1) fun x r hr hl => ?_
   rw [List.append_assoc]
   exact vNamesL_pre pre n _ r (by omega) hr
  ·rw [if_neg hc, if_neg hc]; rfl
structure AS (l : List Tk) (k : Nat) : Prop where
 block : ∀ c ts, Good ts → ts <:+ l → 16 * ts.length + 9 ≤ k → (PS.at k).parse_parser_block l (ix l ts) c = some (conv l eT (vBlock c ts))
 function : ∀ ts, isH kFunction ts = true → Good ts → ts <:+ l → 16 * ts.length + 7 ≤ k → (PS.at k).parse_parser_function l (ix l ts) = some (conv l eT (vFunction ts))
 stat : ∀ ts, Good ts → ts <:+ l → 16 * ts.length + 7 ≤ k → (PS.at k).parse_parser_stat l (ix l ts) = some (conv l eT (vStat ts))
 branches : ∀ ts, Good ts → ts <:+ l → 16 * ts.length + 6 ≤ k → (PS.at k).parse_parser_branches l (ix l ts) = some (conv l eL (vBranches [] ts))
 loop : ∀ at_ ts, Good ts → ts <:+ l → 16 * ts.length + 8 ≤ k → (PS.at k).parse_parser_loop l (ix l ts) at_ = some (conv l eT (vFor at_ ts))
 plain : ∀ ts, Good ts → ts <:+ l → 16 * ts.length + 6 ≤ k → (PS.at k).parse_parser_plain l (ix l ts) = some (conv l eT (vPlain ts))
section
variable {l : List Tk} (hl : l.length ≤ 1000000)
include hl
theorem fexp_eq (k : Nat) {ts : List Tk} (hg : Good ts) (hs : ts <:+ l) (hk : 16 * ts.length + 4 ≤ k) : parse_parser_exp.f k l (ix l ts) 0 = some (conv l eT (vExp 0 ts)) := exp_eq hl (aE hl k) 0 (by omega) hg hs hk
theorem fexps_eq (k : Nat) {ts : List Tk} (hg : Good ts) (hs : ts <:+ l) (hk : 16 * ts.length + 5 ≤ k) : parse_parser_exps.f k l (ix l ts) = some (conv l eL (vExps ts)) := exps_eq hl (aE hl k) hg hs hk
theorem fsuf_eq (k : Nat) {ts : List Tk} (hg : Good ts) (hs : ts <:+ l) (hk : 16 * ts.length + 2 ≤ k) : parse_parser_suffixed.f k l (ix l ts) = some (conv l eT (vSuffixed ts)) := suffixed_eq hl (aE hl k) hg hs hk
omit hl in
theorem body_ok {ts : List Tk} (h : isH kDo ts = true) (hg : Good ts) : vBody ts = (vBlock false ts.tail).then fun b r => (vWant kEnd r).then fun _ r => .ok b r := by
 rw [vBody_eq hg]
 unfold vWant
 rw [if_pos h]
 rfl
variable {k : Nat} (ih : AS l k)
include ih
theorem want_body (F : Tree → Option (List Tree)) (G : List Tree → Int → Option (PR (Int × ByteArray × Int × Int × List Tree × Int))) (g : Tree → Tree) {ts : List Tk} (hg : Good ts) (hs : ts <:+ l) (hk : 16 * ts.length + 9 ≤ k + 16)
  (hG : ∀ b r, Good r → r <:+ l → ∃ xs, F b = some xs ∧ G xs (ix l r) = some (conv l eT (.ok (g b) r))) :
  PR.bind (parse_parser_want.f k l (ix l ts) (⟨#[100, 111]⟩ : ByteArray)) (fun r36 => PR.bind ((PS.at k).parse_parser_block l r36 false) fun r38 => (F (Tree.mk r38.1 r38.2.1 r38.2.2.1 r38.2.2.2.1 r38.2.2.2.2.1)).bind fun l49 => PR.bind (parse_parser_want.f k l r38.2.2.2.2.2 (⟨#[101, 110, 100]⟩ : ByteArray)) fun r54 => G l49 r54) =
   some (conv l eT ((vBody ts).then fun b r => .ok (g b) r)) := by
 rw [want_eq k hl hg hs, vBody_eq hg, then_assoc]
 refine conv_bind (fWant _ hg) fun _ r hr hrs hn => ?_
 simp only [eU]
 have h1 := hrs.trans hs
 rw [ih.block false r hr h1 (by omega), then_assoc]
 refine conv_bind (fBlock false hr) fun b r2 hr2 hrs2 hn2 => ?_
 simp only [eT, tree_eta]
 have h2 := hrs2.trans h1
 obtain ⟨xs, hF, _⟩ := hG b r2 hr2 h2
 rw [hF, then_assoc]
 simp only [Option.bind_some]
 rw [want_eq k hl hr2 h2]
 refine conv_bind (fWant _ hr2) fun _ r3 hr3 hrs3 hn3 => ?_
 obtain ⟨xs', hF', hG'⟩ := hG b r3 hr3 (hrs3.trans h2)
 rw [hF] at hF'
 cases hF'
 exact hG'
theorem blockL_eq (chunk : Bool) (r2 : Tk) : ∀ (m : Nat) (acc : List Tree) (ts : List Tk), Good ts → ts <:+ l → 16 * ts.length + 6 < m → acc.length + ts.length ≤ 1000000 → 16 * ts.length + 8 ≤ k →
  parse_parser_block.l0 m (PS.at k) l chunk r2 acc (ix l ts) = some (conv l eT (vBlockL chunk r2.2.2.2 acc ts))
 | 0, _, _, _, _, h, _, _ => by omega
 | m + 1, acc, ts, hg, hs, hm, ha, hk => by
  rw [parse_parser_block.l0, now_eq m hg hs, vBlockL_eq chunk _ acc hg]
  simp only [Option.bind_some, got_eq m hl hg hs]
  refine conv_if (bool_dec _) (fun hc => ?_) fun h1 => ?_
  ·simp only [hc, if_true]
   obtain ⟨g1, g2, g3⟩ := hg.tail (isH_ne hc)
   exact blockL_eq chunk r2 m acc _ g1 (g3.trans hs) (by omega) (by omega) (by omega)
  simp only [if_neg h1, got_eq m hl hg hs, Option.bind_some]
  refine conv_if (bool_dec _) (fun hc => ?_) fun h2 => ?_
  ·simp only [hc, if_true]
   obtain ⟨g1, g2, g3⟩ := hg.tail (isH_ne hc)
   have gs := g3.trans hs
   have hend : ∀ (xs : List Tree) (r : List Tk), Good r → r <:+ l → (parse_parser_got.f m l (ix l r) (⟨#[59]⟩ : ByteArray)).bind (fun r25 => (apd 64 acc [(Tree.mk (30 : Int) (⟨#[]⟩ : ByteArray) (0 : Int) (hd ts).2.2.2 xs)]).bind fun l29 => some (PR.ok ((20 : Int), (⟨#[]⟩ : ByteArray), (0 : Int), r2.2.2.2, l29, r25.2))) = some (conv l eT (.ok (.mk 20 noB 0 r2.2.2.2 (acc ++ [.mk 30 noB 0 (hd ts).2.2.2 xs])) (if isH kSemi r then r.tail else r))) := fun xs r hr hrl => by
    rw [got_eq m hl hr hrl, apd_ok' (by simp only [List.length_cons, List.length_nil]; omega)]
    rfl
   simp only [joinF, ends_eq m g1 gs, is_eq m g1 gs, Option.bind_some]
   unfold vRets
   cases hE : endsH ts.tail with
   | true =>
    simp only [Bool.not_true, cond_false, Option.bind_some, Bool.true_or, if_true]
    exact hend [] _ g1 gs
   | false =>
    simp only [Bool.not_false, cond_true, Option.bind_some, Bool.false_or]
    by_cases hS : isH kSemi ts.tail = true
    ·rw [if_pos hS, show isH (⟨#[59]⟩ : ByteArray) ts.tail = true from hS]
     exact hend [] _ g1 gs
    ·rw [if_neg hS, show isH (⟨#[59]⟩ : ByteArray) ts.tail = false from by simpa using hS]
     simp only [Bool.not_false, cond_true]
     rw [fexps_eq hl m g1 gs (by omega)]
     refine conv_bind (fExps g1) fun xs r hr hrs hn => ?_
     exact hend xs r hr (hrs.trans gs)
  simp only [if_neg h2, is_eq m hg hs, ends_eq m hg hs, Option.bind_some]
  have hq : (cond chunk (some (isH (⟨#[102, 117, 110, 99, 116, 105, 111, 110]⟩ : ByteArray) ts)) (some false) : Option Bool) = some (chunk && isH kFunction ts) := by cases chunk <;> rfl
  rw [hq]
  simp only [Option.bind_some]
  have more : ∀ (x : Tree) (r : List Tk), Good r → r <:+ ts → r.length + 1 ≤ ts.length → ((apd 64 acc [x]).bind fun l56 => parse_parser_block.l0 m (PS.at k) l chunk r2 l56 (ix l r)) = some (conv l eT (vBlockL chunk r2.2.2.2 (acc ++ [x]) r)) := fun x r hr hrs hn => by
   rw [apd_ok' (by simp only [List.length_cons, List.length_nil]; omega)]
   exact blockL_eq chunk r2 m _ r hr (hrs.trans hs) (by omega) (by simp only [List.length_append, List.length_cons, List.length_nil]; omega) (by omega)
  refine conv_if (bool_dec _) (fun hc => ?_) fun h3 => ?_
  ·simp only [Bool.and_eq_true] at hc
   rw [ih.function ts hc.2 hg hs (by omega)]
   refine conv_bind (fFunction (isH_ne hc.2) hg) fun x r hr hrs hn => ?_
   simp only [eT, tree_eta]
   exact more x r hr hrs hn
  refine conv_if (bool_dec _) (fun hc => rfl) fun h4 => ?_
  rw [ih.stat ts hg hs (by omega)]
  refine conv_bind (fStat hg) fun x r hr hrs hn => ?_
  simp only [eT, tree_eta]
  exact more x r hr hrs hn
theorem block_eq (c : Bool) {ts : List Tk} (hg : Good ts) (hs : ts <:+ l) (hk : 16 * ts.length + 8 ≤ k) : parse_parser_block.g (PS.at k) k l (ix l ts) c = some (conv l eT (vBlock c ts)) := by
 unfold parse_parser_block.g
 rw [now_eq k hg hs, vBlock_eq c hg]
 simp only [Option.bind_some]
 have := hs.length_le
 exact blockL_eq hl ih c (hd ts) k [] ts hg hs (by omega) (by simp only [List.length_nil]; omega) hk
theorem function_eq {ts : List Tk} (hf : isH kFunction ts = true) (hg : Good ts) (hs : ts <:+ l) (hk : 16 * ts.length + 6 ≤ k) : parse_parser_function.g (PS.at k) k l (ix l ts) = some (conv l eT (vFunction ts)) := by
 unfold parse_parser_function.g
 rw [now_eq k hg hs, vFunction_eq (isH_ne hf) hg]
 simp only [Option.bind_some]
 rw [want_eq k hl hg hs]
 unfold vWant
 rw [if_pos hf]
 obtain ⟨g1, g2, g3⟩ := hg.tail (isH_ne hf)
 have gs := g3.trans hs
 have hle := hs.length_le
 show PR.bind (parse_parser_name.f k l (ix l ts.tail)) _ = _
 rw [name_eq k hl g1 gs]
 refine conv_bind (fName 6 g1) fun nm r hr hrs hn => ?_
 simp only [eT]
 have h1 := hrs.trans gs
 rw [want_eq k hl hr h1]
 refine conv_bind (fWant _ hr) fun _ r2 hr2 hrs2 hn2 => ?_
 simp only [eU, joinF]
 have h2 := hrs2.trans h1
 have tl : ∀ (ps : List Tree) (r : List Tk), Good r → r <:+ l → r.length + 1 ≤ ts.length → ps.length ≤ 1000000 → PR.bind (parse_parser_want.f k l (ix l r) (⟨#[41]⟩ : ByteArray)) (fun r21 => PR.bind ((PS.at k).parse_parser_block l r21 false) fun r23 => (apd 64 ps [(Tree.mk r23.1 r23.2.1 r23.2.2.1 r23.2.2.2.1 r23.2.2.2.2.1)]).bind fun l32 => PR.bind (parse_parser_want.f k l r23.2.2.2.2.2 (⟨#[101, 110, 100]⟩ : ByteArray)) fun r37 => some (PR.ok ((31 : Int), nm.text, ((ps.length : Nat) : Int), (hd ts).2.2.2, l32, r37))) =
   some (conv l eT ((vWant kRp r).then fun _ r => (vBlock false r).then fun b r => (vWant kEnd r).then fun _ r => .ok (.mk 31 nm.text ps.length (hd ts).2.2.2 (ps ++ [b])) r)) := fun ps r hr hrl hn hps => by
  rw [want_eq k hl hr hrl]
  refine conv_bind (fWant _ hr) fun _ s hs1 hss hn' => ?_
  simp only [eU]
  have h3 := hss.trans hrl
  rw [ih.block false s hs1 h3 (by omega)]
  refine conv_bind (fBlock false hs1) fun b s2 hs2 hss2 hn2' => ?_
  simp only [eT, tree_eta]
  rw [apd_ok' (by simp only [List.length_cons, List.length_nil]; omega)]
  simp only [Option.bind_some]
  rw [want_eq k hl hs2 (hss2.trans h3)]
  exact conv_bind (fWant _ hs2) fun _ s3 _ _ _ => rfl
 rw [is_eq k hr2 h2]
 simp only [Option.bind_some]
 unfold vParams
 by_cases hR : isH kRp r2 = true
 ·rw [if_pos hR, show isH (⟨#[41]⟩ : ByteArray) r2 = true from hR]
  exact tl [] r2 hr2 h2 (by omega) (by simp)
 ·rw [if_neg hR, show isH (⟨#[41]⟩ : ByteArray) r2 = false from by simpa using hR]
  simp only [Bool.not_false, cond_true]
  rw [names_eqA hl k hr2 h2 (by omega)]
  cases hv : vNames r2 with
  | bad i => rfl
  | ok ps s =>
   have hf := fNames hr2
   rw [hv] at hf
   have hln := len_names hr2 hv
   exact tl ps s hf.1 (hf.2.2.trans h2) (by have := hf.2.1; omega) (by omega)
theorem branchesL_eq (J : List Tree → Int → Option (PR (List Tree × Int))) (hJ : ∀ a r, Good r → r <:+ l → 16 * r.length + 9 ≤ k → a.length ≤ 1000000 → J a (ix l r) = some (conv l eL (if isH kElse r then (vBlock false r.tail).then fun c r => (vWant kEnd r).then fun _ r => .ok (a ++ [c]) r else (vWant kEnd r).then fun _ r => .ok a r))) :
  ∀ (m : Nat) (acc : List Tree) (ts : List Tk), Good ts → ts <:+ l → 16 * ts.length + 4 < m → acc.length + 2 * ts.length ≤ 1000000 → 16 * ts.length ≤ k → parse_parser_branches.l0 m (PS.at k) l J acc (ix l ts) = some (conv l eL (vBranches acc ts))
 | 0, _, _, _, _, h, _, _ => by omega
 | m + 1, acc, ts, hg, hs, hm, ha, hk => by
  rw [parse_parser_branches.l0, fexp_eq hl m hg hs (by omega), vBranches_eq acc hg]
  refine conv_bind (fExp (by omega) hg) fun e r hr hrs hn => ?_
  simp only [eT, tree_eta]
  have h1 := hrs.trans hs
  rw [apd_ok' (by simp only [List.length_cons, List.length_nil]; omega)]
  simp only [Option.bind_some]
  rw [want_eq m hl hr h1]
  refine conv_bind (fWant _ hr) fun _ r2 hr2 hrs2 hn2 => ?_
  simp only [eU]
  have h2 := hrs2.trans h1
  rw [ih.block false r2 hr2 h2 (by omega)]
  refine conv_bind (fBlock false hr2) fun b r3 hr3 hrs3 hn3 => ?_
  simp only [eT, tree_eta]
  have h3 := hrs3.trans h2
  rw [apd_ok' (by simp only [List.length_append, List.length_cons, List.length_nil]; omega)]
  simp only [Option.bind_some, got_eq m hl hr3 h3]
  by_cases hc : isH kElseif r3 = true
  ·rw [if_pos hc, show isH (⟨#[101, 108, 115, 101, 105, 102]⟩ : ByteArray) r3 = true from hc]
   simp only [Bool.not_true, cond_false, if_true]
   obtain ⟨g1, g2, g3⟩ := hr3.tail (isH_ne hc)
   exact branchesL_eq J hJ m _ _ g1 (g3.trans h3) (by omega) (by simp only [List.length_append, List.length_cons, List.length_nil]; omega) (by omega)
  ·rw [if_neg hc, show isH (⟨#[101, 108, 115, 101, 105, 102]⟩ : ByteArray) r3 = false from by simpa using hc]
   simp only [Bool.not_false, cond_true, Bool.false_eq_true, if_false]
   exact hJ _ r3 hr3 h3 (by omega) (by simp only [List.length_append, List.length_cons, List.length_nil]; omega)
theorem branches_eq {ts : List Tk} (hg : Good ts) (hs : ts <:+ l) (hk : 16 * ts.length + 5 ≤ k) (hl2 : l.length ≤ 400000) : parse_parser_branches.g (PS.at k) k l (ix l ts) = some (conv l eL (vBranches [] ts)) := by
 unfold parse_parser_branches.g
 simp only [joinF]
 have hle := hs.length_le
 refine branchesL_eq hl ih _ (fun a r hr hrl hk2 ha => ?_) k [] ts hg hs (by omega) (by simp only [List.length_nil]; omega) (by omega)
 rw [got_eq k hl hr hrl]
 simp only [Option.bind_some]
 refine conv_if (bool_dec _) (fun hc => ?_) fun h1 => ?_
 ·simp only [hc, if_true]
  obtain ⟨g1, g2, g3⟩ := hr.tail (isH_ne hc)
  have gs := g3.trans hrl
  rw [ih.block false _ g1 gs (by omega)]
  refine conv_bind (fBlock false g1) fun c r3 hr3 hrs3 hn3 => ?_
  simp only [eT, tree_eta]
  rw [apd_ok' (by simp only [List.length_cons, List.length_nil]; omega)]
  simp only [Option.bind_some]
  rw [want_eq k hl hr3 (hrs3.trans gs)]
  exact conv_bind (fWant _ hr3) fun _ _ _ _ _ => rfl
 ·simp only [if_neg h1]
  rw [want_eq k hl hr hrl]
  exact conv_bind (fWant _ hr) fun _ _ _ _ _ => rfl
theorem for_eq (at_ : Int) {ts : List Tk} (hg : Good ts) (hs : ts <:+ l) (hk : 16 * ts.length + 7 ≤ k) : parse_parser_loop.g (PS.at k) k l (ix l ts) at_ = some (conv l eT (vFor at_ ts)) := by
 unfold parse_parser_loop.g
 rw [name_eq k hl hg hs, vFor_eq at_ hg]
 refine conv_bind (fName 6 hg) fun n r hr hrs hn => ?_
 simp only [eT, tree_eta, joinF]
 have h1 := hrs.trans hs
 have hle := hs.length_le
 have tl : ∀ (kd nn : Int) (xs : List Tree) (r : List Tk), Good r → r <:+ l → r.length + 1 ≤ ts.length → xs.length ≤ 1000000 → PR.bind (parse_parser_want.f k l (ix l r) (⟨#[100, 111]⟩ : ByteArray)) (fun r19 => PR.bind ((PS.at k).parse_parser_block l r19 false) fun r21 => (apd 64 xs [(Tree.mk r21.1 r21.2.1 r21.2.2.1 r21.2.2.2.1 r21.2.2.2.2.1)]).bind fun l30 => PR.bind (parse_parser_want.f k l r21.2.2.2.2.2 (⟨#[101, 110, 100]⟩ : ByteArray)) fun r35 => some (PR.ok (kd, (⟨#[]⟩ : ByteArray), nn, at_, l30, r35))) =
   some (conv l eT ((vBody r).then fun bd r => .ok (.mk kd noB nn at_ (xs ++ [bd])) r)) := fun kd nn xs r hr hrl hn hxs =>
  want_body hl ih (fun b => apd 64 xs [b]) (fun l30 r35 => some (PR.ok (kd, (⟨#[]⟩ : ByteArray), nn, at_, l30, r35))) (fun bd => .mk kd noB nn at_ (xs ++ [bd])) hr hrl (by omega) fun b s hs1 hsl => ⟨_, apd_ok' (by simp only [List.length_cons, List.length_nil]; omega), rfl⟩
 rw [got_eq k hl hr h1]
 simp only [Option.bind_some]
 refine conv_if (bool_dec _) (fun hc => ?_) fun hne => ?_
 ·simp only [hc, if_true]
  obtain ⟨g1, g2, g3⟩ := hr.tail (isH_ne hc)
  have gs := g3.trans h1
  rw [fexp_eq hl k g1 gs (by omega)]
  refine conv_bind (fExp (by omega) g1) fun a r2 hr2 hrs2 hn2 => ?_
  simp only [eT, tree_eta]
  have h2 := hrs2.trans gs
  rw [apd_ok' (by simp)]
  simp only [Option.bind_some]
  rw [want_eq k hl hr2 h2]
  refine conv_bind (fWant _ hr2) fun _ r3 hr3 hrs3 hn3 => ?_
  simp only [eU]
  have h3 := hrs3.trans h2
  rw [fexp_eq hl k hr3 h3 (by omega)]
  refine conv_bind (fExp (by omega) hr3) fun b r4 hr4 hrs4 hn4 => ?_
  simp only [eT, tree_eta]
  have h4 := hrs4.trans h3
  rw [apd_ok' (by simp)]
  simp only [Option.bind_some, got_eq k hl hr4 h4]
  unfold vStep
  by_cases hC : isH kComma r4 = true
  ·rw [if_pos hC, show isH (⟨#[44]⟩ : ByteArray) r4 = true from hC]
   simp only [cond_true, if_true]
   obtain ⟨g5, g6, g7⟩ := hr4.tail (isH_ne hC)
   have gs5 := g7.trans h4
   rw [fexp_eq hl k g5 gs5 (by omega), then_assoc]
   refine conv_bind (fExp (by omega) g5) fun c r5 hr5 hrs5 hn5 => ?_
   simp only [eT, tree_eta]
   rw [apd_ok' (by simp)]
   exact tl 26 0 _ r5 hr5 (hrs5.trans gs5) (by omega) (by simp)
  ·rw [if_neg hC, show isH (⟨#[44]⟩ : ByteArray) r4 = false from by simpa using hC]
   simp only [cond_false, Bool.false_eq_true, if_false]
   have := tl 26 0 ([n] ++ [a] ++ [b]) r4 hr4 h4 (by omega) (by simp)
   simp only [PV.then, List.append_nil]
   exact this
 ·simp only [if_neg hne, got_eq k hl hr h1, Option.bind_some]
  have tl2 : ∀ (xs : List Tree) (r : List Tk), Good r → r <:+ l → r.length + 1 ≤ ts.length → xs.length + r.length ≤ ts.length + 1 → PR.bind (parse_parser_want.f k l (ix l r) (⟨#[105, 110]⟩ : ByteArray)) (fun r94 => PR.bind (parse_parser_exps.f k l r94) fun r96 => (apd 64 xs r96.1).bind fun l102 => PR.bind (parse_parser_want.f k l r96.2 (⟨#[100, 111]⟩ : ByteArray)) fun r19 => PR.bind ((PS.at k).parse_parser_block l r19 false) fun r21 => (apd 64 l102 [(Tree.mk r21.1 r21.2.1 r21.2.2.1 r21.2.2.2.1 r21.2.2.2.2.1)]).bind fun l30 => PR.bind (parse_parser_want.f k l r21.2.2.2.2.2 (⟨#[101, 110, 100]⟩ : ByteArray)) fun r35 => some (PR.ok ((27 : Int), (⟨#[]⟩ : ByteArray), ((xs.length : Nat) : Int), at_, l30, r35))) =
    some (conv l eT ((vWant kIn r).then fun _ r => (vExps r).then fun es r => (vBody r).then fun bd r => .ok (.mk 27 noB xs.length at_ (xs ++ es ++ [bd])) r)) := fun xs r hr hrl hn hx => by
   rw [want_eq k hl hr hrl]
   refine conv_bind (fWant _ hr) fun _ r3 hr3 hrs3 hn3 => ?_
   simp only [eU]
   have h3 := hrs3.trans hrl
   rw [fexps_eq hl k hr3 h3 (by omega)]
   cases hv : vExps r3 with
   | bad i => rfl
   | ok es s =>
    have hf := fExps hr3
    rw [hv] at hf
    have hln := len_exps hr3 hv
    show (apd 64 xs es).bind _ = _
    rw [apd_ok' (by omega)]
    exact tl 27 xs.length (xs ++ es) s hf.1 (hf.2.2.trans h3) (by have := hf.2.1; omega) (by simp only [List.length_append]; omega)
  by_cases hC : isH kComma r = true
  ·rw [show isH (⟨#[44]⟩ : ByteArray) r = true from hC]
   simp only [cond_true, if_true]
   obtain ⟨g1, g2, g3⟩ := hr.tail (isH_ne hC)
   have gs := g3.trans h1
   rw [names_eqA hl k g1 gs (by omega)]
   have e : vNamesL [n] r = (vNames r.tail).then fun xs r => .ok ([n] ++ xs) r := by
    rw [vNamesL_eq _ hr, if_pos hC]
    unfold vNames
    rw [then_assoc]
    exact then_congr (fName 6 g1) fun x s hs1 _ => vNamesL_pre [n] _ [x] s (Nat.le_refl _) hs1
   rw [e, then_assoc]
   cases hv : vNames r.tail with
   | bad i => rfl
   | ok xs s =>
    have hf := fNames g1
    rw [hv] at hf
    have hln := len_names g1 hv
    show (apd 64 [n] xs).bind _ = _
    rw [apd_ok' (by simp only [List.length_cons, List.length_nil]; omega)]
    exact tl2 ([n] ++ xs) s hf.1 (hf.2.2.trans gs) (by have := hf.2.1; omega) (by simp only [List.length_append, List.length_cons, List.length_nil]; omega)
  ·rw [show isH (⟨#[44]⟩ : ByteArray) r = false from by simpa using hC]
   simp only [cond_false, Bool.false_eq_true, if_false]
   rw [vNamesL_eq _ hr, if_neg hC]
   exact tl2 [n] r hr h1 (by omega) (by simp only [List.length_cons, List.length_nil]; omega)
theorem stat_eq {ts : List Tk} (hg : Good ts) (hs : ts <:+ l) (hk : 16 * ts.length + 6 ≤ k) : parse_parser_stat.g (PS.at k) k l (ix l ts) = some (conv l eT (vStat ts)) := by
 unfold parse_parser_stat.g
 rw [now_eq k hg hs, vStat_eq hg]
 simp only [Option.bind_some, joinF, got_eq k hl hg hs]
 have hle := hs.length_le
 refine conv_if (bool_dec _) (fun hc => ?_) fun h1 => ?_
 ·simp only [hc, if_true]
  obtain ⟨g1, g2, g3⟩ := hg.tail (isH_ne hc)
  have gs := g3.trans hs
  rw [body_ok hc hg, then_assoc, ih.block false _ g1 gs (by omega)]
  refine conv_bind (fBlock false g1) fun b r hr hrs hn => ?_
  simp only [eT, tree_eta]
  rw [want_eq k hl hr (hrs.trans gs), then_assoc]
  exact conv_bind (fWant _ hr) fun _ _ _ _ _ => rfl
 simp only [if_neg h1, got_eq k hl hg hs, Option.bind_some]
 refine conv_if (bool_dec _) (fun hc => ?_) fun h2 => ?_
 ·simp only [hc, if_true]
  obtain ⟨g1, g2, g3⟩ := hg.tail (isH_ne hc)
  have gs := g3.trans hs
  rw [fexp_eq hl k g1 gs (by omega)]
  refine conv_bind (fExp (by omega) g1) fun e r hr hrs hn => ?_
  simp only [eT, tree_eta]
  exact want_body hl ih (fun b => apd 64 [e] [b]) (fun l49 r54 => some (PR.ok ((25 : Int), (⟨#[]⟩ : ByteArray), (0 : Int), (hd ts).2.2.2, l49, r54))) (fun b => .mk 25 noB 0 (hd ts).2.2.2 [e, b]) hr (hrs.trans gs) (by omega) fun b s _ _ => ⟨_, apd_ok' (by simp), rfl⟩
 simp only [if_neg h2, got_eq k hl hg hs, Option.bind_some]
 refine conv_if (bool_dec _) (fun hc => ?_) fun h3 => ?_
 ·simp only [hc, if_true]
  obtain ⟨g1, g2, g3⟩ := hg.tail (isH_ne hc)
  rw [ih.branches _ g1 (g3.trans hs) (by omega)]
  exact conv_bind (fBranches _ g1) fun _ _ _ _ _ => rfl
 simp only [if_neg h3, got_eq k hl hg hs, Option.bind_some]
 have same : ∀ {x : PV Tree}, (PR.bind (some (conv l eT x)) fun r66 => some (PR.ok (r66.1, r66.2.1, r66.2.2.1, r66.2.2.2.1, r66.2.2.2.2.1, r66.2.2.2.2.2))) = some (conv l eT x) := fun {x} => by cases x <;> rfl
 refine conv_if (bool_dec _) (fun hc => ?_) fun h4 => ?_
 ·simp only [hc, if_true]
  obtain ⟨g1, g2, g3⟩ := hg.tail (isH_ne hc)
  rw [ih.loop _ _ g1 (g3.trans hs) (by omega)]
  exact same
 simp only [if_neg h4, got_eq k hl hg hs, Option.bind_some]
 refine conv_if (bool_dec _) (fun hc => ?_) fun h5 => ?_
 ·simp only [hc, if_true]
  obtain ⟨g1, g2, g3⟩ := hg.tail (isH_ne hc)
  have gs := g3.trans hs
  rw [names_eqA hl k g1 gs (by omega)]
  cases hv : vNames ts.tail with
  | bad i => rfl
  | ok xs r =>
   have hf := fNames g1
   rw [hv] at hf
   have hln := len_names g1 hv
   have hrl := hf.2.2.trans gs
   show (parse_parser_got.f k l (ix l r) _).bind _ = some (conv l eT ((vInit r).then _))
   rw [got_eq k hl hf.1 hrl]
   unfold vInit
   simp only [Option.bind_some, eL]
   by_cases hE : isH kEq r = true
   ·rw [if_pos hE, show isH (⟨#[61]⟩ : ByteArray) r = true from hE]
    simp only [cond_true, if_true]
    obtain ⟨g4, g5, g6⟩ := hf.1.tail (isH_ne hE)
    have h6 := hf.2.1
    rw [fexps_eq hl k g4 (g6.trans hrl) (by omega)]
    cases hv2 : vExps r.tail with
    | bad i => rfl
    | ok es s =>
     have hln2 := len_exps g4 hv2
     show (apd 64 xs es).bind _ = _
     rw [apd_ok' (by omega)]
     rfl
   ·rw [if_neg hE, show isH (⟨#[61]⟩ : ByteArray) r = false from by simpa using hE]
    simp only [cond_false, Bool.false_eq_true, if_false, PV.then, List.append_nil]
    rfl
 simp only [if_neg h5, got_eq k hl hg hs, Option.bind_some]
 refine conv_if (bool_dec _) (fun hc => ?_) fun h6 => ?_
 ·simp only [hc, if_true]
  rfl
 simp only [if_neg h6]
 rw [ih.plain _ hg hs (by omega)]
 exact same
omit ih in
theorem targets_eq (J : List Tree → Int → Option (PR (Int × ByteArray × Int × Int × List Tree × Int))) (g : List Tree → List Tk → PV Tree) (N : Nat) (hJ : ∀ a r, Good r → r <:+ l → r.length ≤ N → a.length + r.length ≤ 1000000 → J a (ix l r) = some (conv l eT (g a r))) :
  ∀ (m : Nat) (acc : List Tree) (e : Tree) (ts : List Tk), Good ts → ts <:+ l → 16 * ts.length + 2 < m → ts.length ≤ N → acc.length + ts.length + 1 ≤ 1000000 → parse_parser_plain.l0 m l J e.kind e.text e.n e.at_ e.kids acc (ix l ts) = some (conv l eT ((vTargets acc e ts).then g))
 | 0, _, _, _, _, _, h, _, _ => by omega
 | m + 1, acc, e, ts, hg, hs, hm, hN, ha => by
  rw [parse_parser_plain.l0, vTargets_eq acc e hg]
  simp only [joinF, tree_eta]
  have ht : parse_target.f m e.kind e.text e.n e.at_ e.kids = some (decide (e.kind = 6 ∨ e.kind = 7)) := by
   unfold parse_target.f
   rw [beq_dec, beq_dec]
   by_cases h6 : e.kind = 6
   ·simp [h6]
   ·simp [h6]
  rw [ht]
  simp only [Option.bind_some]
  by_cases hk : e.kind = 6 ∨ e.kind = 7
  ·rw [if_pos hk, decide_eq_true hk]
   simp only [Bool.not_true, cond_false]
   rw [apd_ok' (by simp only [List.length_cons, List.length_nil]; omega)]
   simp only [Option.bind_some, got_eq m hl hg hs]
   by_cases hc : isH kComma ts = true
   ·rw [show isH (⟨#[44]⟩ : ByteArray) ts = true from hc]
    simp only [Bool.not_true, cond_false, if_true]
    rw [then_assoc]
    obtain ⟨g1, g2, g3⟩ := hg.tail (isH_ne hc)
    have gs := g3.trans hs
    rw [fsuf_eq hl m g1 gs (by omega)]
    refine conv_bind (fSuffixed g1) fun x r hr hrs hn => ?_
    exact targets_eq J g N hJ m _ x r hr (hrs.trans gs) (by omega) (by omega) (by simp only [List.length_append, List.length_cons, List.length_nil]; omega)
   ·rw [show isH (⟨#[44]⟩ : ByteArray) ts = false from by simpa using hc]
    simp only [Bool.not_false, cond_true, Bool.false_eq_true, if_false]
    exact hJ _ ts hg hs (by omega) (by simp only [List.length_append, List.length_cons, List.length_nil]; omega)
  ·rw [if_neg hk, decide_eq_false hk]
   rfl
omit ih in
theorem plain_eq (k : Nat) {ts : List Tk} (hg : Good ts) (hs : ts <:+ l) (hk : 16 * ts.length + 5 ≤ k) : parse_parser_plain.g (PS.at k) k l (ix l ts) = some (conv l eT (vPlain ts)) := by
 unfold parse_parser_plain.g
 rw [fsuf_eq hl k hg hs (by omega), vPlain_eq hg]
 have hle := hs.length_le
 refine conv_bind (fSuffixed hg) fun e r hr hrs hn => ?_
 have h1 := hrs.trans hs
 simp only [eT, tree_eta, is_eq k hr h1, Option.bind_some, joinF]
 have hq : (cond (!isH (⟨#[61]⟩ : ByteArray) r) (some (!isH (⟨#[44]⟩ : ByteArray) r)) (some false) : Option Bool) = some (!(isH kEq r || isH kComma r)) := by
  show (cond (!isH kEq r) (some (!isH kComma r)) (some false) : Option Bool) = _
  cases isH kEq r <;> cases isH kComma r <;> rfl
 rw [hq]
 simp only [Option.bind_some]
 cases hb : (isH kEq r || isH kComma r) with
 | true =>
  simp only [Bool.not_true, cond_false, if_true]
  refine targets_eq hl _ (fun l r => (vWant kEq r).then fun _ r => (vExps r).then fun es r => .ok (.mk 22 noB l.length e.at_ (l ++ es)) r) r.length (fun a s hs1 hsl hsn ha => ?_) k [] e r hr h1 (by omega) (Nat.le_refl _) (by simp only [List.length_nil]; omega)
  rw [want_eq k hl hs1 hsl]
  refine conv_bind (fWant _ hs1) fun _ s2 hs2 hss2 hn2 => ?_
  simp only [eU]
  have h2 := hss2.trans hsl
  have hkey : 16 * s2.length + 5 ≤ k := by have := hs2; omega
  rw [fexps_eq hl k hs2 h2 hkey]
  cases hv : vExps s2 with
  | bad i => rfl
  | ok es s3 =>
   have hln := len_exps hs2 hv
   show (apd 64 a es).bind _ = _
   rw [apd_ok' (by omega)]
   rfl
 | false =>
  simp only [Bool.not_false, cond_true, Bool.false_eq_true, if_false]
  by_cases h8 : e.kind = 8
  ·rw [if_pos h8, h8]
   rfl
  ·rw [if_neg h8, show (e.kind != 8) = true by rw [bne_iff_ne]; exact h8]
   simp only [cond_true, now_eq k hr h1, Option.bind_some]
   rfl
end
theorem aS {l : List Tk} (hl : l.length ≤ 400000) : ∀ k, AS l k
 | 0 => by constructor <;> intros <;> omega
 | k + 1 => by
  have ih := aS hl k
  have h1 : l.length ≤ 1000000 := by omega
  exact ⟨fun c ts hg hs h => block_eq h1 ih c hg hs (by omega), fun ts hf hg hs h => function_eq h1 ih hf hg hs (by omega), fun ts hg hs h => stat_eq h1 ih hg hs (by omega), fun ts hg hs h => branches_eq h1 ih hg hs (by omega) hl, fun at_ ts hg hs h => for_eq h1 ih at_ hg hs (by omega), fun ts hg hs h => plain_eq h1 k hg hs (by omega)⟩
theorem fblock_eq {l : List Tk} (hl : l.length ≤ 400000) (k : Nat) (c : Bool) {ts : List Tk} (hg : Good ts) (hs : ts <:+ l) (hk : 16 * ts.length + 8 ≤ k) : parse_parser_block.f k l (ix l ts) c = some (conv l eT (vBlock c ts)) := block_eq (by omega) (aS hl k) c hg hs hk
end Go.Proofs.YtdkgnlaneccioaaGreatDoor
namespace Go.Proofs.YtdkgnlaneccioaaGreatDoor
open Go Go.RowKit
mutual
def sz : Tree → Nat
 | .mk _ _ _ _ l => szs l + 1
def szs : List Tree → Nat
 | [] => 0
 | x :: l => sz x + szs l
end
mutual
/-- Nodes begin in order. -/
def ordT : Tree → Prop
 | .mk k _ _ a l => ordTs a l ∧ (k = 20 → l.Pairwise fun x y => x.at_ < y.at_)
def ordTs (a : Int) : List Tree → Prop
 | [] => True
 | x :: l => (a ≤ x.at_ ∧ ordT x) ∧ ordTs a l
end
theorem ordTs_iff {a : Int} : ∀ {l : List Tree}, ordTs a l ↔ ∀ x ∈ l, a ≤ x.at_ ∧ ordT x
 | [] => by simp [ordTs]
 | x :: l => by simp [ordTs, ordTs_iff (l := l)]
theorem szs_append : ∀ (l m : List Tree), szs (l ++ m) = szs l + szs m
 | [], m => by simp [szs]
 | x :: l, m => by simp only [List.cons_append, szs, szs_append l m]; omega
theorem szs_len : ∀ (l : List Tree), l.length ≤ szs l
 | [] => Nat.zero_le _
 | .mk _ _ _ _ _ :: l => by
  have := szs_len l
  simp only [List.length_cons, szs, sz]
  omega
def Asc (ts : List Tk) : Prop := ts.Pairwise fun a b => a.2.2.2 < b.2.2.2
def at0 (ts : List Tk) : Int := (hd ts).2.2.2
structure Aft (n : Nat) (ts r : List Tk) : Prop where
 good : Good r
 asc : Asc r
 len : r.length + n ≤ ts.length
 le : at0 ts ≤ at0 r
 lt : r.length < ts.length → at0 ts < at0 r
theorem Aft.refl {ts : List Tk} (hg : Good ts) (ha : Asc ts) : Aft 0 ts ts := ⟨hg, ha, Nat.le_refl _, Int.le_refl _, fun h => absurd h (Nat.lt_irrefl _)⟩
theorem Aft.trans {n m : Nat} {ts r s : List Tk} (h : Aft n ts r) (h' : Aft m r s) : Aft (n + m) ts s := by
 refine ⟨h'.good, h'.asc, ?_, ?_, fun hl => ?_⟩
 ·have := h.len; have := h'.len; omega
 ·have := h.le; have := h'.le; omega
 ·by_cases hr : r.length < ts.length
  ·have := h.lt hr; have := h'.le; omega
  ·have := h'.lt (by omega); have := h.le; omega
theorem Aft.weak {n m : Nat} {ts r : List Tk} (h : Aft n ts r) (hm : m ≤ n) : Aft m ts r := ⟨h.good, h.asc, by have := h.len; omega, h.le, h.lt⟩
theorem Aft.tail {n : Nat} {ts r : List Tk} (h : Aft n ts r) (h6 : (hd r).1 ≠ 6) : Aft (n + 1) ts r.tail := by
 obtain ⟨g1, g2, _⟩ := h.good.tail h6
 refine h.trans (m := 1) ⟨g1, ?_, by omega, ?_, ?_⟩
 ·cases r with
  | nil => exact h.asc
  | cons t r => exact (List.pairwise_cons.1 h.asc).2
 all_goals
  cases r with
  | nil => exact h.good.elim
  | cons t r =>
   cases r with
   | nil => exact g1.elim
   | cons u r =>
    have := (List.pairwise_cons.1 h.asc).1 u (List.mem_cons_self ..)
    simp only [at0, hd, List.tail_cons, List.headD_cons]
    omega
def R {α : Type} (x : Option (PV α)) (Q : α → List Tk → Prop) : Prop := ∀ a r, x = some (.ok a r) → Q a r
section
variable {α β : Type} {x y : Option (PV α)} {f : α → List Tk → Option (PV β)} {Q Q1 : α → List Tk → Prop} {Q2 : β → List Tk → Prop}
theorem R.bind (h1 : R x Q1) (h2 : ∀ a r, Q1 a r → R (f a r) Q2) : R (PV.bind x f) Q2 := fun a r h => by
 rcases bind_some h with ⟨i, _, he⟩ | ⟨a', r', hx, hf⟩
 ·cases he
 ·exact h2 a' r' (h1 a' r' hx) a r hf
theorem R.none : R (none : Option (PV α)) Q := fun _ _ h => by cases h
theorem R.bad {i : Int} : R (some (.bad i) : Option (PV α)) Q := fun _ _ h => by cases h
theorem R.ok {a : α} {r : List Tk} (h : Q a r) : R (some (.ok a r)) Q := fun _ _ h' => by cases h'; exact h
theorem R.ite {c : Prop} [Decidable c] (h1 : c → R x Q) (h2 : ¬ c → R y Q) : R (if c then x else y) Q := by
 by_cases h : c
 ·rw [if_pos h]; exact h1 h
 ·rw [if_neg h]; exact h2 h
theorem R.weak (h : R x Q1) (h2 : ∀ a r, Q1 a r → Q a r) : R x Q := fun a r h' => h2 a r (h a r h')
end
structure TE (b : Nat) (ts : List Tk) (n : Tree) (r : List Tk) : Prop where
 aft : Aft 1 ts r
 at_ : n.at_ = at0 ts
 ord : ordT n
 size : sz n + b + 4 * r.length ≤ 4 * ts.length
structure LE (m : Nat) (lo : Int) (acc : List Tree) (ts : List Tk) (l : List Tree) (r : List Tk) : Prop where
 aft : Aft m ts r
 ord : ordTs lo l
 size : szs l + 4 * r.length ≤ szs acc + 4 * ts.length
theorem ordTs.snoc {lo : Int} {l : List Tree} {x : Tree} (h : ordTs lo l) (h1 : lo ≤ x.at_) (h2 : ordT x) : ordTs lo (l ++ [x]) := by
 rw [ordTs_iff] at h ⊢
 intro y hy
 rcases List.mem_append.1 hy with hy | hy
 ·exact h y hy
 ·obtain rfl := List.mem_singleton.1 hy; exact ⟨h1, h2⟩
theorem ordTs.app {lo : Int} {l m : List Tree} (h : ordTs lo l) (h' : ordTs lo m) : ordTs lo (l ++ m) := by
 rw [ordTs_iff] at *
 intro y hy
 exact (List.mem_append.1 hy).elim (h y) (h' y)
theorem ordTs.weak {lo lo' : Int} {l : List Tree} (h : ordTs lo l) (h1 : lo' ≤ lo) : ordTs lo' l := by
 rw [ordTs_iff] at *
 exact fun y hy => ⟨Int.le_trans h1 (h y hy).1, (h y hy).2⟩
theorem ordT.mk {k : Int} {t : ByteArray} {n a : Int} {l : List Tree} (h : ordTs a l) (hk : k ≠ 20) : ordT (.mk k t n a l) := ⟨h, fun e => absurd e hk⟩
theorem one {lo : Int} {x : Tree} (h1 : lo ≤ x.at_) (h2 : ordT x) : ordTs lo [x] := ⟨⟨h1, h2⟩, trivial⟩
theorem rWant {w : ByteArray} {n : Nat} {ts s : List Tk} (h : Aft n ts s) : R (pWant w s) fun _ r => Aft (n + 1) ts r ∧ r.length + 1 = s.length := by
 refine R.ite (fun hc => R.ok ⟨h.tail (isH_ne hc), ?_⟩) fun _ => R.bad
 exact (h.good.tail (isH_ne hc)).2.1
theorem rName {k : Int} {ts : List Tk} (hk : k ≠ 20) (hg : Good ts) (ha : Asc ts) : R (pName k ts) (TE 1 ts) := by
 refine R.ite (fun hc => R.ok ?_) fun _ => R.bad
 have h6 : (hd ts).1 ≠ 6 := by omega
 have := (hg.tail h6).2.1
 exact ⟨((Aft.refl hg ha).tail h6).weak (by omega), rfl, ordT.mk trivial hk, by simp only [sz, szs]; omega⟩
theorem rNamesL : ∀ (f : Nat) (acc : List Tree) (lo : Int) (ts : List Tk), Good ts → Asc ts → lo ≤ at0 ts → ordTs lo acc → R (pNamesL f acc ts) (LE 0 lo acc ts)
 | 0, _, _, _, _, _, _, _ => R.none
 | f + 1, acc, lo, ts, hg, ha, hlo, hacc => by
  unfold pNamesL
  refine R.ite (fun hc => ?_) fun _ => R.ok ⟨Aft.refl hg ha, hacc, Nat.le_refl _⟩
  have ht := (Aft.refl hg ha).tail (isH_ne hc)
  have := ht.len; have := ht.le
  refine R.bind (rName (by decide) ht.good ht.asc) fun n r hn => ?_
  have := hn.at_; have := hn.size
  refine R.weak (rNamesL f _ lo r hn.aft.good hn.aft.asc (by have := hn.aft.le; omega) (hacc.snoc (by omega) hn.ord)) fun l s hl => ?_
  have := hl.size
  rw [szs_append] at this
  simp only [szs] at this
  exact ⟨((ht.trans hn.aft).trans hl.aft).weak (by omega), hl.ord, by omega⟩
theorem rNames (f : Nat) {lo : Int} {ts : List Tk} (hg : Good ts) (ha : Asc ts) (hlo : lo ≤ at0 ts) : R (pNames f ts) (LE 1 lo [] ts) := by
 refine R.bind (rName (by decide) hg ha) fun n r hn => ?_
 have := hn.at_; have := hn.size
 refine R.weak (rNamesL f _ lo r hn.aft.good hn.aft.asc (by have := hn.aft.le; omega) (one (by omega) hn.ord)) fun l s hl => ?_
 have := hl.size
 simp only [szs] at this ⊢
 exact ⟨(hn.aft.trans hl.aft).weak (by omega), hl.ord, by simp only [szs]; omega⟩
structure OE (f : Nat) : Prop where
 exp : ∀ least ts, 0 ≤ least → Good ts → Asc ts → R (pExp f least ts) (TE 1 ts)
 loop : ∀ least n ts, 0 ≤ least → Good ts → Asc ts → ordT n → n.at_ ≤ at0 ts → R (pLoop f least n ts) fun n' r => Aft 0 ts r ∧ n'.at_ = n.at_ ∧ ordT n' ∧ sz n' + 4 * r.length ≤ sz n + 4 * ts.length
 operand : ∀ ts, Good ts → Asc ts → R (pOperand f ts) (TE 1 ts)
 fields : ∀ acc lo ts, Good ts → Asc ts → lo ≤ at0 ts → ordTs lo acc → R (pFields f acc ts) (LE 1 lo acc ts)
 field : ∀ ts, Good ts → Asc ts → R (pField f ts) (TE 0 ts)
 suffixed : ∀ ts, Good ts → Asc ts → R (pSuffixed f ts) (TE 1 ts)
 sufL : ∀ at_ n ts, Good ts → Asc ts → ordT n → at_ = n.at_ → n.at_ ≤ at0 ts → R (pSufL f at_ n ts) fun n' r => Aft 0 ts r ∧ n'.at_ = n.at_ ∧ ordT n' ∧ sz n' + 4 * r.length ≤ sz n + 4 * ts.length
 exps : ∀ lo ts, Good ts → Asc ts → lo ≤ at0 ts → R (pExps f ts) (LE 1 lo [] ts)
 expsL : ∀ acc lo ts, Good ts → Asc ts → lo ≤ at0 ts → ordTs lo acc → R (pExpsL f acc ts) (LE 0 lo acc ts)
theorem leafTE {k : Int} {t : ByteArray} {n : Int} {ts : List Tk} (hk : k ≠ 20) (hg : Good ts) (ha : Asc ts) (h6 : (hd ts).1 ≠ 6) : TE 1 ts (.mk k t n (hd ts).2.2.2 []) ts.tail := by
 have := (hg.tail h6).2.1
 exact ⟨((Aft.refl hg ha).tail h6).weak (by omega), rfl, ordT.mk trivial hk, by simp only [sz, szs]; omega⟩
theorem rE : ∀ f, OE f
 | 0 => by constructor <;> intros <;> (first | unfold pExp | unfold pLoop | unfold pOperand | unfold pFields | unfold pField | unfold pSuffixed | unfold pSufL | unfold pExps | unfold pExpsL) <;> exact R.none
 | f + 1 => by
  have ih := rE f
  constructor
  ·intro least ts hl hg ha; unfold pExp
   refine R.bind (ih.operand ts hg ha) fun n r hn => ?_
   have := hn.at_; have := hn.size; have := hn.aft.le
   refine R.weak (ih.loop least n r hl hn.aft.good hn.aft.asc hn.ord (by omega)) fun n' s ⟨h1, h2, h3, h4⟩ => ?_
   exact ⟨(hn.aft.trans h1).weak (by omega), by omega, h3, by omega⟩
  ·intro least n ts hl hg ha hn hat; unfold pLoop
   refine R.ite (fun _ => R.ok ⟨Aft.refl hg ha, rfl, hn, Nat.le_refl _⟩) fun hc => ?_
   have hb := bindsH_range ts
   have ht := (Aft.refl hg ha).tail (bindsH_ne (by omega))
   have := ht.len; have := ht.le
   refine R.bind (ih.exp _ _ (by split <;> omega) ht.good ht.asc) fun m r hm => ?_
   have := hm.at_; have := hm.size; have := hm.aft.le
   refine R.weak (ih.loop least _ r hl hm.aft.good hm.aft.asc (ordT.mk ⟨⟨Int.le_refl _, hn⟩, ⟨by omega, hm.ord⟩, trivial⟩ (by decide)) (show n.at_ ≤ _ by omega)) fun n' s ⟨h1, h2, h3, h4⟩ => ?_
   simp only [sz, szs] at h4
   exact ⟨((ht.trans hm.aft).trans h1).weak (by omega), h2, h3, by omega⟩
  ·intro ts hg ha; unfold pOperand
   refine R.ite (fun h => R.ok (leafTE (by decide) hg ha (by omega))) fun _ => ?_
   refine R.ite (fun h => R.ok (leafTE (by decide) hg ha (by omega))) fun _ => ?_
   refine R.ite (fun h => R.ok (leafTE (by decide) hg ha (isH_ne h))) fun _ => ?_
   refine R.ite (fun h => R.ok (leafTE (by decide) hg ha (isH_ne h))) fun _ => ?_
   refine R.ite (fun h => R.ok (leafTE (by decide) hg ha (isH_ne h))) fun _ => ?_
   refine R.ite (fun h => ?_) fun _ => ?_
   ·have h6 : (hd ts).1 ≠ 6 := by
     simp only [Bool.or_eq_true] at h
     rcases h with (h | h) | h <;> exact isH_ne h
    have ht := (Aft.refl hg ha).tail h6
    have := ht.len; have := ht.le
    refine R.bind (ih.exp _ _ (by decide) ht.good ht.asc) fun m r hm => R.ok ?_
    have := hm.at_; have := hm.size; have := hm.aft.le
    exact ⟨(ht.trans hm.aft).weak (by omega), rfl, ordT.mk (one (show at0 ts ≤ _ by omega) hm.ord) (by decide), by simp only [sz, szs]; omega⟩
   refine R.ite (fun h => ?_) fun _ => ih.suffixed ts hg ha
   have ht := (Aft.refl hg ha).tail (isH_ne h)
   have := ht.len; have := ht.le
   refine R.bind (ih.fields [] (at0 ts) _ ht.good ht.asc (by omega) trivial) fun l r hl => R.ok ?_
   have h5 := hl.size
   simp only [szs] at h5
   exact ⟨(ht.trans hl.aft).weak (by omega), rfl, ordT.mk hl.ord (by decide), by simp only [sz]; omega⟩
  ·intro acc lo ts hg ha hlo hacc; unfold pFields
   refine R.ite (fun h => ?_) fun _ => ?_
   ·have ht := (Aft.refl hg ha).tail (isH_ne h)
    have := ht.len
    exact R.ok ⟨ht.weak (by omega), hacc, by omega⟩
   refine R.bind (ih.field ts hg ha) fun x r hx => ?_
   have := hx.at_; have := hx.size; have := hx.aft.le
   have hacc' := hacc.snoc (x := x) (by omega) hx.ord
   refine R.ite (fun h => ?_) fun _ => ?_
   ·have ht := hx.aft.tail (isH_ne h)
    have := ht.len; have := ht.le
    have := (hx.aft.good.tail (isH_ne h)).2.1
    refine R.weak (ih.fields _ lo _ ht.good ht.asc (by omega) hacc') fun l s hl => ?_
    have h5 := hl.size
    simp only [szs_append, szs] at h5
    exact ⟨(ht.trans hl.aft).weak (by omega), hl.ord, by omega⟩
   refine R.ite (fun h => ?_) fun _ => ?_
   ·have ht := hx.aft.tail (isH_ne h)
    have := ht.len; have := ht.le
    have := (hx.aft.good.tail (isH_ne h)).2.1
    refine R.weak (ih.fields _ lo _ ht.good ht.asc (by omega) hacc') fun l s hl => ?_
    have h5 := hl.size
    simp only [szs_append, szs] at h5
    exact ⟨(ht.trans hl.aft).weak (by omega), hl.ord, by omega⟩
   refine R.bind (rWant hx.aft) fun _ s ⟨hs, hs2⟩ => R.ok ?_
   exact ⟨hs.weak (by omega), hacc', by simp only [szs_append, szs]; omega⟩
  ·intro ts hg ha; unfold pField
   refine R.ite (fun h => ?_) fun _ => ?_
   ·have ht := (Aft.refl hg ha).tail (isH_ne h)
    have := ht.len; have := ht.le
    refine R.bind (ih.exp _ _ (by decide) ht.good ht.asc) fun k r hk => ?_
    have := hk.at_; have := hk.size; have := hk.aft.le
    refine R.bind (rWant (ht.trans hk.aft)) fun _ r2 ⟨h2, h2'⟩ => ?_
    refine R.bind (rWant h2) fun _ r3 ⟨h3, h3'⟩ => ?_
    have := h3.le
    refine R.bind (ih.exp _ _ (by decide) h3.good h3.asc) fun v r4 hv => R.ok ?_
    have := hv.at_; have := hv.size
    exact ⟨(h3.trans hv.aft).weak (by omega), rfl, ordT.mk ⟨⟨show at0 ts ≤ _ by omega, hk.ord⟩, ⟨show at0 ts ≤ _ by omega, hv.ord⟩, trivial⟩ (by decide), by simp only [sz, szs]; omega⟩
   refine R.ite (fun h => ?_) fun _ => ?_
   ·obtain ⟨h1, h2, _⟩ := h
    have ht := ((Aft.refl hg ha).tail (by omega)).tail (by omega)
    have := ht.len; have := ht.le
    refine R.bind (ih.exp _ _ (by decide) ht.good ht.asc) fun v r hv => R.ok ?_
    have := hv.at_; have := hv.size
    exact ⟨(ht.trans hv.aft).weak (by omega), rfl, ordT.mk ⟨⟨Int.le_refl _, ordT.mk trivial (by decide)⟩, ⟨show at0 ts ≤ _ by omega, hv.ord⟩, trivial⟩ (by decide), by simp only [sz, szs]; omega⟩
   ·refine R.bind (ih.exp _ _ (by decide) hg ha) fun v r hv => R.ok ?_
    have := hv.at_; have := hv.size
    exact ⟨hv.aft, rfl, ordT.mk (one (show at0 ts ≤ _ by omega) hv.ord) (by decide), by simp only [sz, szs]; omega⟩
  ·intro ts hg ha; unfold pSuffixed
   refine R.ite (fun h => ?_) fun _ => ?_
   ·have ht := (Aft.refl hg ha).tail (isH_ne h)
    have := ht.len; have := ht.le
    refine R.bind (ih.exp _ _ (by decide) ht.good ht.asc) fun e r he => ?_
    have := he.at_; have := he.size
    refine R.bind (rWant (ht.trans he.aft)) fun _ r2 ⟨h2, h2'⟩ => ?_
    have := h2.le
    refine R.weak (ih.sufL _ _ r2 h2.good h2.asc (ordT.mk (one (show at0 ts ≤ _ by omega) he.ord) (by decide)) rfl (show at0 ts ≤ _ by omega)) fun n' s ⟨h3, h4, h5, h6⟩ => ?_
    simp only [sz, szs] at h6
    exact ⟨(h2.trans h3).weak (by omega), h4, h5, by omega⟩
   ·refine R.bind (rName (by decide) hg ha) fun n r hn => ?_
    have := hn.at_; have := hn.size; have := hn.aft.le
    refine R.weak (ih.sufL _ _ r hn.aft.good hn.aft.asc hn.ord hn.at_.symm (by omega)) fun n' s ⟨h3, h4, h5, h6⟩ => ?_
    exact ⟨(hn.aft.trans h3).weak (by omega), by omega, h5, by omega⟩
  ·intro at_ n ts hg ha hn he hat; unfold pSufL
   subst he
   refine R.ite (fun h => ?_) fun _ => ?_
   ·have ht := (Aft.refl hg ha).tail (isH_ne h)
    have := ht.len; have := ht.le
    refine R.bind (ih.exp _ _ (by decide) ht.good ht.asc) fun e r he => ?_
    have := he.at_; have := he.size
    refine R.bind (rWant (ht.trans he.aft)) fun _ r2 ⟨h2, h2'⟩ => ?_
    have := h2.le
    refine R.weak (ih.sufL _ _ r2 h2.good h2.asc (ordT.mk ⟨⟨Int.le_refl _, hn⟩, ⟨by omega, he.ord⟩, trivial⟩ (by decide)) rfl (show n.at_ ≤ _ by omega)) fun n' s ⟨h3, h4, h5, h6⟩ => ?_
    simp only [sz, szs] at h6
    exact ⟨(h2.trans h3).weak (by omega), h4, h5, by omega⟩
   refine R.ite (fun h => ?_) fun _ => ?_
   ·have ht := (Aft.refl hg ha).tail (isH_ne h)
    have := ht.len; have := ht.le
    refine R.bind (rName (by decide) ht.good ht.asc) fun e r he => ?_
    have := he.at_; have := he.size; have := he.aft.le
    refine R.weak (ih.sufL _ _ r he.aft.good he.aft.asc (ordT.mk ⟨⟨Int.le_refl _, hn⟩, ⟨by omega, he.ord⟩, trivial⟩ (by decide)) rfl (show n.at_ ≤ _ by omega)) fun n' s ⟨h3, h4, h5, h6⟩ => ?_
    simp only [sz, szs] at h6
    exact ⟨((ht.trans he.aft).trans h3).weak (by omega), h4, h5, by omega⟩
   refine R.ite (fun h => ?_) fun _ => R.ok ⟨Aft.refl hg ha, rfl, hn, Nat.le_refl _⟩
   have ht := (Aft.refl hg ha).tail (isH_ne h)
   have := ht.len; have := ht.le
   refine R.bind (Q1 := LE 0 n.at_ [] ts.tail) ?_ fun l r hl => ?_
   ·refine R.ite (fun _ => R.ok ⟨Aft.refl ht.good ht.asc, trivial, Nat.le_refl _⟩) fun _ => ?_
    exact R.weak (ih.exps n.at_ _ ht.good ht.asc (by omega)) fun l r hl => ⟨hl.aft.weak (by omega), hl.ord, hl.size⟩
   refine R.bind (rWant (ht.trans hl.aft)) fun _ r2 ⟨h2, h2'⟩ => ?_
   have := h2.le
   have h7 := hl.size
   simp only [szs] at h7
   refine R.weak (ih.sufL _ _ r2 h2.good h2.asc (ordT.mk ⟨⟨Int.le_refl _, hn⟩, hl.ord⟩ (by decide)) rfl (show n.at_ ≤ _ by omega)) fun n' s ⟨h3, h4, h5, h6⟩ => ?_
   simp only [sz, szs] at h6
   exact ⟨(h2.trans h3).weak (by omega), h4, h5, by omega⟩
  ·intro lo ts hg ha hlo; unfold pExps
   refine R.bind (ih.exp _ _ (by decide) hg ha) fun e r he => ?_
   have := he.at_; have := he.size; have := he.aft.le
   refine R.weak (ih.expsL _ lo r he.aft.good he.aft.asc (by omega) (one (by omega) he.ord)) fun l s hl => ?_
   have h7 := hl.size
   simp only [szs] at h7
   exact ⟨(he.aft.trans hl.aft).weak (by omega), hl.ord, by simp only [szs]; omega⟩
  ·intro acc lo ts hg ha hlo hacc; unfold pExpsL
   refine R.ite (fun h => ?_) fun _ => R.ok ⟨Aft.refl hg ha, hacc, Nat.le_refl _⟩
   have ht := (Aft.refl hg ha).tail (isH_ne h)
   have := ht.len; have := ht.le
   refine R.bind (ih.exp _ _ (by decide) ht.good ht.asc) fun e r he => ?_
   have := he.at_; have := he.size; have := he.aft.le
   refine R.weak (ih.expsL _ lo r he.aft.good he.aft.asc (by omega) (hacc.snoc (by omega) he.ord)) fun l s hl => ?_
   have h7 := hl.size
   simp only [szs_append, szs] at h7
   exact ⟨((ht.trans he.aft).trans hl.aft).weak (by omega), hl.ord, by omega⟩
end Go.Proofs.YtdkgnlaneccioaaGreatDoor
namespace Go.Proofs.YtdkgnlaneccioaaGreatDoor
open Go Go.RowKit
structure TB (ts : List Tk) (n : Tree) (r : List Tk) : Prop where
 aft : Aft 0 ts r
 at_ : n.at_ = at0 ts
 ord : ordT n
 size : sz n + 4 * r.length ≤ 4 * ts.length + 1
 kind : n.kind = 20
structure OS (f : Nat) : Prop where
 block : ∀ c ts, Good ts → Asc ts → R (pBlock f c ts) (TB ts)
 blockL : ∀ c at_ acc ts, Good ts → Asc ts → at_ ≤ at0 ts → ordTs at_ acc → (acc.Pairwise fun x y => x.at_ < y.at_) → (∀ x ∈ acc, x.at_ < at0 ts) → R (pBlockL f c at_ acc ts) fun n r => Aft 0 ts r ∧ n.at_ = at_ ∧ ordT n ∧ sz n + 4 * r.length ≤ szs acc + 4 * ts.length + 1 ∧ n.kind = 20
 function : ∀ ts, (hd ts).1 ≠ 6 → Good ts → Asc ts → R (pFunction f ts) (TE 0 ts)
 body : ∀ ts, Good ts → Asc ts → R (pBody f ts) fun b r => Aft 2 ts r ∧ at0 ts ≤ b.at_ ∧ ordT b ∧ sz b + 4 * r.length + 7 ≤ 4 * ts.length
 stat : ∀ ts, Good ts → Asc ts → R (pStat f ts) (TE 0 ts)
 branches : ∀ acc lo ts, Good ts → Asc ts → lo ≤ at0 ts → ordTs lo acc → R (pBranches f acc ts) (LE 1 lo acc ts)
 for_ : ∀ at_ ts, Good ts → Asc ts → at_ ≤ at0 ts → R (pFor f at_ ts) fun n r => Aft 1 ts r ∧ n.at_ = at_ ∧ ordT n ∧ sz n + 4 * r.length ≤ 4 * ts.length
 plain : ∀ ts, Good ts → Asc ts → R (pPlain f ts) (TE 0 ts)
 targets : ∀ acc lo e ts, Good ts → Asc ts → lo ≤ at0 ts → ordTs lo acc → lo ≤ e.at_ → ordT e → R (pTargets f acc e ts) fun l r => Aft 0 ts r ∧ ordTs lo l ∧ szs l + 4 * r.length ≤ szs acc + sz e + 4 * ts.length
theorem pw_snoc {acc : List Tree} {x : Tree} (h : acc.Pairwise fun x y => x.at_ < y.at_) (h2 : ∀ y ∈ acc, y.at_ < x.at_) : (acc ++ [x]).Pairwise fun x y => x.at_ < y.at_ := by
 refine List.pairwise_append.2 ⟨h, List.pairwise_singleton .., fun y hy z hz => ?_⟩
 obtain rfl := List.mem_singleton.1 hz
 exact h2 y hy
theorem rS : ∀ f, OS f
 | 0 => by constructor <;> intros <;> (first | unfold pBlock | unfold pBlockL | unfold pFunction | unfold pBody | unfold pStat | unfold pBranches | unfold pFor | unfold pPlain | unfold pTargets) <;> exact R.none
 | f + 1 => by
  have ih := rS f
  have ie := rE f
  constructor
  ·intro c ts hg ha; unfold pBlock
   refine R.weak (ih.blockL c _ [] ts hg ha (Int.le_refl _) trivial List.Pairwise.nil (fun _ h => by cases h)) fun n r ⟨h1, h2, h3, h4, h5⟩ => ?_
   simp only [szs] at h4
   exact ⟨h1, h2, h3, by omega, h5⟩
  ·intro c at_ acc ts hg ha hat hacc hp hlt; unfold pBlockL
   have next : ∀ x r, TE 0 ts x r → R (pBlockL f c at_ (acc ++ [x]) r) fun n r => Aft 0 ts r ∧ n.at_ = at_ ∧ ordT n ∧ sz n + 4 * r.length ≤ szs acc + 4 * ts.length + 1 ∧ n.kind = 20 := fun x r hx => by
    have := hx.at_; have := hx.size; have := hx.aft.len
    have h9 := hx.aft.lt (by omega)
    refine R.weak (ih.blockL c at_ (acc ++ [x]) r hx.aft.good hx.aft.asc (by omega) (hacc.snoc (by omega) hx.ord) (pw_snoc hp fun y hy => by have := hlt y hy; omega) fun y hy => ?_) fun n s ⟨h1, h2, h3, h4, h5⟩ => ?_
    ·rcases List.mem_append.1 hy with hy | hy
     ·have := hlt y hy; omega
     ·obtain rfl := List.mem_singleton.1 hy; omega
    ·simp only [szs_append, szs] at h4
     exact ⟨(hx.aft.trans h1).weak (by omega), h2, h3, by omega, h5⟩
   refine R.ite (fun h => ?_) fun _ => ?_
   ·have ht := (Aft.refl hg ha).tail (isH_ne h)
    have := ht.len; have := ht.le
    refine R.weak (ih.blockL c at_ acc _ ht.good ht.asc (by omega) hacc hp fun x hx => by have := hlt x hx; omega) fun n s ⟨h1, h2, h3, h4, h5⟩ => ?_
    exact ⟨(ht.trans h1).weak (by omega), h2, h3, by omega, h5⟩
   refine R.ite (fun h => ?_) fun _ => ?_
   ·have ht := (Aft.refl hg ha).tail (isH_ne h)
    have := ht.len; have := ht.le
    refine R.bind (Q1 := LE 0 (at0 ts) [] ts.tail) ?_ fun l r hl => ?_
    ·refine R.ite (fun _ => R.ok ⟨Aft.refl ht.good ht.asc, trivial, Nat.le_refl _⟩) fun _ => ?_
     exact R.weak (ie.exps (at0 ts) _ ht.good ht.asc (by omega)) fun l r hl => ⟨hl.aft.weak (by omega), hl.ord, hl.size⟩
    have h7 := hl.size
    simp only [szs] at h7
    have hr : Aft 0 ts (if isH kSemi r = true then r.tail else r) ∧ (if isH kSemi r = true then r.tail else r).length ≤ r.length := by
     split
     ·rename_i hc
      have := (hl.aft.good.tail (isH_ne hc)).2.1
      exact ⟨((ht.trans hl.aft).tail (isH_ne hc)).weak (by omega), by omega⟩
     ·exact ⟨(ht.trans hl.aft).weak (by omega), Nat.le_refl _⟩
    have := hr.2
    refine R.ok ⟨hr.1, rfl, ⟨hacc.snoc (show at_ ≤ at0 ts by omega) (ordT.mk hl.ord (by decide)), fun _ => pw_snoc hp fun y hy => hlt y hy⟩, ?_, rfl⟩
    simp only [sz, szs, szs_append]
    omega
   refine R.ite (fun h => ?_) fun _ => ?_
   ·simp only [Bool.and_eq_true] at h
    exact R.bind (ih.function ts (isH_ne h.2) hg ha) next
   refine R.ite (fun h => ?_) fun _ => R.bind (ih.stat ts hg ha) next
   refine R.ok ⟨Aft.refl hg ha, rfl, ⟨hacc, fun _ => hp⟩, ?_, rfl⟩
   simp only [sz]; omega
  ·intro ts h6 hg ha; unfold pFunction
   have ht := (Aft.refl hg ha).tail h6
   have := ht.len; have := ht.le
   refine R.bind (rName (by decide) ht.good ht.asc) fun nm r hn => ?_
   have := hn.size
   have hnp : 1 ≤ sz nm := by cases nm; simp only [sz]; omega
   refine R.bind (rWant (ht.trans hn.aft)) fun _ r2 ⟨h2, h2'⟩ => ?_
   have := h2.le
   refine R.bind (Q1 := LE 0 (at0 ts) [] r2) ?_ fun ps r3 hl => ?_
   ·refine R.ite (fun _ => R.ok ⟨Aft.refl h2.good h2.asc, trivial, Nat.le_refl _⟩) fun _ => ?_
    exact R.weak (rNames f h2.good h2.asc (by omega)) fun l r hl => ⟨hl.aft.weak (by omega), hl.ord, hl.size⟩
   refine R.bind (rWant (h2.trans hl.aft)) fun _ r4 ⟨h4, h4'⟩ => ?_
   have h7 := hl.size
   simp only [szs] at h7
   have := h4.le
   refine R.bind (ih.block false r4 h4.good h4.asc) fun b r5 hb => ?_
   have := hb.at_; have := hb.size
   refine R.bind (rWant (h4.trans hb.aft)) fun _ r6 ⟨h8, h8'⟩ => R.ok ?_
   refine ⟨h8.weak (by omega), rfl, ordT.mk (hl.ord.snoc (show at0 ts ≤ _ by omega) hb.ord) (by decide), ?_⟩
   simp only [sz, szs, szs_append]
   omega
  ·intro ts hg ha; unfold pBody
   refine R.bind (rWant (Aft.refl hg ha)) fun _ r ⟨h1, h1'⟩ => ?_
   have := h1.le
   refine R.bind (ih.block false r h1.good h1.asc) fun b r2 hb => ?_
   have := hb.at_; have := hb.size
   refine R.bind (rWant (h1.trans hb.aft)) fun _ r3 ⟨h3, h3'⟩ => R.ok ?_
   exact ⟨h3.weak (by omega), by omega, hb.ord, by omega⟩
  ·intro ts hg ha; unfold pStat
   refine R.ite (fun h => ?_) fun _ => ?_
   ·refine R.bind (ih.body ts hg ha) fun b r ⟨h1, h2, h3, h4⟩ => R.ok ?_
    exact ⟨h1.weak (by omega), rfl, ordT.mk (one (show at0 ts ≤ _ by omega) h3) (by decide), by simp only [sz, szs]; omega⟩
   refine R.ite (fun h => ?_) fun _ => ?_
   ·have ht := (Aft.refl hg ha).tail (isH_ne h)
    have := ht.len; have := ht.le
    refine R.bind (ie.exp _ _ (by decide) ht.good ht.asc) fun e r he => ?_
    have := he.at_; have := he.size; have := he.aft.le
    refine R.bind (ih.body r he.aft.good he.aft.asc) fun b r ⟨h1, h2, h3, h4⟩ => R.ok ?_
    exact ⟨((ht.trans he.aft).trans h1).weak (by omega), rfl, ordT.mk ⟨⟨show at0 ts ≤ _ by omega, he.ord⟩, ⟨show at0 ts ≤ _ by omega, h3⟩, trivial⟩ (by decide), by simp only [sz, szs]; omega⟩
   refine R.ite (fun h => ?_) fun _ => ?_
   ·have ht := (Aft.refl hg ha).tail (isH_ne h)
    have := ht.len; have := ht.le
    refine R.bind (ih.branches [] (at0 ts) _ ht.good ht.asc (by omega) trivial) fun l r hl => R.ok ?_
    have h7 := hl.size
    simp only [szs] at h7
    exact ⟨(ht.trans hl.aft).weak (by omega), rfl, ordT.mk hl.ord (by decide), by simp only [sz]; omega⟩
   refine R.ite (fun h => ?_) fun _ => ?_
   ·have ht := (Aft.refl hg ha).tail (isH_ne h)
    have := ht.len; have := ht.le
    refine R.weak (ih.for_ (at0 ts) _ ht.good ht.asc (by omega)) fun n r ⟨h1, h2, h3, h4⟩ => ?_
    exact ⟨(ht.trans h1).weak (by omega), h2, h3, by omega⟩
   refine R.ite (fun h => ?_) fun _ => ?_
   ·have ht := (Aft.refl hg ha).tail (isH_ne h)
    have := ht.len; have := ht.le
    refine R.bind (rNames f ht.good ht.asc (lo := at0 ts) (by omega)) fun l r hl => ?_
    have := hl.aft.le
    have h7 := hl.size
    simp only [szs] at h7
    refine R.bind (Q1 := LE 0 (at0 ts) [] r) ?_ fun es r2 he => R.ok ?_
    ·refine R.ite (fun hc => ?_) fun _ => R.ok ⟨Aft.refl hl.aft.good hl.aft.asc, trivial, Nat.le_refl _⟩
     have ht2 := (Aft.refl hl.aft.good hl.aft.asc).tail (isH_ne hc)
     have := ht2.len; have := ht2.le
     exact R.weak (ie.exps (at0 ts) _ ht2.good ht2.asc (by omega)) fun l r hl => ⟨(ht2.trans hl.aft).weak (by omega), hl.ord, by have := hl.size; omega⟩
    have h8 := he.size
    simp only [szs] at h8
    exact ⟨((ht.trans hl.aft).trans he.aft).weak (by omega), rfl, ordT.mk (hl.ord.app he.ord) (by decide), by simp only [sz, szs_append]; omega⟩
   refine R.ite (fun h => ?_) fun _ => ih.plain ts hg ha
   have := leafTE (k := 29) (t := noB) (n := 0) (by decide) hg ha (isH_ne h)
   exact R.ok ⟨this.aft, this.at_, this.ord, by have := this.size; omega⟩
  ·intro acc lo ts hg ha hlo hacc; unfold pBranches
   refine R.bind (ie.exp _ _ (by decide) hg ha) fun e r he => ?_
   have := he.at_; have := he.size; have := he.aft.le
   refine R.bind (rWant he.aft) fun _ r2 ⟨h2, h2'⟩ => ?_
   have := h2.le
   refine R.bind (ih.block false r2 h2.good h2.asc) fun b r3 hb => ?_
   have := hb.at_; have := hb.size; have := hb.aft.le
   have h3 := h2.trans hb.aft
   have hacc' := (hacc.snoc (x := e) (by omega) he.ord).snoc (x := b) (by omega) hb.ord
   refine R.ite (fun h => ?_) fun _ => ?_
   ·have ht := h3.tail (isH_ne h)
    have := ht.le
    have := (h3.good.tail (isH_ne h)).2.1
    refine R.weak (ih.branches _ lo _ ht.good ht.asc (by omega) hacc') fun l s hl => ?_
    have h7 := hl.size
    simp only [szs_append, szs] at h7
    exact ⟨(ht.trans hl.aft).weak (by omega), hl.ord, by omega⟩
   refine R.ite (fun h => ?_) fun _ => ?_
   ·have ht := h3.tail (isH_ne h)
    have := ht.le
    have := (h3.good.tail (isH_ne h)).2.1
    refine R.bind (ih.block false _ ht.good ht.asc) fun c r4 hc => ?_
    have := hc.at_; have := hc.size
    refine R.bind (rWant (ht.trans hc.aft)) fun _ r5 ⟨h5, h5'⟩ => R.ok ?_
    exact ⟨h5.weak (by omega), hacc'.snoc (by omega) hc.ord, by simp only [szs_append, szs]; omega⟩
   ·refine R.bind (rWant h3) fun _ r5 ⟨h5, h5'⟩ => R.ok ?_
    exact ⟨h5.weak (by omega), hacc', by simp only [szs_append, szs]; omega⟩
  ·intro at_ ts hg ha hat; unfold pFor
   refine R.bind (rName (by decide) hg ha) fun n r hn => ?_
   have := hn.at_; have := hn.size; have := hn.aft.le
   refine R.ite (fun h => ?_) fun _ => ?_
   ·have ht := hn.aft.tail (isH_ne h)
    have := ht.le
    have := (hn.aft.good.tail (isH_ne h)).2.1
    refine R.bind (ie.exp _ _ (by decide) ht.good ht.asc) fun a r2 h2 => ?_
    have := h2.at_; have := h2.size
    refine R.bind (rWant (ht.trans h2.aft)) fun _ r3 ⟨h3, h3'⟩ => ?_
    have := h3.le
    refine R.bind (ie.exp _ _ (by decide) h3.good h3.asc) fun b r4 h4 => ?_
    have := h4.at_; have := h4.size; have := h4.aft.le
    refine R.bind (Q1 := LE 0 at_ [] r4) ?_ fun cs r5 h5 => ?_
    ·refine R.ite (fun hc => ?_) fun _ => R.ok ⟨Aft.refl h4.aft.good h4.aft.asc, trivial, Nat.le_refl _⟩
     have ht2 := (Aft.refl h4.aft.good h4.aft.asc).tail (isH_ne hc)
     have := ht2.len; have := ht2.le
     refine R.bind (ie.exp _ _ (by decide) ht2.good ht2.asc) fun c s hc => R.ok ?_
     have := hc.at_; have := hc.size
     exact ⟨(ht2.trans hc.aft).weak (by omega), one (by omega) hc.ord, by simp only [szs]; omega⟩
    have h7 := h5.size
    simp only [szs] at h7
    have := h5.aft.le
    refine R.bind (ih.body r5 h5.aft.good h5.aft.asc) fun bd r6 ⟨h8, h9, h10, h11⟩ => R.ok ?_
    refine ⟨(((h3.trans h4.aft).trans h5.aft).trans h8).weak (by omega), rfl, ordT.mk ?_ (by decide), by simp only [sz, szs_append, szs]; omega⟩
    exact ((((one (x := n) (by omega) hn.ord).snoc (x := a) (by omega) h2.ord).snoc (x := b) (by omega) h4.ord).app h5.ord).snoc (x := bd) (by omega) h10
   refine R.bind (rNamesL f [n] at_ r hn.aft.good hn.aft.asc (by omega) (one (by omega) hn.ord)) fun l r2 hl => ?_
   have h7 := hl.size
   simp only [szs] at h7
   refine R.bind (rWant (hn.aft.trans hl.aft)) fun _ r3 ⟨h3, h3'⟩ => ?_
   have := h3.le
   refine R.bind (ie.exps at_ r3 h3.good h3.asc (by omega)) fun es r4 h4 => ?_
   have h8 := h4.size
   simp only [szs] at h8
   have := h4.aft.le
   refine R.bind (ih.body r4 h4.aft.good h4.aft.asc) fun bd r6 ⟨h9, h10, h11, h12⟩ => R.ok ?_
   exact ⟨((h3.trans h4.aft).trans h9).weak (by omega), rfl, ordT.mk ((hl.ord.app h4.ord).snoc (x := bd) (by omega) h11) (by decide), by simp only [sz, szs_append, szs]; omega⟩
  ·intro ts hg ha; unfold pPlain
   refine R.bind (ie.suffixed ts hg ha) fun e r he => ?_
   have := he.at_; have := he.size; have := he.aft.le
   refine R.ite (fun h => ?_) fun _ => ?_
   ·refine R.bind (ih.targets [] (at0 ts) e r he.aft.good he.aft.asc (by omega) trivial (by omega) he.ord) fun l r2 ⟨h1, h2, h3⟩ => ?_
    simp only [szs] at h3
    refine R.bind (rWant (he.aft.trans h1)) fun _ r3 ⟨h4, h4'⟩ => ?_
    have := h4.le
    refine R.bind (ie.exps (at0 ts) r3 h4.good h4.asc (by omega)) fun es r4 h5 => R.ok ?_
    have h6 := h5.size
    simp only [szs] at h6
    exact ⟨(h4.trans h5.aft).weak (by omega), he.at_, ordT.mk ((h2.app h5.ord).weak (by omega)) (by decide), by simp only [sz, szs_append]; omega⟩
   refine R.ite (fun h => R.ok ?_) fun _ => R.bad
   exact ⟨he.aft, he.at_, ordT.mk (one (Int.le_refl _) he.ord) (by decide), by simp only [sz, szs]; omega⟩
  ·intro acc lo e ts hg ha hlo hacc he0 he; unfold pTargets
   refine R.ite (fun h => ?_) fun _ => R.bad
   have hacc' := hacc.snoc he0 he
   refine R.ite (fun h => ?_) fun _ => R.ok ⟨Aft.refl hg ha, hacc', by simp only [szs_append, szs]; omega⟩
   have ht := (Aft.refl hg ha).tail (isH_ne h)
   have := ht.len; have := ht.le
   refine R.bind (ie.suffixed _ ht.good ht.asc) fun e' r hx => ?_
   have := hx.at_; have := hx.size; have := hx.aft.le
   refine R.weak (ih.targets _ lo e' r hx.aft.good hx.aft.asc (by omega) hacc' (by omega) hx.ord) fun l s ⟨h1, h2, h3⟩ => ?_
   simp only [szs_append, szs] at h3
   exact ⟨((ht.trans hx.aft).trans h1).weak (by omega), h2, by omega⟩
theorem vBlock_tb {c : Bool} {ts r : List Tk} {b : Tree} (hg : Good ts) (ha : Asc ts) (h : vBlock c ts = .ok b r) : TB ts b r :=
 (rS _).block c ts hg ha b r ((pBlock_v c hg (by unfold fu; omega : _ ≤ fu ts)).trans (congrArg some h))
end Go.Proofs.YtdkgnlaneccioaaGreatDoor
namespace Go.Proofs.YtdkgnlaneccioaaGreatDoor
namespace Lx
theorem scanG_succ (f : Nat) (l : Bs) (at_ : Nat) (acc : List Tok) : scanG (f + 1) l at_ acc =
  match stepF (l.drop (runL blankR l)) with
  | .done => .inr (acc ++ [⟨6, [], 0, at_ + runL blankR l⟩])
  | .skip n => scanG f ((l.drop (runL blankR l)).drop n) (at_ + runL blankR l + n) acc
  | .tok kind text n len => scanG f ((l.drop (runL blankR l)).drop len) (at_ + runL blankR l + len) (acc ++ [⟨kind, text, n, at_ + runL blankR l⟩])
  | .bad c r => .inl (c, (at_ + runL blankR l + r : Nat)) := rfl
theorem decL_low (b : UInt8) (t : Bs) (h : b.toNat < 128) : decL (b :: t) = (b.toNat, 1) := by
 unfold decL
 simp only [List.getD_cons_zero]
 rw [if_pos h]
end Lx
end Go.Proofs.YtdkgnlaneccioaaGreatDoor
namespace Go.Proofs.YtdkgnlaneccioaaGreatDoor
namespace Lx
theorem stepF_take (l : Bs) : (∀ n, stepF l = .skip n → 1 ≤ n ∧ n ≤ l.length) ∧ (∀ k t n len, stepF l = .tok k t n len → 1 ≤ len ∧ len ≤ l.length) :=
 ⟨fun n h => stepF_skip l n h, fun k t n len h => stepF_tok l k t n len h⟩
theorem scanG_fuel : ∀ (f g : Nat) (l : Bs) (at_ : Nat) (acc : List Tok), l.length < f → l.length < g → scanG f l at_ acc = scanG g l at_ acc
 | 0, _, l, _, _, h, _ => by omega
 | _, 0, l, _, _, _, h => by omega
 | f + 1, g + 1, l, at_, acc, h, h' => by
  rw [scanG_succ, scanG_succ]
  have hd : (l.drop (runL blankR l)).length ≤ l.length := by rw [List.length_drop]; omega
  cases hst : stepF (l.drop (runL blankR l)) with
  | done => rfl
  | bad c r => rfl
  | skip n =>
   have := (stepF_take _).1 n hst
   exact scanG_fuel f g _ _ _ (by rw [List.length_drop]; omega) (by rw [List.length_drop]; omega)
  | tok k t n len =>
   have := (stepF_take _).2 k t n len hst
   exact scanG_fuel f g _ _ _ (by rw [List.length_drop]; omega) (by rw [List.length_drop]; omega)
def scanL (l : Bs) (at_ : Nat) (acc : List Tok) : (Int × Int) ⊕ List Tok := scanG (l.length + 1) l at_ acc
theorem scanL_step (l : Bs) (at_ : Nat) (acc : List Tok) : scanL l at_ acc =
  match stepF (l.drop (runL blankR l)) with
  | .done => .inr (acc ++ [⟨6, [], 0, at_ + runL blankR l⟩])
  | .skip n => scanL ((l.drop (runL blankR l)).drop n) (at_ + runL blankR l + n) acc
  | .tok kind text n len => scanL ((l.drop (runL blankR l)).drop len) (at_ + runL blankR l + len) (acc ++ [⟨kind, text, n, at_ + runL blankR l⟩])
  | .bad c r => .inl (c, (at_ + runL blankR l + r : Nat)) := by
 unfold scanL
 rw [scanG_succ]
 have hd : (l.drop (runL blankR l)).length ≤ l.length := by rw [List.length_drop]; omega
 cases hst : stepF (l.drop (runL blankR l)) with
 | done => rfl
 | bad c r => rfl
 | skip n =>
  have := (stepF_take _).1 n hst
  exact scanG_fuel _ _ _ _ _ (by rw [List.length_drop]; omega) (by omega)
 | tok k t n len =>
  have := (stepF_take _).2 k t n len hst
  exact scanG_fuel _ _ _ _ _ (by rw [List.length_drop]; omega) (by omega)
theorem cont_low (x : UInt8) (h : x.toNat < 128) : (x.toNat / 64 == 2) = false := by rw [beq_eq_false_iff_ne]; omega
theorem decL_append : ∀ (l r : Bs), l ≠ [] → (∀ x t, r = x :: t → x.toNat < 128) → decL (l ++ r) = decL l
 | l, [], _, _ => by rw [List.append_nil]
 | [], _, h, _ => absurd rfl h
 | [a], x :: r, _, h => by have := cont_low x (h x r rfl); simp [decL, this]
 | [a, b], x :: r, _, h => by have := cont_low x (h x r rfl); simp [decL, this]
 | [a, b, c], x :: r, _, h => by have := cont_low x (h x r rfl); simp [decL, this]
 | a :: b :: c :: d :: l, x :: r, _, h => by simp [decL]
theorem drop_app (l r : Bs) (n : Nat) (h : n ≤ l.length) : (l ++ r).drop n = l.drop n ++ r := List.drop_append_of_le_length h
theorem runL_append (p : Nat → Bool) (r : Bs) (hr : ∀ x t, r = x :: t → x.toNat < 128) : ∀ (n : Nat) (l : Bs), l.length ≤ n → (runL p l < l.length ∨ runL p r = 0) → runL p (l ++ r) = runL p l
 | 0, l, h, hp => by
  have : l = [] := List.eq_nil_of_length_eq_zero (by omega)
  subst this
  rcases hp with hp | hp
  ·simp at hp
  ·rw [List.nil_append, hp]; rfl
 | n + 1, l, h, hp => by
  by_cases hl : l = []
  ·subst hl
   rcases hp with hp | hp
   ·simp at hp
   ·rw [List.nil_append, hp]; rfl
  ·have hw := decL_width l
   have hw3 := hw.2.2 hl
   rw [runL_step p (l ++ r) (by simp [hl]), decL_append l r hl hr, drop_app _ _ _ hw3]
   rw [runL_step p l hl] at hp ⊢
   by_cases hq : p (decL l).1 = true
   ·rw [if_pos hq] at hp ⊢
    rw [if_pos hq]
    rw [runL_append p r hr n _ (by rw [List.length_drop]; omega) (by rw [List.length_drop]; rcases hp with hp | hp; exact .inl (by omega); exact .inr hp)]
   ·rw [if_neg hq, if_neg hq]
theorem find_congr {α : Type} (p q : α → Bool) : ∀ (l : List α), (∀ x ∈ l, p x = q x) → l.find? p = l.find? q
 | [], _ => rfl
 | a :: l, h => by
  rw [List.find?_cons, List.find?_cons, h a (by simp), find_congr p q l (fun x hx => h x (by simp [hx]))]
def uF (t : Bs) : Esc :=
 if (hexG 8 t 0 0).2 = 0 ∨ Utf8.valid (hexG 8 t 0 0).1 = false ∨ (t.drop (hexG 8 t 0 0).2).head? ≠ some 125 then .unfit
 else .ok (bs (Utf8.encode (hexG 8 t 0 0).1)) (4 + (hexG 8 t 0 0).2)
theorem escF_eq (c : UInt8) (t : Bs) : escF (c :: t) =
  if plainB c ≠ 0 then .ok [plainB c] 2
  else if c = 120 then
   if (hexG 2 t 0 0).2 < 2 then .unfit else .ok [UInt8.ofNat (hexG 2 t 0 0).1] 4
  else if c = 117 ∧ t.head? = some 123 then uF t.tail
  else if (decG 3 (c :: t) 0 0).2 = 0 ∨ (decG 3 (c :: t) 0 0).1 > 255 then .unfit
   else .ok [UInt8.ofNat (decG 3 (c :: t) 0 0).1] (1 + (decG 3 (c :: t) 0 0).2) := rfl
end Lx
end Go.Proofs.YtdkgnlaneccioaaGreatDoor
namespace Go.Proofs.YtdkgnlaneccioaaGreatDoor
open Go Go.RowKit Lx
def Rise : Nat → Nat → List Tok → Prop
 | _, _, [] => False
 | lo, hi, x :: t => lo ≤ x.at_ ∧ x.at_ ≤ hi ∧ ((x.kind = 6 ∧ t = []) ∨ (x.kind ≠ 6 ∧ Rise (x.at_ + 1) hi t))
theorem Rise.weak : ∀ {t : List Tok} {lo lo' hi : Nat}, lo' ≤ lo → Rise lo hi t → Rise lo' hi t
 | [], _, _, _, _, h => h
 | _ :: _, _, _, _, hl, ⟨h1, h2, h3⟩ => ⟨Nat.le_trans hl h1, h2, h3⟩
theorem stepF_kind (l : Bs) (k : Int) (t : Bs) (n : Int) (len : Nat) (h : stepF l = .tok k t n len) : k ≠ 6 := by
 unfold stepF at h
 dsimp only at h
 repeat' split at h
 all_goals first | (cases h; done) | (simp only [Step.tok.injEq] at h; obtain ⟨rfl, _⟩ := h; (repeat' split) <;> decide)
theorem scan_rise : ∀ (f : Nat) (l : Bs) (at_ : Nat) (acc t : List Tok), l.length < f → scanG f l at_ acc = .inr t → ∃ t', t = acc ++ t' ∧ Rise at_ (at_ + l.length) t'
 | 0, l, _, _, _, hf, _ => absurd hf (Nat.not_lt_zero _)
 | f + 1, l, at_, acc, t, hf, h => by
  unfold scanG at h
  dsimp only at h
  have hk := runL_le' blankR l
  have hdl : (l.drop (runL blankR l)).length = l.length - runL blankR l := List.length_drop
  cases hst : stepF (l.drop (runL blankR l)) with
  | done =>
   rw [hst] at h
   cases h
   exact ⟨_, rfl, by show at_ ≤ at_ + _; omega, by show at_ + _ ≤ _; omega, .inl ⟨rfl, rfl⟩⟩
  | bad c r => rw [hst] at h; cases h
  | skip q =>
   have hq := (stepF_take _).1 q hst
   rw [hst] at h
   dsimp only at h
   have hlen : ((l.drop (runL blankR l)).drop q).length = l.length - runL blankR l - q := by rw [List.length_drop, hdl]
   obtain ⟨t', e, hR⟩ := scan_rise f _ _ _ _ (by omega) h
   refine ⟨t', e, ?_⟩
   rw [show at_ + l.length = at_ + runL blankR l + q + ((l.drop (runL blankR l)).drop q).length by omega]
   exact hR.weak (by omega)
  | tok kd tx x len =>
   have hq := (stepF_take _).2 _ _ _ _ hst
   rw [hst] at h
   dsimp only at h
   have hlen : ((l.drop (runL blankR l)).drop len).length = l.length - runL blankR l - len := by rw [List.length_drop, hdl]
   obtain ⟨t', e, hR⟩ := scan_rise f _ _ _ _ (by omega) h
   refine ⟨⟨kd, tx, x, at_ + runL blankR l⟩ :: t', by rw [e, List.append_assoc]; rfl, by show at_ ≤ at_ + _; omega, by show at_ + _ ≤ _; omega, .inr ⟨stepF_kind _ _ _ _ _ hst, ?_⟩⟩
   rw [show at_ + l.length = at_ + runL blankR l + len + ((l.drop (runL blankR l)).drop len).length by omega]
   exact hR.weak (by show at_ + _ + 1 ≤ _; omega)
theorem Rise.good : ∀ {t : List Tok} {lo hi : Nat}, Rise lo hi t → Good (t.map tokT) ∧ Asc (t.map tokT) ∧ (∀ x ∈ t.map tokT, (lo : Int) ≤ x.2.2.2 ∧ x.2.2.2 ≤ hi) ∧ lo + t.length ≤ hi + 1
 | [], _, _, h => h.elim
 | x :: t, lo, hi, ⟨h1, h2, h3⟩ => by
  rcases h3 with ⟨h6, rfl⟩ | ⟨h6, hR⟩
  ·refine ⟨h6, List.pairwise_singleton .., fun y hy => ?_, by simp; omega⟩
   obtain rfl := List.mem_singleton.1 hy
   exact ⟨by show (lo : Int) ≤ x.at_; omega, by show (x.at_ : Int) ≤ hi; omega⟩
  ·obtain ⟨g1, g2, g3, g4⟩ := hR.good
   refine ⟨?_, List.pairwise_cons.2 ⟨fun y hy => ?_, g2⟩, fun y hy => ?_, by simp only [List.length_cons]; omega⟩
   ·cases t with
    | nil => exact hR.elim
    | cons u t => exact ⟨h6, g1⟩
   ·have := (g3 y hy).1
    show (x.at_ : Int) < _
    omega
   ·rcases List.mem_cons.1 hy with rfl | hy
    ·exact ⟨by show (lo : Int) ≤ x.at_; omega, by show (x.at_ : Int) ≤ hi; omega⟩
    ·have := g3 y hy
     exact ⟨by omega, this.2⟩
structure Toks (n : Nat) (ts : List Tk) : Prop where
 good : Good ts
 asc : Asc ts
 at_ : ∀ x ∈ ts, 0 ≤ x.2.2.2 ∧ x.2.2.2 ≤ n
 len : ts.length ≤ 20001
theorem scan_toks (s : ByteArray) (t : List Tok) (h : scanF (bs s) = .inr t) : Toks s.size (t.map tokT) := by
 unfold scanF at h
 split at h
 ·cases h
 ·rename_i hs
  have hl : (bs s).length = s.size := bs_length s
  obtain ⟨t', e, hR⟩ := scan_rise _ _ _ _ _ (Nat.lt_succ_self _) h
  rw [List.nil_append] at e
  subst e
  obtain ⟨g1, g2, g3, g4⟩ := hR.good
  refine ⟨g1, g2, fun x hx => ?_, by rw [List.length_map]; omega⟩
  have := g3 x hx
  omega
end Go.Proofs.YtdkgnlaneccioaaGreatDoor
namespace Go.Proofs.YtdkgnlaneccioaaGreatDoor
open Go Go.RowKit
structure Cx (n : Int) (ts : List Tk) : Prop where
 good : Good ts
 asc : Asc ts
 at_ : ∀ x ∈ ts, 0 ≤ x.2.2.2 ∧ x.2.2.2 ≤ n
theorem Cx.suf {n : Int} {ts r : List Tk} (h : Cx n ts) (hg : Good r) (hs : r <:+ ts) : Cx n r := ⟨hg, List.Pairwise.sublist hs.sublist h.asc, fun x hx => h.at_ x (hs.subset hx)⟩
theorem Cx.tail {n : Int} {ts : List Tk} (h : Cx n ts) (h6 : (hd ts).1 ≠ 6) : Cx n ts.tail := h.suf (h.good.tail h6).1 (h.good.tail h6).2.2
theorem Cx.hd {n : Int} {ts : List Tk} (h : Cx n ts) : 0 ≤ (hd ts).2.2.2 ∧ (hd ts).2.2.2 ≤ n := by
 cases ts with
 | nil => exact h.good.elim
 | cons t ts => exact h.at_ t (List.mem_cons_self ..)
def BB {α : Type} (n : Int) (x : Option (PV α)) : Prop := ∀ i, x = some (.bad i) → 0 ≤ i ∧ i ≤ n
section
variable {α β : Type} {n : Int} {m : Nat} {ts : List Tk} {x y : Option (PV α)} {f : α → List Tk → Option (PV β)}
theorem BB.bind (hC : Cx n ts) (hs : Step m ts x) (h1 : BB n x) (h2 : ∀ a r, x = some (.ok a r) → Cx n r → BB n (f a r)) : BB n (PV.bind x f) := fun i h => by
 rcases bind_some h with ⟨j, hx, he⟩ | ⟨a, r, hx, hf⟩
 ·cases he; exact h1 _ hx
 ·obtain ⟨g1, _, g3⟩ := hs hC.good _ hx
  exact h2 a r hx (hC.suf g1 g3) i hf
theorem BB.ok {a : α} {r : List Tk} : BB n (some (.ok a r)) := fun _ h => by cases h
theorem BB.bad {i : Int} (h : 0 ≤ i ∧ i ≤ n) : BB n (some (.bad i) : Option (PV α)) := fun _ h' => by cases h'; exact h
end
variable {n : Int}
structure GvE (n : Int) (f : Nat) : Prop where
 exp : ∀ least ts, 0 ≤ least → Cx n ts → BB n (pExp f least ts)
 loop : ∀ least t ts, 0 ≤ least → Cx n ts → BB n (pLoop f least t ts)
 operand : ∀ ts, Cx n ts → BB n (pOperand f ts)
 fields : ∀ acc ts, Cx n ts → BB n (pFields f acc ts)
 field : ∀ ts, Cx n ts → BB n (pField f ts)
 suffixed : ∀ ts, Cx n ts → BB n (pSuffixed f ts)
 sufL : ∀ at_ t ts, Cx n ts → BB n (pSufL f at_ t ts)
 exps : ∀ ts, Cx n ts → BB n (pExps f ts)
 expsL : ∀ acc ts, Cx n ts → BB n (pExpsL f acc ts)
structure GvS (n : Int) (f : Nat) : Prop where
 block : ∀ c ts, Cx n ts → BB n (pBlock f c ts)
 blockL : ∀ c at_ acc ts, Cx n ts → BB n (pBlockL f c at_ acc ts)
 function : ∀ ts, (hd ts).1 ≠ 6 → Cx n ts → BB n (pFunction f ts)
 body : ∀ ts, Cx n ts → BB n (pBody f ts)
 stat : ∀ ts, Cx n ts → BB n (pStat f ts)
 branches : ∀ acc ts, Cx n ts → BB n (pBranches f acc ts)
 for_ : ∀ at_ ts, Cx n ts → BB n (pFor f at_ ts)
 plain : ∀ ts, Cx n ts → BB n (pPlain f ts)
 targets : ∀ acc e ts, Cx n ts → 0 ≤ e.at_ ∧ e.at_ ≤ n → BB n (pTargets f acc e ts)
end Go.Proofs.YtdkgnlaneccioaaGreatDoor
namespace Go.Proofs.YtdkgnlaneccioaaGreatDoor
namespace Lx
def blankB (b : UInt8) : Bool := b == 32 || b == 9 || b == 10 || b == 13
theorem blank_low {b : UInt8} (h : blankB b = true) : b.toNat < 128 ∧ blankR b.toNat = true := by
 simp only [blankB, Bool.or_eq_true, beq_iff_eq] at h
 rcases h with ((rfl | rfl) | rfl) | rfl <;> decide
theorem blank_of {b : UInt8} (h : blankR b.toNat = true) : blankB b = true := by
 simp only [blankR, Bool.or_eq_true, beq_iff_eq] at h
 simp only [blankB, Bool.or_eq_true, beq_iff_eq]
 rcases h with ((h | h) | h) | h
 ·exact .inl (.inl (.inl (UInt8.toNat_inj.1 h)))
 ·exact .inl (.inl (.inr (UInt8.toNat_inj.1 h)))
 ·exact .inl (.inr (UInt8.toNat_inj.1 h))
 ·exact .inr (UInt8.toNat_inj.1 h)
theorem run_blanks (x : Bs) : ∀ bl : Bs, (∀ b ∈ bl, blankB b = true) → runL blankR (bl ++ x) = bl.length + runL blankR x
 | [], _ => by simp
 | b :: bl, h => by
  have hb := blank_low (h b (by simp))
  rw [List.cons_append, runL_step _ _ (by simp), decL_low b _ hb.1]
  simp only [hb.2, if_true, List.drop_succ_cons, List.drop_zero]
  rw [run_blanks x bl (fun y hy => h y (by simp [hy]))]
  simp only [List.length_cons]; omega
theorem blank_bytes : ∀ (n : Nat) (l : Bs), l.length ≤ n → ∀ b ∈ l.take (runL blankR l), blankB b = true
 | 0, l, h => by
  have : l = [] := List.eq_nil_of_length_eq_zero (by omega)
  subst this; simp
 | n + 1, l, h => by
  by_cases hl : l = []
  ·subst hl; simp
  ·obtain ⟨c, t, rfl⟩ : ∃ c t, l = c :: t := by cases l with | nil => exact absurd rfl hl | cons c t => exact ⟨c, t, rfl⟩
   rw [runL_step _ _ hl]
   split
   ·rename_i hp
    have hlow : (decL (c :: t)).1 < 128 := by
     simp only [blankR, Bool.or_eq_true, beq_iff_eq] at hp
     omega
    have hc : c.toNat < 128 := by
     have h1 : c.toNat = (decL (c :: t)).1 := decL_ascii (c :: t) hlow
     omega
    rw [decL_low c t hc] at hp ⊢
    simp only [List.drop_succ_cons, List.drop_zero]
    rw [Nat.add_comm, List.take_succ_cons]
    intro b hb
    rcases List.mem_cons.1 hb with rfl | hb
    ·exact blank_of hp
    ·exact blank_bytes n t (by simpa using h) b hb
   ·simp
theorem scanL_blanks (x : Bs) (at_ : Nat) (acc : List Tok) (bl : Bs) (h : ∀ b ∈ bl, blankB b = true) : scanL (bl ++ x) at_ acc = scanL x (at_ + bl.length) acc := by
 rw [scanL_step (bl ++ x), scanL_step x, run_blanks x bl h]
 have e : (bl ++ x).drop (bl.length + runL blankR x) = x.drop (runL blankR x) := by
  rw [← List.drop_drop, List.drop_left']
  rfl
 rw [e, Nat.add_assoc]
def Closed' (a : Bs) : Prop := ∀ i, [45, 45].isPrefixOf (a.drop i) = true → 10 ∈ a.drop i
theorem Closed'.drop {a : Bs} (h : Closed' a) (k : Nat) : Closed' (a.drop k) := fun i hi => by
 rw [List.drop_drop] at hi ⊢
 exact h _ hi
theorem skip_is {l : Bs} {n : Nat} (h : stepF l = .skip n) : l ≠ [] ∧ [45, 45].isPrefixOf l = true ∧ n = runL inLineR l := by
 unfold stepF at h
 by_cases h0 : l = []
 ·rw [if_pos h0] at h; cases h
 rw [if_neg h0] at h
 by_cases h1 : [45, 45].isPrefixOf l = true
 ·rw [if_pos h1] at h
  cases h
  exact ⟨h0, h1, rfl⟩
 ·rw [if_neg h1] at h
  exfalso
  dsimp only at h
  (repeat' split at h) <;> cases h
theorem done_is {l : Bs} (h : stepF l = .done) : l = [] := by
 unfold stepF at h
 by_cases h0 : l = []
 ·exact h0
 ·rw [if_neg h0] at h
  exfalso
  dsimp only at h
  (repeat' split at h) <;> cases h
def shift (d : Nat) (t : Tok) : Tok := { t with at_ := t.at_ + d }
theorem scanL_shift (d : Nat) : ∀ (n : Nat) (l : Bs) (at_ : Nat) (acc acc1 : List Tok), l.length ≤ n →
  scanL l (at_ + d) (acc ++ acc1.map (shift d)) = match scanL l at_ acc1 with | .inl (c, a) => .inl (c, a + d) | .inr t => .inr (acc ++ t.map (shift d)) := by
 intro n
 induction n with
 | zero =>
  intro l at_ acc acc1 hn
  have : l = [] := List.eq_nil_of_length_eq_zero (by omega)
  subst this
  rw [scanL_step, scanL_step]
  have e0 : stepF (([] : Bs).drop (runL blankR [])) = .done := rfl
  rw [e0]
  simp [shift, runL_nil]
 | succ n ih =>
  intro l at_ acc acc1 hn
  rw [scanL_step, scanL_step]
  have hk := runL_le' blankR l
  cases hst : stepF (l.drop (runL blankR l)) with
  | done => simp [shift, Nat.add_right_comm]
  | bad c r => simp; omega
  | skip q =>
   have := (stepF_take _).1 q hst
   rw [List.length_drop] at this
   simp only
   rw [show at_ + d + runL blankR l + q = at_ + runL blankR l + q + d by omega]
   exact ih _ _ _ _ (by rw [List.length_drop, List.length_drop]; omega)
  | tok kd tx x len =>
   have := (stepF_take _).2 _ _ _ _ hst
   rw [List.length_drop] at this
   simp only
   rw [show at_ + d + runL blankR l + len = at_ + runL blankR l + len + d by omega]
   have := ih ((l.drop (runL blankR l)).drop len) (at_ + runL blankR l + len) acc (acc1 ++ [⟨kd, tx, x, at_ + runL blankR l⟩]) (by rw [List.length_drop, List.length_drop]; omega)
   rw [← this]
   congr 1
   simp [shift, Nat.add_right_comm]
theorem bad_ne (l : Bs) (c : Int) (r : Nat) (h : stepF l = .bad c r) : c ≠ 0 := by
 have ht : ∀ q f (l acc : Bs) i c r, textG q f l acc i = .bad c r → c ≠ 0 := by
  intro q f
  induction f with
  | zero => intro l acc i c r h; cases h; decide
  | succ f ih =>
   intro l acc i c r h
   cases l with
   | nil => cases h; decide
   | cons b t =>
    simp only [textG] at h
    split at h
    ·cases h; decide
    split at h
    ·split at h
     ·cases h; decide
     ·cases h
    split at h
    ·split at h
     ·cases h; decide
     ·cases h; decide
     ·exact ih _ _ _ _ _ h
    ·exact ih _ _ _ _ _ h
 unfold stepF at h
 by_cases h0 : l = []
 ·rw [if_pos h0] at h; cases h
 rw [if_neg h0] at h
 by_cases h1 : [45, 45].isPrefixOf l = true
 ·rw [if_pos h1] at h; cases h
 rw [if_neg h1] at h
 by_cases h2 : letterR (decL l).1 = true
 ·rw [if_pos h2] at h
  dsimp only at h
  split at h
  ·cases h; decide
  ·cases h
 rw [if_neg h2] at h
 by_cases h3 : digitR (decL l).1 = true
 ·rw [if_pos h3] at h
  dsimp only at h
  split at h
  ·rename_i hp
   cases h
   exact hp
  ·cases h
 rw [if_neg h3] at h
 split at h
 ·split at h
  ·rename_i c' r' hx
   cases h
   exact ht _ _ _ _ _ _ _ hx
  ·cases h
 ·split at h
  ·cases h; decide
  ·cases h
theorem scan_ne : ∀ (n : Nat) (l : Bs) (at_ : Nat) (acc : List Tok) (c p : Int), l.length ≤ n → scanL l at_ acc = .inl (c, p) → c ≠ 0 := by
 intro n
 induction n with
 | zero =>
  intro l at_ acc c p hn h
  have : l = [] := List.eq_nil_of_length_eq_zero (by omega)
  subst this
  rw [scanL_step] at h
  have e0 : stepF (([] : Bs).drop (runL blankR [])) = .done := rfl
  rw [e0] at h
  cases h
 | succ n ih =>
  intro l at_ acc c p hn h
  rw [scanL_step] at h
  have hk := runL_le' blankR l
  cases hst : stepF (l.drop (runL blankR l)) with
  | done => rw [hst] at h; cases h
  | bad c' r =>
   rw [hst] at h
   simp only [Sum.inl.injEq, Prod.mk.injEq] at h
   rw [← h.1]
   exact bad_ne _ _ _ hst
  | skip q =>
   have := (stepF_take _).1 q hst
   rw [List.length_drop] at this
   rw [hst] at h
   exact ih _ _ _ _ _ (by rw [List.length_drop, List.length_drop]; omega) h
  | tok kd tx x len =>
   have := (stepF_take _).2 _ _ _ _ hst
   rw [List.length_drop] at this
   rw [hst] at h
   exact ih _ _ _ _ _ (by rw [List.length_drop, List.length_drop]; omega) h
theorem scanF_small (l : Bs) (h : l.length ≤ 20000) : scanF l = scanL l 0 [] := by
 unfold scanF scanL
 rw [if_neg (by omega)]
end Lx
end Go.Proofs.YtdkgnlaneccioaaGreatDoor
namespace Go.Proofs.YtdkgnlaneccioaaGreatDoor
namespace Lx
theorem scan_count : ∀ (n : Nat) (l : Bs) (at_ : Nat) (acc t : List Tok), l.length ≤ n → scanL l at_ acc = .inr t → acc.length + 1 ≤ t.length ∧ t.length ≤ acc.length + l.length + 1 ∧ (∀ x ∈ t, x ∈ acc ∨ (at_ ≤ x.at_ ∧ x.at_ ≤ at_ + l.length)) := by
 intro n
 induction n with
 | zero =>
  intro l at_ acc t hn h
  have : l = [] := List.eq_nil_of_length_eq_zero (by omega)
  subst this
  rw [scanL_step] at h
  have e0 : stepF (([] : Bs).drop (runL blankR [])) = .done := rfl
  rw [e0] at h
  simp only [Sum.inr.injEq] at h
  subst h
  refine ⟨by simp, by simp, fun x hx => ?_⟩
  rcases List.mem_append.1 hx with hx | hx
  ·exact .inl hx
  ·simp only [List.mem_singleton] at hx
   subst hx
   exact .inr ⟨by simp, by simp [runL_nil]⟩
 | succ n ih =>
  intro l at_ acc t hn h
  rw [scanL_step] at h
  have hk := runL_le' blankR l
  cases hst : stepF (l.drop (runL blankR l)) with
  | done =>
   rw [hst] at h
   simp only [Sum.inr.injEq] at h
   subst h
   refine ⟨by simp, by simp, fun x hx => ?_⟩
   rcases List.mem_append.1 hx with hx | hx
   ·exact .inl hx
   ·simp only [List.mem_singleton] at hx
    subst hx
    exact .inr ⟨by simp, by simp; omega⟩
  | bad c' r => rw [hst] at h; cases h
  | skip q =>
   have := (stepF_take _).1 q hst
   rw [List.length_drop] at this
   rw [hst] at h
   obtain ⟨h1, h2, h3⟩ := ih _ _ _ _ (by rw [List.length_drop, List.length_drop]; omega) h
   rw [List.length_drop, List.length_drop] at h2 h3
   refine ⟨h1, by omega, fun x hx => ?_⟩
   rcases h3 x hx with h4 | h4
   ·exact .inl h4
   ·exact .inr ⟨by omega, by omega⟩
  | tok kd tx x len =>
   have := (stepF_take _).2 _ _ _ _ hst
   rw [List.length_drop] at this
   rw [hst] at h
   obtain ⟨h1, h2, h3⟩ := ih _ _ _ _ (by rw [List.length_drop, List.length_drop]; omega) h
   rw [List.length_drop, List.length_drop] at h2 h3
   rw [List.length_append, List.length_singleton] at h1 h2
   refine ⟨by omega, by omega, fun y hy => ?_⟩
   rcases h3 y hy with h4 | h4
   ·rcases List.mem_append.1 h4 with h4 | h4
    ·exact .inl h4
    ·simp only [List.mem_singleton] at h4
     subst h4
     exact .inr ⟨by simp, by simp; omega⟩
   ·exact .inr ⟨by omega, by omega⟩
end Lx
end Go.Proofs.YtdkgnlaneccioaaGreatDoor
namespace Go.Proofs.YtdkgnlaneccioaaGreatDoor
open Go Go.RowKit Lx
abbrev Out := Int × ByteArray × Int × Int × List Tree × Int × Int
def outV (c a : Int) : Out := (0, ⟨#[]⟩, 0, 0, [], c, a)
def treeV (n : Tree) : Out := (n.kind, n.text, n.n, n.at_, n.kids, 0, 0)
def parseV (s : ByteArray) : Out :=
 match scanF (bs s) with
 | .inl (c, a) => outV c a
 | .inr t => match vAll (t.map tokT) with
  | .ok n _ => treeV n
  | .bad i => outV 4 i
theorem scanF_ne' (l : Bs) (c p : Int) (h : scanF l = .inl (c, p)) : c ≠ 0 := by
 unfold scanF at h
 split at h
 ·simp only [Sum.inl.injEq, Prod.mk.injEq] at h
  omega
 ·exact scan_ne l.length l 0 [] c p (Nat.le_refl _) h
theorem vAll_cases {n : Nat} {ts : List Tk} (h : Toks n ts) : (∃ b r, vBlock true ts = .ok b r ∧ TB ts b r ∧ ((hd r).1 = 6 ∧ vAll ts = .ok b r ∨ (hd r).1 ≠ 6 ∧ vAll ts = .bad (hd r).2.2.2)) ∨ ∃ i, vBlock true ts = .bad i ∧ vAll ts = .bad i := by
 unfold vAll
 cases hb : vBlock true ts with
 | bad i => exact .inr ⟨i, rfl, rfl⟩
 | ok b r =>
  refine .inl ⟨b, r, rfl, vBlock_tb h.good h.asc hb, ?_⟩
  by_cases h6 : (hd r).1 = 6
  ·exact .inl ⟨h6, by simp [PV.then, h6]⟩
  ·exact .inr ⟨h6, by simp [PV.then, h6]⟩
theorem parseV_inl {s : ByteArray} {c p : Int} (h : scanF (bs s) = .inl (c, p)) : parseV s = outV c p := by unfold parseV; rw [h]
theorem parseV_ok {s : ByteArray} {t : List Tok} {b : Tree} {r : List Tk} (h : scanF (bs s) = .inr t) (hv : vAll (t.map tokT) = .ok b r) : parseV s = treeV b := by unfold parseV; rw [h]; simp only [hv]
theorem parseV_bad {s : ByteArray} {t : List Tok} {i : Int} (h : scanF (bs s) = .inr t) (hv : vAll (t.map tokT) = .bad i) : parseV s = outV 4 i := by unfold parseV; rw [h]; simp only [hv]
theorem ix_self (l : List Tk) : ix l l = 0 := by unfold ix; omega
theorem pparse_eq (k : Nat) (hk : 400000 ≤ k) (s : ByteArray) : parse_Parse.f k s = some (parseV s) := by
 unfold parse_Parse.f lex_Scan.f lexR parseV
 simp only [Option.bind_some]
 cases hs : scanF (bs s) with
 | inl x =>
  obtain ⟨c, p⟩ := x
  have := scanF_ne' _ _ _ hs
  simp only
  rw [show (c != 0) = true by rw [bne_iff_ne]; exact this]
  rfl
 | inr t =>
  have hT := scan_toks s t hs
  simp only [bne_self_eq_false, cond_false]
  have hf := fblock_eq (l := t.map tokT) (by have := hT.len; omega) k true hT.good (List.suffix_refl _) (by have := hT.len; omega)
  rw [ix_self] at hf
  rw [hf]
  rcases vAll_cases hT with ⟨b, r, hb, hB, h6⟩ | ⟨i, hb, he⟩
  ·have hw := fBlock true hT.good
   rw [hb] at hw ⊢
   obtain ⟨hg, _, hsuf⟩ := hw
   simp only [conv, PR.elim, joinF]
   unfold parse_parser_now.f
   simp only [eT]
   rw [idx_hd hg hsuf]
   simp only [Option.bind_some]
   rcases h6 with ⟨h6, he⟩ | ⟨h6, he⟩
   ·rw [he, show ((hd r).1 != 6) = false by rw [bne_eq_false_iff_eq]; exact h6]
    rfl
   ·rw [he, show ((hd r).1 != 6) = true by rw [bne_iff_ne]; exact h6]
    rfl
  ·rw [hb, he]
   rfl
end Go.Proofs.YtdkgnlaneccioaaGreatDoor
namespace Go.Proofs.YtdkgnlaneccioaaGreatDoor
open Go Go.RowKit Lx
def shp (k n : Int) (t : ByteArray) (l : List Tree) : Prop :=
 t.size ≤ 30000 ∧ k ≠ 31 ∧ (k = 7 → l.length = 2) ∧ (k = 25 → l.length = 2) ∧ (k = 26 → 4 ≤ l.length) ∧ (k = 21 ∨ k = 22 → ∃ m : Nat, n = m ∧ m ≤ l.length) ∧ (k = 27 → ∃ m : Nat, n = m ∧ m + 1 ≤ l.length)
mutual
def wfT : Tree → Prop
 | .mk k t n _ l => shp k n t l ∧ wfTs l
def wfTs : List Tree → Prop
 | [] => True
 | x :: l => wfT x ∧ wfTs l
end
theorem wfTs_iff : ∀ {l : List Tree}, wfTs l ↔ ∀ x ∈ l, wfT x
 | [] => by simp [wfTs]
 | x :: l => by simp [wfTs, wfTs_iff (l := l)]
theorem wfTs_app {l m : List Tree} (h : wfTs l) (h' : wfTs m) : wfTs (l ++ m) := by
 rw [wfTs_iff] at *
 intro y hy
 exact (List.mem_append.1 hy).elim (h y) (h' y)
theorem wf1 {x : Tree} (h : wfT x) : wfTs [x] := ⟨h, trivial⟩
def fnT : Tree → Prop
 | .mk k t n _ l => t.size ≤ 30000 ∧ k = 31 ∧ (∃ m : Nat, n = m ∧ l.length = m + 1) ∧ wfTs l
def topT (x : Tree) : Prop := wfT x ∨ fnT x
def wfC : Tree → Prop
 | .mk k t _ _ l => k = 20 ∧ t.size ≤ 30000 ∧ ∀ x ∈ l, topT x
def TT (ts : List Tk) : Prop := ∀ x ∈ ts, x.2.1.size ≤ 30000
theorem TT.tail {ts : List Tk} (h : TT ts) : TT ts.tail := fun x hx => h x (List.mem_of_mem_tail hx)
theorem TT.hd {ts : List Tk} (h : TT ts) : (hd ts).2.1.size ≤ 30000 := by
 cases ts with
 | nil => decide
 | cons x t => exact h x (List.mem_cons_self ..)
abbrev WT (n : Tree) (r : List Tk) : Prop := wfT n ∧ TT r
abbrev WL (l : List Tree) (r : List Tk) : Prop := wfTs l ∧ TT r
theorem wfmk {k : Int} {t : ByteArray} {n a : Int} {l : List Tree} (h1 : t.size ≤ 30000) (h2 : wfTs l) (h3 : k ≠ 31) (h4 : k = 7 → l.length = 2) (h5 : k = 25 → l.length = 2) (h6 : k = 26 → 4 ≤ l.length) (h7 : k = 21 ∨ k = 22 → ∃ m : Nat, n = m ∧ m ≤ l.length) (h8 : k = 27 → ∃ m : Nat, n = m ∧ m + 1 ≤ l.length) : wfT (.mk k t n a l) := ⟨⟨h1, h3, h4, h5, h6, h7, h8⟩, h2⟩
theorem wfe {k : Int} {t : ByteArray} {n a : Int} {l : List Tree} (h1 : t.size ≤ 30000) (h2 : wfTs l) (h3 : k ≠ 31 ∧ k ≠ 7 ∧ k ≠ 25 ∧ k ≠ 26 ∧ k ≠ 21 ∧ k ≠ 22 ∧ k ≠ 27) : wfT (.mk k t n a l) := by
 refine wfmk h1 h2 h3.1 ?_ ?_ ?_ ?_ ?_ <;> intro h <;> exfalso
 ·exact h3.2.1 h
 ·exact h3.2.2.1 h
 ·exact h3.2.2.2.1 h
 ·exact h.elim h3.2.2.2.2.1 h3.2.2.2.2.2.1
 ·exact h3.2.2.2.2.2.2 h
theorem nx {p q : Prop} [Decidable p] (h : decide p = false) (hp : p) : q := absurd hp (of_decide_eq_false h)
theorem noB_size : noB.size ≤ 30000 := by decide
theorem wWant {w : ByteArray} {ts : List Tk} (h : TT ts) : R (pWant w ts) fun _ r => TT r := R.ite (fun _ => R.ok h.tail) fun _ => R.bad
theorem wName {k : Int} {ts : List Tk} (hk : k ≠ 31 ∧ k ≠ 7 ∧ k ≠ 25 ∧ k ≠ 26 ∧ k ≠ 21 ∧ k ≠ 22 ∧ k ≠ 27) (h : TT ts) : R (pName k ts) fun n r => WT n r ∧ n.text.size ≤ 30000 := R.ite (fun _ => R.ok ⟨⟨wfe h.hd trivial hk, h.tail⟩, h.hd⟩) fun _ => R.bad
theorem wNamesL : ∀ (f : Nat) (acc : List Tree) (ts : List Tk), TT ts → wfTs acc → R (pNamesL f acc ts) WL
 | 0, _, _, _, _ => R.none
 | f + 1, acc, ts, h, ha => by
  unfold pNamesL
  exact R.ite (fun _ => R.bind (wName (by decide) h.tail) fun n r hn => wNamesL f _ r hn.1.2 (wfTs_app ha (wf1 hn.1.1))) fun _ => R.ok ⟨ha, h⟩
theorem wNames (f : Nat) {ts : List Tk} (h : TT ts) : R (pNames f ts) WL := R.bind (wName (by decide) h) fun n r hn => wNamesL f _ r hn.1.2 (wf1 hn.1.1)
structure WE (f : Nat) : Prop where
 exp : ∀ least ts, TT ts → R (pExp f least ts) WT
 loop : ∀ least n ts, TT ts → wfT n → R (pLoop f least n ts) WT
 operand : ∀ ts, TT ts → R (pOperand f ts) WT
 fields : ∀ acc ts, TT ts → wfTs acc → R (pFields f acc ts) WL
 field : ∀ ts, TT ts → R (pField f ts) WT
 suffixed : ∀ ts, TT ts → R (pSuffixed f ts) WT
 sufL : ∀ at_ n ts, TT ts → wfT n → R (pSufL f at_ n ts) WT
 exps : ∀ ts, TT ts → R (pExps f ts) WL
 expsL : ∀ acc ts, TT ts → wfTs acc → R (pExpsL f acc ts) WL
theorem wE : ∀ f, WE f
 | 0 => by constructor <;> intros <;> (first | rw [pExp] | rw [pLoop] | rw [pOperand] | rw [pFields] | rw [pField] | rw [pSuffixed] | rw [pSufL] | rw [pExps] | rw [pExpsL]) <;> exact R.none
 | f + 1 => by
  have ih := wE f
  constructor
  ·intro least ts h; unfold pExp
   exact R.bind (ih.operand ts h) fun n r hn => ih.loop _ _ _ hn.2 hn.1
  ·intro least n ts h hw; unfold pLoop
   refine R.ite (fun _ => R.ok ⟨hw, h⟩) fun _ => R.bind (ih.exp _ _ h.tail) fun m r hm => ih.loop _ _ _ hm.2 ?_
   exact wfe h.hd ⟨hw, hm.1, trivial⟩ (by decide)
  ·intro ts h; unfold pOperand
   refine R.ite (fun _ => R.ok ⟨wfe noB_size trivial (by decide), h.tail⟩) fun _ => ?_
   refine R.ite (fun _ => R.ok ⟨wfe h.hd trivial (by decide), h.tail⟩) fun _ => ?_
   refine R.ite (fun _ => R.ok ⟨wfe noB_size trivial (by decide), h.tail⟩) fun _ => ?_
   refine R.ite (fun _ => R.ok ⟨wfe noB_size trivial (by decide), h.tail⟩) fun _ => ?_
   refine R.ite (fun _ => R.ok ⟨wfe noB_size trivial (by decide), h.tail⟩) fun _ => ?_
   refine R.ite (fun _ => R.bind (ih.exp _ _ h.tail) fun m r hm => R.ok ⟨wfe h.hd (wf1 hm.1) (by decide), hm.2⟩) fun _ => ?_
   refine R.ite (fun _ => R.bind (ih.fields _ _ h.tail trivial) fun l r hl => R.ok ⟨wfe noB_size hl.1 (by decide), hl.2⟩) fun _ => ?_
   exact ih.suffixed _ h
  ·intro acc ts h ha; unfold pFields
   refine R.ite (fun _ => R.ok ⟨ha, h.tail⟩) fun _ => R.bind (ih.field ts h) fun x r hx => ?_
   have hs := wfTs_app ha (wf1 hx.1)
   refine R.ite (fun _ => ih.fields _ _ hx.2.tail hs) fun _ => R.ite (fun _ => ih.fields _ _ hx.2.tail hs) fun _ => ?_
   exact R.bind (wWant hx.2) fun _ s hr => R.ok ⟨hs, hr⟩
  ·intro ts h; unfold pField
   refine R.ite (fun _ => ?_) fun _ => R.ite (fun _ => ?_) fun _ => ?_
   ·refine R.bind (ih.exp _ _ h.tail) fun k r hk => R.bind (wWant hk.2) fun _ r hr => R.bind (wWant hr) fun _ r hr => R.bind (ih.exp _ _ hr) fun v r hv => R.ok ⟨?_, hv.2⟩
    exact wfe noB_size ⟨hk.1, hv.1, trivial⟩ (by decide)
   ·refine R.bind (ih.exp _ _ h.tail.tail) fun v r hv => R.ok ⟨?_, hv.2⟩
    exact wfe noB_size ⟨wfe h.hd trivial (by decide), hv.1, trivial⟩ (by decide)
   ·exact R.bind (ih.exp _ _ h) fun v r hv => R.ok ⟨wfe noB_size (wf1 hv.1) (by decide), hv.2⟩
  ·intro ts h; unfold pSuffixed
   refine R.ite (fun _ => ?_) fun _ => ?_
   ·exact R.bind (ih.exp _ _ h.tail) fun e r he => R.bind (wWant he.2) fun _ r hr => ih.sufL _ _ _ hr (wfe noB_size (wf1 he.1) (by decide))
   ·exact R.bind (wName (by decide) h) fun n r hn => ih.sufL _ _ _ hn.1.2 hn.1.1
  ·intro at_ n ts h hw; unfold pSufL
   refine R.ite (fun _ => ?_) fun _ => R.ite (fun _ => ?_) fun _ => R.ite (fun _ => ?_) fun _ => R.ok ⟨hw, h⟩
   ·refine R.bind (ih.exp _ _ h.tail) fun e r he => R.bind (wWant he.2) fun _ r hr => ih.sufL _ _ _ hr ?_
    exact wfmk noB_size ⟨hw, he.1, trivial⟩ (by decide) (fun _ => rfl) (nx rfl) (nx rfl) (nx rfl) (nx rfl)
   ·refine R.bind (wName (by decide) h.tail) fun e r he => ih.sufL _ _ _ he.1.2 ?_
    exact wfmk noB_size ⟨hw, he.1.1, trivial⟩ (by decide) (fun _ => rfl) (nx rfl) (nx rfl) (nx rfl) (nx rfl)
   ·refine R.bind (Q1 := WL) (R.ite (fun _ => R.ok ⟨trivial, h.tail⟩) fun _ => ih.exps _ h.tail) fun l r hl => R.bind (wWant hl.2) fun _ r hr => ih.sufL _ _ _ hr ?_
    exact wfe noB_size ⟨hw, hl.1⟩ (by decide)
  ·intro ts h; unfold pExps
   exact R.bind (ih.exp _ _ h) fun e r he => ih.expsL _ _ he.2 (wf1 he.1)
  ·intro acc ts h ha; unfold pExpsL
   exact R.ite (fun _ => R.bind (ih.exp _ _ h.tail) fun e r he => ih.expsL _ _ he.2 (wfTs_app ha (wf1 he.1))) fun _ => R.ok ⟨ha, h⟩
def inBl (c : Bool) (x : Tree) : Prop := wfT x ∨ (c = true ∧ fnT x)
structure WS (f : Nat) : Prop where
 block : ∀ c ts, TT ts → R (pBlock f c ts) fun n r => (∃ a l, n = .mk 20 noB 0 a l ∧ ∀ x ∈ l, inBl c x) ∧ TT r
 blockL : ∀ c at_ acc ts, TT ts → (∀ x ∈ acc, inBl c x) → R (pBlockL f c at_ acc ts) fun n r => (∃ a l, n = .mk 20 noB 0 a l ∧ ∀ x ∈ l, inBl c x) ∧ TT r
 function : ∀ ts, TT ts → R (pFunction f ts) fun n r => fnT n ∧ TT r
 body : ∀ ts, TT ts → R (pBody f ts) WT
 stat : ∀ ts, TT ts → R (pStat f ts) WT
 branches : ∀ acc ts, TT ts → wfTs acc → R (pBranches f acc ts) WL
 for_ : ∀ at_ ts, TT ts → R (pFor f at_ ts) WT
 plain : ∀ ts, TT ts → R (pPlain f ts) WT
 targets : ∀ acc e ts, TT ts → wfTs acc → wfT e → R (pTargets f acc e ts) WL
theorem inB_block {a : Int} {l : List Tree} (h : ∀ x ∈ l, inBl false x) : wfT (.mk 20 noB 0 a l) :=
 wfe noB_size (wfTs_iff.2 fun x hx => (h x hx).elim id fun h => nomatch h.1) (by decide)
theorem inB_snoc {c : Bool} {acc : List Tree} {x : Tree} (h : ∀ y ∈ acc, inBl c y) (hx : inBl c x) : ∀ y ∈ acc ++ [x], inBl c y := fun y hy => by
 rcases List.mem_append.1 hy with hy | hy
 ·exact h y hy
 ·obtain rfl := List.mem_singleton.1 hy; exact hx
theorem wS : ∀ f, WS f
 | 0 => by constructor <;> intros <;> (first | unfold pBlock | unfold pBlockL | unfold pFunction | unfold pBody | unfold pStat | unfold pBranches | unfold pFor | unfold pPlain | unfold pTargets) <;> exact R.none
 | f + 1 => by
  have ih := wS f
  have ie := wE f
  have blk : ∀ ts, TT ts → R (pBlock f false ts) WT := fun ts h => R.weak (ih.block false ts h) fun n r ⟨⟨a, l, e, hl⟩, hr⟩ => ⟨by rw [e]; exact inB_block hl, hr⟩
  constructor
  ·intro c ts h; unfold pBlock
   exact ih.blockL _ _ _ _ h (fun _ hx => nomatch hx)
  ·intro c at_ acc ts h ha; unfold pBlockL
   refine R.ite (fun _ => ih.blockL _ _ _ _ h.tail ha) fun _ => R.ite (fun _ => ?_) fun _ => R.ite (fun hc => ?_) fun _ => R.ite (fun _ => R.ok ⟨⟨_, _, rfl, ha⟩, h⟩) fun _ => ?_
   ·refine R.bind (Q1 := WL) (R.ite (fun _ => R.ok ⟨trivial, h.tail⟩) fun _ => ie.exps _ h.tail) fun l r hl => R.ok ⟨⟨_, _, rfl, ?_⟩, ?_⟩
    ·exact inB_snoc ha (.inl (wfe noB_size hl.1 (by decide)))
    ·split
     ·exact hl.2.tail
     ·exact hl.2
   ·have hc' : c = true := by simp only [Bool.and_eq_true] at hc; exact hc.1
    exact R.bind (ih.function ts h) fun x r hx => ih.blockL _ _ _ _ hx.2 (inB_snoc ha (.inr ⟨hc', hx.1⟩))
   ·exact R.bind (ih.stat ts h) fun x r hx => ih.blockL _ _ _ _ hx.2 (inB_snoc ha (.inl hx.1))
  ·intro ts h; unfold pFunction
   refine R.bind (wName (by decide) h.tail) fun nm r hn => R.bind (wWant hn.1.2) fun _ r hr => R.bind (Q1 := WL) (R.ite (fun _ => R.ok ⟨trivial, hr⟩) fun _ => wNames f hr) fun ps r hp => R.bind (wWant hp.2) fun _ r hr => R.bind (blk _ hr) fun b r hb => R.bind (wWant hb.2) fun _ r hr => R.ok ⟨?_, hr⟩
   exact ⟨hn.2, rfl, ⟨ps.length, rfl, by simp⟩, wfTs_app hp.1 (wf1 hb.1)⟩
  ·intro ts h; unfold pBody
   exact R.bind (wWant h) fun _ r hr => R.bind (blk _ hr) fun b r hb => R.bind (wWant hb.2) fun _ r hr => R.ok ⟨hb.1, hr⟩
  ·intro ts h; unfold pStat
   refine R.ite (fun _ => ?_) fun _ => R.ite (fun _ => ?_) fun _ => R.ite (fun _ => ?_) fun _ => R.ite (fun _ => ih.for_ _ _ h.tail) fun _ => R.ite (fun _ => ?_) fun _ => R.ite (fun _ => R.ok ⟨wfe noB_size trivial (by decide), h.tail⟩) fun _ => ih.plain _ h
   ·exact R.bind (ih.body ts h) fun b r hb => R.ok ⟨wfe noB_size (wf1 hb.1) (by decide), hb.2⟩
   ·refine R.bind (ie.exp _ _ h.tail) fun e r he => R.bind (ih.body _ he.2) fun b r hb => R.ok ⟨?_, hb.2⟩
    exact wfmk noB_size ⟨he.1, hb.1, trivial⟩ (by decide) (nx rfl) (fun _ => rfl) (nx rfl) (nx rfl) (nx rfl)
   ·exact R.bind (ih.branches _ _ h.tail trivial) fun l r hl => R.ok ⟨wfe noB_size hl.1 (by decide), hl.2⟩
   ·refine R.bind (wNames f h.tail) fun l r hl => R.bind (Q1 := WL) (R.ite (fun _ => ie.exps _ hl.2.tail) fun _ => R.ok ⟨trivial, hl.2⟩) fun es r he => R.ok ⟨?_, he.2⟩
    exact wfmk noB_size (wfTs_app hl.1 he.1) (by decide) (nx rfl) (nx rfl) (nx rfl) (fun _ => ⟨l.length, rfl, by simp⟩) (nx rfl)
  ·intro acc ts h ha; unfold pBranches
   refine R.bind (ie.exp _ _ h) fun e r he => R.bind (wWant he.2) fun _ r hr => R.bind (blk _ hr) fun b r hb => ?_
   have h2 := wfTs_app (wfTs_app ha (wf1 he.1)) (wf1 hb.1)
   refine R.ite (fun _ => ih.branches _ _ hb.2.tail h2) fun _ => R.ite (fun _ => ?_) fun _ => ?_
   ·exact R.bind (blk _ hb.2.tail) fun c r hc => R.bind (wWant hc.2) fun _ r hr => R.ok ⟨wfTs_app h2 (wf1 hc.1), hr⟩
   ·exact R.bind (wWant hb.2) fun _ r hr => R.ok ⟨h2, hr⟩
  ·intro at_ ts h; unfold pFor
   refine R.bind (wName (by decide) h) fun n r hn => R.ite (fun _ => ?_) fun _ => ?_
   ·refine R.bind (ie.exp _ _ hn.1.2.tail) fun a r ha => R.bind (wWant ha.2) fun _ r hr => R.bind (ie.exp _ _ hr) fun b r hb => R.bind (Q1 := WL) (R.ite (fun _ => R.bind (ie.exp _ _ hb.2.tail) fun c r hc => R.ok ⟨wf1 hc.1, hc.2⟩) fun _ => R.ok ⟨trivial, hb.2⟩) fun cs r hcs => R.bind (ih.body _ hcs.2) fun bd r hbd => R.ok ⟨?_, hbd.2⟩
    exact wfmk noB_size (wfTs_app (wfTs_app (wfTs_app (wfTs_app (wf1 hn.1.1) (wf1 ha.1)) (wf1 hb.1)) hcs.1) (wf1 hbd.1)) (by decide) (nx rfl) (nx rfl) (fun _ => by simp) (nx rfl) (nx rfl)
   ·refine R.bind (wNamesL f _ _ hn.1.2 (wf1 hn.1.1)) fun l r hl => R.bind (wWant hl.2) fun _ r hr => R.bind (ie.exps _ hr) fun es r he => R.bind (ih.body _ he.2) fun bd r hbd => R.ok ⟨?_, hbd.2⟩
    exact wfmk noB_size (wfTs_app (wfTs_app hl.1 he.1) (wf1 hbd.1)) (by decide) (nx rfl) (nx rfl) (nx rfl) (nx rfl) (fun _ => ⟨l.length, rfl, by simp⟩)
  ·intro ts h; unfold pPlain
   refine R.bind (ie.suffixed ts h) fun e r he => R.ite (fun _ => ?_) fun _ => R.ite (fun _ => R.ok ⟨wfe noB_size (wf1 he.1) (by decide), he.2⟩) fun _ => R.bad
   refine R.bind (ih.targets _ _ _ he.2 trivial he.1) fun l r hl => R.bind (wWant hl.2) fun _ r hr => R.bind (ie.exps _ hr) fun es r hes => R.ok ⟨?_, hes.2⟩
   exact wfmk noB_size (wfTs_app hl.1 hes.1) (by decide) (nx rfl) (nx rfl) (nx rfl) (fun _ => ⟨l.length, rfl, by simp⟩) (nx rfl)
  ·intro acc e ts h ha hw; unfold pTargets
   refine R.ite (fun _ => ?_) fun _ => R.bad
   exact R.ite (fun _ => R.bind (ie.suffixed _ h.tail) fun e' r he => ih.targets _ _ _ he.2 (wfTs_app ha (wf1 hw)) he.1) fun _ => R.ok ⟨wfTs_app ha (wf1 hw), h⟩
theorem textG_len (q : UInt8) : ∀ (f : Nat) (l acc : Bs) (i : Nat) (v : Bs) (k : Nat), textG q f l acc i = .ok v k → v.length ≤ 10000
 | 0, _, _, _, _, _, h => by unfold textG at h; cases h
 | f + 1, [], _, _, _, _, h => by unfold textG at h; cases h
 | f + 1, b :: t, acc, i, v, k, h => by
  unfold textG at h
  split at h
  ·cases h
  split at h
  ·split at h
   ·cases h
   ·cases h; omega
  split at h
  ·split at h
   ·cases h
   ·cases h
   ·exact textG_len q f _ _ _ _ _ h
  ·exact textG_len q f _ _ _ _ _ h
theorem sign_len : ∀ s ∈ signList, s.length ≤ 20000 := by decide
theorem stepF_text (l : Bs) (hl : l.length ≤ 20000) (k : Int) (t : Bs) (n : Int) (len : Nat) (h : stepF l = .tok k t n len) : t.length ≤ 20000 := by
 unfold stepF at h
 dsimp only at h
 repeat' split at h
 all_goals first
  | (cases h; done)
  | (simp only [Step.tok.injEq] at h; obtain ⟨_, rfl, _⟩ := h; rw [List.length_take]; omega)
  | (rename_i hx; simp only [Step.tok.injEq] at h; obtain ⟨_, rfl, _⟩ := h; first | exact Nat.le_trans (textG_len _ _ _ _ _ _ _ hx) (by decide) | exact sign_len _ (List.mem_of_find?_eq_some hx))
theorem scan_texts : ∀ (f : Nat) (l : Bs) (at_ : Nat) (acc t : List Tok), l.length ≤ 20000 → (∀ x ∈ acc, x.text.length ≤ 20000) → scanG f l at_ acc = .inr t → ∀ x ∈ t, x.text.length ≤ 20000
 | 0, l, at_, acc, t, hl, ha, h => by
  unfold scanG at h
  cases h
  intro x hx
  rcases List.mem_append.1 hx with hx | hx
  ·exact ha x hx
  ·obtain rfl := List.mem_singleton.1 hx; exact Nat.zero_le _
 | f + 1, l, at_, acc, t, hl, ha, h => by
  unfold scanG at h
  dsimp only at h
  have hdl : (l.drop (runL blankR l)).length ≤ 20000 := by rw [List.length_drop]; omega
  cases hst : stepF (l.drop (runL blankR l)) with
  | done =>
   rw [hst] at h
   cases h
   intro x hx
   rcases List.mem_append.1 hx with hx | hx
   ·exact ha x hx
   ·obtain rfl := List.mem_singleton.1 hx; exact Nat.zero_le _
  | bad c r => rw [hst] at h; cases h
  | skip q =>
   rw [hst] at h
   exact scan_texts f _ _ _ _ (by rw [List.length_drop]; omega) ha h
  | tok kd tx x len =>
   rw [hst] at h
   refine scan_texts f _ _ _ _ (by rw [List.length_drop]; omega) (fun y hy => ?_) h
   rcases List.mem_append.1 hy with hy | hy
   ·exact ha y hy
   ·obtain rfl := List.mem_singleton.1 hy; exact stepF_text _ hdl _ _ _ _ hst
theorem scan_TT {s : ByteArray} {t : List Tok} (h : scanF (bs s) = .inr t) : TT (t.map tokT) := by
 unfold scanF at h
 split at h
 ·cases h
 intro x hx
 obtain ⟨y, hy, rfl⟩ := List.mem_map.1 hx
 have := scan_texts _ _ _ [] _ (by omega) (fun _ hx => absurd hx (List.not_mem_nil)) h y hy
 show (str y.text).size ≤ 30000
 rw [str_size]; omega
theorem val_ok {α : Type} {x : Option (PV α)} {a : α} {r : List Tk} (h : val x = .ok a r) : x = some (.ok a r) := by
 cases x with
 | none => cases h
 | some v => exact congrArg some h
theorem parseV_shape (s : ByteArray) : (∃ c a, c ≠ 0 ∧ parseV s = outV c a) ∨ ∃ n, parseV s = treeV n ∧ wfC n ∧ sz n ≤ 80010 := by
 cases hs : scanF (bs s) with
 | inl x =>
  obtain ⟨c, p⟩ := x
  exact .inl ⟨c, p, scanF_ne' _ _ _ hs, parseV_inl hs⟩
 | inr t =>
  have hT := scan_toks s t hs
  rcases vAll_cases hT with ⟨b, r, hb, hB, ⟨_, he⟩ | ⟨_, he⟩⟩ | ⟨j, hb, he⟩
  ·refine .inr ⟨b, parseV_ok hs he, ?_, ?_⟩
   ·obtain ⟨⟨a, l, rfl, hl⟩, _⟩ := (wS (fu _)).block true _ (scan_TT hs) _ _ (val_ok hb)
    exact ⟨rfl, noB_size, fun x hx => Or.elim (hl x hx) .inl (fun h => .inr h.2)⟩
   ·have := hB.size; have := hT.len; omega
  ·exact .inl ⟨4, _, by decide, parseV_bad hs he⟩
  ·exact .inl ⟨4, _, by decide, parseV_bad hs he⟩
end Go.Proofs.YtdkgnlaneccioaaGreatDoor
namespace Go.Proofs.YtdkgnlaneccioaaGreatDoor
open Go Go.RowKit
def check_kept.f (_k : Nat) (a0 : ByteArray) : Option (Bool) := (cond (a0.toList == (⟨#[116, 97, 98, 108, 101]⟩ : ByteArray).toList) (some true) (some (a0.toList == (⟨#[117, 116, 102, 56]⟩ : ByteArray).toList)) : Option Bool).bind fun q1 => some (q1)
set_option maxRecDepth 100000 in
theorem check_kept.ok {k : Nat} {a0 : ByteArray} {r : Bool} (h : check_kept.f k a0 = some r) : Ct Tryz.prog 51 #[sv a0] [] [] (fun e l1 => e = .returned (bv r) ∧ l1 = []) := by
 refine ct_enter (args := [sv a0]) Tryz.func51 rfl (Nat.le_of_ble_eq_true rfl) ?_
 intro A X hh_
 unfold check_kept.f at h
 refine ksr (kx 1 (knt (bnd h fun q1 hq1 h => ?_)))
 refine k_cut1 [(2, bv q1)] (X) ?_ ?_
 ·clear hq1
  refine k_ret ?_
  obtain rfl := Option.some.inj h
  exact kdn rfl
 ·have h := hq1
  clear hq1
  refine k_region (kx 3 ?_)
  refine kcs 5 h (fun h => ?_) fun h => ?_
  ·exact kx 4 (knt (k_meet1 ⟨gb (Option.some.inj h), trivial⟩))
  ·exact kx 4 (knt (k_meet1 ⟨gb (Option.some.inj h), trivial⟩))
def failC (i : Int × Int) : Value := .iface 58 (.agg #[.int .i64 i.1, .int .i64 i.2])
def check_fail.f (_k : Nat) (a0 : Int) (a1 : Int) : Option (PR (Unit) (Int × Int)) := some (PR.bad (a0, a1))
set_option maxRecDepth 100000 in
theorem check_fail.ok {k : Nat} {a0 : Int} {a1 : Int} {r : PR (Unit) (Int × Int)} (h : check_fail.f k a0 a1 = some r) : Ct Tryz.prog 26 #[iv a0, iv a1] [] [] (PR.Post failC (fun (r : Unit) e l1 => e = .returned (.tuple #[]) ∧ l1 = []) r) := by
 refine ct_enter (args := [iv a0, iv a1]) Tryz.func26 rfl (Nat.le_of_ble_eq_true rfl) ?_
 intro A X hh_
 unfold check_fail.f at h
 refine k_region (kx 4 ?_)
 obtain rfl := Option.some.inj h
 exact kl_panic (v := failC (a0, a1)) (by kernel_rfl) (by kernel_rfl) (by kernel_rfl) (k_panicked [] (k_end PR.badI))
def check_few.f (k : Nat) (a0_0 : Int) (a0_1 : ByteArray) (a0_2 : Int) (a0_3 : Int) (a0_4 : List Tree) (a1 : Int) (a2 : Int) : Option (PR (Unit) (Int × Int)) := cond (decide (a1 > a2)) (PR.bind (check_fail.f k 6 a0_3) fun r3 => some (PR.ok ())) (some (PR.ok ()))
set_option maxRecDepth 100000 in
theorem check_few.ok {k : Nat} {a0_0 : Int} {a0_1 : ByteArray} {a0_2 : Int} {a0_3 : Int} {a0_4 : List Tree} {a1 : Int} {a2 : Int} {H_a0_4 : Frag} {A_a0_4 : Option Addr} {c_a0_4 : Nat} {r : PR (Unit) (Int × Int)} (h : check_few.f k a0_0 a0_1 a0_2 a0_3 a0_4 a1 a2 = some r) (R_a0_4 : RdR (rTree 36) H_a0_4 (.slice A_a0_4 a0_4.length c_a0_4) a0_4) : Ct Tryz.prog 37 #[.agg #[iv a0_0, sv a0_1, iv a0_2, iv a0_3, .slice A_a0_4 a0_4.length c_a0_4], iv a1, iv a2] [] [H_a0_4] (PR.Post failC (fun (r : Unit) e l1 => e = .returned (.tuple #[]) ∧ l1 = []) r) := by
 refine ct_enter (args := [.agg #[iv a0_0, sv a0_1, iv a0_2, iv a0_3, .slice A_a0_4 a0_4.length c_a0_4], iv a1, iv a2]) Tryz.func37 rfl (Nat.le_of_ble_eq_true rfl) ?_
 intro A X hh_
 obtain ⟨hm_H_a0_4, _⟩ := hh_
 unfold check_few.f at h
 refine ksr (knp #[iv a0_0, sv a0_1, iv a0_2, iv a0_3, .slice A_a0_4 a0_4.length c_a0_4] 36 fun b1 => (kns' (kx 3 (knt ?_))))
 refine kcn h (fun h => ?_) fun h => ?_
 ·refine k_region (kx 1 (kld 0 3 rfl (K.drop (kcp h (fun _ hr3 => (check_fail.ok hr3)) rfl trivial (fun _ e => kpn 0 e rfl) fun r3 h => ?_))))
  rintro _ _ ⟨rfl, rfl⟩
  refine nx_ret0 (knl (k_fall ?_))
  obtain rfl := Option.some.inj h
  exact kdnp ⟨rfl, rfl⟩ rfl
 ·refine k_skip (k_fall ?_)
  obtain rfl := Option.some.inj h
  exact K.drop (kdnp ⟨rfl, rfl⟩ rfl)
def slices_Index_string_string_.l0 : Nat → (a0 : List ByteArray) → (a1 : ByteArray) → (J1 : (Unit → Option (Int))) → (x2 : Int) → Option (Int)
 | 0, _, _, _, _ => none
 | m3 + 1, a0, a1, J1, x2 => cond (decide (x2 < ((a0.length : Nat) : Int))) ((lIdx a0 x2).bind fun x5 => cond (a1.toList == x5.toList) (some (x2)) (slices_Index_string_string_.l0 m3 a0 a1 J1 (IntKind.i64.wrap (x2 + 1)))) (J1 ())
def slices_Index_string_string_.f (k : Nat) (a0 : List ByteArray) (a1 : ByteArray) : Option (Int) := joinF (fun (_ : Unit) => some ((-1 : Int))) (fun J1 => slices_Index_string_string_.l0 k a0 a1 J1 0)
set_option maxRecDepth 100000 in
theorem slices_Index_string_string_.ok {k : Nat} {a0 : List ByteArray} {a1 : ByteArray} {H_a0 : Frag} {A_a0 : Option Addr} {c_a0 : Nat} {r : Int} (h : slices_Index_string_string_.f k a0 a1 = some r) (R_a0 : RdT encS 1 H_a0 (.slice A_a0 a0.length c_a0) a0) : Ct Tryz.prog 23 #[.slice A_a0 a0.length c_a0, sv a1] [] [H_a0] (fun e l1 => e = .returned (iv r) ∧ l1 = []) := by
 refine ct_enter (args := [.slice A_a0 a0.length c_a0, sv a1]) Tryz.func23 rfl (Nat.le_of_ble_eq_true rfl) ?_
 intro A X hh_
 obtain ⟨hm_H_a0, _⟩ := hh_
 unfold slices_Index_string_string_.f at h
 refine ksr (kx 1 (knt ?_))
 obtain ⟨J1, hJ1, h⟩ := joinSplit h
 refine k_cut (τ := Unit) (fun t => []) (fun t => X) (fun t => J1 () = some r) ?_ ?_
 ·rintro ⟨⟩ h
  subst hJ1
  refine ksr (kx 1 (knt (k_ret ?_)))
  obtain rfl := Option.some.inj h
  exact kdn rfl
 ·skip
  refine ksr (kx 3 (knt (k_block (k_loop (τ := Int) (fun t => [(0, .slice A_a0 a0.length c_a0), (1, sv a1), (7, iv ((a0.length : Nat) : Int)), (8, iv t)]) (fun t => X) (fun m t => slices_Index_string_string_.l0 m a0 a1 J1 t = some r) k 0 h sb rfl ?_))))
  clear h
  rintro m3 x2 h
  cases m3 with
  | zero => simp [slices_Index_string_string_.l0] at h
  | succ m3 =>
   simp only [slices_Index_string_string_.l0] at h
   refine ksr (kx 1 (knt (k_seq ?_)))
   refine kcn h (fun h => ?_) fun h => ?_
   ·refine k_skip (k_then (k_seq (k_block (ksr (kx 2 (kns' (kx 3 (bnd h fun x5 hx5 h => (kelP (T := 9) (kd := .i64) encS_ok rfl hx5 R_a0 fun p6 e7 y8 => ?_)))))))))
    have e7 : Elem _ p6 [sv x5] := e7
    refine kl_eload1 rfl (by kernel_rfl) (by kernel_rfl) (by kernel_rfl) (by kernel_rfl) e7 hm_H_a0 (kx 1 (knt ?_))
    refine kcn h (fun h => ?_) fun h => ?_
    ·refine ksr (kx 2 (knt (k_ret (k_blk_ret (k_then_ret (k_then_ret (k_blk_ret (k_then_ret ?_))))))))
     obtain rfl := Option.some.inj h
     exact kdn rfl
    ·exact k_skip (k_blk (k_then (k_region (kx 2 (knt (k_again m3 (IntKind.i64.wrap (x2 + 1)) (Nat.lt_succ_self _) h sb rfl))))))
   ·exact k_exit (k_then_exit (k_then_exit (k_here (k_then (k_meet () h trivial rfl)))))
def e53 (x : Int × Int × ByteArray) : List Value := [.int .i64 x.1, .int .i64 x.2.1, .string x.2.2]
theorem e53_ok : EncOk e53 3 := ⟨fun _ => rfl, fun _ => rfl⟩
def slices_Index_api_Val_api_Val_.l0 : Nat → (a0 : List (Int × Int × ByteArray)) → (a1_0 : Int) → (a1_1 : Int) → (a1_2 : ByteArray) → (J2 : (Unit → Option (Int))) → (x3 : Int) → Option (Int)
 | 0, _, _, _, _, _, _ => none
 | m4 + 1, a0, a1_0, a1_1, a1_2, J2, x3 => cond (decide (x3 < ((a0.length : Nat) : Int))) ((lIdx a0 x3).bind fun x6 => cond ((a1_0 == x6.1) && ((a1_1 == x6.2.1) && ((a1_2.toList == x6.2.2.toList) && true))) (some (x3)) (slices_Index_api_Val_api_Val_.l0 m4 a0 a1_0 a1_1 a1_2 J2 (IntKind.i64.wrap (x3 + 1)))) (J2 ())
def slices_Index_api_Val_api_Val_.f (k : Nat) (a0 : List (Int × Int × ByteArray)) (a1_0 : Int) (a1_1 : Int) (a1_2 : ByteArray) : Option (Int) := joinF (fun (_ : Unit) => some ((-1 : Int))) (fun J2 => slices_Index_api_Val_api_Val_.l0 k a0 a1_0 a1_1 a1_2 J2 0)
set_option maxRecDepth 100000 in
theorem slices_Index_api_Val_api_Val_.ok {k : Nat} {a0 : List (Int × Int × ByteArray)} {a1_0 : Int} {a1_1 : Int} {a1_2 : ByteArray} {H_a0 : Frag} {A_a0 : Option Addr} {c_a0 : Nat} {r : Int} (h : slices_Index_api_Val_api_Val_.f k a0 a1_0 a1_1 a1_2 = some r) (R_a0 : RdT e53 3 H_a0 (.slice A_a0 a0.length c_a0) a0) : Ct Tryz.prog 93 #[.slice A_a0 a0.length c_a0, .agg #[iv a1_0, iv a1_1, sv a1_2]] [] [H_a0] (fun e l1 => e = .returned (iv r) ∧ l1 = []) := by
 refine ct_enter (args := [.slice A_a0 a0.length c_a0, .agg #[iv a1_0, iv a1_1, sv a1_2]]) Tryz.func93 rfl (Nat.le_of_ble_eq_true rfl) ?_
 intro A X hh_
 obtain ⟨hm_H_a0, _⟩ := hh_
 unfold slices_Index_api_Val_api_Val_.f at h
 refine ksr (knp #[iv a1_0, iv a1_1, sv a1_2] 53 fun b1 => (kx 1 (knt ?_)))
 obtain ⟨J2, hJ2, h⟩ := joinSplit h
 refine k_cut (τ := Unit) (fun t => []) (fun t => X) (fun t => J2 () = some r) ?_ ?_
 ·rintro ⟨⟩ h
  subst hJ2
  refine ksr (kx 1 (knt (k_ret ?_)))
  obtain rfl := Option.some.inj h
  exact kdn rfl
 ·skip
  refine ksr (kx 3 (knt (k_block (k_loop (τ := Int) (fun t => [(0, .slice A_a0 a0.length c_a0), (3, pt b1), (7, iv ((a0.length : Nat) : Int)), (8, iv t)]) (fun t => bk b1 #[iv a1_0, iv a1_1, sv a1_2] 53 :: X) (fun m t => slices_Index_api_Val_api_Val_.l0 m a0 a1_0 a1_1 a1_2 J2 t = some r) k 0 h sb rfl ?_))))
  clear h
  rintro m4 x3 h
  cases m4 with
  | zero => simp [slices_Index_api_Val_api_Val_.l0] at h
  | succ m4 =>
   simp only [slices_Index_api_Val_api_Val_.l0] at h
   refine ksr (kx 1 (knt (k_seq ?_)))
   refine kcn h (fun h => ?_) fun h => ?_
   ·refine k_skip (k_then (k_seq (k_block (ksr (kx 2 (knt (k_seq (kprs [(0, 3), (1, 0), (2, 0), (3, 0), (4, 3)] [bk b1 #[iv a1_0, iv a1_1, sv a1_2] 53, H_a0] (fun w h_ => ⟨h_.sat.on _ (.head _), h_.sat.on _ (.tail _ hm_H_a0), trivial⟩) (kpa 0 0 3 rfl (kpx 2 ?_))))))))))
    refine bnd h fun x6 hx6 h => (kpelP (T := 53) (kd := .i64) e53_ok rfl hx6 R_a0 fun p7 e8 y9 => ?_)
    have e8 : Elem _ p7 [iv x6.1, iv x6.2.1, sv x6.2.2] := e8
    refine kpeN rfl e8 (fun w h_ => h_.mem _ (.tail _ (.head _))) (kpz (kl_eqS (r := ((a1_0 == x6.1) && ((a1_1 == x6.2.1) && ((a1_2.toList == x6.2.2.toList) && true)))) (xs := #[iv a1_0, iv a1_1, sv a1_2]) (ys := #[iv x6.1, iv x6.2.1, sv x6.2.2]) false (by kernel_rfl) rfl (by kernel_rfl) (by kernel_rfl) (by kernel_rfl) (by kernel_rfl) (by kernel_rfl) (by kernel_rfl) (by kernel_rfl) (knt ?_)))
    refine kcn h (fun h => ?_) fun h => ?_
    ·refine ksr (kx 2 (knt (k_ret (k_blk_ret (k_then_ret (k_then_ret (k_blk_ret (k_then_ret ?_))))))))
     obtain rfl := Option.some.inj h
     exact K.drop (kdn rfl)
    ·exact k_skip (k_blk (k_then (k_region (kx 2 (knt (k_again m4 (IntKind.i64.wrap (x3 + 1)) (Nat.lt_succ_self _) h sb rfl))))))
   ·exact k_exit (k_then_exit (k_then_exit (k_here (k_then (K.drop (k_meet () h trivial rfl))))))
def slices_Contains_string_string_.f (k : Nat) (a0 : List ByteArray) (a1 : ByteArray) : Option (Bool) := (slices_Index_string_string_.f k a0 a1).bind fun r1 => some (decide (r1 ≥ 0))
set_option maxRecDepth 100000 in
theorem slices_Contains_string_string_.ok {k : Nat} {a0 : List ByteArray} {a1 : ByteArray} {H_a0 : Frag} {A_a0 : Option Addr} {c_a0 : Nat} {r : Bool} (h : slices_Contains_string_string_.f k a0 a1 = some r) (R_a0 : RdT encS 1 H_a0 (.slice A_a0 a0.length c_a0) a0) : Ct Tryz.prog 75 #[.slice A_a0 a0.length c_a0, sv a1] [] [H_a0] (fun e l1 => e = .returned (bv r) ∧ l1 = []) := by
 refine ct_enter (args := [.slice A_a0 a0.length c_a0, sv a1]) Tryz.func75 rfl (Nat.le_of_ble_eq_true rfl) ?_
 intro A X hh_
 obtain ⟨hm_H_a0, _⟩ := hh_
 unfold slices_Contains_string_string_.f at h
 refine ksr (kx 1 (kns' (kx 2 (bnd h fun r1 hr1 h => (kcv (slices_Index_string_string_.ok hr1 R_a0) ⟨hm_H_a0, trivial⟩ (kx 2 (knt (k_ret ?_))))))))
 obtain rfl := Option.some.inj h
 exact kdn rfl
def slices_Contains_api_Val_api_Val_.f (k : Nat) (a0 : List (Int × Int × ByteArray)) (a1_0 : Int) (a1_1 : Int) (a1_2 : ByteArray) : Option (Bool) := (slices_Index_api_Val_api_Val_.f k a0 a1_0 a1_1 a1_2).bind fun r2 => some (decide (r2 ≥ 0))
set_option maxRecDepth 100000 in
theorem slices_Contains_api_Val_api_Val_.ok {k : Nat} {a0 : List (Int × Int × ByteArray)} {a1_0 : Int} {a1_1 : Int} {a1_2 : ByteArray} {H_a0 : Frag} {A_a0 : Option Addr} {c_a0 : Nat} {r : Bool} (h : slices_Contains_api_Val_api_Val_.f k a0 a1_0 a1_1 a1_2 = some r) (R_a0 : RdT e53 3 H_a0 (.slice A_a0 a0.length c_a0) a0) : Ct Tryz.prog 76 #[.slice A_a0 a0.length c_a0, .agg #[iv a1_0, iv a1_1, sv a1_2]] [] [H_a0] (fun e l1 => e = .returned (bv r) ∧ l1 = []) := by
 refine ct_enter (args := [.slice A_a0 a0.length c_a0, .agg #[iv a1_0, iv a1_1, sv a1_2]]) Tryz.func76 rfl (Nat.le_of_ble_eq_true rfl) ?_
 intro A X hh_
 obtain ⟨hm_H_a0, _⟩ := hh_
 unfold slices_Contains_api_Val_api_Val_.f at h
 refine ksr (knp #[iv a1_0, iv a1_1, sv a1_2] 53 fun b1 => (kx 1 (kns' (kx 1 (kla 0 0 3 rfl (K.drop (bnd h fun r2 hr2 h => (kcv (slices_Index_api_Val_api_Val_.ok hr2 R_a0) ⟨hm_H_a0, trivial⟩ (kx 2 (knt ?_))))))))))
 refine k_ret ?_
 obtain rfl := Option.some.inj h
 exact kdn rfl
def check_Library.f (k : Nat) (a0 : ByteArray) : Option (Int) := cond (a0.toList == (⟨#[45]⟩ : ByteArray).toList) (some (0)) ((strings_Fields.f k (⟨#[112, 114, 105, 110, 116, 32, 116, 121, 112, 101, 32, 116, 111, 115, 116, 114, 105, 110, 103, 32, 116, 111, 110, 117, 109, 98, 101, 114, 32, 110, 101, 120, 116, 32, 112, 97, 105, 114, 115, 32, 105, 112, 97, 105, 114, 115, 32, 114, 97, 119, 108, 101, 110, 32, 115, 116, 97, 116, 115, 32, 112, 114, 111, 98, 101, 115, 32, 45, 32, 116, 97, 98, 108, 101, 46, 105, 110, 115, 101, 114, 116, 32, 116, 97, 98, 108, 101, 46, 114, 101, 109, 111, 118, 101, 32, 116, 97, 98, 108, 101, 46, 99, 111, 110, 99, 97, 116, 32, 116, 97, 98, 108, 101, 46, 117, 110, 112, 97, 99, 107, 32, 116, 97, 98, 108, 101, 46, 109, 111, 118, 101, 32, 116, 97, 98, 108, 101, 46, 115, 111, 114, 116, 32, 117, 116, 102, 56, 46, 108, 101, 110, 32, 117, 116, 102, 56, 46, 99, 104, 97, 114, 32, 117, 116, 102, 56, 46, 99, 111, 100, 101, 112, 111, 105, 110, 116, 32, 117, 116, 102, 56, 46, 111, 102, 102, 115, 101, 116, 32, 117, 116, 102, 56, 46, 99, 111, 100, 101, 115, 32, 45]⟩ : ByteArray)).bind fun r2 => (slices_Index_string_string_.f k r2 a0).bind fun r7 => some (IntKind.i64.wrap (r7 + 1)))
set_option maxRecDepth 100000 in
theorem check_Library.ok {k : Nat} {a0 : ByteArray} {G : Frag} {r : Int} (h : check_Library.f k a0 = some r) (hG : GlP G) : Ct Tryz.prog 8 #[sv a0] [] [G] (fun e l1 => e = .returned (iv r) ∧ l1 = []) := by
 refine ct_enter (args := [sv a0]) Tryz.func8 rfl (Nat.le_of_ble_eq_true rfl) ?_
 intro A X hh_
 obtain ⟨hm_G, _⟩ := hh_
 unfold check_Library.f at h
 refine ksr (kx 1 (knt (k_seq (ksr (kx 2 (knt ?_))))))
 refine kcn h (fun h => ?_) fun h => ?_
 ·refine ksr (kx 1 (knt (k_ret (k_then_ret ?_))))
  obtain rfl := Option.some.inj h
  exact kdn rfl
 ·refine k_skip (k_then (ksr (bnd h fun r2 hr2 h => (kcl (strings_Fields.ok hr2 hG) rfl ⟨hm_G, trivial⟩ ?_))))
  rintro _ _ ⟨h3, A4, k5, o6, rfl, rfl⟩
  refine nx_ret1 (kx 1 (bnd h fun r7 hr7 h => (kcv (slices_Index_string_string_.ok hr7 (OwnT.rd o6)) ⟨(.head _), trivial⟩ (K.drop (kx 2 (knt (k_ret ?_)))))))
  obtain rfl := Option.some.inj h
  exact kdn rfl
end Go.Proofs.YtdkgnlaneccioaaGreatDoor
namespace Go.Proofs.YtdkgnlaneccioaaGreatDoor
open Go Go.RowKit
theorem check_Check_1_idle (p q : Value) (w : World) :
  CallsD Tryz.prog 25 #[p, q] .returning w fun e u' w' => e = .returned (.tuple #[]) ∧ u' = .returning ∧ w = w' := by
 refine callsD_of_wpS Tryz.func25 rfl fun c₀ cs hu => ?_
 apply wpS_seq
 apply wpS_region
 simp [wpOpsS, go_sem, recoverD, hu, Tryz.ntmps25, Exit.thenS, Array.replicate_succ]
 refine wpS_of_wp ?_
 go_wp2
 cases c₀
 simp_all [bodyPostS, results, Tryz.results25]
set_option maxRecDepth 100000 in
theorem check_Check_1_pan {A w : World} {X : List Frag} {p q : Nat} {x0 x1 y0 y1 : Value} {i : Int × Int} (hw : St A (blk p (.cells #[x0, x1] 28 (0, 0)) :: blk q (.cells #[y0, y1] 31 (0, 0)) :: X) w) :
  CallsD Tryz.prog 25 #[.pointer (some ⟨p, 0, none⟩), .pointer (some ⟨q, 0, none⟩)] (.panicking [{ v := failC i, recovered := false }]) w fun e u' w' => e = .returned (.tuple #[]) ∧ settle u' = .returning ∧ St A (blk p (.cells #[.slice none 0 0, .slice none 0 0] 28 (0, 0)) :: blk q (.cells #[.int .i64 i.1, .int .i64 i.2] 31 (0, 0)) :: X) w' := by
 refine callsD_of_wpS Tryz.func25 rfl fun c₀ cs hu => ?_
 apply wpS_seq
 apply wpS_region
 simp [wpOpsS, go_sem, recoverD, hu, Tryz.ntmps25, Exit.thenS, Array.replicate_succ]
 refine wpS_of_wp ?_
 refine (?_ : K [] A Tryz.f25.ntmps [(0, .pointer (some ⟨p, 0, none⟩)), (1, .pointer (some ⟨q, 0, none⟩)), (5, .iface 58 (.agg #[.int .i64 i.1, .int .i64 i.2]))] (blk p (.cells #[x0, x1] 28 (0, 0)) :: blk q (.cells #[y0, y1] 31 (0, 0)) :: X) _) _ w ⟨rfl, rfl, ?_⟩ hw
 rotate_left
 ·intro j v hj
  simp only [Env.get] at hj
  match j with
  | 0 => cases hj; rfl
  | 1 => cases hj; rfl
  | 2 => cases hj
  | 3 => cases hj
  | 4 => cases hj
  | 5 => cases hj; rfl
  | j + 6 => cases hj
 refine k_block ?_
 refine k_seq ?_
 refine k_region ?_
 refine kl_steps 1 [(0, .pointer (some ⟨p, 0, none⟩)), (1, .pointer (some ⟨q, 0, none⟩)), (5, .iface 58 (.agg #[.int .i64 i.1, .int .i64 i.2])), (7, .bool false)] (by kernel_rfl) ?_
 refine k_nil ?_
 refine k_then ?_
 refine k_cond_false (by kernel_rfl) ?_
 refine k_seq ?_
 refine k_region ?_
 refine kl_steps 3 [(0, .pointer (some ⟨p, 0, none⟩)), (1, .pointer (some ⟨q, 0, none⟩)), (5, .iface 58 (.agg #[.int .i64 i.1, .int .i64 i.2])), (9, .bool true), (10, .agg #[.int .i64 i.1, .int .i64 i.2])] (by kernel_rfl) ?_
 refine k_nil ?_
 refine k_then ?_
 refine k_cond_true (by kernel_rfl) ?_
 refine k_seq ?_
 refine k_region ?_
 refine kl_new (.cells #[.int .i64 (0 : Int), .int .i64 (0 : Int)] 58 (0, 0)) (fun b => .pointer (some ⟨b, 0, none⟩)) (by kernel_rfl) (by kernel_rfl) (fun _ => by kernel_rfl) fun b1 => ?_
 refine kl_store (cs' := #[.int .i64 i.1, .int .i64 i.2]) [.st ⟨b1, 0, none⟩ (.int .i64 i.1), .st ⟨b1, 1, none⟩ (.int .i64 i.2)] (by kernel_rfl) (by kernel_rfl) (by kernel_rfl) ⟨rfl, rfl, trivial⟩ (by kernel_rfl) ?_
 refine k_nil ?_
 refine k_then ?_
 refine k_region_plan [(0, 0), (1, 3), (2, 1)] (fun w => OnAll [blk b1 (.cells #[.int .i64 i.1, .int .i64 i.2] 58 (0, 0))] w) (by kernel_rfl) (by kernel_rfl) (fun _ _ d _ _ h => by cases d <;> exact h) (fun w h_ => ⟨h_.sat.on _ (.head _), trivial⟩) ?_
 simp only [planOps, List.filterMap_cons, List.filterMap_nil, List.getElem?_toArray, List.getElem?_cons_zero, List.getElem?_cons_succ, Option.map_some, List.drop_succ_cons, List.drop_zero, List.length_cons, List.length_nil]
 refine kp_steps 1 [(0, .pointer (some ⟨p, 0, none⟩)), (1, .pointer (some ⟨q, 0, none⟩)), (3, .pointer (some ⟨b1, 0, none⟩)), (11, .agg #[.slice none 0 0, .slice none 0 0])] (by kernel_rfl) (by kernel_rfl) ?_
 refine kp_loadS (v := .agg #[.int .i64 i.1, .int .i64 i.2]) [blk b1 (.cells #[.int .i64 i.1, .int .i64 i.2] 58 (0, 0))] [.val (.int .i64 i.1), .val (.int .i64 i.2)] [.ld ⟨b1, 0, none⟩ (.int .i64 i.1), .ld ⟨b1, 1, none⟩ (.int .i64 i.2)] (by kernel_rfl) (by kernel_rfl) (by kernel_rfl) (fun _ h => h) ⟨⟨0, _, _, _, rfl, rfl, rfl⟩, ⟨0, _, _, _, rfl, rfl, rfl⟩, trivial⟩ ?_
 refine kp_turn (by kernel_rfl) ?_
 refine K.mv1 ?_
 refine op_store (cs' := #[.slice none 0 0, .slice none 0 0]) [.st ⟨p, 0, none⟩ (.slice none 0 0), .st ⟨p, 1, none⟩ (.slice none 0 0)] (by kernel_rfl) (by kernel_rfl) ⟨rfl, rfl, trivial⟩ (by kernel_rfl) ?_
 refine k_and (fun w h_ => ⟨h_.sat.on _ (.tail _ (.head _)), trivial⟩) ?_
 refine kp_done ?_
 refine K.mv2 ?_
 refine kl_store (cs' := #[.int .i64 i.1, .int .i64 i.2]) [.st ⟨q, 0, none⟩ (.int .i64 i.1), .st ⟨q, 1, none⟩ (.int .i64 i.2)] (by kernel_rfl) (by kernel_rfl) (by kernel_rfl) ⟨rfl, rfl, trivial⟩ (by kernel_rfl) ?_
 refine K.mv2 ?_
 refine K.drop ?_
 refine k_nil ?_
 refine k_blk ?_
 refine K.mv1 ?_
 intro a' w' ha' hw'
 have hd := ha'.defers
 simp [bodyPostS, results, Tryz.results25, hd, settle]
 exact hw'
end Go.Proofs.YtdkgnlaneccioaaGreatDoor
namespace Go.Proofs.YtdkgnlaneccioaaGreatDoor
open Go Go.RowKit
def rs42 : Rich (ByteArray × Int × Int × Int × List (Int × Int × ByteArray)) := rS1 4 (fun x => [.string x.1, .int .i64 x.2.1, .int .i64 x.2.2.1, .int .i64 x.2.2.2.1]) (fun _ => ⟨rfl, rfl⟩) e53 53 3 (fun x => x.2.2.2.2)
theorem rs42_o {x : ByteArray × Int × Int × Int × List (Int × Int × ByteArray)} {H : Frag} {A : Option Addr} {c : Nat} (h : OwnT e53 53 3 H (.slice A (x.2.2.2.2).length c) (x.2.2.2.2)) : rs42.own x H [sv x.1, iv x.2.1, iv x.2.2.1, iv x.2.2.2.1, .slice A (x.2.2.2.2).length c] := ⟨A, c, rfl, h⟩
theorem rs42_r {x : ByteArray × Int × Int × Int × List (Int × Int × ByteArray)} {H : Frag} {cs : List Value} (h : rs42.rd x H cs) : ∃ A c, cs = [sv x.1, iv x.2.1, iv x.2.2.1, iv x.2.2.2.1, .slice A (x.2.2.2.2).length c] ∧ RdT e53 3 H (.slice A (x.2.2.2.2).length c) (x.2.2.2.2) := h
theorem ety26 : ElemTy Tryz.prog 26 9 1 16 Tryz.t9 (sv noS) := ⟨by kernel_rfl, by kernel_rfl, by kernel_rfl, by kernel_rfl, by kernel_rfl, by kernel_rfl, by decide⟩
def check_checker_global.f (k : Nat) (a0_0 : List (ByteArray × Int × Int × Int × List (Int × Int × ByteArray))) (a0_1 : List ByteArray) (a1002_0 : ByteArray) (a1002_1 : Int) (a1002_2 : Int) (a1002_3 : Int) (a1002_4 : List (Int × Int × ByteArray)) (a1002_5 : List ByteArray) (a1002_6 : Int) (a1002_7 : List ByteArray) (a1 : ByteArray) : Option (List ByteArray) := (slices_Contains_string_string_.f k a0_1 a1).bind fun r1 => cond (!r1) ((apd 16 a0_1 [a1]).bind fun l4 => some (l4)) (some (a0_1))
set_option maxRecDepth 100000 in
theorem check_checker_global.ok {k : Nat} {a0_0 : List (ByteArray × Int × Int × Int × List (Int × Int × ByteArray))} {a0_1 : List ByteArray} {a1002_0 : ByteArray} {a1002_1 : Int} {a1002_2 : Int} {a1002_3 : Int} {a1002_4 : List (Int × Int × ByteArray)} {a1002_5 : List ByteArray} {a1002_6 : Int} {a1002_7 : List ByteArray} {a1 : ByteArray} {b0 : Nat} {H_a0_0 : Frag} {A_a0_0 : Option Addr} {c_a0_0 : Nat} {H_a0_1 : Frag} {A_a0_1 : Option Addr} {c_a0_1 : Nat} {b1002_ : Nat} {H_a1002_4 : Frag} {A_a1002_4 : Option Addr} {c_a1002_4 : Nat} {H_a1002_5 : Frag} {A_a1002_5 : Option Addr} {c_a1002_5 : Nat} {H_a1002_7 : Frag} {A_a1002_7 : Option Addr} {c_a1002_7 : Nat} {r : List ByteArray} (h : check_checker_global.f k a0_0 a0_1 a1002_0 a1002_1 a1002_2 a1002_3 a1002_4 a1002_5 a1002_6 a1002_7 a1 = some r) (R_a0_0 : RdR rs42 H_a0_0 (.slice A_a0_0 a0_0.length c_a0_0) a0_0) (R_a0_1 : OwnT encS 9 1 H_a0_1 (.slice A_a0_1 a0_1.length c_a0_1) a0_1) (R_a1002_4 : RdT e53 3 H_a1002_4 (.slice A_a1002_4 a1002_4.length c_a1002_4) a1002_4) (R_a1002_5 : RdT encS 1 H_a1002_5 (.slice A_a1002_5 a1002_5.length c_a1002_5) a1002_5) (R_a1002_7 : RdT encS 1 H_a1002_7 (.slice A_a1002_7 a1002_7.length c_a1002_7) a1002_7) : Ct Tryz.prog 52 #[pt b0, sv a1] [bk b0 #[.slice A_a0_0 a0_0.length c_a0_0, .slice A_a0_1 a0_1.length c_a0_1, pt b1002_] 65, H_a0_1, bk b1002_ #[sv a1002_0, iv a1002_1, iv a1002_2, iv a1002_3, .slice A_a1002_4 a1002_4.length c_a1002_4, .slice A_a1002_5 a1002_5.length c_a1002_5, iv a1002_6, .slice A_a1002_7 a1002_7.length c_a1002_7] 63] [H_a0_0, H_a1002_4, H_a1002_5, H_a1002_7] (fun e l1 => ∃ (H0_ : Frag) (A0_ : Option Addr) (c0_ : Nat), OwnT encS 9 1 H0_ (.slice A0_ r.length c0_) r ∧ e = .returned (.tuple #[]) ∧ l1 = [bk b0 #[.slice A_a0_0 a0_0.length c_a0_0, .slice A0_ r.length c0_, pt b1002_] 65, H0_, bk b1002_ #[sv a1002_0, iv a1002_1, iv a1002_2, iv a1002_3, .slice A_a1002_4 a1002_4.length c_a1002_4, .slice A_a1002_5 a1002_5.length c_a1002_5, iv a1002_6, .slice A_a1002_7 a1002_7.length c_a1002_7] 63]) := by
 refine ct_enter (args := [pt b0, sv a1]) Tryz.func52 rfl (Nat.le_of_ble_eq_true rfl) ?_
 intro A X hh_
 obtain ⟨hm_H_a0_0, hm_H_a1002_4, hm_H_a1002_5, hm_H_a1002_7, _⟩ := hh_
 unfold check_checker_global.f at h
 refine K.eq (env' := [(0, pt b0), (1, sv a1)]) (l' := bk b0 #[.slice A_a0_0 a0_0.length c_a0_0, .slice A_a0_1 a0_1.length c_a0_1, pt b1002_] 65 :: H_a0_1 :: bk b1002_ #[sv a1002_0, iv a1002_1, iv a1002_2, iv a1002_3, .slice A_a1002_4 a1002_4.length c_a1002_4, .slice A_a1002_5 a1002_5.length c_a1002_5, iv a1002_6, .slice A_a1002_7 a1002_7.length c_a1002_7] 63 :: X) rfl rfl (ksr (kx 4 (kld 0 1 rfl (kx 1 (bnd h fun r1 hr1 h => (kcv (slices_Contains_string_string_.ok hr1 (OwnT.rd R_a0_1)) ⟨(.tail _ (.head _)), trivial⟩ (kx 1 (knt ?_))))))))
 refine kcn h (fun h => ?_) fun h => ?_
 ·refine k_region (kx 5 (kld 0 1 rfl (kx 1 (kns #[sv a1] 9 1 fun b3 => (K.mv2 (bnd h fun l4 hl4 h => (kap (ys := [a1]) encS_ok rfl ety26 hl4 R_a0_1 (src_blk (n := 1) encS_ok [a1] (by kernel_rfl) rfl (by decide) 1 rfl) fun h5 A6 k7 o8 => (K.mv1 (K.drop (kx 3 ?_))))))))))
  refine K.mv1 (kst 1 1 #[.slice A_a0_0 a0_0.length c_a0_0, .slice A6 l4.length k7, pt b1002_] (knl (k_fall ?_)))
  obtain rfl := Option.some.inj h
  exact kdv (.tuple #[]) [bk b0 #[.slice A_a0_0 a0_0.length c_a0_0, .slice A6 l4.length k7, pt b1002_] 65, h5, bk b1002_ #[sv a1002_0, iv a1002_1, iv a1002_2, iv a1002_3, .slice A_a1002_4 a1002_4.length c_a1002_4, .slice A_a1002_5 a1002_5.length c_a1002_5, iv a1002_6, .slice A_a1002_7 a1002_7.length c_a1002_7] 63] (k_end ⟨h5, A6, k7, o8, rfl, rfl⟩)
 ·refine k_skip (k_fall ?_)
  obtain rfl := Option.some.inj h
  exact kdv (.tuple #[]) [bk b0 #[.slice A_a0_0 a0_0.length c_a0_0, .slice A_a0_1 a0_1.length c_a0_1, pt b1002_] 65, H_a0_1, bk b1002_ #[sv a1002_0, iv a1002_1, iv a1002_2, iv a1002_3, .slice A_a1002_4 a1002_4.length c_a1002_4, .slice A_a1002_5 a1002_5.length c_a1002_5, iv a1002_6, .slice A_a1002_7 a1002_7.length c_a1002_7] 63] (k_end ⟨H_a0_1, A_a0_1, c_a0_1, R_a0_1, rfl, rfl⟩)
def check_checker_name.f (k : Nat) (a0_0 : List (ByteArray × Int × Int × Int × List (Int × Int × ByteArray))) (a0_1 : List ByteArray) (a1002_0 : ByteArray) (a1002_1 : Int) (a1002_2 : Int) (a1002_3 : Int) (a1002_4 : List (Int × Int × ByteArray)) (a1002_5 : List ByteArray) (a1002_6 : Int) (a1002_7 : List ByteArray) (a1_0 : Int) (a1_1 : ByteArray) (a1_2 : Int) (a1_3 : Int) (a1_4 : List Tree) : Option (PR (List ByteArray) (Int × Int)) := (check_kept.f k a1_1).bind fun r2 => cond r2 (PR.bind (check_fail.f k 5 a1_3) fun r4 => some (PR.ok (a0_1))) ((slices_Contains_string_string_.f k a1002_5 a1_1).bind fun r6 => cond r6 (some (PR.ok (a0_1))) ((slices_Contains_string_string_.f k a1002_7 a1_1).bind fun r8 => cond r8 (PR.bind (check_fail.f k 5 a1_3) fun r10 => some (PR.ok (a0_1))) ((check_checker_global.f k a0_0 a0_1 a1002_0 a1002_1 a1002_2 a1002_3 a1002_4 a1002_5 a1002_6 a1002_7 a1_1).bind fun r12 => some (PR.ok (r12)))))
set_option maxRecDepth 100000 in
theorem check_checker_name.ok {k : Nat} {a0_0 : List (ByteArray × Int × Int × Int × List (Int × Int × ByteArray))} {a0_1 : List ByteArray} {a1002_0 : ByteArray} {a1002_1 : Int} {a1002_2 : Int} {a1002_3 : Int} {a1002_4 : List (Int × Int × ByteArray)} {a1002_5 : List ByteArray} {a1002_6 : Int} {a1002_7 : List ByteArray} {a1_0 : Int} {a1_1 : ByteArray} {a1_2 : Int} {a1_3 : Int} {a1_4 : List Tree} {b0 : Nat} {H_a0_0 : Frag} {A_a0_0 : Option Addr} {c_a0_0 : Nat} {H_a0_1 : Frag} {A_a0_1 : Option Addr} {c_a0_1 : Nat} {b1002_ : Nat} {H_a1002_4 : Frag} {A_a1002_4 : Option Addr} {c_a1002_4 : Nat} {H_a1002_5 : Frag} {A_a1002_5 : Option Addr} {c_a1002_5 : Nat} {H_a1002_7 : Frag} {A_a1002_7 : Option Addr} {c_a1002_7 : Nat} {H_a1_4 : Frag} {A_a1_4 : Option Addr} {c_a1_4 : Nat} {r : PR (List ByteArray) (Int × Int)} (h : check_checker_name.f k a0_0 a0_1 a1002_0 a1002_1 a1002_2 a1002_3 a1002_4 a1002_5 a1002_6 a1002_7 a1_0 a1_1 a1_2 a1_3 a1_4 = some r) (R_a0_0 : RdR rs42 H_a0_0 (.slice A_a0_0 a0_0.length c_a0_0) a0_0) (R_a0_1 : OwnT encS 9 1 H_a0_1 (.slice A_a0_1 a0_1.length c_a0_1) a0_1) (R_a1002_4 : RdT e53 3 H_a1002_4 (.slice A_a1002_4 a1002_4.length c_a1002_4) a1002_4) (R_a1002_5 : RdT encS 1 H_a1002_5 (.slice A_a1002_5 a1002_5.length c_a1002_5) a1002_5) (R_a1002_7 : RdT encS 1 H_a1002_7 (.slice A_a1002_7 a1002_7.length c_a1002_7) a1002_7) (R_a1_4 : RdR (rTree 36) H_a1_4 (.slice A_a1_4 a1_4.length c_a1_4) a1_4) : Ct Tryz.prog 54 #[pt b0, .agg #[iv a1_0, sv a1_1, iv a1_2, iv a1_3, .slice A_a1_4 a1_4.length c_a1_4]] [bk b0 #[.slice A_a0_0 a0_0.length c_a0_0, .slice A_a0_1 a0_1.length c_a0_1, pt b1002_] 65, H_a0_1, bk b1002_ #[sv a1002_0, iv a1002_1, iv a1002_2, iv a1002_3, .slice A_a1002_4 a1002_4.length c_a1002_4, .slice A_a1002_5 a1002_5.length c_a1002_5, iv a1002_6, .slice A_a1002_7 a1002_7.length c_a1002_7] 63] [H_a0_0, H_a1002_4, H_a1002_5, H_a1002_7, H_a1_4] (PR.Post failC (fun (r : List ByteArray) e l1 => ∃ (H0_ : Frag) (A0_ : Option Addr) (c0_ : Nat), OwnT encS 9 1 H0_ (.slice A0_ r.length c0_) r ∧ e = .returned (.tuple #[]) ∧ l1 = [bk b0 #[.slice A_a0_0 a0_0.length c_a0_0, .slice A0_ r.length c0_, pt b1002_] 65, H0_, bk b1002_ #[sv a1002_0, iv a1002_1, iv a1002_2, iv a1002_3, .slice A_a1002_4 a1002_4.length c_a1002_4, .slice A_a1002_5 a1002_5.length c_a1002_5, iv a1002_6, .slice A_a1002_7 a1002_7.length c_a1002_7] 63]) r) := by
 refine ct_enter (args := [pt b0, .agg #[iv a1_0, sv a1_1, iv a1_2, iv a1_3, .slice A_a1_4 a1_4.length c_a1_4]]) Tryz.func54 rfl (Nat.le_of_ble_eq_true rfl) ?_
 intro A X hh_
 obtain ⟨hm_H_a0_0, hm_H_a1002_4, hm_H_a1002_5, hm_H_a1002_7, hm_H_a1_4, _⟩ := hh_
 unfold check_checker_name.f at h
 refine K.eq (env' := [(0, pt b0), (1, .agg #[iv a1_0, sv a1_1, iv a1_2, iv a1_3, .slice A_a1_4 a1_4.length c_a1_4])]) (l' := bk b0 #[.slice A_a0_0 a0_0.length c_a0_0, .slice A_a0_1 a0_1.length c_a0_1, pt b1002_] 65 :: H_a0_1 :: bk b1002_ #[sv a1002_0, iv a1002_1, iv a1002_2, iv a1002_3, .slice A_a1002_4 a1002_4.length c_a1002_4, .slice A_a1002_5 a1002_5.length c_a1002_5, iv a1002_6, .slice A_a1002_7 a1002_7.length c_a1002_7] 63 :: X) rfl rfl (ksr (knp #[iv a1_0, sv a1_1, iv a1_2, iv a1_3, .slice A_a1_4 a1_4.length c_a1_4] 36 fun b1 => (knt (k_block (ksr (kx 1 (kld 0 1 rfl (bnd h fun r2 hr2 h => (kcv (check_kept.ok hr2) trivial (kx 1 ?_))))))))))
 refine knt ?_
 refine kcn h (fun h => ?_) fun h => ?_
 ·refine k_region (kx 1 (kld 0 3 rfl (K.drop (kcp h (fun _ hr4 => (check_fail.ok hr4)) rfl trivial (fun _ e => k_blk_panic (kpn 3 e rfl)) fun r4 h => ?_))))
  rintro _ _ ⟨rfl, rfl⟩
  refine nx_ret0 (knl (k_blk (k_fall ?_)))
  obtain rfl := Option.some.inj h
  exact kdv (.tuple #[]) [bk b0 #[.slice A_a0_0 a0_0.length c_a0_0, .slice A_a0_1 a0_1.length c_a0_1, pt b1002_] 65, H_a0_1, bk b1002_ #[sv a1002_0, iv a1002_1, iv a1002_2, iv a1002_3, .slice A_a1002_4 a1002_4.length c_a1002_4, .slice A_a1002_5 a1002_5.length c_a1002_5, iv a1002_6, .slice A_a1002_7 a1002_7.length c_a1002_7] 63] (k_end (PR.okI ⟨H_a0_1, A_a0_1, c_a0_1, R_a0_1, rfl, rfl⟩))
 ·refine k_seq (kpr [(0, 0), (1, 0), (2, 0), (3, 3), (4, 0), (5, 0), (6, 3), (7, 0), (8, 3)] [0, 1, 3] (kpx 3 (kpd 1 2 rfl (kpx 2 (kpd 2 5 rfl (kpx 1 (kpd 0 1 rfl (kpz (bnd h fun r6 hr6 h => (kcv (slices_Contains_string_string_.ok hr6 R_a1002_5) ⟨(t4 hm_H_a1002_5), trivial⟩ ?_))))))))))
  refine kx 1 (knt ?_)
  refine kcn h (fun h => ?_) fun h => ?_
  ·refine k_skip (k_blk (k_fall ?_))
   obtain rfl := Option.some.inj h
   exact kdv (.tuple #[]) [bk b0 #[.slice A_a0_0 a0_0.length c_a0_0, .slice A_a0_1 a0_1.length c_a0_1, pt b1002_] 65, H_a0_1, bk b1002_ #[sv a1002_0, iv a1002_1, iv a1002_2, iv a1002_3, .slice A_a1002_4 a1002_4.length c_a1002_4, .slice A_a1002_5 a1002_5.length c_a1002_5, iv a1002_6, .slice A_a1002_7 a1002_7.length c_a1002_7] 63] (K.drop (k_end (PR.okI ⟨H_a0_1, A_a0_1, c_a0_1, R_a0_1, rfl, rfl⟩)))
  ·refine k_seq (kpr [(0, 0), (1, 0), (2, 0), (3, 3), (4, 0), (5, 0), (6, 3), (7, 0), (8, 3)] [0, 1, 3] (kpx 3 (kpd 1 2 rfl (kpx 2 (kpd 2 7 rfl (kpx 1 (kpd 0 1 rfl (kpz (bnd h fun r8 hr8 h => (kcv (slices_Contains_string_string_.ok hr8 R_a1002_7) ⟨(t4 hm_H_a1002_7), trivial⟩ ?_))))))))))
   refine kx 1 (knt ?_)
   refine kcn h (fun h => ?_) fun h => ?_
   ·refine k_region (kx 1 (kld 0 3 rfl (K.drop (kcp h (fun _ hr10 => (check_fail.ok hr10)) rfl trivial (fun _ e => k_blk_panic (kpn 3 e rfl)) fun r10 h => ?_))))
    rintro _ _ ⟨rfl, rfl⟩
    refine nx_ret0 (knl (k_blk (k_fall ?_)))
    obtain rfl := Option.some.inj h
    exact kdv (.tuple #[]) [bk b0 #[.slice A_a0_0 a0_0.length c_a0_0, .slice A_a0_1 a0_1.length c_a0_1, pt b1002_] 65, H_a0_1, bk b1002_ #[sv a1002_0, iv a1002_1, iv a1002_2, iv a1002_3, .slice A_a1002_4 a1002_4.length c_a1002_4, .slice A_a1002_5 a1002_5.length c_a1002_5, iv a1002_6, .slice A_a1002_7 a1002_7.length c_a1002_7] 63] (k_end (PR.okI ⟨H_a0_1, A_a0_1, c_a0_1, R_a0_1, rfl, rfl⟩))
   ·refine k_region (kx 2 (kld 0 1 rfl (K.drop (K.mv2 (K.mv2 (K.mv2 (bnd h fun r12 hr12 h => (kcl (check_checker_global.ok (b0 := b0) (b1002_ := b1002_) hr12 R_a0_0 R_a0_1 R_a1002_4 R_a1002_5 R_a1002_7) rfl ⟨hm_H_a0_0, hm_H_a1002_4, hm_H_a1002_5, hm_H_a1002_7, trivial⟩ ?_))))))))
    rintro _ _ ⟨h13, A14, k15, o16, rfl, rfl⟩
    refine nx_ret3 (knl (k_blk (k_fall ?_)))
    obtain rfl := Option.some.inj h
    exact kdv (.tuple #[]) [bk b0 #[.slice A_a0_0 a0_0.length c_a0_0, .slice A14 r12.length k15, pt b1002_] 65, h13, bk b1002_ #[sv a1002_0, iv a1002_1, iv a1002_2, iv a1002_3, .slice A_a1002_4 a1002_4.length c_a1002_4, .slice A_a1002_5 a1002_5.length c_a1002_5, iv a1002_6, .slice A_a1002_7 a1002_7.length c_a1002_7] 63] (k_end (PR.okI ⟨h13, A14, k15, o16, rfl, rfl⟩))
theorem ety40 : ElemTy Tryz.prog 40 53 3 32 Tryz.t53 (.agg #[iv 0, iv 0, sv noS]) := ⟨by kernel_rfl, by kernel_rfl, by kernel_rfl, by kernel_rfl, by kernel_rfl, by kernel_rfl, by decide⟩
def check_checker_constant.f (k : Nat) (a0_0 : List (ByteArray × Int × Int × Int × List (Int × Int × ByteArray))) (a0_1 : List ByteArray) (a1002_0 : ByteArray) (a1002_1 : Int) (a1002_2 : Int) (a1002_3 : Int) (a1002_4 : List (Int × Int × ByteArray)) (a1002_5 : List ByteArray) (a1002_6 : Int) (a1002_7 : List ByteArray) (a1_0 : Int) (a1_1 : ByteArray) (a1_2 : Int) (a1_3 : Int) (a1_4 : List Tree) (a2_0 : Int) (a2_1 : Int) (a2_2 : ByteArray) : Option (PR (List (Int × Int × ByteArray)) (Int × Int)) := (slices_Contains_api_Val_api_Val_.f k a1002_4 a2_0 a2_1 a2_2).bind fun r3 => cond (!r3) (PR.bind (check_few.f k a1_0 a1_1 a1_2 a1_3 a1_4 (IntKind.i64.wrap (((a1002_4.length : Nat) : Int) + 1)) 250) fun r5 => (apd 32 a1002_4 [(a2_0, a2_1, a2_2)]).bind fun l8 => some (PR.ok (l8))) (some (PR.ok (a1002_4)))
set_option maxRecDepth 100000 in
theorem check_checker_constant.ok {k : Nat} {a0_0 : List (ByteArray × Int × Int × Int × List (Int × Int × ByteArray))} {a0_1 : List ByteArray} {a1002_0 : ByteArray} {a1002_1 : Int} {a1002_2 : Int} {a1002_3 : Int} {a1002_4 : List (Int × Int × ByteArray)} {a1002_5 : List ByteArray} {a1002_6 : Int} {a1002_7 : List ByteArray} {a1_0 : Int} {a1_1 : ByteArray} {a1_2 : Int} {a1_3 : Int} {a1_4 : List Tree} {a2_0 : Int} {a2_1 : Int} {a2_2 : ByteArray} {b0 : Nat} {H_a0_0 : Frag} {A_a0_0 : Option Addr} {c_a0_0 : Nat} {H_a0_1 : Frag} {A_a0_1 : Option Addr} {c_a0_1 : Nat} {b1002_ : Nat} {H_a1002_4 : Frag} {A_a1002_4 : Option Addr} {c_a1002_4 : Nat} {H_a1002_5 : Frag} {A_a1002_5 : Option Addr} {c_a1002_5 : Nat} {H_a1002_7 : Frag} {A_a1002_7 : Option Addr} {c_a1002_7 : Nat} {H_a1_4 : Frag} {A_a1_4 : Option Addr} {c_a1_4 : Nat} {r : PR (List (Int × Int × ByteArray)) (Int × Int)} (h : check_checker_constant.f k a0_0 a0_1 a1002_0 a1002_1 a1002_2 a1002_3 a1002_4 a1002_5 a1002_6 a1002_7 a1_0 a1_1 a1_2 a1_3 a1_4 a2_0 a2_1 a2_2 = some r) (R_a0_0 : RdR rs42 H_a0_0 (.slice A_a0_0 a0_0.length c_a0_0) a0_0) (R_a0_1 : RdT encS 1 H_a0_1 (.slice A_a0_1 a0_1.length c_a0_1) a0_1) (R_a1002_4 : OwnT e53 53 3 H_a1002_4 (.slice A_a1002_4 a1002_4.length c_a1002_4) a1002_4) (R_a1002_5 : RdT encS 1 H_a1002_5 (.slice A_a1002_5 a1002_5.length c_a1002_5) a1002_5) (R_a1002_7 : RdT encS 1 H_a1002_7 (.slice A_a1002_7 a1002_7.length c_a1002_7) a1002_7) (R_a1_4 : RdR (rTree 36) H_a1_4 (.slice A_a1_4 a1_4.length c_a1_4) a1_4) : Ct Tryz.prog 53 #[pt b0, .agg #[iv a1_0, sv a1_1, iv a1_2, iv a1_3, .slice A_a1_4 a1_4.length c_a1_4], .agg #[iv a2_0, iv a2_1, sv a2_2]] [bk b0 #[.slice A_a0_0 a0_0.length c_a0_0, .slice A_a0_1 a0_1.length c_a0_1, pt b1002_] 65, bk b1002_ #[sv a1002_0, iv a1002_1, iv a1002_2, iv a1002_3, .slice A_a1002_4 a1002_4.length c_a1002_4, .slice A_a1002_5 a1002_5.length c_a1002_5, iv a1002_6, .slice A_a1002_7 a1002_7.length c_a1002_7] 63, H_a1002_4] [H_a0_0, H_a0_1, H_a1002_5, H_a1002_7, H_a1_4] (PR.Post failC (fun (r : List (Int × Int × ByteArray)) e l1 => ∃ (H0_ : Frag) (A0_ : Option Addr) (c0_ : Nat), OwnT e53 53 3 H0_ (.slice A0_ r.length c0_) r ∧ e = .returned (.tuple #[]) ∧ l1 = [bk b0 #[.slice A_a0_0 a0_0.length c_a0_0, .slice A_a0_1 a0_1.length c_a0_1, pt b1002_] 65, bk b1002_ #[sv a1002_0, iv a1002_1, iv a1002_2, iv a1002_3, .slice A0_ r.length c0_, .slice A_a1002_5 a1002_5.length c_a1002_5, iv a1002_6, .slice A_a1002_7 a1002_7.length c_a1002_7] 63, H0_]) r) := by
 refine ct_enter (args := [pt b0, .agg #[iv a1_0, sv a1_1, iv a1_2, iv a1_3, .slice A_a1_4 a1_4.length c_a1_4], .agg #[iv a2_0, iv a2_1, sv a2_2]]) Tryz.func53 rfl (Nat.le_of_ble_eq_true rfl) ?_
 intro A X hh_
 obtain ⟨hm_H_a0_0, hm_H_a0_1, hm_H_a1002_5, hm_H_a1002_7, hm_H_a1_4, _⟩ := hh_
 unfold check_checker_constant.f at h
 refine K.eq (env' := [(0, pt b0), (1, .agg #[iv a1_0, sv a1_1, iv a1_2, iv a1_3, .slice A_a1_4 a1_4.length c_a1_4]), (2, .agg #[iv a2_0, iv a2_1, sv a2_2])]) (l' := bk b0 #[.slice A_a0_0 a0_0.length c_a0_0, .slice A_a0_1 a0_1.length c_a0_1, pt b1002_] 65 :: bk b1002_ #[sv a1002_0, iv a1002_1, iv a1002_2, iv a1002_3, .slice A_a1002_4 a1002_4.length c_a1002_4, .slice A_a1002_5 a1002_5.length c_a1002_5, iv a1002_6, .slice A_a1002_7 a1002_7.length c_a1002_7] 63 :: H_a1002_4 :: X) rfl rfl (ksr (knp #[iv a1_0, sv a1_1, iv a1_2, iv a1_3, .slice A_a1_4 a1_4.length c_a1_4] 36 fun b1 => (knp #[iv a2_0, iv a2_1, sv a2_2] 53 fun b2 => (knt (k_seq (kpr [(0, 0), (1, 0), (2, 0), (3, 3), (4, 0), (5, 0), (6, 0), (7, 3), (8, 3)] [0, 2, 3] (kpx 3 (kpd 1 2 rfl (kpx 3 (kpd 2 4 rfl ?_))))))))))
 refine kpa 0 0 3 rfl (kpz (bnd h fun r3 hr3 h => (kcv (slices_Contains_api_Val_api_Val_.ok hr3 (OwnT.rd R_a1002_4)) ⟨(.tail _ (.tail _ (.tail _ (.tail _ (.head _))))), trivial⟩ (kx 1 (knt ?_)))))
 refine kcn h (fun h => ?_) fun h => ?_
 ·refine k_seq (kpr [(0, 3), (1, 0), (2, 0), (3, 0), (4, 3), (5, 0), (6, 0), (7, 0), (8, 3), (9, 0), (10, 0)] [1, 2, 3] (kpa 0 0 5 rfl (kpx 3 (kpd 1 2 rfl (kpx 3 (kpd 2 4 rfl (kpx 2 (kpz (kcp h (fun _ hr5 => (check_few.ok hr5 R_a1_4)) rfl ⟨(t5 hm_H_a1_4), trivial⟩ (fun _ e => k_then_panic (kpn 5 e rfl)) fun r5 h => ?_)))))))))
  rintro _ _ ⟨rfl, rfl⟩
  refine nx_ret0 (K.mv1 (K.drop (knt (kpr [(0, 0), (1, 0), (2, 0), (3, 3), (4, 0), (5, 0), (6, 0), (7, 3), (8, 0), (9, 0), (10, 0), (11, 3), (12, 3), (13, 1), (14, 1)] [0, 1, 2] (kpx 3 (kpd 1 2 rfl (kpx 3 (kpd 1 2 rfl (kpx 3 (kpd 2 4 rfl ?_))))))))))
  refine kpa 0 0 3 rfl (kpt (ons #[iv a2_0, iv a2_1, sv a2_2] 53 1 fun b7 => (kan [1, 2, 3] rfl (kpt (K.mv4 (bnd h fun l8 hl8 h => (op_apd (ys := [(a2_0, a2_1, a2_2)]) e53_ok rfl ety40 (by kernel_rfl) (by kernel_rfl) (by kernel_rfl) (by kernel_rfl) hl8 R_a1002_4 (src_blk (n := 1) e53_ok [(a2_0, a2_1, a2_2)] (by kernel_rfl) rfl (by decide) 1 rfl) fun h9 A10 k11 o12 => (kan [2, 3, 4] rfl (kpz (kx 3 ?_))))))))))
  refine K.mv4 (kst 4 1 #[sv a1002_0, iv a1002_1, iv a1002_2, iv a1002_3, .slice A10 l8.length k11, .slice A_a1002_5 a1002_5.length c_a1002_5, iv a1002_6, .slice A_a1002_7 a1002_7.length c_a1002_7] (K.mv2 (K.drop (K.mv2 (K.drop (knl (k_fall ?_)))))))
  obtain rfl := Option.some.inj h
  exact kdv (.tuple #[]) [bk b0 #[.slice A_a0_0 a0_0.length c_a0_0, .slice A_a0_1 a0_1.length c_a0_1, pt b1002_] 65, bk b1002_ #[sv a1002_0, iv a1002_1, iv a1002_2, iv a1002_3, .slice A10 l8.length k11, .slice A_a1002_5 a1002_5.length c_a1002_5, iv a1002_6, .slice A_a1002_7 a1002_7.length c_a1002_7] 63, h9] (K.mv1 (K.mv1 (K.mv2 (k_end (PR.okI ⟨h9, A10, k11, o12, rfl, rfl⟩)))))
 ·refine k_skip (k_fall ?_)
  obtain rfl := Option.some.inj h
  exact kdv (.tuple #[]) [bk b0 #[.slice A_a0_0 a0_0.length c_a0_0, .slice A_a0_1 a0_1.length c_a0_1, pt b1002_] 65, bk b1002_ #[sv a1002_0, iv a1002_1, iv a1002_2, iv a1002_3, .slice A_a1002_4 a1002_4.length c_a1002_4, .slice A_a1002_5 a1002_5.length c_a1002_5, iv a1002_6, .slice A_a1002_7 a1002_7.length c_a1002_7] 63, H_a1002_4] (K.drop (K.drop (k_end (PR.okI ⟨H_a1002_4, A_a1002_4, c_a1002_4, R_a1002_4, rfl, rfl⟩))))
def check_checker_bring.l0 : Nat → (a2 : List Tree) → (J7 : (List ByteArray) → Option (PR (Int × List ByteArray) (Int × Int))) → (x10 : Int) → (l11 : List ByteArray) → Option (PR (Int × List ByteArray) (Int × Int))
 | 0, _, _, _, _ => none
 | m16 + 1, a2, J7, x10, l11 => cond (decide (x10 < ((a2.length : Nat) : Int))) ((lIdx a2 x10).bind fun x18 => joinF (fun (_ : Unit) => (apd 16 l11 [x18.text]).bind fun l30 => check_checker_bring.l0 m16 a2 J7 (IntKind.i64.wrap (x10 + 1)) l30) (fun J28 => (check_kept.f m16 x18.text).bind fun r35 => cond r35 (PR.bind (check_fail.f m16 5 x18.at_) fun r37 => J28 ()) (J28 ()))) (J7 l11)
def check_checker_bring.f (k : Nat) (a0_0 : List (ByteArray × Int × Int × Int × List (Int × Int × ByteArray))) (a0_1 : List ByteArray) (a1002_0 : ByteArray) (a1002_1 : Int) (a1002_2 : Int) (a1002_3 : Int) (a1002_4 : List (Int × Int × ByteArray)) (a1002_5 : List ByteArray) (a1002_6 : Int) (a1002_7 : List ByteArray) (a1_0 : Int) (a1_1 : ByteArray) (a1_2 : Int) (a1_3 : Int) (a1_4 : List Tree) (a2 : List Tree) : Option (PR (Int × List ByteArray) (Int × Int)) := joinF (fun (l2 : List ByteArray) => PR.bind (check_few.f k a1_0 a1_1 a1_2 a1_3 a1_4 ((l2.length : Nat) : Int) 60) fun r8 => some (PR.ok ((if ((l2.length : Nat) : Int) > a1002_3 then ((l2.length : Nat) : Int) else a1002_3), l2))) (fun J7 => check_checker_bring.l0 k a2 J7 0 a1002_5)
set_option maxRecDepth 100000 in
theorem check_checker_bring.ok {k : Nat} {a0_0 : List (ByteArray × Int × Int × Int × List (Int × Int × ByteArray))} {a0_1 : List ByteArray} {a1002_0 : ByteArray} {a1002_1 : Int} {a1002_2 : Int} {a1002_3 : Int} {a1002_4 : List (Int × Int × ByteArray)} {a1002_5 : List ByteArray} {a1002_6 : Int} {a1002_7 : List ByteArray} {a1_0 : Int} {a1_1 : ByteArray} {a1_2 : Int} {a1_3 : Int} {a1_4 : List Tree} {a2 : List Tree} {b0 : Nat} {H_a0_0 : Frag} {A_a0_0 : Option Addr} {c_a0_0 : Nat} {H_a0_1 : Frag} {A_a0_1 : Option Addr} {c_a0_1 : Nat} {b1002_ : Nat} {H_a1002_4 : Frag} {A_a1002_4 : Option Addr} {c_a1002_4 : Nat} {H_a1002_5 : Frag} {A_a1002_5 : Option Addr} {c_a1002_5 : Nat} {H_a1002_7 : Frag} {A_a1002_7 : Option Addr} {c_a1002_7 : Nat} {H_a1_4 : Frag} {A_a1_4 : Option Addr} {c_a1_4 : Nat} {H_a2 : Frag} {A_a2 : Option Addr} {c_a2 : Nat} {r : PR (Int × List ByteArray) (Int × Int)} (h : check_checker_bring.f k a0_0 a0_1 a1002_0 a1002_1 a1002_2 a1002_3 a1002_4 a1002_5 a1002_6 a1002_7 a1_0 a1_1 a1_2 a1_3 a1_4 a2 = some r) (R_a0_0 : RdR rs42 H_a0_0 (.slice A_a0_0 a0_0.length c_a0_0) a0_0) (R_a0_1 : RdT encS 1 H_a0_1 (.slice A_a0_1 a0_1.length c_a0_1) a0_1) (R_a1002_4 : RdT e53 3 H_a1002_4 (.slice A_a1002_4 a1002_4.length c_a1002_4) a1002_4) (R_a1002_5 : OwnT encS 9 1 H_a1002_5 (.slice A_a1002_5 a1002_5.length c_a1002_5) a1002_5) (R_a1002_7 : RdT encS 1 H_a1002_7 (.slice A_a1002_7 a1002_7.length c_a1002_7) a1002_7) (R_a1_4 : RdR (rTree 36) H_a1_4 (.slice A_a1_4 a1_4.length c_a1_4) a1_4) (R_a2 : RdR (rTree 36) H_a2 (.slice A_a2 a2.length c_a2) a2) : Ct Tryz.prog 38 #[pt b0, .agg #[iv a1_0, sv a1_1, iv a1_2, iv a1_3, .slice A_a1_4 a1_4.length c_a1_4], .slice A_a2 a2.length c_a2] [bk b0 #[.slice A_a0_0 a0_0.length c_a0_0, .slice A_a0_1 a0_1.length c_a0_1, pt b1002_] 65, bk b1002_ #[sv a1002_0, iv a1002_1, iv a1002_2, iv a1002_3, .slice A_a1002_4 a1002_4.length c_a1002_4, .slice A_a1002_5 a1002_5.length c_a1002_5, iv a1002_6, .slice A_a1002_7 a1002_7.length c_a1002_7] 63, H_a1002_5] [H_a0_0, H_a0_1, H_a1002_4, H_a1002_7, H_a1_4, H_a2] (PR.Post failC (fun (r : Int × List ByteArray) e l1 => ∃ (H0_ : Frag) (A0_ : Option Addr) (c0_ : Nat), OwnT encS 9 1 H0_ (.slice A0_ r.2.length c0_) r.2 ∧ e = .returned (.tuple #[]) ∧ l1 = [bk b0 #[.slice A_a0_0 a0_0.length c_a0_0, .slice A_a0_1 a0_1.length c_a0_1, pt b1002_] 65, bk b1002_ #[sv a1002_0, iv a1002_1, iv a1002_2, iv r.1, .slice A_a1002_4 a1002_4.length c_a1002_4, .slice A0_ r.2.length c0_, iv a1002_6, .slice A_a1002_7 a1002_7.length c_a1002_7] 63, H0_]) r) := by
 refine ct_enter (args := [pt b0, .agg #[iv a1_0, sv a1_1, iv a1_2, iv a1_3, .slice A_a1_4 a1_4.length c_a1_4], .slice A_a2 a2.length c_a2]) Tryz.func38 rfl (Nat.le_of_ble_eq_true rfl) ?_
 intro A X hh_
 obtain ⟨hm_H_a0_0, hm_H_a0_1, hm_H_a1002_4, hm_H_a1002_7, hm_H_a1_4, hm_H_a2, _⟩ := hh_
 unfold check_checker_bring.f at h
 refine K.eq (env' := [(0, pt b0), (1, .agg #[iv a1_0, sv a1_1, iv a1_2, iv a1_3, .slice A_a1_4 a1_4.length c_a1_4]), (2, .slice A_a2 a2.length c_a2)]) (l' := bk b0 #[.slice A_a0_0 a0_0.length c_a0_0, .slice A_a0_1 a0_1.length c_a0_1, pt b1002_] 65 :: bk b1002_ #[sv a1002_0, iv a1002_1, iv a1002_2, iv a1002_3, .slice A_a1002_4 a1002_4.length c_a1002_4, .slice A_a1002_5 a1002_5.length c_a1002_5, iv a1002_6, .slice A_a1002_7 a1002_7.length c_a1002_7] 63 :: H_a1002_5 :: X) rfl rfl (ksr (knp #[iv a1_0, sv a1_1, iv a1_2, iv a1_3, .slice A_a1_4 a1_4.length c_a1_4] 36 fun b1 => (knt ?_)))
 obtain ⟨J7, hJ7, h⟩ := joinSplit h
 refine k_cut (τ := (List ByteArray) × Frag × (Option Addr) × Nat) (fun t => [(0, pt b0), (4, pt b1)]) (fun t => bk b1 #[iv a1_0, sv a1_1, iv a1_2, iv a1_3, .slice A_a1_4 a1_4.length c_a1_4] 36 :: bk b0 #[.slice A_a0_0 a0_0.length c_a0_0, .slice A_a0_1 a0_1.length c_a0_1, pt b1002_] 65 :: bk b1002_ #[sv a1002_0, iv a1002_1, iv a1002_2, iv a1002_3, .slice A_a1002_4 a1002_4.length c_a1002_4, .slice t.2.2.1 t.1.length t.2.2.2, iv a1002_6, .slice A_a1002_7 a1002_7.length c_a1002_7] 63 :: t.2.1 :: X) (fun t => J7 t.1 = some r ∧ OwnT encS 9 1 t.2.1 (.slice t.2.2.1 t.1.length t.2.2.2) t.1) ?_ ?_
 ·rintro ⟨l2, h3, A4, k5⟩ ⟨h, o6⟩
  subst hJ7
  refine k_seq (kpr [(0, 3), (1, 0), (2, 0), (3, 0), (4, 3), (5, 0), (6, 0), (7, 3), (8, 0)] [0, 1, 2] (kpa 0 0 5 rfl (kpx 3 (kpd 1 2 rfl (kpx 2 (kpd 2 5 rfl (kpx 1 (kpz (kcp h (fun _ hr8 => (check_few.ok hr8 R_a1_4)) rfl ⟨(t4 hm_H_a1_4), trivial⟩ (fun _ e => k_then_panic (kpn 4 e rfl)) fun r8 h => ?_)))))))))
  rintro _ _ ⟨rfl, rfl⟩
  refine nx_ret0 (K.drop (knt (kpr [(0, 0), (1, 0), (2, 0), (3, 3), (4, 0), (5, 0), (6, 0), (7, 3), (8, 0), (9, 0), (10, 0), (11, 3), (12, 0), (13, 0), (14, 0), (15, 3), (16, 0), (17, 0), (18, 3), (19, 0), (20, 0)] [0, 1] (kpx 3 (kpd 0 2 rfl (kpx 3 (kpd 0 2 rfl (kpx 3 (kpd 1 3 rfl (kpx 3 ?_))))))))))
  refine kpd 0 2 rfl (kpx 2 (kpd 1 5 rfl (kpx 2 (kpz (kx 3 (K.mv1 (kst 3 1 #[sv a1002_0, iv a1002_1, iv a1002_2, iv (if ((l2.length : Nat) : Int) > a1002_3 then ((l2.length : Nat) : Int) else a1002_3), .slice A_a1002_4 a1002_4.length c_a1002_4, .slice A4 l2.length k5, iv a1002_6, .slice A_a1002_7 a1002_7.length c_a1002_7] (knl (k_fall ?_)))))))))
  obtain rfl := Option.some.inj h
  exact kdv (.tuple #[]) [bk b0 #[.slice A_a0_0 a0_0.length c_a0_0, .slice A_a0_1 a0_1.length c_a0_1, pt b1002_] 65, bk b1002_ #[sv a1002_0, iv a1002_1, iv a1002_2, iv (if ((l2.length : Nat) : Int) > a1002_3 then ((l2.length : Nat) : Int) else a1002_3), .slice A_a1002_4 a1002_4.length c_a1002_4, .slice A4 l2.length k5, iv a1002_6, .slice A_a1002_7 a1002_7.length c_a1002_7] 63, h3] (K.mv2 (K.mv1 (K.mv2 (k_end (PR.okI ⟨h3, A4, k5, o6, rfl, rfl⟩)))))
 ·skip
  refine ksr (kx 3 (knt (k_block (k_loop (τ := Int × (List ByteArray) × Frag × (Option Addr) × Nat) (fun t => [(0, pt b0), (4, pt b1), (8, .slice A_a2 a2.length c_a2), (9, iv ((a2.length : Nat) : Int)), (10, iv t.1)]) (fun t => bk b1 #[iv a1_0, sv a1_1, iv a1_2, iv a1_3, .slice A_a1_4 a1_4.length c_a1_4] 36 :: bk b0 #[.slice A_a0_0 a0_0.length c_a0_0, .slice A_a0_1 a0_1.length c_a0_1, pt b1002_] 65 :: bk b1002_ #[sv a1002_0, iv a1002_1, iv a1002_2, iv a1002_3, .slice A_a1002_4 a1002_4.length c_a1002_4, .slice t.2.2.2.1 t.2.1.length t.2.2.2.2, iv a1002_6, .slice A_a1002_7 a1002_7.length c_a1002_7] 63 :: t.2.2.1 :: X) (fun m t => check_checker_bring.l0 m a2 J7 t.1 t.2.1 = some r ∧ OwnT encS 9 1 t.2.2.1 (.slice t.2.2.2.1 t.2.1.length t.2.2.2.2) t.2.1) k (0, a1002_5, H_a1002_5, A_a1002_5, c_a1002_5) ⟨h, R_a1002_5⟩ sb rfl ?_))))
  clear h
  rintro m16 ⟨x10, l11, h12, A13, k14⟩ ⟨h, o15⟩
  cases m16 with
  | zero => simp [check_checker_bring.l0] at h
  | succ m16 =>
   simp only [check_checker_bring.l0] at h
   refine ksr (kx 1 (knt (k_seq ?_)))
   refine kcn h (fun h => ?_) fun h => ?_
   ·refine k_skip (k_then (k_seq (k_block (ksr (bnd h fun x18 hx18 h => (kelR (T := 36) (kd := .i64) (R := (rTree 36)) rfl hx18 R_a2 fun p19 u22 q23 e20 y21 => ?_))))))
    obtain ⟨A24, k25, rfl, o26⟩ := treeR_mk 36 q23
    refine keN rfl e20 (t4 hm_H_a2) (knp #[iv 0, sv noS, iv 0, iv 0, nS] 36 fun b27 => (kst 0 5 #[iv x18.kind, sv x18.text, iv x18.n, iv x18.at_, .slice A24 x18.kids.length k25] (knt ?_)))
    obtain ⟨J28, hJ28, h⟩ := joinSplit h
    refine k_cut (τ := Unit) (fun t => [(0, pt b0), (4, pt b1), (7, pt b27), (8, .slice A_a2 a2.length c_a2), (9, iv ((a2.length : Nat) : Int)), (10, iv x10)]) (fun t => bk b27 #[iv x18.kind, sv x18.text, iv x18.n, iv x18.at_, .slice A24 x18.kids.length k25] 36 :: bk b1 #[iv a1_0, sv a1_1, iv a1_2, iv a1_3, .slice A_a1_4 a1_4.length c_a1_4] 36 :: bk b0 #[.slice A_a0_0 a0_0.length c_a0_0, .slice A_a0_1 a0_1.length c_a0_1, pt b1002_] 65 :: bk b1002_ #[sv a1002_0, iv a1002_1, iv a1002_2, iv a1002_3, .slice A_a1002_4 a1002_4.length c_a1002_4, .slice A13 l11.length k14, iv a1002_6, .slice A_a1002_7 a1002_7.length c_a1002_7] 63 :: h12 :: X) (fun t => J28 () = some r) ?_ ?_
    ·rintro ⟨⟩ h
     subst hJ28
     refine kpr [(0, 0), (1, 0), (2, 0), (3, 3), (4, 0), (5, 0), (6, 0), (7, 3), (8, 0), (9, 0), (10, 3), (11, 0), (12, 3), (13, 1), (14, 1)] [0, 2, 3] (kpx 3 (kpd 1 2 rfl (kpx 3 (kpd 1 2 rfl (kpx 2 (kpd 2 5 rfl (kpx 1 (kpd 0 1 rfl (kpt (ons #[sv x18.text] 9 1 fun b29 => ?_))))))))))
     refine kan [1, 3, 4] rfl (kpt (K.mvN [_, _, _, _, _] _ _ (bnd h fun l30 hl30 h => (op_apd (ys := [x18.text]) encS_ok rfl ety26 (by kernel_rfl) (by kernel_rfl) (by kernel_rfl) (by kernel_rfl) hl30 o15 (src_blk (n := 1) encS_ok [x18.text] (by kernel_rfl) rfl (by decide) 1 rfl) fun h31 A32 k33 o34 => (kan [2, 4, 5] rfl (kpz (kx 2 (K.mvN [_, _, _, _, _] _ _ (kst 5 1 #[sv a1002_0, iv a1002_1, iv a1002_2, iv a1002_3, .slice A_a1002_4 a1002_4.length c_a1002_4, .slice A32 l30.length k33, iv a1002_6, .slice A_a1002_7 a1002_7.length c_a1002_7] (K.mv2 ?_))))))))))
     refine K.drop (K.mv2 (K.drop (knl (k_blk (k_then (k_region (kx 2 (knt (K.mv1 (K.mv1 ?_))))))))))
     exact K.mv3 (K.mv3 (k_again m16 (IntKind.i64.wrap (x10 + 1), l30, h31, A32, k33) (Nat.lt_succ_self _) ⟨h, o34⟩ sb rfl))
    ·skip
     refine ksr (kx 1 (kld 0 1 rfl (bnd h fun r35 hr35 h => (kcv (check_kept.ok hr35) trivial (knt ?_)))))
     refine kcn h (fun h => ?_) fun h => ?_
     ·refine k_region (kx 1 (kld 0 3 rfl (kcp h (fun _ hr37 => (check_fail.ok hr37)) rfl trivial (fun _ e => k_then_panic (k_blk_panic (k_then_panic (k_then_panic (k_blk_panic (k_then_panic (kpn 5 e rfl))))))) fun r37 h => ?_)))
      rintro _ _ ⟨rfl, rfl⟩
      exact nx_ret0 (knt (k_meet () h sb rfl))
     ·exact k_skip (k_then (k_meet () h sb rfl))
   ·exact k_exit (k_then_exit (k_then_exit (k_here (k_then (k_meet (l11, h12, A13, k14) ⟨h, o15⟩ sb rfl)))))
end Go.Proofs.YtdkgnlaneccioaaGreatDoor
