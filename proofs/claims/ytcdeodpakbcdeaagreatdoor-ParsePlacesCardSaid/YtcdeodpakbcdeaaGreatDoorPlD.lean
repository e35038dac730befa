/- Texts of mine for parsePlaces_card, part 4. -/
import Derived.Lib.OthersKept
import Derived.Lib.UnsafeStr
import Derived.Test.YtcdeodpakbcdeaaGreatDoorProg
import Derived.Lib.AppendIntMem
import Derived.Test.YtcdeodpakbcdeaaGreatDoorPlC
set_option linter.unusedSimpArgs false
set_option linter.unusedVariables false
namespace Go.Proofs.YtcdeodpakbcdeaaGreatDoor
open Go Go.RowKit
def Le {α : Type} (x y : Option α) : Prop := ∀ v, x = some v → y = some v
section
variable {α β : Type}
theorem Le.refl (x : Option α) : Le x x := fun _ h => h
theorem Le.none (x : Option α) : Le none x := fun _ h => by cases h
theorem Le.trans {x y z : Option α} (h1 : Le x y) (h2 : Le y z) : Le x z := fun v h => h2 v (h1 v h)
theorem Le.bind {x y : Option (PV α)} {f g : α → List Tk → Option (PV β)} (h : Le x y) (hf : ∀ a r, Le (f a r) (g a r)) : Le (PV.bind x f) (PV.bind y g) := fun v hv => by
  rcases bind_some hv with ⟨i, hx, rfl⟩ | ⟨a, r, hx, h2⟩
  · rw [h _ hx]; rfl
  · rw [h _ hx]; exact hf a r _ h2
theorem Le.ite {c : Prop} [Decidable c] {x y x' y' : Option α} (h1 : Le x x') (h2 : Le y y') : Le (if c then x else y) (if c then x' else y') := by
  by_cases h : c
  · rw [if_pos h, if_pos h]; exact h1
  · rw [if_neg h, if_neg h]; exact h2
end
theorem le_namesL : ∀ (f : Nat) (acc : List Tree) (ts : List Tk), Le (pNamesL f acc ts) (pNamesL (f + 1) acc ts)
  | 0, _, _ => Le.none _
  | f + 1, acc, ts => by
    rw [pNamesL, pNamesL]
    exact Le.ite (Le.bind (Le.refl _) fun _ _ => le_namesL f _ _) (Le.refl _)
theorem le_names (f : Nat) (ts : List Tk) : Le (pNames f ts) (pNames (f + 1) ts) := Le.bind (Le.refl _) fun _ _ => le_namesL f _ _
structure LeE (f : Nat) : Prop where
  exp : ∀ least ts, Le (pExp f least ts) (pExp (f + 1) least ts)
  loop : ∀ least n ts, Le (pLoop f least n ts) (pLoop (f + 1) least n ts)
  operand : ∀ ts, Le (pOperand f ts) (pOperand (f + 1) ts)
  fields : ∀ acc ts, Le (pFields f acc ts) (pFields (f + 1) acc ts)
  field : ∀ ts, Le (pField f ts) (pField (f + 1) ts)
  suffixed : ∀ ts, Le (pSuffixed f ts) (pSuffixed (f + 1) ts)
  sufL : ∀ at_ n ts, Le (pSufL f at_ n ts) (pSufL (f + 1) at_ n ts)
  exps : ∀ ts, Le (pExps f ts) (pExps (f + 1) ts)
  expsL : ∀ acc ts, Le (pExpsL f acc ts) (pExpsL (f + 1) acc ts)
theorem leE : ∀ f, LeE f
  | 0 => by constructor <;> intros <;> (first | rw [pExp] | rw [pLoop] | rw [pOperand] | rw [pFields] | rw [pField] | rw [pSuffixed] | rw [pSufL] | rw [pExps] | rw [pExpsL]) <;> exact Le.none _
  | f + 1 => by
    have ih := leE f
    constructor
    · intro least ts; rw [pExp, pExp]
      exact Le.bind (ih.operand _) fun _ _ => ih.loop _ _ _
    · intro least n ts; rw [pLoop, pLoop]
      exact Le.ite (Le.refl _) (Le.bind (ih.exp _ _) fun _ _ => ih.loop _ _ _)
    · intro ts; rw [pOperand, pOperand]
      exact Le.ite (Le.refl _) (Le.ite (Le.refl _) (Le.ite (Le.refl _) (Le.ite (Le.refl _) (Le.ite (Le.refl _) (Le.ite (Le.bind (ih.exp _ _) fun _ _ => Le.refl _) (Le.ite (Le.bind (ih.fields _ _) fun _ _ => Le.refl _) (ih.suffixed _)))))))
    · intro acc ts; rw [pFields, pFields]
      exact Le.ite (Le.refl _) (Le.bind (ih.field _) fun _ _ => Le.ite (ih.fields _ _) (Le.ite (ih.fields _ _) (Le.refl _)))
    · intro ts; rw [pField, pField]
      exact Le.ite (Le.bind (ih.exp _ _) fun _ _ => Le.bind (Le.refl _) fun _ _ => Le.bind (Le.refl _) fun _ _ => Le.bind (ih.exp _ _) fun _ _ => Le.refl _) (Le.ite (Le.bind (ih.exp _ _) fun _ _ => Le.refl _) (Le.bind (ih.exp _ _) fun _ _ => Le.refl _))
    · intro ts; rw [pSuffixed, pSuffixed]
      exact Le.ite (Le.bind (ih.exp _ _) fun _ _ => Le.bind (Le.refl _) fun _ _ => ih.sufL _ _ _) (Le.bind (Le.refl _) fun _ _ => ih.sufL _ _ _)
    · intro at_ n ts; rw [pSufL, pSufL]
      exact Le.ite (Le.bind (ih.exp _ _) fun _ _ => Le.bind (Le.refl _) fun _ _ => ih.sufL _ _ _) (Le.ite (Le.bind (Le.refl _) fun _ _ => ih.sufL _ _ _) (Le.ite (Le.bind (Le.ite (Le.refl _) (ih.exps _)) fun _ _ => Le.bind (Le.refl _) fun _ _ => ih.sufL _ _ _) (Le.refl _)))
    · intro ts; rw [pExps, pExps]
      exact Le.bind (ih.exp _ _) fun _ _ => ih.expsL _ _
    · intro acc ts; rw [pExpsL, pExpsL]
      exact Le.ite (Le.bind (ih.exp _ _) fun _ _ => ih.expsL _ _) (Le.refl _)
structure LeS (f : Nat) : Prop where
  block : ∀ c ts, Le (pBlock f c ts) (pBlock (f + 1) c ts)
  blockL : ∀ c at_ acc ts, Le (pBlockL f c at_ acc ts) (pBlockL (f + 1) c at_ acc ts)
  function : ∀ ts, Le (pFunction f ts) (pFunction (f + 1) ts)
  body : ∀ ts, Le (pBody f ts) (pBody (f + 1) ts)
  stat : ∀ ts, Le (pStat f ts) (pStat (f + 1) ts)
  branches : ∀ acc ts, Le (pBranches f acc ts) (pBranches (f + 1) acc ts)
  for_ : ∀ at_ ts, Le (pFor f at_ ts) (pFor (f + 1) at_ ts)
  plain : ∀ ts, Le (pPlain f ts) (pPlain (f + 1) ts)
  targets : ∀ acc e ts, Le (pTargets f acc e ts) (pTargets (f + 1) acc e ts)
theorem leS : ∀ f, LeS f
  | 0 => by constructor <;> intros <;> (first | rw [pBlock] | rw [pBlockL] | rw [pFunction] | rw [pBody] | rw [pStat] | rw [pBranches] | rw [pFor] | rw [pPlain] | rw [pTargets]) <;> exact Le.none _
  | f + 1 => by
    have ih := leS f
    have ie := leE f
    constructor
    · intro c ts; rw [pBlock, pBlock]; exact ih.blockL _ _ _ _
    · intro c at_ acc ts; rw [pBlockL, pBlockL]
      exact Le.ite (ih.blockL _ _ _ _) (Le.ite (Le.bind (Le.ite (Le.refl _) (ie.exps _)) fun _ _ => Le.refl _) (Le.ite (Le.bind (ih.function _) fun _ _ => ih.blockL _ _ _ _) (Le.ite (Le.refl _) (Le.bind (ih.stat _) fun _ _ => ih.blockL _ _ _ _))))
    · intro ts; rw [pFunction, pFunction]
      exact Le.bind (Le.refl _) fun _ _ => Le.bind (Le.refl _) fun _ _ => Le.bind (Le.ite (Le.refl _) (le_names _ _)) fun _ _ => Le.bind (Le.refl _) fun _ _ => Le.bind (ih.block _ _) fun _ _ => Le.refl _
    · intro ts; rw [pBody, pBody]
      exact Le.bind (Le.refl _) fun _ _ => Le.bind (ih.block _ _) fun _ _ => Le.refl _
    · intro ts; rw [pStat, pStat]
      exact Le.ite (Le.bind (ih.body _) fun _ _ => Le.refl _) (Le.ite (Le.bind (ie.exp _ _) fun _ _ => Le.bind (ih.body _) fun _ _ => Le.refl _) (Le.ite (Le.bind (ih.branches _ _) fun _ _ => Le.refl _) (Le.ite (ih.for_ _ _) (Le.ite (Le.bind (le_names _ _) fun _ _ => Le.bind (Le.ite (ie.exps _) (Le.refl _)) fun _ _ => Le.refl _) (Le.ite (Le.refl _) (ih.plain _))))))
    · intro acc ts; rw [pBranches, pBranches]
      exact Le.bind (ie.exp _ _) fun _ _ => Le.bind (Le.refl _) fun _ _ => Le.bind (ih.block _ _) fun _ _ => Le.ite (ih.branches _ _) (Le.ite (Le.bind (ih.block _ _) fun _ _ => Le.refl _) (Le.refl _))
    · intro at_ ts; rw [pFor, pFor]
      exact Le.bind (Le.refl _) fun _ _ => Le.ite (Le.bind (ie.exp _ _) fun _ _ => Le.bind (Le.refl _) fun _ _ => Le.bind (ie.exp _ _) fun _ _ => Le.bind (Le.ite (Le.bind (ie.exp _ _) fun _ _ => Le.refl _) (Le.refl _)) fun _ _ => Le.bind (ih.body _) fun _ _ => Le.refl _) (Le.bind (le_namesL _ _ _) fun _ _ => Le.bind (Le.refl _) fun _ _ => Le.bind (ie.exps _) fun _ _ => Le.bind (ih.body _) fun _ _ => Le.refl _)
    · intro ts; rw [pPlain, pPlain]
      exact Le.bind (ie.suffixed _) fun _ _ => Le.ite (Le.bind (ih.targets _ _ _) fun _ _ => Le.bind (Le.refl _) fun _ _ => Le.bind (ie.exps _) fun _ _ => Le.refl _) (Le.refl _)
    · intro acc e ts; rw [pTargets, pTargets]
      exact Le.ite (Le.ite (Le.bind (ie.suffixed _) fun _ _ => ih.targets _ _ _) (Le.refl _)) (Le.refl _)
theorem le_up {α : Type} {p : Nat → Option α} (h : ∀ f, Le (p f) (p (f + 1))) {f f' : Nat} (h0 : f ≤ f') : Le (p f) (p f') := by
  induction f' with
  | zero => rw [Nat.le_zero.1 h0]; exact Le.refl _
  | succ f' ih =>
    rcases Nat.lt_or_ge f (f' + 1) with h1 | h1
    · exact (ih (by omega)).trans (h f')
    · rw [show f = f' + 1 by omega]; exact Le.refl _
def val {α : Type} (x : Option (PV α)) : PV α := x.getD (.bad 0)
def fu (ts : List Tk) : Nat := 16 * ts.length + 16
theorem val_up {α : Type} {p : Nat → Option (PV α)} (h : ∀ f, Le (p f) (p (f + 1))) {f f0 : Nat} (h1 : ∃ v, p f = some v) (h2 : ∃ v, p f0 = some v) : p f = some (val (p f0)) := by
  obtain ⟨v, hv⟩ := h1
  obtain ⟨v0, hv0⟩ := h2
  rcases Nat.le_total f f0 with h' | h'
  · have := le_up h h' v hv
    rw [hv, this]; rfl
  · have := le_up h h' v0 hv0
    rw [this, hv0]; rfl
def vNamesL (acc : List Tree) (ts : List Tk) : PV (List Tree) := val (pNamesL (fu ts) acc ts)
def vExp (least : Int) (ts : List Tk) : PV Tree := val (pExp (fu ts) least ts)
def vLoop (least : Int) (n : Tree) (ts : List Tk) : PV Tree := val (pLoop (fu ts) least n ts)
def vOperand (ts : List Tk) : PV Tree := val (pOperand (fu ts) ts)
def vFields (acc : List Tree) (ts : List Tk) : PV (List Tree) := val (pFields (fu ts) acc ts)
def vField (ts : List Tk) : PV Tree := val (pField (fu ts) ts)
def vSuffixed (ts : List Tk) : PV Tree := val (pSuffixed (fu ts) ts)
def vSufL (at_ : Int) (n : Tree) (ts : List Tk) : PV Tree := val (pSufL (fu ts) at_ n ts)
def vExps (ts : List Tk) : PV (List Tree) := val (pExps (fu ts) ts)
def vExpsL (acc : List Tree) (ts : List Tk) : PV (List Tree) := val (pExpsL (fu ts) acc ts)
def vBlock (c : Bool) (ts : List Tk) : PV Tree := val (pBlock (fu ts) c ts)
def vBlockL (c : Bool) (at_ : Int) (acc : List Tree) (ts : List Tk) : PV Tree := val (pBlockL (fu ts) c at_ acc ts)
def vFunction (ts : List Tk) : PV Tree := val (pFunction (fu ts) ts)
def vBody (ts : List Tk) : PV Tree := val (pBody (fu ts) ts)
def vStat (ts : List Tk) : PV Tree := val (pStat (fu ts) ts)
def vBranches (acc : List Tree) (ts : List Tk) : PV (List Tree) := val (pBranches (fu ts) acc ts)
def vFor (at_ : Int) (ts : List Tk) : PV Tree := val (pFor (fu ts) at_ ts)
def vPlain (ts : List Tk) : PV Tree := val (pPlain (fu ts) ts)
def vTargets (acc : List Tree) (e : Tree) (ts : List Tk) : PV (List Tree) := val (pTargets (fu ts) acc e ts)
def vWant (w : ByteArray) (ts : List Tk) : PV Unit := if isH w ts then .ok () ts.tail else .bad (hd ts).2.2.2
def vName (kind : Int) (ts : List Tk) : PV Tree := if (hd ts).1 = 1 then .ok (.mk kind (hd ts).2.1 0 (hd ts).2.2.2 []) ts.tail else .bad (hd ts).2.2.2
section
variable {ts : List Tk} {f : Nat}
theorem pWant_v (w : ByteArray) (ts : List Tk) : pWant w ts = some (vWant w ts) := by unfold pWant vWant; split <;> rfl
theorem pName_v (k : Int) (ts : List Tk) : pName k ts = some (vName k ts) := by unfold pName vName; split <;> rfl
theorem pNamesL_v (acc : List Tree) (hg : Good ts) (hf : 16 * ts.length + 1 ≤ f) : pNamesL f acc ts = some (vNamesL acc ts) := val_up (p := fun f => pNamesL f acc ts) (fun f => le_namesL f acc ts) (tot_namesL _ _ _ hg hf) (tot_namesL _ _ _ hg (by unfold fu; omega))
theorem pExp_v {least : Int} (hl : 0 ≤ least) (hg : Good ts) (hf : 16 * ts.length + 5 ≤ f) : pExp f least ts = some (vExp least ts) := val_up (p := fun f => pExp f least ts) (fun f => (leE f).exp _ _) ((totE _).exp _ _ hl hg hf) ((totE _).exp _ _ hl hg (by unfold fu; omega))
theorem pLoop_v {least : Int} (n : Tree) (hl : 0 ≤ least) (hg : Good ts) (hf : 16 * ts.length + 1 ≤ f) : pLoop f least n ts = some (vLoop least n ts) := val_up (p := fun f => pLoop f least n ts) (fun f => (leE f).loop _ _ _) ((totE _).loop _ _ _ hl hg hf) ((totE _).loop _ _ _ hl hg (by unfold fu; omega))
theorem pOperand_v (hg : Good ts) (hf : 16 * ts.length + 4 ≤ f) : pOperand f ts = some (vOperand ts) := val_up (p := fun f => pOperand f ts) (fun f => (leE f).operand _) ((totE _).operand _ hg hf) ((totE _).operand _ hg (by unfold fu; omega))
theorem pFields_v (acc : List Tree) (hg : Good ts) (hf : 16 * ts.length + 7 ≤ f) : pFields f acc ts = some (vFields acc ts) := val_up (p := fun f => pFields f acc ts) (fun f => (leE f).fields _ _) ((totE _).fields _ _ hg hf) ((totE _).fields _ _ hg (by unfold fu; omega))
theorem pField_v (hg : Good ts) (hf : 16 * ts.length + 6 ≤ f) : pField f ts = some (vField ts) := val_up (p := fun f => pField f ts) (fun f => (leE f).field _) ((totE _).field _ hg hf) ((totE _).field _ hg (by unfold fu; omega))
theorem pSuffixed_v (hg : Good ts) (hf : 16 * ts.length + 3 ≤ f) : pSuffixed f ts = some (vSuffixed ts) := val_up (p := fun f => pSuffixed f ts) (fun f => (leE f).suffixed _) ((totE _).suffixed _ hg hf) ((totE _).suffixed _ hg (by unfold fu; omega))
theorem pSufL_v (at_ : Int) (n : Tree) (hg : Good ts) (hf : 16 * ts.length + 1 ≤ f) : pSufL f at_ n ts = some (vSufL at_ n ts) := val_up (p := fun f => pSufL f at_ n ts) (fun f => (leE f).sufL _ _ _) ((totE _).sufL _ _ _ hg hf) ((totE _).sufL _ _ _ hg (by unfold fu; omega))
theorem pExps_v (hg : Good ts) (hf : 16 * ts.length + 6 ≤ f) : pExps f ts = some (vExps ts) := val_up (p := fun f => pExps f ts) (fun f => (leE f).exps _) ((totE _).exps _ hg hf) ((totE _).exps _ hg (by unfold fu; omega))
theorem pExpsL_v (acc : List Tree) (hg : Good ts) (hf : 16 * ts.length + 1 ≤ f) : pExpsL f acc ts = some (vExpsL acc ts) := val_up (p := fun f => pExpsL f acc ts) (fun f => (leE f).expsL _ _) ((totE _).expsL _ _ hg hf) ((totE _).expsL _ _ hg (by unfold fu; omega))
theorem pBlock_v (c : Bool) (hg : Good ts) (hf : 16 * ts.length + 9 ≤ f) : pBlock f c ts = some (vBlock c ts) := val_up (p := fun f => pBlock f c ts) (fun f => (leS f).block _ _) ((totS _).block _ _ hg hf) ((totS _).block _ _ hg (by unfold fu; omega))
theorem pBlockL_v (c : Bool) (at_ : Int) (acc : List Tree) (hg : Good ts) (hf : 16 * ts.length + 8 ≤ f) : pBlockL f c at_ acc ts = some (vBlockL c at_ acc ts) := val_up (p := fun f => pBlockL f c at_ acc ts) (fun f => (leS f).blockL _ _ _ _) ((totS _).blockL _ _ _ _ hg hf) ((totS _).blockL _ _ _ _ hg (by unfold fu; omega))
theorem pFunction_v (h6 : (hd ts).1 ≠ 6) (hg : Good ts) (hf : 16 * ts.length + 7 ≤ f) : pFunction f ts = some (vFunction ts) := val_up (p := fun f => pFunction f ts) (fun f => (leS f).function _) ((totS _).function _ h6 hg hf) ((totS _).function _ h6 hg (by unfold fu; omega))
theorem pBody_v (hg : Good ts) (hf : 16 * ts.length + 6 ≤ f) : pBody f ts = some (vBody ts) := val_up (p := fun f => pBody f ts) (fun f => (leS f).body _) ((totS _).body _ hg hf) ((totS _).body _ hg (by unfold fu; omega))
theorem pStat_v (hg : Good ts) (hf : 16 * ts.length + 7 ≤ f) : pStat f ts = some (vStat ts) := val_up (p := fun f => pStat f ts) (fun f => (leS f).stat _) ((totS _).stat _ hg hf) ((totS _).stat _ hg (by unfold fu; omega))
theorem pBranches_v (acc : List Tree) (hg : Good ts) (hf : 16 * ts.length + 6 ≤ f) : pBranches f acc ts = some (vBranches acc ts) := val_up (p := fun f => pBranches f acc ts) (fun f => (leS f).branches _ _) ((totS _).branches _ _ hg hf) ((totS _).branches _ _ hg (by unfold fu; omega))
theorem pFor_v (at_ : Int) (hg : Good ts) (hf : 16 * ts.length + 1 ≤ f) : pFor f at_ ts = some (vFor at_ ts) := val_up (p := fun f => pFor f at_ ts) (fun f => (leS f).for_ _ _) ((totS _).for_ _ _ hg hf) ((totS _).for_ _ _ hg (by unfold fu; omega))
theorem pPlain_v (hg : Good ts) (hf : 16 * ts.length + 6 ≤ f) : pPlain f ts = some (vPlain ts) := val_up (p := fun f => pPlain f ts) (fun f => (leS f).plain _) ((totS _).plain _ hg hf) ((totS _).plain _ hg (by unfold fu; omega))
theorem pTargets_v (acc : List Tree) (e : Tree) (hg : Good ts) (hf : 16 * ts.length + 1 ≤ f) : pTargets f acc e ts = some (vTargets acc e ts) := val_up (p := fun f => pTargets f acc e ts) (fun f => (leS f).targets _ _ _) ((totS _).targets _ _ _ hg hf) ((totS _).targets _ _ _ hg (by unfold fu; omega))
theorem fWant (w : ByteArray) (hg : Good ts) : Fwd 1 ts (vWant w ts) := step_want w ts hg _ (pWant_v w ts)
theorem fName (k : Int) (hg : Good ts) : Fwd 1 ts (vName k ts) := step_name k ts hg _ (pName_v k ts)
theorem fNamesL (acc : List Tree) (hg : Good ts) : Fwd 0 ts (vNamesL acc ts) := step_namesL _ _ ts hg _ (pNamesL_v acc hg (by unfold fu; omega : _ ≤ fu ts))
theorem fExp {least : Int} (hl : 0 ≤ least) (hg : Good ts) : Fwd 1 ts (vExp least ts) := (stepE _).exp _ _ hg _ (pExp_v hl hg (by unfold fu; omega : _ ≤ fu ts))
theorem fOperand (hg : Good ts) : Fwd 1 ts (vOperand ts) := (stepE _).operand _ hg _ (pOperand_v hg (by unfold fu; omega : _ ≤ fu ts))
theorem fFields (acc : List Tree) (hg : Good ts) : Fwd 1 ts (vFields acc ts) := (stepE _).fields _ _ hg _ (pFields_v acc hg (by unfold fu; omega : _ ≤ fu ts))
theorem fField (hg : Good ts) : Fwd 1 ts (vField ts) := (stepE _).field _ hg _ (pField_v hg (by unfold fu; omega : _ ≤ fu ts))
theorem fSuffixed (hg : Good ts) : Fwd 1 ts (vSuffixed ts) := (stepE _).suffixed _ hg _ (pSuffixed_v hg (by unfold fu; omega : _ ≤ fu ts))
theorem fExps (hg : Good ts) : Fwd 1 ts (vExps ts) := (stepE _).exps _ hg _ (pExps_v hg (by unfold fu; omega : _ ≤ fu ts))
theorem fBlock (c : Bool) (hg : Good ts) : Fwd 0 ts (vBlock c ts) := (stepS _).block _ _ hg _ (pBlock_v c hg (by unfold fu; omega : _ ≤ fu ts))
theorem fFunction (h6 : (hd ts).1 ≠ 6) (hg : Good ts) : Fwd 1 ts (vFunction ts) := (stepS _).function _ h6 hg _ (pFunction_v h6 hg (by unfold fu; omega : _ ≤ fu ts))
theorem fBody (hg : Good ts) : Fwd 1 ts (vBody ts) := (stepS _).body _ hg _ (pBody_v hg (by unfold fu; omega : _ ≤ fu ts))
theorem fStat (hg : Good ts) : Fwd 1 ts (vStat ts) := (stepS _).stat _ hg _ (pStat_v hg (by unfold fu; omega : _ ≤ fu ts))
theorem fBranches (acc : List Tree) (hg : Good ts) : Fwd 1 ts (vBranches acc ts) := (stepS _).branches _ _ hg _ (pBranches_v acc hg (by unfold fu; omega : _ ≤ fu ts))
theorem fTargets (acc : List Tree) (e : Tree) (hg : Good ts) : Fwd 0 ts (vTargets acc e ts) := (stepS _).targets _ _ _ hg _ (pTargets_v acc e hg (by unfold fu; omega : _ ≤ fu ts))
end
def PV.then {α β : Type} : PV α → (α → List Tk → PV β) → PV β
  | .ok a r, f => f a r
  | .bad i, _ => .bad i
section
variable {α β : Type} {n : Nat} {ts : List Tk}
theorem eq_bind {x : Option (PV α)} {vx : PV α} {f : α → List Tk → Option (PV β)} {g : α → List Tk → PV β} (hx : x = some vx) (hw : Fwd n ts vx) (hf : ∀ a r, Good r → r.length + n ≤ ts.length → f a r = some (g a r)) : PV.bind x f = some (vx.then g) := by
  subst hx
  cases vx with
  | bad i => rfl
  | ok a r => exact hf a r hw.1 hw.2.1
theorem eq_if {c : Prop} [Decidable c] {y z : Option α} {y' z' : α} (h1 : c → y = some y') (h2 : ¬ c → z = some z') : (if c then y else z) = some (if c then y' else z') := by
  by_cases h : c
  · rw [if_pos h, if_pos h]; exact h1 h
  · rw [if_neg h, if_neg h]; exact h2 h
theorem fwd_if {c : Prop} [Decidable c] {y z : PV α} (h1 : c → Fwd n ts y) (h2 : ¬ c → Fwd n ts z) : Fwd n ts (if c then y else z) := by
  by_cases h : c
  · rw [if_pos h]; exact h1 h
  · rw [if_neg h]; exact h2 h
theorem fwd_weak {m : Nat} {x : PV α} (h : Fwd n ts x) (hm : m ≤ n) : Fwd m ts x := by
  cases x with
  | bad => trivial
  | ok a r => exact ⟨h.1, by have := h.2.1; omega, h.2.2⟩
theorem fwd_ok {a : α} (hg : Good ts) : Fwd 0 ts (.ok a ts) := ⟨hg, Nat.le_refl _, List.suffix_refl _⟩
theorem fwd_tail {x : PV α} (hg : Good ts) (h6 : (hd ts).1 ≠ 6) (h : Fwd n ts.tail x) : Fwd (n + 1) ts x := by
  obtain ⟨g1, g2, g3⟩ := hg.tail h6
  cases x with
  | bad => trivial
  | ok a r => exact ⟨h.1, by have := h.2.1; omega, h.2.2.trans g3⟩
theorem fwd_then {m : Nat} {x : PV α} {f : α → List Tk → PV β} (h1 : Fwd n ts x) (h2 : ∀ a r, Good r → r.length + n ≤ ts.length → Fwd m r (f a r)) : Fwd (n + m) ts (x.then f) := by
  cases x with
  | bad => trivial
  | ok a r =>
    obtain ⟨g1, g2, g3⟩ := h1
    have := h2 a r g1 g2
    show Fwd (n + m) ts (f a r)
    cases hf : f a r with
    | bad => trivial
    | ok b s =>
      rw [hf] at this
      exact ⟨this.1, by have := this.2.1; omega, this.2.2.trans g3⟩
end
section
variable {ts : List Tk}
theorem or3 {a b c : Bool} {ts : List Tk} {x y z : ByteArray} (ha : a = isH x ts) (hb : b = isH y ts) (hc : c = isH z ts) (h : (a || b || c) = true) : (hd ts).1 ≠ 6 := by
  subst ha hb hc
  simp only [Bool.or_eq_true] at h
  rcases h with (h | h) | h <;> exact isH_ne h
theorem vNamesL_eq (acc : List Tree) (hg : Good ts) : vNamesL acc ts = if isH kComma ts then (vName 6 ts.tail).then fun n r => vNamesL (acc ++ [n]) r else .ok acc ts := by
  have h := pNamesL_v acc hg (f := fu ts + 1) (by unfold fu; omega)
  rw [pNamesL] at h
  refine Option.some.inj (h.symm.trans (eq_if (fun hc => ?_) fun _ => rfl))
  obtain ⟨g1, g2, _⟩ := hg.tail (isH_ne hc)
  exact eq_bind (pName_v _ _) (fName 6 g1) fun a r hr hn => pNamesL_v _ hr (by unfold fu; omega)
def vNames (ts : List Tk) : PV (List Tree) := (vName 6 ts).then fun n r => vNamesL [n] r
theorem pNames_v {f : Nat} (hg : Good ts) (hf : 16 * ts.length + 1 ≤ f) : pNames f ts = some (vNames ts) := eq_bind (pName_v _ _) (fName 6 hg) fun a r hr hn => pNamesL_v _ hr (by omega)
theorem fNames (hg : Good ts) : Fwd 1 ts (vNames ts) := fwd_then (fName 6 hg) fun _ _ hr _ => fNamesL _ hr
theorem vExp_eq {least : Int} (hl : 0 ≤ least) (hg : Good ts) : vExp least ts = (vOperand ts).then fun n r => vLoop least n r := by
  have h := pExp_v hl hg (f := fu ts + 1) (by unfold fu; omega)
  rw [pExp] at h
  exact Option.some.inj (h.symm.trans (eq_bind (pOperand_v hg (by unfold fu; omega)) (fOperand hg) fun a r hr hn => pLoop_v _ hl hr (by unfold fu; omega)))
theorem vLoop_eq {least : Int} (n : Tree) (hl : 0 ≤ least) (hg : Good ts) : vLoop least n ts = if bindsH ts ≤ least then .ok n ts else (vExp (if bindsH ts = 4 then 3 else bindsH ts) ts.tail).then fun m r => vLoop least (.mk 11 (hd ts).2.1 0 n.at_ [n, m]) r := by
  have h := pLoop_v n hl hg (f := fu ts + 1) (by unfold fu; omega)
  rw [pLoop] at h
  refine Option.some.inj (h.symm.trans (eq_if (fun _ => rfl) fun hb => ?_))
  obtain ⟨g1, g2, _⟩ := hg.tail (bindsH_ne (by omega))
  have hq : (0 : Int) ≤ (if bindsH ts = 4 then 3 else bindsH ts) := by split <;> omega
  exact eq_bind (pExp_v hq g1 (by unfold fu; omega)) (fExp hq g1) fun a r hr hn => pLoop_v _ hl hr (by unfold fu; omega)
theorem vOperand_eq (hg : Good ts) : vOperand ts =
    if (hd ts).1 = 3 then .ok (.mk 4 noB (hd ts).2.2.1 (hd ts).2.2.2 []) ts.tail
    else if (hd ts).1 = 4 then .ok (.mk 5 (hd ts).2.1 0 (hd ts).2.2.2 []) ts.tail
    else if isH kNil ts then .ok (.mk 1 noB 0 (hd ts).2.2.2 []) ts.tail
    else if isH kTrue ts then .ok (.mk 2 noB 0 (hd ts).2.2.2 []) ts.tail
    else if isH kFalse ts then .ok (.mk 3 noB 0 (hd ts).2.2.2 []) ts.tail
    else if isH kNot ts || isH kHash ts || isH kMinus ts then (vExp 7 ts.tail).then fun m r => .ok (.mk 10 (hd ts).2.1 0 (hd ts).2.2.2 [m]) r
    else if isH kLc ts then (vFields [] ts.tail).then fun l r => .ok (.mk 12 noB 0 (hd ts).2.2.2 l) r
    else vSuffixed ts := by
  have h := pOperand_v hg (f := fu ts + 1) (by unfold fu; omega)
  rw [pOperand] at h
  refine Option.some.inj (h.symm.trans (eq_if (fun _ => rfl) fun _ => eq_if (fun _ => rfl) fun _ => eq_if (fun _ => rfl) fun _ => eq_if (fun _ => rfl) fun _ => eq_if (fun _ => rfl) fun _ => eq_if (fun hc => ?_) fun _ => eq_if (fun hc => ?_) fun _ => pSuffixed_v hg (by unfold fu; omega)))
  · obtain ⟨g1, g2, _⟩ := hg.tail (or3 rfl rfl rfl hc)
    exact eq_bind (pExp_v (by omega) g1 (by unfold fu; omega)) (fExp (by omega) g1) fun _ _ _ _ => rfl
  · obtain ⟨g1, g2, _⟩ := hg.tail (isH_ne hc)
    exact eq_bind (pFields_v _ g1 (by unfold fu; omega)) (fFields _ g1) fun _ _ _ _ => rfl
theorem vFields_eq (acc : List Tree) (hg : Good ts) : vFields acc ts =
    if isH kRc ts then .ok acc ts.tail
    else (vField ts).then fun x r =>
      if isH kComma r then vFields (acc ++ [x]) r.tail
      else if isH kSemi r then vFields (acc ++ [x]) r.tail
      else (vWant kRc r).then fun _ r => .ok (acc ++ [x]) r := by
  have h := pFields_v acc hg (f := fu ts + 1) (by unfold fu; omega)
  rw [pFields] at h
  refine Option.some.inj (h.symm.trans (eq_if (fun _ => rfl) fun _ => eq_bind (pField_v hg (by unfold fu; omega)) (fField hg) fun x r hr hn => eq_if (fun hc => ?_) fun _ => eq_if (fun hc => ?_) fun _ => eq_bind (pWant_v _ _) (fWant _ hr) fun _ _ _ _ => rfl))
  · obtain ⟨g1, g2, _⟩ := hr.tail (isH_ne hc)
    exact pFields_v _ g1 (by unfold fu; omega)
  · obtain ⟨g1, g2, _⟩ := hr.tail (isH_ne hc)
    exact pFields_v _ g1 (by unfold fu; omega)
theorem vField_eq (hg : Good ts) : vField ts =
    if isH kLb ts then
      (vExp 0 ts.tail).then fun k r => (vWant kRb r).then fun _ r => (vWant kEq r).then fun _ r => (vExp 0 r).then fun v r => .ok (.mk 14 noB 0 (hd ts).2.2.2 [k, v]) r
    else if (hd ts).1 = 1 ∧ (hd ts.tail).1 = 5 ∧ (hd ts.tail).2.1.toList = kEq.toList then
      (vExp 0 ts.tail.tail).then fun v r => .ok (.mk 14 noB 0 (hd ts).2.2.2 [.mk 5 (hd ts).2.1 0 (hd ts).2.2.2 [], v]) r
    else (vExp 0 ts).then fun v r => .ok (.mk 13 noB 0 (hd ts).2.2.2 [v]) r := by
  have h := pField_v hg (f := fu ts + 1) (by unfold fu; omega)
  rw [pField] at h
  refine Option.some.inj (h.symm.trans (eq_if (fun hc => ?_) fun _ => eq_if (fun hc => ?_) fun _ => eq_bind (pExp_v (by omega) hg (by unfold fu; omega)) (fExp (by omega) hg) fun _ _ _ _ => rfl))
  · obtain ⟨g1, g2, _⟩ := hg.tail (isH_ne hc)
    exact eq_bind (pExp_v (by omega) g1 (by unfold fu; omega)) (fExp (by omega) g1) fun _ r hr hn => eq_bind (pWant_v _ _) (fWant _ hr) fun _ r2 hr2 hn2 => eq_bind (pWant_v _ _) (fWant _ hr2) fun _ r3 hr3 hn3 => eq_bind (pExp_v (by omega) hr3 (by unfold fu; omega)) (fExp (by omega) hr3) fun _ _ _ _ => rfl
  · obtain ⟨h1, h2, _⟩ := hc
    obtain ⟨g1, g2, _⟩ := hg.tail (by omega)
    obtain ⟨g3, g4, _⟩ := g1.tail (by omega)
    exact eq_bind (pExp_v (by omega) g3 (by unfold fu; omega)) (fExp (by omega) g3) fun _ _ _ _ => rfl
theorem vSuffixed_eq (hg : Good ts) : vSuffixed ts =
    if isH kLp ts then (vExp 0 ts.tail).then fun e r => (vWant kRp r).then fun _ r => vSufL (hd ts).2.2.2 (.mk 9 noB 0 (hd ts).2.2.2 [e]) r
    else (vName 6 ts).then fun n r => vSufL (hd ts).2.2.2 n r := by
  have h := pSuffixed_v hg (f := fu ts + 1) (by unfold fu; omega)
  rw [pSuffixed] at h
  refine Option.some.inj (h.symm.trans (eq_if (fun hc => ?_) fun _ => eq_bind (pName_v _ _) (fName _ hg) fun _ r hr hn => pSufL_v _ _ hr (by unfold fu; omega)))
  obtain ⟨g1, g2, _⟩ := hg.tail (isH_ne hc)
  exact eq_bind (pExp_v (by omega) g1 (by unfold fu; omega)) (fExp (by omega) g1) fun _ r hr hn => eq_bind (pWant_v _ _) (fWant _ hr) fun _ r2 hr2 hn2 => pSufL_v _ _ hr2 (by unfold fu; omega)
def vArgs (ts : List Tk) : PV (List Tree) := if isH kRp ts then .ok [] ts else vExps ts
theorem fArgs (hg : Good ts) : Fwd 0 ts (vArgs ts) := fwd_if (fun _ => fwd_ok hg) fun _ => fwd_weak (fExps hg) (by omega)
theorem vSufL_eq (at_ : Int) (n : Tree) (hg : Good ts) : vSufL at_ n ts =
    if isH kLb ts then (vExp 0 ts.tail).then fun e r => (vWant kRb r).then fun _ r => vSufL at_ (.mk 7 noB 0 at_ [n, e]) r
    else if isH kDot ts then (vName 5 ts.tail).then fun e r => vSufL at_ (.mk 7 noB 0 at_ [n, e]) r
    else if isH kLp ts then (vArgs ts.tail).then fun l r => (vWant kRp r).then fun _ r => vSufL at_ (.mk 8 noB 0 at_ (n :: l)) r
    else .ok n ts := by
  have h := pSufL_v at_ n hg (f := fu ts + 1) (by unfold fu; omega)
  rw [pSufL] at h
  refine Option.some.inj (h.symm.trans (eq_if (fun hc => ?_) fun _ => eq_if (fun hc => ?_) fun _ => eq_if (fun hc => ?_) fun _ => rfl))
  · obtain ⟨g1, g2, _⟩ := hg.tail (isH_ne hc)
    exact eq_bind (pExp_v (by omega) g1 (by unfold fu; omega)) (fExp (by omega) g1) fun _ r hr hn => eq_bind (pWant_v _ _) (fWant _ hr) fun _ r2 hr2 hn2 => pSufL_v _ _ hr2 (by unfold fu; omega)
  · obtain ⟨g1, g2, _⟩ := hg.tail (isH_ne hc)
    exact eq_bind (pName_v _ _) (fName _ g1) fun _ r hr hn => pSufL_v _ _ hr (by unfold fu; omega)
  · obtain ⟨g1, g2, _⟩ := hg.tail (isH_ne hc)
    exact eq_bind (eq_if (fun _ => rfl) fun _ => pExps_v g1 (by unfold fu; omega)) (fArgs g1) fun _ r hr hn => eq_bind (pWant_v _ _) (fWant _ hr) fun _ r2 hr2 hn2 => pSufL_v _ _ hr2 (by unfold fu; omega)
theorem vExps_eq (hg : Good ts) : vExps ts = (vExp 0 ts).then fun e r => vExpsL [e] r := by
  have h := pExps_v hg (f := fu ts + 1) (by unfold fu; omega)
  rw [pExps] at h
  exact Option.some.inj (h.symm.trans (eq_bind (pExp_v (by omega) hg (by unfold fu; omega)) (fExp (by omega) hg) fun a r hr hn => pExpsL_v _ hr (by unfold fu; omega)))
theorem vExpsL_eq (acc : List Tree) (hg : Good ts) : vExpsL acc ts = if isH kComma ts then (vExp 0 ts.tail).then fun e r => vExpsL (acc ++ [e]) r else .ok acc ts := by
  have h := pExpsL_v acc hg (f := fu ts + 1) (by unfold fu; omega)
  rw [pExpsL] at h
  refine Option.some.inj (h.symm.trans (eq_if (fun hc => ?_) fun _ => rfl))
  obtain ⟨g1, g2, _⟩ := hg.tail (isH_ne hc)
  exact eq_bind (pExp_v (by omega) g1 (by unfold fu; omega)) (fExp (by omega) g1) fun a r hr hn => pExpsL_v _ hr (by unfold fu; omega)
theorem vBlock_eq (c : Bool) (hg : Good ts) : vBlock c ts = vBlockL c (hd ts).2.2.2 [] ts := by
  have h := pBlock_v c hg (f := fu ts + 1) (by unfold fu; omega)
  rw [pBlock] at h
  exact Option.some.inj (h.symm.trans (pBlockL_v _ _ _ hg (by unfold fu; omega)))
def vRets (ts : List Tk) : PV (List Tree) := if endsH ts || isH kSemi ts then .ok [] ts else vExps ts
theorem fRets (hg : Good ts) : Fwd 0 ts (vRets ts) := fwd_if (fun _ => fwd_ok hg) fun _ => fwd_weak (fExps hg) (by omega)
theorem vBlockL_eq (c : Bool) (at_ : Int) (acc : List Tree) (hg : Good ts) : vBlockL c at_ acc ts =
    if isH kSemi ts then vBlockL c at_ acc ts.tail
    else if isH kReturn ts then (vRets ts.tail).then fun l r => .ok (.mk 20 noB 0 at_ (acc ++ [.mk 30 noB 0 (hd ts).2.2.2 l])) (if isH kSemi r then r.tail else r)
    else if c && isH kFunction ts then (vFunction ts).then fun x r => vBlockL c at_ (acc ++ [x]) r
    else if endsH ts then .ok (.mk 20 noB 0 at_ acc) ts
    else (vStat ts).then fun x r => vBlockL c at_ (acc ++ [x]) r := by
  have h := pBlockL_v c at_ acc hg (f := fu ts + 1) (by unfold fu; omega)
  rw [pBlockL] at h
  refine Option.some.inj (h.symm.trans (eq_if (fun hc => ?_) fun _ => eq_if (fun hc => ?_) fun _ => eq_if (fun hc => ?_) fun _ => eq_if (fun _ => rfl) fun _ => ?_))
  · obtain ⟨g1, g2, _⟩ := hg.tail (isH_ne hc)
    exact pBlockL_v _ _ _ g1 (by unfold fu; omega)
  · obtain ⟨g1, g2, _⟩ := hg.tail (isH_ne hc)
    exact eq_bind (eq_if (fun _ => rfl) fun _ => pExps_v g1 (by unfold fu; omega)) (fRets g1) fun _ r hr hn => rfl
  · simp only [Bool.and_eq_true] at hc
    exact eq_bind (pFunction_v (isH_ne hc.2) hg (by unfold fu; omega)) (fFunction (isH_ne hc.2) hg) fun _ r hr hn => pBlockL_v _ _ _ hr (by unfold fu; omega)
  · exact eq_bind (pStat_v hg (by unfold fu; omega)) (fStat hg) fun _ r hr hn => pBlockL_v _ _ _ hr (by unfold fu; omega)
def vParams (ts : List Tk) : PV (List Tree) := if isH kRp ts then .ok [] ts else vNames ts
theorem fParams (hg : Good ts) : Fwd 0 ts (vParams ts) := fwd_if (fun _ => fwd_ok hg) fun _ => fwd_weak (fNames hg) (by omega)
theorem vFunction_eq (h6 : (hd ts).1 ≠ 6) (hg : Good ts) : vFunction ts =
    (vName 6 ts.tail).then fun nm r => (vWant kLp r).then fun _ r => (vParams r).then fun ps r => (vWant kRp r).then fun _ r => (vBlock false r).then fun b r => (vWant kEnd r).then fun _ r => .ok (.mk 31 nm.text ps.length (hd ts).2.2.2 (ps ++ [b])) r := by
  have h := pFunction_v h6 hg (f := fu ts + 1) (by unfold fu; omega)
  rw [pFunction] at h
  obtain ⟨g1, g2, _⟩ := hg.tail h6
  exact Option.some.inj (h.symm.trans (eq_bind (pName_v _ _) (fName _ g1) fun _ r hr hn => eq_bind (pWant_v _ _) (fWant _ hr) fun _ r2 hr2 hn2 => eq_bind (eq_if (fun _ => rfl) fun _ => pNames_v hr2 (by unfold fu; omega)) (fParams hr2) fun _ r3 hr3 hn3 => eq_bind (pWant_v _ _) (fWant _ hr3) fun _ r4 hr4 hn4 => eq_bind (pBlock_v _ hr4 (by unfold fu; omega)) (fBlock _ hr4) fun _ r5 hr5 hn5 => eq_bind (pWant_v _ _) (fWant _ hr5) fun _ _ _ _ => rfl))
theorem vBody_eq (hg : Good ts) : vBody ts = (vWant kDo ts).then fun _ r => (vBlock false r).then fun b r => (vWant kEnd r).then fun _ r => .ok b r := by
  have h := pBody_v hg (f := fu ts + 1) (by unfold fu; omega)
  rw [pBody] at h
  exact Option.some.inj (h.symm.trans (eq_bind (pWant_v _ _) (fWant _ hg) fun _ r2 hr2 hn2 => eq_bind (pBlock_v _ hr2 (by unfold fu; omega)) (fBlock _ hr2) fun _ r5 hr5 hn5 => eq_bind (pWant_v _ _) (fWant _ hr5) fun _ _ _ _ => rfl))
def vInit (ts : List Tk) : PV (List Tree) := if isH kEq ts then vExps ts.tail else .ok [] ts
theorem fInit (hg : Good ts) : Fwd 0 ts (vInit ts) := fwd_if (fun hc => fwd_weak (fwd_tail hg (isH_ne hc) (fExps (hg.tail (isH_ne hc)).1)) (by omega)) fun _ => fwd_ok hg
theorem vStat_eq (hg : Good ts) : vStat ts =
    if isH kDo ts then (vBody ts).then fun b r => .ok (.mk 28 noB 0 (hd ts).2.2.2 [b]) r
    else if isH kWhile ts then (vExp 0 ts.tail).then fun e r => (vBody r).then fun b r => .ok (.mk 25 noB 0 (hd ts).2.2.2 [e, b]) r
    else if isH kIf ts then (vBranches [] ts.tail).then fun l r => .ok (.mk 24 noB 0 (hd ts).2.2.2 l) r
    else if isH kFor ts then vFor (hd ts).2.2.2 ts.tail
    else if isH kLocal ts then (vNames ts.tail).then fun l r => (vInit r).then fun es r => .ok (.mk 21 noB l.length (hd ts).2.2.2 (l ++ es)) r
    else if isH kBreak ts then .ok (.mk 29 noB 0 (hd ts).2.2.2 []) ts.tail
    else vPlain ts := by
  have h := pStat_v hg (f := fu ts + 1) (by unfold fu; omega)
  rw [pStat] at h
  refine Option.some.inj (h.symm.trans (eq_if (fun hc => ?_) fun _ => eq_if (fun hc => ?_) fun _ => eq_if (fun hc => ?_) fun _ => eq_if (fun hc => ?_) fun _ => eq_if (fun hc => ?_) fun _ => eq_if (fun hc => rfl) fun _ => pPlain_v hg (by unfold fu; omega)))
  · exact eq_bind (pBody_v hg (by unfold fu; omega)) (fBody hg) fun _ _ _ _ => rfl
  · obtain ⟨g1, g2, _⟩ := hg.tail (isH_ne hc)
    exact eq_bind (pExp_v (by omega) g1 (by unfold fu; omega)) (fExp (by omega) g1) fun _ r hr hn => eq_bind (pBody_v hr (by unfold fu; omega)) (fBody hr) fun _ _ _ _ => rfl
  · obtain ⟨g1, g2, _⟩ := hg.tail (isH_ne hc)
    exact eq_bind (pBranches_v _ g1 (by unfold fu; omega)) (fBranches _ g1) fun _ _ _ _ => rfl
  · obtain ⟨g1, g2, _⟩ := hg.tail (isH_ne hc)
    exact pFor_v _ g1 (by unfold fu; omega)
  · obtain ⟨g1, g2, _⟩ := hg.tail (isH_ne hc)
    refine eq_bind (pNames_v g1 (by unfold fu; omega)) (fNames g1) fun _ r hr hn => eq_bind (eq_if (fun hc => ?_) fun _ => rfl) (fInit hr) fun _ _ _ _ => rfl
    obtain ⟨g3, g4, _⟩ := hr.tail (isH_ne hc)
    exact pExps_v g3 (by unfold fu; omega)
theorem vBranches_eq (acc : List Tree) (hg : Good ts) : vBranches acc ts =
    (vExp 0 ts).then fun e r => (vWant kThen r).then fun _ r => (vBlock false r).then fun b r =>
      if isH kElseif r then vBranches (acc ++ [e] ++ [b]) r.tail
      else if isH kElse r then (vBlock false r.tail).then fun c r => (vWant kEnd r).then fun _ r => .ok (acc ++ [e] ++ [b] ++ [c]) r
      else (vWant kEnd r).then fun _ r => .ok (acc ++ [e] ++ [b]) r := by
  have h := pBranches_v acc hg (f := fu ts + 1) (by unfold fu; omega)
  rw [pBranches] at h
  refine Option.some.inj (h.symm.trans (eq_bind (pExp_v (by omega) hg (by unfold fu; omega)) (fExp (by omega) hg) fun _ r hr hn => eq_bind (pWant_v _ _) (fWant _ hr) fun _ r2 hr2 hn2 => eq_bind (pBlock_v _ hr2 (by unfold fu; omega)) (fBlock _ hr2) fun _ r3 hr3 hn3 => eq_if (fun hc => ?_) fun _ => eq_if (fun hc => ?_) fun _ => eq_bind (pWant_v _ _) (fWant _ hr3) fun _ _ _ _ => rfl))
  · obtain ⟨g1, g2, _⟩ := hr3.tail (isH_ne hc)
    exact pBranches_v _ g1 (by unfold fu; omega)
  · obtain ⟨g1, g2, _⟩ := hr3.tail (isH_ne hc)
    exact eq_bind (pBlock_v _ g1 (by unfold fu; omega)) (fBlock _ g1) fun _ r4 hr4 hn4 => eq_bind (pWant_v _ _) (fWant _ hr4) fun _ _ _ _ => rfl
def vStep (ts : List Tk) : PV (List Tree) := if isH kComma ts then (vExp 0 ts.tail).then fun c r => .ok [c] r else .ok [] ts
theorem fStep (hg : Good ts) : Fwd 0 ts (vStep ts) := fwd_if (fun hc => fwd_weak (fwd_tail hg (isH_ne hc) (fwd_then (fExp (by omega) (hg.tail (isH_ne hc)).1) fun _ _ hr _ => fwd_ok hr)) (by omega)) fun _ => fwd_ok hg
theorem vFor_eq (at_ : Int) (hg : Good ts) : vFor at_ ts =
    (vName 6 ts).then fun n r =>
      if isH kEq r then
        (vExp 0 r.tail).then fun a r => (vWant kComma r).then fun _ r => (vExp 0 r).then fun b r => (vStep r).then fun cs r => (vBody r).then fun bd r => .ok (.mk 26 noB 0 at_ ([n] ++ [a] ++ [b] ++ cs ++ [bd])) r
      else
        (vNamesL [n] r).then fun l r => (vWant kIn r).then fun _ r => (vExps r).then fun es r => (vBody r).then fun bd r => .ok (.mk 27 noB l.length at_ (l ++ es ++ [bd])) r := by
  have h := pFor_v at_ hg (f := fu ts + 1) (by unfold fu; omega)
  rw [pFor] at h
  refine Option.some.inj (h.symm.trans (eq_bind (pName_v _ _) (fName _ hg) fun n r hr hn => eq_if (fun hc => ?_) fun _ => ?_))
  · obtain ⟨g1, g2, _⟩ := hr.tail (isH_ne hc)
    refine eq_bind (pExp_v (by omega) g1 (by unfold fu; omega)) (fExp (by omega) g1) fun _ r2 hr2 hn2 => eq_bind (pWant_v _ _) (fWant _ hr2) fun _ r3 hr3 hn3 => eq_bind (pExp_v (by omega) hr3 (by unfold fu; omega)) (fExp (by omega) hr3) fun _ r4 hr4 hn4 => eq_bind (vx := vStep r4) (eq_if (fun hc => ?_) fun _ => rfl) (fStep hr4) fun _ r5 hr5 hn5 => eq_bind (pBody_v hr5 (by unfold fu; omega)) (fBody hr5) fun _ _ _ _ => rfl
    obtain ⟨g3, g4, _⟩ := hr4.tail (isH_ne hc)
    exact eq_bind (pExp_v (by omega) g3 (by unfold fu; omega)) (fExp (by omega) g3) fun _ _ _ _ => rfl
  · exact eq_bind (pNamesL_v _ hr (by unfold fu; omega)) (fNamesL _ hr) fun _ r2 hr2 hn2 => eq_bind (pWant_v _ _) (fWant _ hr2) fun _ r3 hr3 hn3 => eq_bind (pExps_v hr3 (by unfold fu; omega)) (fExps hr3) fun _ r4 hr4 hn4 => eq_bind (pBody_v hr4 (by unfold fu; omega)) (fBody hr4) fun _ _ _ _ => rfl
theorem vPlain_eq (hg : Good ts) : vPlain ts =
    (vSuffixed ts).then fun e r =>
      if isH kEq r || isH kComma r then (vTargets [] e r).then fun l r => (vWant kEq r).then fun _ r => (vExps r).then fun es r => .ok (.mk 22 noB l.length e.at_ (l ++ es)) r
      else if e.kind = 8 then .ok (.mk 23 noB 0 e.at_ [e]) r else .bad (hd r).2.2.2 := by
  have h := pPlain_v hg (f := fu ts + 1) (by unfold fu; omega)
  rw [pPlain] at h
  refine Option.some.inj (h.symm.trans (eq_bind (pSuffixed_v hg (by unfold fu; omega)) (fSuffixed hg) fun e r hr hn => eq_if (fun hc => ?_) fun _ => eq_if (fun _ => rfl) fun _ => rfl))
  exact eq_bind (pTargets_v _ _ hr (by unfold fu; omega)) (fTargets _ _ hr) fun _ r2 hr2 hn2 => eq_bind (pWant_v _ _) (fWant _ hr2) fun _ r3 hr3 hn3 => eq_bind (pExps_v hr3 (by unfold fu; omega)) (fExps hr3) fun _ _ _ _ => rfl
theorem vTargets_eq (acc : List Tree) (e : Tree) (hg : Good ts) : vTargets acc e ts =
    if e.kind = 6 ∨ e.kind = 7 then
      if isH kComma ts then (vSuffixed ts.tail).then fun e' r => vTargets (acc ++ [e]) e' r else .ok (acc ++ [e]) ts
    else .bad e.at_ := by
  have h := pTargets_v acc e hg (f := fu ts + 1) (by unfold fu; omega)
  rw [pTargets] at h
  refine Option.some.inj (h.symm.trans (eq_if (fun _ => eq_if (fun hc => ?_) fun _ => rfl) fun _ => rfl))
  obtain ⟨g1, g2, _⟩ := hg.tail (isH_ne hc)
  exact eq_bind (pSuffixed_v g1 (by unfold fu; omega)) (fSuffixed g1) fun _ r hr hn => pTargets_v _ _ hr (by unfold fu; omega)
end
def vAll (ts : List Tk) : PV Tree := (vBlock true ts).then fun b r => if (hd r).1 = 6 then .ok b r else .bad (hd r).2.2.2
end Go.Proofs.YtcdeodpakbcdeaaGreatDoor
namespace Go.Proofs.YtcdeodpakbcdeaaGreatDoor
open Go Go.RowKit
theorem then_assoc {α β γ : Type} (x : PV α) (f : α → List Tk → PV β) (g : β → List Tk → PV γ) : (x.then f).then g = x.then fun a r => (f a r).then g := by cases x <;> rfl
theorem then_congr {α β : Type} {n : Nat} {ts : List Tk} {x : PV α} (hw : Fwd n ts x) {f g : α → List Tk → PV β} (h : ∀ a r, Good r → r.length + n ≤ ts.length → f a r = g a r) : x.then f = x.then g := by
  cases x with
  | bad => rfl
  | ok a r => exact h a r hw.1 hw.2.1
theorem then_ok {α β : Type} {x : PV α} {f : α → List Tk → PV β} {b : β} {r : List Tk} (h : x.then f = .ok b r) : ∃ a s, x = .ok a s ∧ f a s = .ok b r := by
  cases x with
  | bad => cases h
  | ok a s => exact ⟨a, s, rfl, h⟩
theorem len_namesL : ∀ (n : Nat) (acc : List Tree) (ts : List Tk), ts.length ≤ n → Good ts → ∀ l r, vNamesL acc ts = .ok l r → l.length + r.length ≤ acc.length + ts.length
  | 0, _, [], _, hg, _, _, _ => hg.elim
  | n + 1, acc, ts, hn, hg, l, r, h => by
    rw [vNamesL_eq acc hg] at h
    split at h
    · rename_i hc
      obtain ⟨g1, g2, _⟩ := hg.tail (isH_ne hc)
      obtain ⟨a, s, h1, h2⟩ := then_ok h
      have hf := fName 6 g1
      rw [h1] at hf
      have := len_namesL n (acc ++ [a]) s (by have := hf.2.1; omega) hf.1 l r h2
      have := hf.2.1
      simp only [List.length_append, List.length_cons, List.length_nil] at *
      omega
    · cases h; omega
theorem len_names {ts : List Tk} (hg : Good ts) {l : List Tree} {r : List Tk} (h : vNames ts = .ok l r) : l.length + r.length ≤ ts.length := by
  obtain ⟨a, s, h1, h2⟩ := then_ok h
  have hf := fName 6 hg
  rw [h1] at hf
  have := len_namesL _ [a] s (Nat.le_refl _) hf.1 l r h2
  have := hf.2.1
  simp only [List.length_cons, List.length_nil] at *
  omega
theorem len_expsL : ∀ (n : Nat) (acc : List Tree) (ts : List Tk), ts.length ≤ n → Good ts → ∀ l r, vExpsL acc ts = .ok l r → l.length + r.length ≤ acc.length + ts.length
  | 0, _, [], _, hg, _, _, _ => hg.elim
  | n + 1, acc, ts, hn, hg, l, r, h => by
    rw [vExpsL_eq acc hg] at h
    split at h
    · rename_i hc
      obtain ⟨g1, g2, _⟩ := hg.tail (isH_ne hc)
      obtain ⟨a, s, h1, h2⟩ := then_ok h
      have hf := fExp (least := 0) (by omega) g1
      rw [h1] at hf
      have := len_expsL n (acc ++ [a]) s (by have := hf.2.1; omega) hf.1 l r h2
      have := hf.2.1
      simp only [List.length_append, List.length_cons, List.length_nil] at *
      omega
    · cases h; omega
theorem len_exps {ts : List Tk} (hg : Good ts) {l : List Tree} {r : List Tk} (h : vExps ts = .ok l r) : l.length + r.length ≤ ts.length := by
  rw [vExps_eq hg] at h
  obtain ⟨a, s, h1, h2⟩ := then_ok h
  have hf := fExp (least := 0) (by omega) hg
  rw [h1] at hf
  have := len_expsL _ [a] s (Nat.le_refl _) hf.1 l r h2
  have := hf.2.1
  simp only [List.length_cons, List.length_nil] at *
  omega
end Go.Proofs.YtcdeodpakbcdeaaGreatDoor
namespace Go.Proofs.YtcdeodpakbcdeaaGreatDoor
open Go Go.RowKit
def ix (l ts : List Tk) : Int := (l.length : Int) - (ts.length : Int)
theorem wrap64 (x : Int) (h1 : -9223372036854775808 ≤ x) (h2 : x ≤ 9223372036854775807) : IntKind.i64.wrap x = x := by
  unfold IntKind.wrap; simp [IntKind.bits, IntKind.signed]; omega
section
variable {l ts : List Tk}
theorem drop_ix (hs : ts <:+ l) : l.drop (l.length - ts.length) = ts := by
  obtain ⟨p, rfl⟩ := hs
  simp
theorem idx_hd (hg : Good ts) (hs : ts <:+ l) : lIdx l (ix l ts) = some (hd ts) := by
  have hle := hs.length_le
  unfold lIdx ix
  rw [if_pos (by omega), show ((l.length : Int) - (ts.length : Int)).toNat = l.length - ts.length by omega]
  have := drop_ix hs
  rw [← List.head?_drop, this]
  cases ts with
  | nil => exact hg.elim
  | cons t ts => rfl
theorem ix_tail (hl : l.length ≤ 1000000) (hg : Good ts) (hs : ts <:+ l) (h6 : (hd ts).1 ≠ 6) : IntKind.i64.wrap (ix l ts + 1) = ix l ts.tail := by
  obtain ⟨_, g2, _⟩ := hg.tail h6
  have hle := hs.length_le
  unfold ix
  rw [wrap64 _ (by omega) (by omega)]
  omega
def conv {α β : Type} (l : List Tk) (e : α → Int → β) : PV α → PR β
  | .ok a r => .ok (e a (ix l r))
  | .bad i => .bad i
def eT (n : Tree) (i : Int) : Int × ByteArray × Int × Int × List Tree × Int := (n.kind, n.text, n.n, n.at_, n.kids, i)
def eL (n : List Tree) (i : Int) : List Tree × Int := (n, i)
def eU (_ : Unit) (i : Int) : Int := i
theorem tree_eta (n : Tree) : Tree.mk n.kind n.text n.n n.at_ n.kids = n := by cases n; rfl
theorem conv_bind {α β α' β' : Type} {e : α → Int → α'} {e' : β → Int → β'} {x : PV α} {F : α' → Option (PR β')} {g : α → List Tk → PV β} {n : Nat} (hw : Fwd n ts x) (h : ∀ a r, Good r → r <:+ ts → r.length + n ≤ ts.length → F (e a (ix l r)) = some (conv l e' (g a r))) :
    PR.bind (some (conv l e x)) F = some (conv l e' (x.then g)) := by
  cases x with
  | bad i => rfl
  | ok a r => exact h a r hw.1 hw.2.2 hw.2.1
theorem conv_if {β β' : Type} {e' : β → Int → β'} {c : Prop} [Decidable c] {b : Bool} {x y : Option (PR β')} {x' y' : PV β} (hb : b = decide c) (h1 : c → x = some (conv l e' x')) (h2 : ¬ c → y = some (conv l e' y')) : cond b x y = some (conv l e' (if c then x' else y')) := by
  subst hb
  by_cases h : c
  · rw [if_pos h, decide_eq_true h]; exact h1 h
  · rw [if_neg h, decide_eq_false h]; exact h2 h
theorem beq_dec (a b : Int) : (a == b) = decide (a = b) := by
  by_cases h : a = b
  · rw [decide_eq_true h, beq_iff_eq]; exact h
  · rw [decide_eq_false h, beq_eq_false_iff_ne]; exact h
theorem bool_dec (b : Bool) : b = decide (b = true) := by cases b <;> rfl
variable (k : Nat) (hl : l.length ≤ 1000000) (hg : Good ts) (hs : ts <:+ l)
include hg hs
theorem now_eq : parse_parser_now.f k l (ix l ts) = some (hd ts) := by
  unfold parse_parser_now.f
  rw [idx_hd hg hs]
  rfl
theorem is_eq (w : ByteArray) : parse_parser_is.f k l (ix l ts) w = some (isH w ts) := by
  unfold parse_parser_is.f
  rw [now_eq k hg hs]
  simp only [Option.bind_some, isH, isT]
  cases (hd ts).1 == (2 : Int) <;> cases (hd ts).1 == (5 : Int) <;> rfl
include hl
theorem got_eq (w : ByteArray) : parse_parser_got.f k l (ix l ts) w = some (isH w ts, ix l (if isH w ts then ts.tail else ts)) := by
  unfold parse_parser_got.f
  rw [is_eq k hg hs]
  simp only [Option.bind_some]
  cases h : isH w ts with
  | true => simp only [cond_true, if_true, ix_tail hl hg hs (isH_ne h)]
  | false => rfl
theorem want_eq (w : ByteArray) : parse_parser_want.f k l (ix l ts) w = some (conv l eU (vWant w ts)) := by
  unfold parse_parser_want.f vWant
  rw [got_eq k hl hg hs]
  simp only [Option.bind_some]
  cases h : isH w ts with
  | true => rfl
  | false =>
    simp only [Bool.not_false, cond_true, Bool.false_eq_true, if_false]
    rw [now_eq k hg hs]
    rfl
theorem name_eq : parse_parser_name.f k l (ix l ts) = some (conv l eT (vName 6 ts)) := by
  unfold parse_parser_name.f vName
  rw [now_eq k hg hs]
  simp only [Option.bind_some, joinF]
  by_cases h : (hd ts).1 = 1
  · rw [if_pos h, h, ix_tail hl hg hs (by omega)]
    rfl
  · rw [if_neg h, show ((hd ts).1 != 1) = true by rw [bne_iff_ne]; exact h]
    rfl
omit hl
theorem ends_eq : parse_parser_ends.f k l (ix l ts) = some (endsH ts) := by
  unfold parse_parser_ends.f endsH
  simp only [now_eq k hg hs, is_eq k hg hs, Option.bind_some, kEnd, kElse, kElseif]
  generalize ((hd ts).1 == (6 : Int)) = b1
  generalize isH (⟨#[101, 110, 100]⟩ : ByteArray) ts = b2
  generalize isH (⟨#[101, 108, 115, 101]⟩ : ByteArray) ts = b3
  generalize isH (⟨#[101, 108, 115, 101, 105, 102]⟩ : ByteArray) ts = b4
  cases b1 <;> cases b2 <;> cases b3 <;> cases b4 <;> rfl
end
theorem binds_eq (k : Nat) (ts : List Tk) : parse_binds.f k (hd ts).1 (hd ts).2.1 (hd ts).2.2.1 (hd ts).2.2.2 = some (bindsH ts) := by
  unfold parse_binds.f bindsH isH isT
  simp only [joinF, kOr, kAnd, kLt, kGt, kLe, kGe, kNe, kEqq, kCat, kPlus, kMinus, kStar, kSlash, kPct]
  generalize (hd ts).1 = kd
  generalize (hd ts).2.1.toList = tx
  have hsw : (cond (kd != (5 : Int)) (some (kd != (2 : Int))) (some false) : Option Bool) = some (!(kd == 2 || kd == 5)) := by
    rw [bne, bne]
    cases kd == (5 : Int) <;> cases kd == (2 : Int) <;> rfl
  rw [hsw]
  simp only [Option.bind_some]
  cases (kd == 2 || kd == 5) with
  | false => simp
  | true =>
    simp only [Bool.not_true, cond_false, Bool.true_and]
    generalize (tx == (⟨#[111, 114]⟩ : ByteArray).toList) = b
    cases b with
    | true => rfl
    | false =>
    generalize (tx == (⟨#[97, 110, 100]⟩ : ByteArray).toList) = b
    cases b with
    | true => rfl
    | false =>
    generalize (tx == (⟨#[60]⟩ : ByteArray).toList) = b1
    generalize (tx == (⟨#[62]⟩ : ByteArray).toList) = b2
    generalize (tx == (⟨#[60, 61]⟩ : ByteArray).toList) = b3
    generalize (tx == (⟨#[62, 61]⟩ : ByteArray).toList) = b4
    generalize (tx == (⟨#[126, 61]⟩ : ByteArray).toList) = b5
    generalize (tx == (⟨#[61, 61]⟩ : ByteArray).toList) = b6
    generalize (tx == (⟨#[46, 46]⟩ : ByteArray).toList) = b7
    generalize (tx == (⟨#[43]⟩ : ByteArray).toList) = b8
    generalize (tx == (⟨#[45]⟩ : ByteArray).toList) = b9
    generalize (tx == (⟨#[42]⟩ : ByteArray).toList) = c1
    generalize (tx == (⟨#[47, 47]⟩ : ByteArray).toList) = c2
    generalize (tx == (⟨#[37]⟩ : ByteArray).toList) = c3
    cases b1 with
    | true => rfl
    | false =>
    cases b2 with
    | true => rfl
    | false =>
    cases b3 with
    | true => rfl
    | false =>
    cases b4 with
    | true => rfl
    | false =>
    cases b5 with
    | true => rfl
    | false =>
    cases b6 with
    | true => rfl
    | false =>
    cases b7 with
    | true => rfl
    | false =>
    cases b8 <;> cases b9 <;> cases c1 <;> cases c2 <;> cases c3 <;> rfl
end Go.Proofs.YtcdeodpakbcdeaaGreatDoor
namespace Go.Proofs.YtcdeodpakbcdeaaGreatDoor
open Go Go.RowKit
section
variable {l : List Tk}
theorem lbeq_dec (a b : List UInt8) : (a == b) = decide (a = b) := by
  by_cases h : a = b
  · rw [decide_eq_true h, beq_iff_eq]; exact h
  · rw [decide_eq_false h, beq_eq_false_iff_ne]; exact h
theorem vStr_eq {ts : List Tk} : vName 5 ts = (vName 6 ts).then fun n r => .ok (.mk 5 n.text n.n n.at_ n.kids) r := by
  unfold vName
  split <;> rfl
theorem apd_ok' {α : Type} {b : Nat} {xs ys : List α} (h : (xs.length + ys.length) * b ≤ 140737488355328) : apd b xs ys = some (xs ++ ys) := by
  unfold apd
  rw [decide_eq_true h]
  rfl
variable (hl : l.length ≤ 1000000)
include hl
theorem namesL_eq (J : List Tree → Int → Option (PR (List Tree × Int))) (hJ : ∀ a i, J a i = some (.ok (a, i))) : ∀ (m : Nat) (acc : List Tree) (ts : List Tk), Good ts → ts <:+ l → ts.length < m → acc.length + ts.length ≤ 1000000 →
    parse_parser_names.l0 m l J acc (ix l ts) = some (conv l eL (vNamesL acc ts))
  | 0, _, _, _, _, h, _ => by omega
  | m + 1, acc, ts, hg, hs, hm, ha => by
    rw [parse_parser_names.l0, got_eq m hl hg hs, vNamesL_eq acc hg]
    simp only [Option.bind_some]
    refine conv_if (bool_dec _) (fun hc => ?_) fun hc => ?_
    · simp only [hc, if_true]
      obtain ⟨g1, g2, g3⟩ := hg.tail (isH_ne hc)
      rw [name_eq m hl g1 (g3.trans hs)]
      refine conv_bind (fName 6 g1) fun n r hr hrs hn => ?_
      simp only [eT, tree_eta]
      rw [apd_ok' (by simp only [List.length_cons, List.length_nil]; omega)]
      simp only [Option.bind_some]
      exact namesL_eq J hJ m _ r hr (hrs.trans (g3.trans hs)) (by omega) (by simp only [List.length_append, List.length_cons, List.length_nil]; omega)
    · simp only [if_neg hc, hJ]
      rfl
theorem names_eqA (k : Nat) {ts : List Tk} (hg : Good ts) (hs : ts <:+ l) (hk : ts.length ≤ k) : parse_parser_names.f k l (ix l ts) = some (conv l eL (vNames ts)) := by
  unfold parse_parser_names.f vNames
  rw [name_eq k hl hg hs]
  refine conv_bind (fName 6 hg) fun n r hr hrs hn => ?_
  simp only [joinF, eT, tree_eta]
  have := hrs.length_le
  have := hs.length_le
  exact namesL_eq hl _ (fun _ _ => rfl) k _ r hr (hrs.trans hs) (by omega) (by simp only [List.length_cons, List.length_nil]; omega)
end
structure AE (l : List Tk) (k : Nat) : Prop where
  exp : ∀ least ts, 0 ≤ least → Good ts → ts <:+ l → 16 * ts.length + 5 ≤ k → (PE.at k).parse_parser_exp l (ix l ts) least = some (conv l eT (vExp least ts))
  operand : ∀ ts, Good ts → ts <:+ l → 16 * ts.length + 4 ≤ k → (PE.at k).parse_parser_operand l (ix l ts) = some (conv l eT (vOperand ts))
  suffixed : ∀ ts, Good ts → ts <:+ l → 16 * ts.length + 3 ≤ k → (PE.at k).parse_parser_suffixed l (ix l ts) = some (conv l eT (vSuffixed ts))
  fields : ∀ ts, Good ts → ts <:+ l → 16 * ts.length + 7 ≤ k → (PE.at k).parse_parser_fields l (ix l ts) = some (conv l eL (vFields [] ts))
  field : ∀ ts, Good ts → ts <:+ l → 16 * ts.length + 6 ≤ k → (PE.at k).parse_parser_field l (ix l ts) = some (conv l eT (vField ts))
  exps : ∀ ts, Good ts → ts <:+ l → 16 * ts.length + 6 ≤ k → (PE.at k).parse_parser_exps l (ix l ts) = some (conv l eL (vExps ts))
section
variable {l : List Tk} (hl : l.length ≤ 1000000) {k : Nat} (ih : AE l k)
include hl ih
theorem loop_eq (least : Int) (h0 : 0 ≤ least) (r2 : Int × ByteArray × Int × Int × List Tree × Int) : ∀ (m : Nat) (n : Tree) (ts : List Tk), n.at_ = r2.2.2.2.1 → Good ts → ts <:+ l → ts.length < m → 16 * ts.length ≤ k →
    parse_parser_exp.l0 m (PE.at k) l least r2 n.kind n.text n.n n.kids (ix l ts) = some (conv l eT (vLoop least n ts))
  | 0, _, _, _, _, _, h, _ => by omega
  | m + 1, n, ts, hn, hg, hs, hm, hk => by
    rw [parse_parser_exp.l0, now_eq m hg hs, vLoop_eq n h0 hg]
    simp only [Option.bind_some, binds_eq]
    refine conv_if rfl (fun hc => ?_) fun hc => ?_
    · rw [← hn]; rfl
    · obtain ⟨g1, g2, g3⟩ := hg.tail (bindsH_ne (by omega))
      have hb := bindsH_range ts
      simp only [joinF]
      rw [ix_tail hl hg hs (bindsH_ne (by omega)), wrap64 (bindsH ts - 1) (by omega) (by omega)]
      have hq : (0 : Int) ≤ (if bindsH ts = 4 then 3 else bindsH ts) := by split <;> omega
      have key : ∀ q : Int, q = (if bindsH ts = 4 then 3 else bindsH ts) → PR.bind ((PE.at k).parse_parser_exp l (ix l ts.tail) q) (fun r25 => parse_parser_exp.l0 m (PE.at k) l least r2 (11 : Int) (hd ts).2.1 (0 : Int) ([(Tree.mk n.kind n.text n.n r2.2.2.2.1 n.kids), (Tree.mk r25.1 r25.2.1 r25.2.2.1 r25.2.2.2.1 r25.2.2.2.2.1)]) r25.2.2.2.2.2) = some (conv l eT ((vExp (if bindsH ts = 4 then 3 else bindsH ts) ts.tail).then fun m r => vLoop least (.mk 11 (hd ts).2.1 0 n.at_ [n, m]) r)) := by
        intro q hqe
        subst hqe
        rw [ih.exp _ _ hq g1 (g3.trans hs) (by omega)]
        refine conv_bind (fExp hq g1) fun x r hr hrs hrn => ?_
        simp only [eT, tree_eta]
        rw [← hn, tree_eta]
        exact loop_eq least h0 r2 m (.mk 11 (hd ts).2.1 0 n.at_ [n, x]) r hn hr (hrs.trans (g3.trans hs)) (by omega) (by omega)
      by_cases h4 : bindsH ts = 4
      · rw [show (bindsH ts == (4 : Int)) = true by rw [beq_iff_eq]; exact h4]
        exact key _ (by rw [if_pos h4, h4]; rfl)
      · rw [show (bindsH ts == (4 : Int)) = false by rw [beq_eq_false_iff_ne]; exact h4]
        exact key _ (by rw [if_neg h4])
theorem exp_eq (least : Int) (h0 : 0 ≤ least) {ts : List Tk} (hg : Good ts) (hs : ts <:+ l) (hk : 16 * ts.length + 4 ≤ k) : parse_parser_exp.g (PE.at k) k l (ix l ts) least = some (conv l eT (vExp least ts)) := by
  unfold parse_parser_exp.g
  rw [ih.operand ts hg hs hk, vExp_eq h0 hg]
  refine conv_bind (fOperand hg) fun n r hr hrs hn => ?_
  exact loop_eq hl ih least h0 (eT n (ix l r)) k n r rfl hr (hrs.trans hs) (by omega) (by omega)
theorem operand_eq {ts : List Tk} (hg : Good ts) (hs : ts <:+ l) (hk : 16 * ts.length + 3 ≤ k) : parse_parser_operand.g (PE.at k) k l (ix l ts) = some (conv l eT (vOperand ts)) := by
  unfold parse_parser_operand.g
  rw [now_eq k hg hs, vOperand_eq hg]
  simp only [Option.bind_some, joinF, is_eq k hg hs, got_eq k hl hg hs]
  refine conv_if (beq_dec _ _) (fun hc => ?_) fun h3 => ?_
  · rw [ix_tail hl hg hs (by omega)]; rfl
  refine conv_if (beq_dec _ _) (fun hc => ?_) fun h4 => ?_
  · rw [ix_tail hl hg hs (by omega)]; rfl
  refine conv_if (bool_dec _) (fun hc => ?_) fun h5 => ?_
  · rw [ix_tail hl hg hs (isH_ne hc)]; rfl
  refine conv_if (bool_dec _) (fun hc => ?_) fun h6 => ?_
  · rw [ix_tail hl hg hs (isH_ne hc)]; rfl
  refine conv_if (bool_dec _) (fun hc => ?_) fun h7 => ?_
  · rw [ix_tail hl hg hs (isH_ne hc)]; rfl
  have hun : ∀ (h8 : (isH kNot ts || isH kHash ts || isH kMinus ts) = true), PR.bind ((PE.at k).parse_parser_exp l (ix l ts.tail) (7 : Int)) (fun r21 => some (PR.ok ((10 : Int), (hd ts).2.1, (0 : Int), (hd ts).2.2.2, [(Tree.mk r21.1 r21.2.1 r21.2.2.1 r21.2.2.2.1 r21.2.2.2.2.1)], r21.2.2.2.2.2))) = some (conv l eT ((vExp 7 ts.tail).then fun m r => .ok (.mk 10 (hd ts).2.1 0 (hd ts).2.2.2 [m]) r)) := fun h8 => by
    obtain ⟨g1, g2, g3⟩ := hg.tail (or3 rfl rfl rfl h8)
    rw [ih.exp 7 _ (by omega) g1 (g3.trans hs) (by omega)]
    refine conv_bind (fExp (by omega) g1) fun x r hr hrs hn => ?_
    simp only [eT, tree_eta]
    rfl
  cases hA : isH kNot ts with
  | true =>
    have h8 : (isH kNot ts || isH kHash ts || isH kMinus ts) = true := by rw [hA]; rfl
    rw [hA] at h8
    simp only [cond_true, if_true, h8]
    exact hun (by rw [hA]; rfl)
  | false =>
  simp only [Bool.false_eq_true, if_false, cond_false, Bool.false_or, got_eq k hl hg hs, Option.bind_some]
  cases hB : isH kHash ts with
  | true =>
    simp only [cond_true, if_true, Bool.true_or]
    exact hun (by rw [hB]; simp)
  | false =>
  simp only [Bool.false_eq_true, if_false, cond_false, Bool.false_or, got_eq k hl hg hs, Option.bind_some]
  cases hC : isH kMinus ts with
  | true =>
    simp only [cond_true, if_true]
    exact hun (by rw [hC]; simp)
  | false =>
  simp only [Bool.false_eq_true, if_false, cond_false, got_eq k hl hg hs, Option.bind_some]
  refine conv_if (bool_dec _) (fun hc => ?_) fun h9 => ?_
  · simp only [hc, if_true]
    obtain ⟨g1, g2, g3⟩ := hg.tail (isH_ne hc)
    rw [ih.fields _ g1 (g3.trans hs) (by omega)]
    refine conv_bind (fFields _ g1) fun x r hr hrs hn => ?_
    rfl
  · simp only [if_neg h9]
    rw [ih.suffixed _ hg hs (by omega)]
    have := conv_bind (e' := eT) (F := fun r38 : Int × ByteArray × Int × Int × List Tree × Int => some (PR.ok (r38.1, r38.2.1, r38.2.2.1, r38.2.2.2.1, r38.2.2.2.2.1, r38.2.2.2.2.2))) (g := fun n r => .ok n r) (l := l) (fSuffixed hg) (e := eT) (fun n r _ _ _ => rfl)
    rw [this]
    cases vSuffixed ts <;> rfl
theorem expsL_eq (J : List Tree → Int → Option (PR (List Tree × Int))) (hJ : ∀ a i, J a i = some (.ok (a, i))) : ∀ (m : Nat) (acc : List Tree) (ts : List Tk), Good ts → ts <:+ l → ts.length < m → acc.length + ts.length ≤ 1000000 → 16 * ts.length ≤ k →
    parse_parser_exps.l0 m (PE.at k) l J acc (ix l ts) = some (conv l eL (vExpsL acc ts))
  | 0, _, _, _, _, h, _, _ => by omega
  | m + 1, acc, ts, hg, hs, hm, ha, hk => by
    rw [parse_parser_exps.l0, got_eq m hl hg hs, vExpsL_eq acc hg]
    simp only [Option.bind_some]
    refine conv_if (bool_dec _) (fun hc => ?_) fun hc => ?_
    · simp only [hc, if_true]
      obtain ⟨g1, g2, g3⟩ := hg.tail (isH_ne hc)
      rw [ih.exp 0 _ (by omega) g1 (g3.trans hs) (by omega)]
      refine conv_bind (fExp (by omega) g1) fun n r hr hrs hn => ?_
      simp only [eT, tree_eta]
      rw [apd_ok' (by simp only [List.length_cons, List.length_nil]; omega)]
      simp only [Option.bind_some]
      exact expsL_eq J hJ m _ r hr (hrs.trans (g3.trans hs)) (by omega) (by simp only [List.length_append, List.length_cons, List.length_nil]; omega) (by omega)
    · simp only [if_neg hc, hJ]
      rfl
theorem exps_eq {ts : List Tk} (hg : Good ts) (hs : ts <:+ l) (hk : 16 * ts.length + 5 ≤ k) : parse_parser_exps.g (PE.at k) k l (ix l ts) = some (conv l eL (vExps ts)) := by
  unfold parse_parser_exps.g
  rw [ih.exp 0 ts (by omega) hg hs hk, vExps_eq hg]
  refine conv_bind (fExp (by omega) hg) fun n r hr hrs hn => ?_
  simp only [joinF, eT, tree_eta]
  have := hs.length_le
  exact expsL_eq hl ih _ (fun _ _ => rfl) k _ r hr (hrs.trans hs) (by omega) (by simp only [List.length_cons, List.length_nil]; omega) (by omega)
theorem fieldsL_eq (J : List Tree → Int → Option (PR (List Tree × Int))) (hJ : ∀ a r, Good r → r <:+ l → J a (ix l r) = some (conv l eL ((vWant kRc r).then fun _ r => .ok a r))) : ∀ (m : Nat) (acc : List Tree) (ts : List Tk), Good ts → ts <:+ l → ts.length < m → acc.length + ts.length ≤ 1000000 → 16 * ts.length + 6 ≤ k →
    parse_parser_fields.l0 m (PE.at k) l J acc (ix l ts) = some (conv l eL (vFields acc ts))
  | 0, _, _, _, _, h, _, _ => by omega
  | m + 1, acc, ts, hg, hs, hm, ha, hk => by
    rw [parse_parser_fields.l0, is_eq m hg hs, vFields_eq acc hg]
    simp only [Option.bind_some]
    by_cases hR : isH kRc ts = true
    · rw [if_pos hR, show isH (⟨#[125]⟩ : ByteArray) ts = true from hR]
      simp only [Bool.not_true, cond_false]
      rw [hJ acc ts hg hs]
      unfold vWant
      rw [if_pos hR]
      rfl
    · rw [if_neg hR, show isH (⟨#[125]⟩ : ByteArray) ts = false from by simpa using hR]
      simp only [Bool.not_false, cond_true]
      rw [ih.field ts hg hs hk]
      refine conv_bind (fField hg) fun x r hr hrs hn => ?_
      simp only [eT, tree_eta]
      rw [apd_ok' (by simp only [List.length_cons, List.length_nil]; omega)]
      have hrl := hrs.trans hs
      simp only [Option.bind_some, joinF, got_eq m hl hr hrl]
      have more : ∀ {w : ByteArray}, isH w r = true → parse_parser_fields.l0 m (PE.at k) l J (acc ++ [x]) (ix l r.tail) = some (conv l eL (vFields (acc ++ [x]) r.tail)) := fun hc => by
        obtain ⟨g1, g2, g3⟩ := hr.tail (isH_ne hc)
        exact fieldsL_eq J hJ m _ _ g1 (g3.trans hrl) (by omega) (by simp only [List.length_append, List.length_cons, List.length_nil]; omega) (by omega)
      by_cases hc : isH kComma r = true
      · rw [if_pos hc, show isH (⟨#[44]⟩ : ByteArray) r = true from hc]
        simp only [Bool.not_true, cond_false, if_true]
        exact more hc
      · rw [if_neg hc, show isH (⟨#[44]⟩ : ByteArray) r = false from by simpa using hc]
        simp only [Bool.not_false, cond_true, Bool.false_eq_true, if_false, got_eq m hl hr hrl, Option.bind_some]
        by_cases hd : isH kSemi r = true
        · rw [if_pos hd, show isH (⟨#[59]⟩ : ByteArray) r = true from hd]
          simp only [Bool.not_true, cond_false, if_true]
          exact more hd
        · rw [if_neg hd, show isH (⟨#[59]⟩ : ByteArray) r = false from by simpa using hd]
          simp only [Bool.not_false, cond_true, Bool.false_eq_true, if_false]
          exact hJ _ _ hr hrl
theorem fields_eq {ts : List Tk} (hg : Good ts) (hs : ts <:+ l) (hk : 16 * ts.length + 6 ≤ k) : parse_parser_fields.g (PE.at k) k l (ix l ts) = some (conv l eL (vFields [] ts)) := by
  unfold parse_parser_fields.g
  simp only [joinF]
  have := hs.length_le
  refine fieldsL_eq hl ih _ (fun a r hr hrs => ?_) k [] ts hg hs (by omega) (by simp only [List.length_nil]; omega) hk
  rw [want_eq k hl hr hrs]
  exact conv_bind (fWant _ hr) fun _ r2 hr2 _ _ => rfl
theorem field_eq {ts : List Tk} (hg : Good ts) (hs : ts <:+ l) (hk : 16 * ts.length + 5 ≤ k) : parse_parser_field.g (PE.at k) k l (ix l ts) = some (conv l eT (vField ts)) := by
  unfold parse_parser_field.g
  rw [now_eq k hg hs, vField_eq hg]
  simp only [Option.bind_some, joinF, got_eq k hl hg hs]
  refine conv_if (bool_dec _) (fun hc => ?_) fun h1 => ?_
  · simp only [hc, if_true]
    obtain ⟨g1, g2, g3⟩ := hg.tail (isH_ne hc)
    rw [ih.exp 0 _ (by omega) g1 (g3.trans hs) (by omega)]
    refine conv_bind (fExp (by omega) g1) fun x r hr hrs hn => ?_
    simp only [eT, tree_eta]
    have h1 := hrs.trans (g3.trans hs)
    rw [want_eq k hl hr h1]
    refine conv_bind (fWant _ hr) fun _ r2 hr2 hrs2 hn2 => ?_
    simp only [eU]
    rw [want_eq k hl hr2 (hrs2.trans h1)]
    refine conv_bind (fWant _ hr2) fun _ r3 hr3 hrs3 hn3 => ?_
    simp only [eU]
    rw [ih.exp 0 _ (by omega) hr3 (hrs3.trans (hrs2.trans h1)) (by omega)]
    refine conv_bind (fExp (by omega) hr3) fun y r4 hr4 hrs4 hn4 => ?_
    simp only [eT, tree_eta]
    rw [apd_ok' (by simp)]
    rfl
  simp only [if_neg h1]
  have hq : ((cond ((hd ts).1 == (1 : Int)) ((lIdx l (IntKind.i64.wrap (ix l ts + (1 : Int)))).bind fun x57 => cond (x57.1 == (5 : Int)) ((lIdx l (IntKind.i64.wrap (ix l ts + (1 : Int)))).bind fun x65 => some (x65.2.1.toList == (⟨#[61]⟩ : ByteArray).toList)) (some false)) (some false)) : Option Bool) = some (decide ((hd ts).1 = 1 ∧ (hd ts.tail).1 = 5 ∧ (hd ts.tail).2.1.toList = kEq.toList)) := by
    by_cases h : (hd ts).1 = 1
    · obtain ⟨g1, g2, g3⟩ := hg.tail (by omega)
      rw [ix_tail hl hg hs (by omega), idx_hd g1 (g3.trans hs), h]
      simp only [beq_self_eq_true, cond_true, Option.bind_some, true_and]
      by_cases h5 : (hd ts.tail).1 = 5
      · rw [h5]
        simp only [beq_self_eq_true, cond_true, true_and]
        exact congrArg some (lbeq_dec _ _)
      · rw [show ((hd ts.tail).1 == (5 : Int)) = false by rw [beq_eq_false_iff_ne]; exact h5]
        simp [h5]
    · rw [show ((hd ts).1 == (1 : Int)) = false by rw [beq_eq_false_iff_ne]; exact h]
      simp [h]
  rw [hq]
  simp only [Option.bind_some]
  refine conv_if rfl (fun hc => ?_) fun h2 => ?_
  · obtain ⟨h1, h5, he⟩ := hc
    obtain ⟨g1, g2, g3⟩ := hg.tail (by omega)
    obtain ⟨g4, g5, g6⟩ := g1.tail (by omega)
    rw [name_eq k hl hg hs]
    unfold vName
    rw [if_pos h1]
    simp only [conv, PR.bind, eT, Tree.kind, Tree.text, Tree.n, Tree.at_, Tree.kids]
    have hE : isH kEq ts.tail = true := by unfold isH isT; rw [h5, he]; simp
    rw [want_eq k hl g1 (g3.trans hs)]
    unfold vWant
    rw [if_pos hE]
    simp only [conv, eU]
    rw [ih.exp 0 _ (by omega) g4 (g6.trans (g3.trans hs)) (by omega)]
    have := conv_bind (l := l) (e := eT) (e' := eT) (x := vExp 0 ts.tail.tail) (F := fun r13 => (apd 64 [Tree.mk 5 (hd ts).2.1 0 (hd ts).2.2.2 []] [(Tree.mk r13.1 r13.2.1 r13.2.2.1 r13.2.2.2.1 r13.2.2.2.2.1)]).bind fun l22 => some (PR.ok ((14 : Int), (⟨#[]⟩ : ByteArray), (0 : Int), (hd ts).2.2.2, l22, r13.2.2.2.2.2))) (g := fun v r => .ok (.mk 14 noB 0 (hd ts).2.2.2 [.mk 5 (hd ts).2.1 0 (hd ts).2.2.2 [], v]) r) (fExp (by omega) g4) (fun y r4 hr4 hrs4 hn4 => by
      simp only [eT, tree_eta]
      rw [apd_ok' (by simp)]
      rfl)
    exact this
  · rw [ih.exp 0 _ (by omega) hg hs (by omega)]
    refine conv_bind (fExp (by omega) hg) fun y r4 hr4 hrs4 hn4 => ?_
    simp only [eT, tree_eta]
    rw [apd_ok' (by simp)]
    rfl
theorem sufL_eq (r2 : Tk) : ∀ (m : Nat) (n : Tree) (ts : List Tk), Good ts → ts <:+ l → ts.length < m → 16 * ts.length ≤ k →
    parse_parser_suffixed.l0 m (PE.at k) l r2 n.kind n.text n.n n.at_ n.kids (ix l ts) = some (conv l eT (vSufL r2.2.2.2 n ts))
  | 0, _, _, _, _, h, _ => by omega
  | m + 1, n, ts, hg, hs, hm, hk => by
    rw [parse_parser_suffixed.l0, got_eq m hl hg hs, vSufL_eq _ n hg]
    simp only [Option.bind_some, tree_eta]
    refine conv_if (bool_dec _) (fun hc => ?_) fun h1 => ?_
    · simp only [hc, if_true]
      obtain ⟨g1, g2, g3⟩ := hg.tail (isH_ne hc)
      rw [ih.exp 0 _ (by omega) g1 (g3.trans hs) (by omega)]
      refine conv_bind (fExp (by omega) g1) fun x r hr hrs hn => ?_
      simp only [eT, tree_eta]
      have hrl := hrs.trans (g3.trans hs)
      rw [want_eq m hl hr hrl]
      refine conv_bind (fWant _ hr) fun _ r2' hr2 hrs2 hn2 => ?_
      exact sufL_eq r2 m (.mk 7 noB 0 r2.2.2.2 [n, x]) r2' hr2 (hrs2.trans hrl) (by omega) (by omega)
    simp only [if_neg h1, got_eq m hl hg hs, Option.bind_some]
    refine conv_if (bool_dec _) (fun hc => ?_) fun h2 => ?_
    · simp only [hc, if_true]
      obtain ⟨g1, g2, g3⟩ := hg.tail (isH_ne hc)
      rw [name_eq m hl g1 (g3.trans hs), vStr_eq, then_assoc]
      refine conv_bind (fName 6 g1) fun x r hr hrs hn => ?_
      exact sufL_eq r2 m (.mk 7 noB 0 r2.2.2.2 [n, .mk 5 x.text x.n x.at_ x.kids]) r hr (hrs.trans (g3.trans hs)) (by omega) (by omega)
    simp only [if_neg h2, got_eq m hl hg hs, Option.bind_some]
    refine conv_if (bool_dec _) (fun hc => ?_) fun h3 => ?_
    · simp only [hc, if_true]
      obtain ⟨g1, g2, g3⟩ := hg.tail (isH_ne hc)
      have gs := g3.trans hs
      have hlen := hs.length_le
      simp only [joinF, is_eq m g1 gs, Option.bind_some]
      unfold vArgs
      have tl : ∀ (xs : List Tree) (r : List Tk), Good r → r <:+ l → r.length ≤ ts.tail.length → PR.bind (parse_parser_want.f m l (ix l r) (⟨#[41]⟩ : ByteArray)) (fun r63 => parse_parser_suffixed.l0 m (PE.at k) l r2 (8 : Int) (⟨#[]⟩ : ByteArray) (0 : Int) r2.2.2.2 (n :: xs) r63) = some (conv l eT ((vWant kRp r).then fun _ r => vSufL r2.2.2.2 (.mk 8 noB 0 r2.2.2.2 (n :: xs)) r)) := fun xs r hr hrl hn => by
        rw [want_eq m hl hr hrl]
        refine conv_bind (fWant _ hr) fun _ r2' hr2 hrs2 hn2 => ?_
        exact sufL_eq r2 m (.mk 8 noB 0 r2.2.2.2 (n :: xs)) r2' hr2 (hrs2.trans hrl) (by omega) (by omega)
      by_cases hR : isH kRp ts.tail = true
      · rw [if_pos hR, show isH (⟨#[41]⟩ : ByteArray) ts.tail = true from hR]
        exact tl [] _ g1 gs (Nat.le_refl _)
      · rw [if_neg hR, show isH (⟨#[41]⟩ : ByteArray) ts.tail = false from by simpa using hR]
        simp only [Bool.not_false, cond_true]
        rw [ih.exps _ g1 gs (by omega)]
        cases hv : vExps ts.tail with
        | bad i => rfl
        | ok xs r =>
          have hf := fExps g1
          rw [hv] at hf
          have hxl := len_exps g1 hv
          show (apd 64 [n] xs).bind _ = _
          rw [apd_ok' (by simp only [List.length_cons, List.length_nil]; omega)]
          exact tl xs r hf.1 (hf.2.2.trans gs) (by have := hf.2.1; omega)
    · simp only [if_neg h3]
      rfl
theorem suffixed_eq {ts : List Tk} (hg : Good ts) (hs : ts <:+ l) (hk : 16 * ts.length + 2 ≤ k) : parse_parser_suffixed.g (PE.at k) k l (ix l ts) = some (conv l eT (vSuffixed ts)) := by
  unfold parse_parser_suffixed.g
  rw [now_eq k hg hs, vSuffixed_eq hg]
  simp only [Option.bind_some, joinF, got_eq k hl hg hs]
  refine conv_if (bool_dec _) (fun hc => ?_) fun h1 => ?_
  · simp only [hc, if_true]
    obtain ⟨g1, g2, g3⟩ := hg.tail (isH_ne hc)
    rw [ih.exp 0 _ (by omega) g1 (g3.trans hs) (by omega)]
    refine conv_bind (fExp (by omega) g1) fun x r hr hrs hn => ?_
    simp only [eT, tree_eta]
    have hrl := hrs.trans (g3.trans hs)
    rw [want_eq k hl hr hrl]
    refine conv_bind (fWant _ hr) fun _ r2' hr2 hrs2 hn2 => ?_
    exact sufL_eq hl ih (hd ts) k (.mk 9 noB 0 (hd ts).2.2.2 [x]) r2' hr2 (hrs2.trans hrl) (by omega) (by omega)
  · simp only [if_neg h1]
    rw [name_eq k hl hg hs]
    refine conv_bind (fName 6 hg) fun n r hr hrs hn => ?_
    exact sufL_eq hl ih (hd ts) k n r hr (hrs.trans hs) (by omega) (by omega)
end
theorem aE {l : List Tk} (hl : l.length ≤ 1000000) : ∀ k, AE l k
  | 0 => by constructor <;> intros <;> omega
  | k + 1 => by
    have ih := aE hl k
    exact ⟨fun least ts h0 hg hs h => exp_eq hl ih least h0 hg hs (by omega), fun ts hg hs h => operand_eq hl ih hg hs (by omega), fun ts hg hs h => suffixed_eq hl ih hg hs (by omega), fun ts hg hs h => fields_eq hl ih hg hs (by omega), fun ts hg hs h => field_eq hl ih hg hs (by omega), fun ts hg hs h => exps_eq hl ih hg hs (by omega)⟩
end Go.Proofs.YtcdeodpakbcdeaaGreatDoor
namespace Go.Proofs.YtcdeodpakbcdeaaGreatDoor
open Go Go.RowKit
theorem vNamesL_pre (pre : List Tree) : ∀ (n : Nat) (acc : List Tree) (ts : List Tk), ts.length ≤ n → Good ts → vNamesL (pre ++ acc) ts = (vNamesL acc ts).then fun xs r => .ok (pre ++ xs) r
  | 0, _, [], _, hg => hg.elim
  | n + 1, acc, ts, hn, hg => by
    rw [vNamesL_eq _ hg, vNamesL_eq acc hg]
    by_cases hc : isH kComma ts = true
    · rw [if_pos hc, if_pos hc, then_assoc]
      obtain ⟨g1, g2, g3⟩ := hg.tail (isH_ne hc)
      refine then_congr (fName 6 g1) fun x r hr hl => ?_
      rw [List.append_assoc]
      exact vNamesL_pre pre n _ r (by omega) hr
    · rw [if_neg hc, if_neg hc]; rfl
structure AS (l : List Tk) (k : Nat) : Prop where
  block : ∀ c ts, Good ts → ts <:+ l → 16 * ts.length + 9 ≤ k → (PS.at k).parse_parser_block l (ix l ts) c = some (conv l eT (vBlock c ts))
  function : ∀ ts, isH kFunction ts = true → Good ts → ts <:+ l → 16 * ts.length + 7 ≤ k → (PS.at k).parse_parser_function l (ix l ts) = some (conv l eT (vFunction ts))
  stat : ∀ ts, Good ts → ts <:+ l → 16 * ts.length + 7 ≤ k → (PS.at k).parse_parser_stat l (ix l ts) = some (conv l eT (vStat ts))
  branches : ∀ ts, Good ts → ts <:+ l → 16 * ts.length + 6 ≤ k → (PS.at k).parse_parser_branches l (ix l ts) = some (conv l eL (vBranches [] ts))
  loop : ∀ at_ ts, Good ts → ts <:+ l → 16 * ts.length + 8 ≤ k → (PS.at k).parse_parser_loop l (ix l ts) at_ = some (conv l eT (vFor at_ ts))
  plain : ∀ ts, Good ts → ts <:+ l → 16 * ts.length + 6 ≤ k → (PS.at k).parse_parser_plain l (ix l ts) = some (conv l eT (vPlain ts))
section
variable {l : List Tk} (hl : l.length ≤ 1000000)
include hl
theorem fexp_eq (k : Nat) {ts : List Tk} (hg : Good ts) (hs : ts <:+ l) (hk : 16 * ts.length + 4 ≤ k) : parse_parser_exp.f k l (ix l ts) 0 = some (conv l eT (vExp 0 ts)) := exp_eq hl (aE hl k) 0 (by omega) hg hs hk
theorem fexps_eq (k : Nat) {ts : List Tk} (hg : Good ts) (hs : ts <:+ l) (hk : 16 * ts.length + 5 ≤ k) : parse_parser_exps.f k l (ix l ts) = some (conv l eL (vExps ts)) := exps_eq hl (aE hl k) hg hs hk
theorem fsuf_eq (k : Nat) {ts : List Tk} (hg : Good ts) (hs : ts <:+ l) (hk : 16 * ts.length + 2 ≤ k) : parse_parser_suffixed.f k l (ix l ts) = some (conv l eT (vSuffixed ts)) := suffixed_eq hl (aE hl k) hg hs hk
omit hl in
theorem body_ok {ts : List Tk} (h : isH kDo ts = true) (hg : Good ts) : vBody ts = (vBlock false ts.tail).then fun b r => (vWant kEnd r).then fun _ r => .ok b r := by
  rw [vBody_eq hg]
  unfold vWant
  rw [if_pos h]
  rfl
variable {k : Nat} (ih : AS l k)
include ih
theorem want_body (F : Tree → Option (List Tree)) (G : List Tree → Int → Option (PR (Int × ByteArray × Int × Int × List Tree × Int))) (g : Tree → Tree) {ts : List Tk} (hg : Good ts) (hs : ts <:+ l) (hk : 16 * ts.length + 9 ≤ k + 16)
    (hG : ∀ b r, Good r → r <:+ l → ∃ xs, F b = some xs ∧ G xs (ix l r) = some (conv l eT (.ok (g b) r))) :
    PR.bind (parse_parser_want.f k l (ix l ts) (⟨#[100, 111]⟩ : ByteArray)) (fun r36 => PR.bind ((PS.at k).parse_parser_block l r36 false) fun r38 => (F (Tree.mk r38.1 r38.2.1 r38.2.2.1 r38.2.2.2.1 r38.2.2.2.2.1)).bind fun l49 => PR.bind (parse_parser_want.f k l r38.2.2.2.2.2 (⟨#[101, 110, 100]⟩ : ByteArray)) fun r54 => G l49 r54) =
      some (conv l eT ((vBody ts).then fun b r => .ok (g b) r)) := by
  rw [want_eq k hl hg hs, vBody_eq hg, then_assoc]
  refine conv_bind (fWant _ hg) fun _ r hr hrs hn => ?_
  simp only [eU]
  have h1 := hrs.trans hs
  rw [ih.block false r hr h1 (by omega), then_assoc]
  refine conv_bind (fBlock false hr) fun b r2 hr2 hrs2 hn2 => ?_
  simp only [eT, tree_eta]
  have h2 := hrs2.trans h1
  obtain ⟨xs, hF, _⟩ := hG b r2 hr2 h2
  rw [hF, then_assoc]
  simp only [Option.bind_some]
  rw [want_eq k hl hr2 h2]
  refine conv_bind (fWant _ hr2) fun _ r3 hr3 hrs3 hn3 => ?_
  obtain ⟨xs', hF', hG'⟩ := hG b r3 hr3 (hrs3.trans h2)
  rw [hF] at hF'
  cases hF'
  exact hG'
theorem blockL_eq (chunk : Bool) (r2 : Tk) : ∀ (m : Nat) (acc : List Tree) (ts : List Tk), Good ts → ts <:+ l → 16 * ts.length + 6 < m → acc.length + ts.length ≤ 1000000 → 16 * ts.length + 8 ≤ k →
    parse_parser_block.l0 m (PS.at k) l chunk r2 acc (ix l ts) = some (conv l eT (vBlockL chunk r2.2.2.2 acc ts))
  | 0, _, _, _, _, h, _, _ => by omega
  | m + 1, acc, ts, hg, hs, hm, ha, hk => by
    rw [parse_parser_block.l0, now_eq m hg hs, vBlockL_eq chunk _ acc hg]
    simp only [Option.bind_some, got_eq m hl hg hs]
    refine conv_if (bool_dec _) (fun hc => ?_) fun h1 => ?_
    · simp only [hc, if_true]
      obtain ⟨g1, g2, g3⟩ := hg.tail (isH_ne hc)
      exact blockL_eq chunk r2 m acc _ g1 (g3.trans hs) (by omega) (by omega) (by omega)
    simp only [if_neg h1, got_eq m hl hg hs, Option.bind_some]
    refine conv_if (bool_dec _) (fun hc => ?_) fun h2 => ?_
    · simp only [hc, if_true]
      obtain ⟨g1, g2, g3⟩ := hg.tail (isH_ne hc)
      have gs := g3.trans hs
      have hend : ∀ (xs : List Tree) (r : List Tk), Good r → r <:+ l → (parse_parser_got.f m l (ix l r) (⟨#[59]⟩ : ByteArray)).bind (fun r25 => (apd 64 acc [(Tree.mk (30 : Int) (⟨#[]⟩ : ByteArray) (0 : Int) (hd ts).2.2.2 xs)]).bind fun l29 => some (PR.ok ((20 : Int), (⟨#[]⟩ : ByteArray), (0 : Int), r2.2.2.2, l29, r25.2))) = some (conv l eT (.ok (.mk 20 noB 0 r2.2.2.2 (acc ++ [.mk 30 noB 0 (hd ts).2.2.2 xs])) (if isH kSemi r then r.tail else r))) := fun xs r hr hrl => by
        rw [got_eq m hl hr hrl, apd_ok' (by simp only [List.length_cons, List.length_nil]; omega)]
        rfl
      simp only [joinF, ends_eq m g1 gs, is_eq m g1 gs, Option.bind_some]
      unfold vRets
      cases hE : endsH ts.tail with
      | true =>
        simp only [Bool.not_true, cond_false, Option.bind_some, Bool.true_or, if_true]
        exact hend [] _ g1 gs
      | false =>
        simp only [Bool.not_false, cond_true, Option.bind_some, Bool.false_or]
        by_cases hS : isH kSemi ts.tail = true
        · rw [if_pos hS, show isH (⟨#[59]⟩ : ByteArray) ts.tail = true from hS]
          exact hend [] _ g1 gs
        · rw [if_neg hS, show isH (⟨#[59]⟩ : ByteArray) ts.tail = false from by simpa using hS]
          simp only [Bool.not_false, cond_true]
          rw [fexps_eq hl m g1 gs (by omega)]
          refine conv_bind (fExps g1) fun xs r hr hrs hn => ?_
          exact hend xs r hr (hrs.trans gs)
    simp only [if_neg h2, is_eq m hg hs, ends_eq m hg hs, Option.bind_some]
    have hq : (cond chunk (some (isH (⟨#[102, 117, 110, 99, 116, 105, 111, 110]⟩ : ByteArray) ts)) (some false) : Option Bool) = some (chunk && isH kFunction ts) := by cases chunk <;> rfl
    rw [hq]
    simp only [Option.bind_some]
    have more : ∀ (x : Tree) (r : List Tk), Good r → r <:+ ts → r.length + 1 ≤ ts.length → ((apd 64 acc [x]).bind fun l56 => parse_parser_block.l0 m (PS.at k) l chunk r2 l56 (ix l r)) = some (conv l eT (vBlockL chunk r2.2.2.2 (acc ++ [x]) r)) := fun x r hr hrs hn => by
      rw [apd_ok' (by simp only [List.length_cons, List.length_nil]; omega)]
      exact blockL_eq chunk r2 m _ r hr (hrs.trans hs) (by omega) (by simp only [List.length_append, List.length_cons, List.length_nil]; omega) (by omega)
    refine conv_if (bool_dec _) (fun hc => ?_) fun h3 => ?_
    · simp only [Bool.and_eq_true] at hc
      rw [ih.function ts hc.2 hg hs (by omega)]
      refine conv_bind (fFunction (isH_ne hc.2) hg) fun x r hr hrs hn => ?_
      simp only [eT, tree_eta]
      exact more x r hr hrs hn
    refine conv_if (bool_dec _) (fun hc => rfl) fun h4 => ?_
    rw [ih.stat ts hg hs (by omega)]
    refine conv_bind (fStat hg) fun x r hr hrs hn => ?_
    simp only [eT, tree_eta]
    exact more x r hr hrs hn
theorem block_eq (c : Bool) {ts : List Tk} (hg : Good ts) (hs : ts <:+ l) (hk : 16 * ts.length + 8 ≤ k) : parse_parser_block.g (PS.at k) k l (ix l ts) c = some (conv l eT (vBlock c ts)) := by
  unfold parse_parser_block.g
  rw [now_eq k hg hs, vBlock_eq c hg]
  simp only [Option.bind_some]
  have := hs.length_le
  exact blockL_eq hl ih c (hd ts) k [] ts hg hs (by omega) (by simp only [List.length_nil]; omega) hk
theorem function_eq {ts : List Tk} (hf : isH kFunction ts = true) (hg : Good ts) (hs : ts <:+ l) (hk : 16 * ts.length + 6 ≤ k) : parse_parser_function.g (PS.at k) k l (ix l ts) = some (conv l eT (vFunction ts)) := by
  unfold parse_parser_function.g
  rw [now_eq k hg hs, vFunction_eq (isH_ne hf) hg]
  simp only [Option.bind_some]
  rw [want_eq k hl hg hs]
  unfold vWant
  rw [if_pos hf]
  obtain ⟨g1, g2, g3⟩ := hg.tail (isH_ne hf)
  have gs := g3.trans hs
  have hle := hs.length_le
  show PR.bind (parse_parser_name.f k l (ix l ts.tail)) _ = _
  rw [name_eq k hl g1 gs]
  refine conv_bind (fName 6 g1) fun nm r hr hrs hn => ?_
  simp only [eT]
  have h1 := hrs.trans gs
  rw [want_eq k hl hr h1]
  refine conv_bind (fWant _ hr) fun _ r2 hr2 hrs2 hn2 => ?_
  simp only [eU, joinF]
  have h2 := hrs2.trans h1
  have tl : ∀ (ps : List Tree) (r : List Tk), Good r → r <:+ l → r.length + 1 ≤ ts.length → ps.length ≤ 1000000 → PR.bind (parse_parser_want.f k l (ix l r) (⟨#[41]⟩ : ByteArray)) (fun r21 => PR.bind ((PS.at k).parse_parser_block l r21 false) fun r23 => (apd 64 ps [(Tree.mk r23.1 r23.2.1 r23.2.2.1 r23.2.2.2.1 r23.2.2.2.2.1)]).bind fun l32 => PR.bind (parse_parser_want.f k l r23.2.2.2.2.2 (⟨#[101, 110, 100]⟩ : ByteArray)) fun r37 => some (PR.ok ((31 : Int), nm.text, ((ps.length : Nat) : Int), (hd ts).2.2.2, l32, r37))) =
      some (conv l eT ((vWant kRp r).then fun _ r => (vBlock false r).then fun b r => (vWant kEnd r).then fun _ r => .ok (.mk 31 nm.text ps.length (hd ts).2.2.2 (ps ++ [b])) r)) := fun ps r hr hrl hn hps => by
    rw [want_eq k hl hr hrl]
    refine conv_bind (fWant _ hr) fun _ s hs1 hss hn' => ?_
    simp only [eU]
    have h3 := hss.trans hrl
    rw [ih.block false s hs1 h3 (by omega)]
    refine conv_bind (fBlock false hs1) fun b s2 hs2 hss2 hn2' => ?_
    simp only [eT, tree_eta]
    rw [apd_ok' (by simp only [List.length_cons, List.length_nil]; omega)]
    simp only [Option.bind_some]
    rw [want_eq k hl hs2 (hss2.trans h3)]
    exact conv_bind (fWant _ hs2) fun _ s3 _ _ _ => rfl
  rw [is_eq k hr2 h2]
  simp only [Option.bind_some]
  unfold vParams
  by_cases hR : isH kRp r2 = true
  · rw [if_pos hR, show isH (⟨#[41]⟩ : ByteArray) r2 = true from hR]
    exact tl [] r2 hr2 h2 (by omega) (by simp)
  · rw [if_neg hR, show isH (⟨#[41]⟩ : ByteArray) r2 = false from by simpa using hR]
    simp only [Bool.not_false, cond_true]
    rw [names_eqA hl k hr2 h2 (by omega)]
    cases hv : vNames r2 with
    | bad i => rfl
    | ok ps s =>
      have hf := fNames hr2
      rw [hv] at hf
      have hln := len_names hr2 hv
      exact tl ps s hf.1 (hf.2.2.trans h2) (by have := hf.2.1; omega) (by omega)
theorem branchesL_eq (J : List Tree → Int → Option (PR (List Tree × Int))) (hJ : ∀ a r, Good r → r <:+ l → 16 * r.length + 9 ≤ k → a.length ≤ 1000000 → J a (ix l r) = some (conv l eL (if isH kElse r then (vBlock false r.tail).then fun c r => (vWant kEnd r).then fun _ r => .ok (a ++ [c]) r else (vWant kEnd r).then fun _ r => .ok a r))) :
    ∀ (m : Nat) (acc : List Tree) (ts : List Tk), Good ts → ts <:+ l → 16 * ts.length + 4 < m → acc.length + 2 * ts.length ≤ 1000000 → 16 * ts.length ≤ k → parse_parser_branches.l0 m (PS.at k) l J acc (ix l ts) = some (conv l eL (vBranches acc ts))
  | 0, _, _, _, _, h, _, _ => by omega
  | m + 1, acc, ts, hg, hs, hm, ha, hk => by
    rw [parse_parser_branches.l0, fexp_eq hl m hg hs (by omega), vBranches_eq acc hg]
    refine conv_bind (fExp (by omega) hg) fun e r hr hrs hn => ?_
    simp only [eT, tree_eta]
    have h1 := hrs.trans hs
    rw [apd_ok' (by simp only [List.length_cons, List.length_nil]; omega)]
    simp only [Option.bind_some]
    rw [want_eq m hl hr h1]
    refine conv_bind (fWant _ hr) fun _ r2 hr2 hrs2 hn2 => ?_
    simp only [eU]
    have h2 := hrs2.trans h1
    rw [ih.block false r2 hr2 h2 (by omega)]
    refine conv_bind (fBlock false hr2) fun b r3 hr3 hrs3 hn3 => ?_
    simp only [eT, tree_eta]
    have h3 := hrs3.trans h2
    rw [apd_ok' (by simp only [List.length_append, List.length_cons, List.length_nil]; omega)]
    simp only [Option.bind_some, got_eq m hl hr3 h3]
    by_cases hc : isH kElseif r3 = true
    · rw [if_pos hc, show isH (⟨#[101, 108, 115, 101, 105, 102]⟩ : ByteArray) r3 = true from hc]
      simp only [Bool.not_true, cond_false, if_true]
      obtain ⟨g1, g2, g3⟩ := hr3.tail (isH_ne hc)
      exact branchesL_eq J hJ m _ _ g1 (g3.trans h3) (by omega) (by simp only [List.length_append, List.length_cons, List.length_nil]; omega) (by omega)
    · rw [if_neg hc, show isH (⟨#[101, 108, 115, 101, 105, 102]⟩ : ByteArray) r3 = false from by simpa using hc]
      simp only [Bool.not_false, cond_true, Bool.false_eq_true, if_false]
      exact hJ _ r3 hr3 h3 (by omega) (by simp only [List.length_append, List.length_cons, List.length_nil]; omega)
theorem branches_eq {ts : List Tk} (hg : Good ts) (hs : ts <:+ l) (hk : 16 * ts.length + 5 ≤ k) (hl2 : l.length ≤ 400000) : parse_parser_branches.g (PS.at k) k l (ix l ts) = some (conv l eL (vBranches [] ts)) := by
  unfold parse_parser_branches.g
  simp only [joinF]
  have hle := hs.length_le
  refine branchesL_eq hl ih _ (fun a r hr hrl hk2 ha => ?_) k [] ts hg hs (by omega) (by simp only [List.length_nil]; omega) (by omega)
  rw [got_eq k hl hr hrl]
  simp only [Option.bind_some]
  refine conv_if (bool_dec _) (fun hc => ?_) fun h1 => ?_
  · simp only [hc, if_true]
    obtain ⟨g1, g2, g3⟩ := hr.tail (isH_ne hc)
    have gs := g3.trans hrl
    rw [ih.block false _ g1 gs (by omega)]
    refine conv_bind (fBlock false g1) fun c r3 hr3 hrs3 hn3 => ?_
    simp only [eT, tree_eta]
    rw [apd_ok' (by simp only [List.length_cons, List.length_nil]; omega)]
    simp only [Option.bind_some]
    rw [want_eq k hl hr3 (hrs3.trans gs)]
    exact conv_bind (fWant _ hr3) fun _ _ _ _ _ => rfl
  · simp only [if_neg h1]
    rw [want_eq k hl hr hrl]
    exact conv_bind (fWant _ hr) fun _ _ _ _ _ => rfl
theorem for_eq (at_ : Int) {ts : List Tk} (hg : Good ts) (hs : ts <:+ l) (hk : 16 * ts.length + 7 ≤ k) : parse_parser_loop.g (PS.at k) k l (ix l ts) at_ = some (conv l eT (vFor at_ ts)) := by
  unfold parse_parser_loop.g
  rw [name_eq k hl hg hs, vFor_eq at_ hg]
  refine conv_bind (fName 6 hg) fun n r hr hrs hn => ?_
  simp only [eT, tree_eta, joinF]
  have h1 := hrs.trans hs
  have hle := hs.length_le
  have tl : ∀ (kd nn : Int) (xs : List Tree) (r : List Tk), Good r → r <:+ l → r.length + 1 ≤ ts.length → xs.length ≤ 1000000 → PR.bind (parse_parser_want.f k l (ix l r) (⟨#[100, 111]⟩ : ByteArray)) (fun r19 => PR.bind ((PS.at k).parse_parser_block l r19 false) fun r21 => (apd 64 xs [(Tree.mk r21.1 r21.2.1 r21.2.2.1 r21.2.2.2.1 r21.2.2.2.2.1)]).bind fun l30 => PR.bind (parse_parser_want.f k l r21.2.2.2.2.2 (⟨#[101, 110, 100]⟩ : ByteArray)) fun r35 => some (PR.ok (kd, (⟨#[]⟩ : ByteArray), nn, at_, l30, r35))) =
      some (conv l eT ((vBody r).then fun bd r => .ok (.mk kd noB nn at_ (xs ++ [bd])) r)) := fun kd nn xs r hr hrl hn hxs =>
    want_body hl ih (fun b => apd 64 xs [b]) (fun l30 r35 => some (PR.ok (kd, (⟨#[]⟩ : ByteArray), nn, at_, l30, r35))) (fun bd => .mk kd noB nn at_ (xs ++ [bd])) hr hrl (by omega) fun b s hs1 hsl => ⟨_, apd_ok' (by simp only [List.length_cons, List.length_nil]; omega), rfl⟩
  rw [got_eq k hl hr h1]
  simp only [Option.bind_some]
  refine conv_if (bool_dec _) (fun hc => ?_) fun hne => ?_
  · simp only [hc, if_true]
    obtain ⟨g1, g2, g3⟩ := hr.tail (isH_ne hc)
    have gs := g3.trans h1
    rw [fexp_eq hl k g1 gs (by omega)]
    refine conv_bind (fExp (by omega) g1) fun a r2 hr2 hrs2 hn2 => ?_
    simp only [eT, tree_eta]
    have h2 := hrs2.trans gs
    rw [apd_ok' (by simp)]
    simp only [Option.bind_some]
    rw [want_eq k hl hr2 h2]
    refine conv_bind (fWant _ hr2) fun _ r3 hr3 hrs3 hn3 => ?_
    simp only [eU]
    have h3 := hrs3.trans h2
    rw [fexp_eq hl k hr3 h3 (by omega)]
    refine conv_bind (fExp (by omega) hr3) fun b r4 hr4 hrs4 hn4 => ?_
    simp only [eT, tree_eta]
    have h4 := hrs4.trans h3
    rw [apd_ok' (by simp)]
    simp only [Option.bind_some, got_eq k hl hr4 h4]
    unfold vStep
    by_cases hC : isH kComma r4 = true
    · rw [if_pos hC, show isH (⟨#[44]⟩ : ByteArray) r4 = true from hC]
      simp only [cond_true, if_true]
      obtain ⟨g5, g6, g7⟩ := hr4.tail (isH_ne hC)
      have gs5 := g7.trans h4
      rw [fexp_eq hl k g5 gs5 (by omega), then_assoc]
      refine conv_bind (fExp (by omega) g5) fun c r5 hr5 hrs5 hn5 => ?_
      simp only [eT, tree_eta]
      rw [apd_ok' (by simp)]
      exact tl 26 0 _ r5 hr5 (hrs5.trans gs5) (by omega) (by simp)
    · rw [if_neg hC, show isH (⟨#[44]⟩ : ByteArray) r4 = false from by simpa using hC]
      simp only [cond_false, Bool.false_eq_true, if_false]
      have := tl 26 0 ([n] ++ [a] ++ [b]) r4 hr4 h4 (by omega) (by simp)
      simp only [PV.then, List.append_nil]
      exact this
  · simp only [if_neg hne, got_eq k hl hr h1, Option.bind_some]
    have tl2 : ∀ (xs : List Tree) (r : List Tk), Good r → r <:+ l → r.length + 1 ≤ ts.length → xs.length + r.length ≤ ts.length + 1 → PR.bind (parse_parser_want.f k l (ix l r) (⟨#[105, 110]⟩ : ByteArray)) (fun r94 => PR.bind (parse_parser_exps.f k l r94) fun r96 => (apd 64 xs r96.1).bind fun l102 => PR.bind (parse_parser_want.f k l r96.2 (⟨#[100, 111]⟩ : ByteArray)) fun r19 => PR.bind ((PS.at k).parse_parser_block l r19 false) fun r21 => (apd 64 l102 [(Tree.mk r21.1 r21.2.1 r21.2.2.1 r21.2.2.2.1 r21.2.2.2.2.1)]).bind fun l30 => PR.bind (parse_parser_want.f k l r21.2.2.2.2.2 (⟨#[101, 110, 100]⟩ : ByteArray)) fun r35 => some (PR.ok ((27 : Int), (⟨#[]⟩ : ByteArray), ((xs.length : Nat) : Int), at_, l30, r35))) =
        some (conv l eT ((vWant kIn r).then fun _ r => (vExps r).then fun es r => (vBody r).then fun bd r => .ok (.mk 27 noB xs.length at_ (xs ++ es ++ [bd])) r)) := fun xs r hr hrl hn hx => by
      rw [want_eq k hl hr hrl]
      refine conv_bind (fWant _ hr) fun _ r3 hr3 hrs3 hn3 => ?_
      simp only [eU]
      have h3 := hrs3.trans hrl
      rw [fexps_eq hl k hr3 h3 (by omega)]
      cases hv : vExps r3 with
      | bad i => rfl
      | ok es s =>
        have hf := fExps hr3
        rw [hv] at hf
        have hln := len_exps hr3 hv
        show (apd 64 xs es).bind _ = _
        rw [apd_ok' (by omega)]
        exact tl 27 xs.length (xs ++ es) s hf.1 (hf.2.2.trans h3) (by have := hf.2.1; omega) (by simp only [List.length_append]; omega)
    by_cases hC : isH kComma r = true
    · rw [show isH (⟨#[44]⟩ : ByteArray) r = true from hC]
      simp only [cond_true, if_true]
      obtain ⟨g1, g2, g3⟩ := hr.tail (isH_ne hC)
      have gs := g3.trans h1
      rw [names_eqA hl k g1 gs (by omega)]
      have e : vNamesL [n] r = (vNames r.tail).then fun xs r => .ok ([n] ++ xs) r := by
        rw [vNamesL_eq _ hr, if_pos hC]
        unfold vNames
        rw [then_assoc]
        exact then_congr (fName 6 g1) fun x s hs1 _ => vNamesL_pre [n] _ [x] s (Nat.le_refl _) hs1
      rw [e, then_assoc]
      cases hv : vNames r.tail with
      | bad i => rfl
      | ok xs s =>
        have hf := fNames g1
        rw [hv] at hf
        have hln := len_names g1 hv
        show (apd 64 [n] xs).bind _ = _
        rw [apd_ok' (by simp only [List.length_cons, List.length_nil]; omega)]
        exact tl2 ([n] ++ xs) s hf.1 (hf.2.2.trans gs) (by have := hf.2.1; omega) (by simp only [List.length_append, List.length_cons, List.length_nil]; omega)
    · rw [show isH (⟨#[44]⟩ : ByteArray) r = false from by simpa using hC]
      simp only [cond_false, Bool.false_eq_true, if_false]
      rw [vNamesL_eq _ hr, if_neg hC]
      exact tl2 [n] r hr h1 (by omega) (by simp only [List.length_cons, List.length_nil]; omega)
theorem stat_eq {ts : List Tk} (hg : Good ts) (hs : ts <:+ l) (hk : 16 * ts.length + 6 ≤ k) : parse_parser_stat.g (PS.at k) k l (ix l ts) = some (conv l eT (vStat ts)) := by
  unfold parse_parser_stat.g
  rw [now_eq k hg hs, vStat_eq hg]
  simp only [Option.bind_some, joinF, got_eq k hl hg hs]
  have hle := hs.length_le
  refine conv_if (bool_dec _) (fun hc => ?_) fun h1 => ?_
  · simp only [hc, if_true]
    obtain ⟨g1, g2, g3⟩ := hg.tail (isH_ne hc)
    have gs := g3.trans hs
    rw [body_ok hc hg, then_assoc, ih.block false _ g1 gs (by omega)]
    refine conv_bind (fBlock false g1) fun b r hr hrs hn => ?_
    simp only [eT, tree_eta]
    rw [want_eq k hl hr (hrs.trans gs), then_assoc]
    exact conv_bind (fWant _ hr) fun _ _ _ _ _ => rfl
  simp only [if_neg h1, got_eq k hl hg hs, Option.bind_some]
  refine conv_if (bool_dec _) (fun hc => ?_) fun h2 => ?_
  · simp only [hc, if_true]
    obtain ⟨g1, g2, g3⟩ := hg.tail (isH_ne hc)
    have gs := g3.trans hs
    rw [fexp_eq hl k g1 gs (by omega)]
    refine conv_bind (fExp (by omega) g1) fun e r hr hrs hn => ?_
    simp only [eT, tree_eta]
    exact want_body hl ih (fun b => apd 64 [e] [b]) (fun l49 r54 => some (PR.ok ((25 : Int), (⟨#[]⟩ : ByteArray), (0 : Int), (hd ts).2.2.2, l49, r54))) (fun b => .mk 25 noB 0 (hd ts).2.2.2 [e, b]) hr (hrs.trans gs) (by omega) fun b s _ _ => ⟨_, apd_ok' (by simp), rfl⟩
  simp only [if_neg h2, got_eq k hl hg hs, Option.bind_some]
  refine conv_if (bool_dec _) (fun hc => ?_) fun h3 => ?_
  · simp only [hc, if_true]
    obtain ⟨g1, g2, g3⟩ := hg.tail (isH_ne hc)
    rw [ih.branches _ g1 (g3.trans hs) (by omega)]
    exact conv_bind (fBranches _ g1) fun _ _ _ _ _ => rfl
  simp only [if_neg h3, got_eq k hl hg hs, Option.bind_some]
  have same : ∀ {x : PV Tree}, (PR.bind (some (conv l eT x)) fun r66 => some (PR.ok (r66.1, r66.2.1, r66.2.2.1, r66.2.2.2.1, r66.2.2.2.2.1, r66.2.2.2.2.2))) = some (conv l eT x) := fun {x} => by cases x <;> rfl
  refine conv_if (bool_dec _) (fun hc => ?_) fun h4 => ?_
  · simp only [hc, if_true]
    obtain ⟨g1, g2, g3⟩ := hg.tail (isH_ne hc)
    rw [ih.loop _ _ g1 (g3.trans hs) (by omega)]
    exact same
  simp only [if_neg h4, got_eq k hl hg hs, Option.bind_some]
  refine conv_if (bool_dec _) (fun hc => ?_) fun h5 => ?_
  · simp only [hc, if_true]
    obtain ⟨g1, g2, g3⟩ := hg.tail (isH_ne hc)
    have gs := g3.trans hs
    rw [names_eqA hl k g1 gs (by omega)]
    cases hv : vNames ts.tail with
    | bad i => rfl
    | ok xs r =>
      have hf := fNames g1
      rw [hv] at hf
      have hln := len_names g1 hv
      have hrl := hf.2.2.trans gs
      show (parse_parser_got.f k l (ix l r) _).bind _ = some (conv l eT ((vInit r).then _))
      rw [got_eq k hl hf.1 hrl]
      unfold vInit
      simp only [Option.bind_some, eL]
      by_cases hE : isH kEq r = true
      · rw [if_pos hE, show isH (⟨#[61]⟩ : ByteArray) r = true from hE]
        simp only [cond_true, if_true]
        obtain ⟨g4, g5, g6⟩ := hf.1.tail (isH_ne hE)
        have h6 := hf.2.1
        rw [fexps_eq hl k g4 (g6.trans hrl) (by omega)]
        cases hv2 : vExps r.tail with
        | bad i => rfl
        | ok es s =>
          have hln2 := len_exps g4 hv2
          show (apd 64 xs es).bind _ = _
          rw [apd_ok' (by omega)]
          rfl
      · rw [if_neg hE, show isH (⟨#[61]⟩ : ByteArray) r = false from by simpa using hE]
        simp only [cond_false, Bool.false_eq_true, if_false, PV.then, List.append_nil]
        rfl
  simp only [if_neg h5, got_eq k hl hg hs, Option.bind_some]
  refine conv_if (bool_dec _) (fun hc => ?_) fun h6 => ?_
  · simp only [hc, if_true]
    rfl
  simp only [if_neg h6]
  rw [ih.plain _ hg hs (by omega)]
  exact same
omit ih in
theorem targets_eq (J : List Tree → Int → Option (PR (Int × ByteArray × Int × Int × List Tree × Int))) (g : List Tree → List Tk → PV Tree) (N : Nat) (hJ : ∀ a r, Good r → r <:+ l → r.length ≤ N → a.length + r.length ≤ 1000000 → J a (ix l r) = some (conv l eT (g a r))) :
    ∀ (m : Nat) (acc : List Tree) (e : Tree) (ts : List Tk), Good ts → ts <:+ l → 16 * ts.length + 2 < m → ts.length ≤ N → acc.length + ts.length + 1 ≤ 1000000 → parse_parser_plain.l0 m l J e.kind e.text e.n e.at_ e.kids acc (ix l ts) = some (conv l eT ((vTargets acc e ts).then g))
  | 0, _, _, _, _, _, h, _, _ => by omega
  | m + 1, acc, e, ts, hg, hs, hm, hN, ha => by
    rw [parse_parser_plain.l0, vTargets_eq acc e hg]
    simp only [joinF, tree_eta]
    have ht : parse_target.f m e.kind e.text e.n e.at_ e.kids = some (decide (e.kind = 6 ∨ e.kind = 7)) := by
      unfold parse_target.f
      rw [beq_dec, beq_dec]
      by_cases h6 : e.kind = 6
      · simp [h6]
      · simp [h6]
    rw [ht]
    simp only [Option.bind_some]
    by_cases hk : e.kind = 6 ∨ e.kind = 7
    · rw [if_pos hk, decide_eq_true hk]
      simp only [Bool.not_true, cond_false]
      rw [apd_ok' (by simp only [List.length_cons, List.length_nil]; omega)]
      simp only [Option.bind_some, got_eq m hl hg hs]
      by_cases hc : isH kComma ts = true
      · rw [show isH (⟨#[44]⟩ : ByteArray) ts = true from hc]
        simp only [Bool.not_true, cond_false, if_true]
        rw [then_assoc]
        obtain ⟨g1, g2, g3⟩ := hg.tail (isH_ne hc)
        have gs := g3.trans hs
        rw [fsuf_eq hl m g1 gs (by omega)]
        refine conv_bind (fSuffixed g1) fun x r hr hrs hn => ?_
        exact targets_eq J g N hJ m _ x r hr (hrs.trans gs) (by omega) (by omega) (by simp only [List.length_append, List.length_cons, List.length_nil]; omega)
      · rw [show isH (⟨#[44]⟩ : ByteArray) ts = false from by simpa using hc]
        simp only [Bool.not_false, cond_true, Bool.false_eq_true, if_false]
        exact hJ _ ts hg hs (by omega) (by simp only [List.length_append, List.length_cons, List.length_nil]; omega)
    · rw [if_neg hk, decide_eq_false hk]
      rfl
omit ih in
theorem plain_eq (k : Nat) {ts : List Tk} (hg : Good ts) (hs : ts <:+ l) (hk : 16 * ts.length + 5 ≤ k) : parse_parser_plain.g (PS.at k) k l (ix l ts) = some (conv l eT (vPlain ts)) := by
  unfold parse_parser_plain.g
  rw [fsuf_eq hl k hg hs (by omega), vPlain_eq hg]
  have hle := hs.length_le
  refine conv_bind (fSuffixed hg) fun e r hr hrs hn => ?_
  have h1 := hrs.trans hs
  simp only [eT, tree_eta, is_eq k hr h1, Option.bind_some, joinF]
  have hq : (cond (!isH (⟨#[61]⟩ : ByteArray) r) (some (!isH (⟨#[44]⟩ : ByteArray) r)) (some false) : Option Bool) = some (!(isH kEq r || isH kComma r)) := by
    show (cond (!isH kEq r) (some (!isH kComma r)) (some false) : Option Bool) = _
    cases isH kEq r <;> cases isH kComma r <;> rfl
  rw [hq]
  simp only [Option.bind_some]
  cases hb : (isH kEq r || isH kComma r) with
  | true =>
    simp only [Bool.not_true, cond_false, if_true]
    refine targets_eq hl _ (fun l r => (vWant kEq r).then fun _ r => (vExps r).then fun es r => .ok (.mk 22 noB l.length e.at_ (l ++ es)) r) r.length (fun a s hs1 hsl hsn ha => ?_) k [] e r hr h1 (by omega) (Nat.le_refl _) (by simp only [List.length_nil]; omega)
    rw [want_eq k hl hs1 hsl]
    refine conv_bind (fWant _ hs1) fun _ s2 hs2 hss2 hn2 => ?_
    simp only [eU]
    have h2 := hss2.trans hsl
    have hkey : 16 * s2.length + 5 ≤ k := by have := hs2; omega
    rw [fexps_eq hl k hs2 h2 hkey]
    cases hv : vExps s2 with
    | bad i => rfl
    | ok es s3 =>
      have hln := len_exps hs2 hv
      show (apd 64 a es).bind _ = _
      rw [apd_ok' (by omega)]
      rfl
  | false =>
    simp only [Bool.not_false, cond_true, Bool.false_eq_true, if_false]
    by_cases h8 : e.kind = 8
    · rw [if_pos h8, h8]
      rfl
    · rw [if_neg h8, show (e.kind != 8) = true by rw [bne_iff_ne]; exact h8]
      simp only [cond_true, now_eq k hr h1, Option.bind_some]
      rfl
end
theorem aS {l : List Tk} (hl : l.length ≤ 400000) : ∀ k, AS l k
  | 0 => by constructor <;> intros <;> omega
  | k + 1 => by
    have ih := aS hl k
    have h1 : l.length ≤ 1000000 := by omega
    exact ⟨fun c ts hg hs h => block_eq h1 ih c hg hs (by omega), fun ts hf hg hs h => function_eq h1 ih hf hg hs (by omega), fun ts hg hs h => stat_eq h1 ih hg hs (by omega), fun ts hg hs h => branches_eq h1 ih hg hs (by omega) hl, fun at_ ts hg hs h => for_eq h1 ih at_ hg hs (by omega), fun ts hg hs h => plain_eq h1 k hg hs (by omega)⟩
theorem fblock_eq {l : List Tk} (hl : l.length ≤ 400000) (k : Nat) (c : Bool) {ts : List Tk} (hg : Good ts) (hs : ts <:+ l) (hk : 16 * ts.length + 8 ≤ k) : parse_parser_block.f k l (ix l ts) c = some (conv l eT (vBlock c ts)) := block_eq (by omega) (aS hl k) c hg hs hk
end Go.Proofs.YtcdeodpakbcdeaaGreatDoor
namespace Go.Proofs.YtcdeodpakbcdeaaGreatDoor
open Go Go.RowKit
mutual
def sz : Tree → Nat
  | .mk _ _ _ _ l => szs l + 1
def szs : List Tree → Nat
  | [] => 0
  | x :: l => sz x + szs l
end
mutual
/-- Nodes begin in order. -/
def ordT : Tree → Prop
  | .mk k _ _ a l => ordTs a l ∧ (k = 20 → l.Pairwise fun x y => x.at_ < y.at_)
def ordTs (a : Int) : List Tree → Prop
  | [] => True
  | x :: l => (a ≤ x.at_ ∧ ordT x) ∧ ordTs a l
end
theorem ordTs_iff {a : Int} : ∀ {l : List Tree}, ordTs a l ↔ ∀ x ∈ l, a ≤ x.at_ ∧ ordT x
  | [] => by simp [ordTs]
  | x :: l => by simp [ordTs, ordTs_iff (l := l)]
theorem szs_append : ∀ (l m : List Tree), szs (l ++ m) = szs l + szs m
  | [], m => by simp [szs]
  | x :: l, m => by simp only [List.cons_append, szs, szs_append l m]; omega
theorem szs_len : ∀ (l : List Tree), l.length ≤ szs l
  | [] => Nat.zero_le _
  | .mk _ _ _ _ _ :: l => by
    have := szs_len l
    simp only [List.length_cons, szs, sz]
    omega
def Asc (ts : List Tk) : Prop := ts.Pairwise fun a b => a.2.2.2 < b.2.2.2
def at0 (ts : List Tk) : Int := (hd ts).2.2.2
structure Aft (n : Nat) (ts r : List Tk) : Prop where
  good : Good r
  asc : Asc r
  len : r.length + n ≤ ts.length
  le : at0 ts ≤ at0 r
  lt : r.length < ts.length → at0 ts < at0 r
theorem Aft.refl {ts : List Tk} (hg : Good ts) (ha : Asc ts) : Aft 0 ts ts := ⟨hg, ha, Nat.le_refl _, Int.le_refl _, fun h => absurd h (Nat.lt_irrefl _)⟩
theorem Aft.trans {n m : Nat} {ts r s : List Tk} (h : Aft n ts r) (h' : Aft m r s) : Aft (n + m) ts s := by
  refine ⟨h'.good, h'.asc, ?_, ?_, fun hl => ?_⟩
  · have := h.len; have := h'.len; omega
  · have := h.le; have := h'.le; omega
  · by_cases hr : r.length < ts.length
    · have := h.lt hr; have := h'.le; omega
    · have := h'.lt (by omega); have := h.le; omega
theorem Aft.weak {n m : Nat} {ts r : List Tk} (h : Aft n ts r) (hm : m ≤ n) : Aft m ts r := ⟨h.good, h.asc, by have := h.len; omega, h.le, h.lt⟩
theorem Aft.tail {n : Nat} {ts r : List Tk} (h : Aft n ts r) (h6 : (hd r).1 ≠ 6) : Aft (n + 1) ts r.tail := by
  obtain ⟨g1, g2, _⟩ := h.good.tail h6
  refine h.trans (m := 1) ⟨g1, ?_, by omega, ?_, ?_⟩
  · cases r with
    | nil => exact h.asc
    | cons t r => exact (List.pairwise_cons.1 h.asc).2
  all_goals
    cases r with
    | nil => exact h.good.elim
    | cons t r =>
      cases r with
      | nil => exact g1.elim
      | cons u r =>
        have := (List.pairwise_cons.1 h.asc).1 u (List.mem_cons_self ..)
        simp only [at0, hd, List.tail_cons, List.headD_cons]
        omega
def R {α : Type} (x : Option (PV α)) (Q : α → List Tk → Prop) : Prop := ∀ a r, x = some (.ok a r) → Q a r
section
variable {α β : Type} {x y : Option (PV α)} {f : α → List Tk → Option (PV β)} {Q Q1 : α → List Tk → Prop} {Q2 : β → List Tk → Prop}
theorem R.bind (h1 : R x Q1) (h2 : ∀ a r, Q1 a r → R (f a r) Q2) : R (PV.bind x f) Q2 := fun a r h => by
  rcases bind_some h with ⟨i, _, he⟩ | ⟨a', r', hx, hf⟩
  · cases he
  · exact h2 a' r' (h1 a' r' hx) a r hf
theorem R.none : R (none : Option (PV α)) Q := fun _ _ h => by cases h
theorem R.bad {i : Int} : R (some (.bad i) : Option (PV α)) Q := fun _ _ h => by cases h
theorem R.ok {a : α} {r : List Tk} (h : Q a r) : R (some (.ok a r)) Q := fun _ _ h' => by cases h'; exact h
theorem R.ite {c : Prop} [Decidable c] (h1 : c → R x Q) (h2 : ¬ c → R y Q) : R (if c then x else y) Q := by
  by_cases h : c
  · rw [if_pos h]; exact h1 h
  · rw [if_neg h]; exact h2 h
theorem R.weak (h : R x Q1) (h2 : ∀ a r, Q1 a r → Q a r) : R x Q := fun a r h' => h2 a r (h a r h')
end
structure TE (b : Nat) (ts : List Tk) (n : Tree) (r : List Tk) : Prop where
  aft : Aft 1 ts r
  at_ : n.at_ = at0 ts
  ord : ordT n
  size : sz n + b + 4 * r.length ≤ 4 * ts.length
structure LE (m : Nat) (lo : Int) (acc : List Tree) (ts : List Tk) (l : List Tree) (r : List Tk) : Prop where
  aft : Aft m ts r
  ord : ordTs lo l
  size : szs l + 4 * r.length ≤ szs acc + 4 * ts.length
theorem ordTs.snoc {lo : Int} {l : List Tree} {x : Tree} (h : ordTs lo l) (h1 : lo ≤ x.at_) (h2 : ordT x) : ordTs lo (l ++ [x]) := by
  rw [ordTs_iff] at h ⊢
  intro y hy
  rcases List.mem_append.1 hy with hy | hy
  · exact h y hy
  · obtain rfl := List.mem_singleton.1 hy; exact ⟨h1, h2⟩
theorem ordTs.app {lo : Int} {l m : List Tree} (h : ordTs lo l) (h' : ordTs lo m) : ordTs lo (l ++ m) := by
  rw [ordTs_iff] at *
  intro y hy
  exact (List.mem_append.1 hy).elim (h y) (h' y)
theorem ordTs.weak {lo lo' : Int} {l : List Tree} (h : ordTs lo l) (h1 : lo' ≤ lo) : ordTs lo' l := by
  rw [ordTs_iff] at *
  exact fun y hy => ⟨Int.le_trans h1 (h y hy).1, (h y hy).2⟩
theorem ordT.mk {k : Int} {t : ByteArray} {n a : Int} {l : List Tree} (h : ordTs a l) (hk : k ≠ 20) : ordT (.mk k t n a l) := ⟨h, fun e => absurd e hk⟩
theorem one {lo : Int} {x : Tree} (h1 : lo ≤ x.at_) (h2 : ordT x) : ordTs lo [x] := ⟨⟨h1, h2⟩, trivial⟩
theorem rWant {w : ByteArray} {n : Nat} {ts s : List Tk} (h : Aft n ts s) : R (pWant w s) fun _ r => Aft (n + 1) ts r ∧ r.length + 1 = s.length := by
  refine R.ite (fun hc => R.ok ⟨h.tail (isH_ne hc), ?_⟩) fun _ => R.bad
  exact (h.good.tail (isH_ne hc)).2.1
theorem rName {k : Int} {ts : List Tk} (hk : k ≠ 20) (hg : Good ts) (ha : Asc ts) : R (pName k ts) (TE 1 ts) := by
  refine R.ite (fun hc => R.ok ?_) fun _ => R.bad
  have h6 : (hd ts).1 ≠ 6 := by omega
  have := (hg.tail h6).2.1
  exact ⟨((Aft.refl hg ha).tail h6).weak (by omega), rfl, ordT.mk trivial hk, by simp only [sz, szs]; omega⟩
theorem rNamesL : ∀ (f : Nat) (acc : List Tree) (lo : Int) (ts : List Tk), Good ts → Asc ts → lo ≤ at0 ts → ordTs lo acc → R (pNamesL f acc ts) (LE 0 lo acc ts)
  | 0, _, _, _, _, _, _, _ => R.none
  | f + 1, acc, lo, ts, hg, ha, hlo, hacc => by
    unfold pNamesL
    refine R.ite (fun hc => ?_) fun _ => R.ok ⟨Aft.refl hg ha, hacc, Nat.le_refl _⟩
    have ht := (Aft.refl hg ha).tail (isH_ne hc)
    have := ht.len; have := ht.le
    refine R.bind (rName (by decide) ht.good ht.asc) fun n r hn => ?_
    have := hn.at_; have := hn.size
    refine R.weak (rNamesL f _ lo r hn.aft.good hn.aft.asc (by have := hn.aft.le; omega) (hacc.snoc (by omega) hn.ord)) fun l s hl => ?_
    have := hl.size
    rw [szs_append] at this
    simp only [szs] at this
    exact ⟨((ht.trans hn.aft).trans hl.aft).weak (by omega), hl.ord, by omega⟩
theorem rNames (f : Nat) {lo : Int} {ts : List Tk} (hg : Good ts) (ha : Asc ts) (hlo : lo ≤ at0 ts) : R (pNames f ts) (LE 1 lo [] ts) := by
  refine R.bind (rName (by decide) hg ha) fun n r hn => ?_
  have := hn.at_; have := hn.size
  refine R.weak (rNamesL f _ lo r hn.aft.good hn.aft.asc (by have := hn.aft.le; omega) (one (by omega) hn.ord)) fun l s hl => ?_
  have := hl.size
  simp only [szs] at this ⊢
  exact ⟨(hn.aft.trans hl.aft).weak (by omega), hl.ord, by simp only [szs]; omega⟩
structure OE (f : Nat) : Prop where
  exp : ∀ least ts, 0 ≤ least → Good ts → Asc ts → R (pExp f least ts) (TE 1 ts)
  loop : ∀ least n ts, 0 ≤ least → Good ts → Asc ts → ordT n → n.at_ ≤ at0 ts → R (pLoop f least n ts) fun n' r => Aft 0 ts r ∧ n'.at_ = n.at_ ∧ ordT n' ∧ sz n' + 4 * r.length ≤ sz n + 4 * ts.length
  operand : ∀ ts, Good ts → Asc ts → R (pOperand f ts) (TE 1 ts)
  fields : ∀ acc lo ts, Good ts → Asc ts → lo ≤ at0 ts → ordTs lo acc → R (pFields f acc ts) (LE 1 lo acc ts)
  field : ∀ ts, Good ts → Asc ts → R (pField f ts) (TE 0 ts)
  suffixed : ∀ ts, Good ts → Asc ts → R (pSuffixed f ts) (TE 1 ts)
  sufL : ∀ at_ n ts, Good ts → Asc ts → ordT n → at_ = n.at_ → n.at_ ≤ at0 ts → R (pSufL f at_ n ts) fun n' r => Aft 0 ts r ∧ n'.at_ = n.at_ ∧ ordT n' ∧ sz n' + 4 * r.length ≤ sz n + 4 * ts.length
  exps : ∀ lo ts, Good ts → Asc ts → lo ≤ at0 ts → R (pExps f ts) (LE 1 lo [] ts)
  expsL : ∀ acc lo ts, Good ts → Asc ts → lo ≤ at0 ts → ordTs lo acc → R (pExpsL f acc ts) (LE 0 lo acc ts)
theorem leafTE {k : Int} {t : ByteArray} {n : Int} {ts : List Tk} (hk : k ≠ 20) (hg : Good ts) (ha : Asc ts) (h6 : (hd ts).1 ≠ 6) : TE 1 ts (.mk k t n (hd ts).2.2.2 []) ts.tail := by
  have := (hg.tail h6).2.1
  exact ⟨((Aft.refl hg ha).tail h6).weak (by omega), rfl, ordT.mk trivial hk, by simp only [sz, szs]; omega⟩
theorem rE : ∀ f, OE f
  | 0 => by constructor <;> intros <;> (first | unfold pExp | unfold pLoop | unfold pOperand | unfold pFields | unfold pField | unfold pSuffixed | unfold pSufL | unfold pExps | unfold pExpsL) <;> exact R.none
  | f + 1 => by
    have ih := rE f
    constructor
    · intro least ts hl hg ha; unfold pExp
      refine R.bind (ih.operand ts hg ha) fun n r hn => ?_
      have := hn.at_; have := hn.size; have := hn.aft.le
      refine R.weak (ih.loop least n r hl hn.aft.good hn.aft.asc hn.ord (by omega)) fun n' s ⟨h1, h2, h3, h4⟩ => ?_
      exact ⟨(hn.aft.trans h1).weak (by omega), by omega, h3, by omega⟩
    · intro least n ts hl hg ha hn hat; unfold pLoop
      refine R.ite (fun _ => R.ok ⟨Aft.refl hg ha, rfl, hn, Nat.le_refl _⟩) fun hc => ?_
      have hb := bindsH_range ts
      have ht := (Aft.refl hg ha).tail (bindsH_ne (by omega))
      have := ht.len; have := ht.le
      refine R.bind (ih.exp _ _ (by split <;> omega) ht.good ht.asc) fun m r hm => ?_
      have := hm.at_; have := hm.size; have := hm.aft.le
      refine R.weak (ih.loop least _ r hl hm.aft.good hm.aft.asc (ordT.mk ⟨⟨Int.le_refl _, hn⟩, ⟨by omega, hm.ord⟩, trivial⟩ (by decide)) (show n.at_ ≤ _ by omega)) fun n' s ⟨h1, h2, h3, h4⟩ => ?_
      simp only [sz, szs] at h4
      exact ⟨((ht.trans hm.aft).trans h1).weak (by omega), h2, h3, by omega⟩
    · intro ts hg ha; unfold pOperand
      refine R.ite (fun h => R.ok (leafTE (by decide) hg ha (by omega))) fun _ => ?_
      refine R.ite (fun h => R.ok (leafTE (by decide) hg ha (by omega))) fun _ => ?_
      refine R.ite (fun h => R.ok (leafTE (by decide) hg ha (isH_ne h))) fun _ => ?_
      refine R.ite (fun h => R.ok (leafTE (by decide) hg ha (isH_ne h))) fun _ => ?_
      refine R.ite (fun h => R.ok (leafTE (by decide) hg ha (isH_ne h))) fun _ => ?_
      refine R.ite (fun h => ?_) fun _ => ?_
      · have h6 : (hd ts).1 ≠ 6 := by
          simp only [Bool.or_eq_true] at h
          rcases h with (h | h) | h <;> exact isH_ne h
        have ht := (Aft.refl hg ha).tail h6
        have := ht.len; have := ht.le
        refine R.bind (ih.exp _ _ (by decide) ht.good ht.asc) fun m r hm => R.ok ?_
        have := hm.at_; have := hm.size; have := hm.aft.le
        exact ⟨(ht.trans hm.aft).weak (by omega), rfl, ordT.mk (one (show at0 ts ≤ _ by omega) hm.ord) (by decide), by simp only [sz, szs]; omega⟩
      refine R.ite (fun h => ?_) fun _ => ih.suffixed ts hg ha
      have ht := (Aft.refl hg ha).tail (isH_ne h)
      have := ht.len; have := ht.le
      refine R.bind (ih.fields [] (at0 ts) _ ht.good ht.asc (by omega) trivial) fun l r hl => R.ok ?_
      have h5 := hl.size
      simp only [szs] at h5
      exact ⟨(ht.trans hl.aft).weak (by omega), rfl, ordT.mk hl.ord (by decide), by simp only [sz]; omega⟩
    · intro acc lo ts hg ha hlo hacc; unfold pFields
      refine R.ite (fun h => ?_) fun _ => ?_
      · have ht := (Aft.refl hg ha).tail (isH_ne h)
        have := ht.len
        exact R.ok ⟨ht.weak (by omega), hacc, by omega⟩
      refine R.bind (ih.field ts hg ha) fun x r hx => ?_
      have := hx.at_; have := hx.size; have := hx.aft.le
      have hacc' := hacc.snoc (x := x) (by omega) hx.ord
      refine R.ite (fun h => ?_) fun _ => ?_
      · have ht := hx.aft.tail (isH_ne h)
        have := ht.len; have := ht.le
        have := (hx.aft.good.tail (isH_ne h)).2.1
        refine R.weak (ih.fields _ lo _ ht.good ht.asc (by omega) hacc') fun l s hl => ?_
        have h5 := hl.size
        simp only [szs_append, szs] at h5
        exact ⟨(ht.trans hl.aft).weak (by omega), hl.ord, by omega⟩
      refine R.ite (fun h => ?_) fun _ => ?_
      · have ht := hx.aft.tail (isH_ne h)
        have := ht.len; have := ht.le
        have := (hx.aft.good.tail (isH_ne h)).2.1
        refine R.weak (ih.fields _ lo _ ht.good ht.asc (by omega) hacc') fun l s hl => ?_
        have h5 := hl.size
        simp only [szs_append, szs] at h5
        exact ⟨(ht.trans hl.aft).weak (by omega), hl.ord, by omega⟩
      refine R.bind (rWant hx.aft) fun _ s ⟨hs, hs2⟩ => R.ok ?_
      exact ⟨hs.weak (by omega), hacc', by simp only [szs_append, szs]; omega⟩
    · intro ts hg ha; unfold pField
      refine R.ite (fun h => ?_) fun _ => ?_
      · have ht := (Aft.refl hg ha).tail (isH_ne h)
        have := ht.len; have := ht.le
        refine R.bind (ih.exp _ _ (by decide) ht.good ht.asc) fun k r hk => ?_
        have := hk.at_; have := hk.size; have := hk.aft.le
        refine R.bind (rWant (ht.trans hk.aft)) fun _ r2 ⟨h2, h2'⟩ => ?_
        refine R.bind (rWant h2) fun _ r3 ⟨h3, h3'⟩ => ?_
        have := h3.le
        refine R.bind (ih.exp _ _ (by decide) h3.good h3.asc) fun v r4 hv => R.ok ?_
        have := hv.at_; have := hv.size
        exact ⟨(h3.trans hv.aft).weak (by omega), rfl, ordT.mk ⟨⟨show at0 ts ≤ _ by omega, hk.ord⟩, ⟨show at0 ts ≤ _ by omega, hv.ord⟩, trivial⟩ (by decide), by simp only [sz, szs]; omega⟩
      refine R.ite (fun h => ?_) fun _ => ?_
      · obtain ⟨h1, h2, _⟩ := h
        have ht := ((Aft.refl hg ha).tail (by omega)).tail (by omega)
        have := ht.len; have := ht.le
        refine R.bind (ih.exp _ _ (by decide) ht.good ht.asc) fun v r hv => R.ok ?_
        have := hv.at_; have := hv.size
        exact ⟨(ht.trans hv.aft).weak (by omega), rfl, ordT.mk ⟨⟨Int.le_refl _, ordT.mk trivial (by decide)⟩, ⟨show at0 ts ≤ _ by omega, hv.ord⟩, trivial⟩ (by decide), by simp only [sz, szs]; omega⟩
      · refine R.bind (ih.exp _ _ (by decide) hg ha) fun v r hv => R.ok ?_
        have := hv.at_; have := hv.size
        exact ⟨hv.aft, rfl, ordT.mk (one (show at0 ts ≤ _ by omega) hv.ord) (by decide), by simp only [sz, szs]; omega⟩
    · intro ts hg ha; unfold pSuffixed
      refine R.ite (fun h => ?_) fun _ => ?_
      · have ht := (Aft.refl hg ha).tail (isH_ne h)
        have := ht.len; have := ht.le
        refine R.bind (ih.exp _ _ (by decide) ht.good ht.asc) fun e r he => ?_
        have := he.at_; have := he.size
        refine R.bind (rWant (ht.trans he.aft)) fun _ r2 ⟨h2, h2'⟩ => ?_
        have := h2.le
        refine R.weak (ih.sufL _ _ r2 h2.good h2.asc (ordT.mk (one (show at0 ts ≤ _ by omega) he.ord) (by decide)) rfl (show at0 ts ≤ _ by omega)) fun n' s ⟨h3, h4, h5, h6⟩ => ?_
        simp only [sz, szs] at h6
        exact ⟨(h2.trans h3).weak (by omega), h4, h5, by omega⟩
      · refine R.bind (rName (by decide) hg ha) fun n r hn => ?_
        have := hn.at_; have := hn.size; have := hn.aft.le
        refine R.weak (ih.sufL _ _ r hn.aft.good hn.aft.asc hn.ord hn.at_.symm (by omega)) fun n' s ⟨h3, h4, h5, h6⟩ => ?_
        exact ⟨(hn.aft.trans h3).weak (by omega), by omega, h5, by omega⟩
    · intro at_ n ts hg ha hn he hat; unfold pSufL
      subst he
      refine R.ite (fun h => ?_) fun _ => ?_
      · have ht := (Aft.refl hg ha).tail (isH_ne h)
        have := ht.len; have := ht.le
        refine R.bind (ih.exp _ _ (by decide) ht.good ht.asc) fun e r he => ?_
        have := he.at_; have := he.size
        refine R.bind (rWant (ht.trans he.aft)) fun _ r2 ⟨h2, h2'⟩ => ?_
        have := h2.le
        refine R.weak (ih.sufL _ _ r2 h2.good h2.asc (ordT.mk ⟨⟨Int.le_refl _, hn⟩, ⟨by omega, he.ord⟩, trivial⟩ (by decide)) rfl (show n.at_ ≤ _ by omega)) fun n' s ⟨h3, h4, h5, h6⟩ => ?_
        simp only [sz, szs] at h6
        exact ⟨(h2.trans h3).weak (by omega), h4, h5, by omega⟩
      refine R.ite (fun h => ?_) fun _ => ?_
      · have ht := (Aft.refl hg ha).tail (isH_ne h)
        have := ht.len; have := ht.le
        refine R.bind (rName (by decide) ht.good ht.asc) fun e r he => ?_
        have := he.at_; have := he.size; have := he.aft.le
        refine R.weak (ih.sufL _ _ r he.aft.good he.aft.asc (ordT.mk ⟨⟨Int.le_refl _, hn⟩, ⟨by omega, he.ord⟩, trivial⟩ (by decide)) rfl (show n.at_ ≤ _ by omega)) fun n' s ⟨h3, h4, h5, h6⟩ => ?_
        simp only [sz, szs] at h6
        exact ⟨((ht.trans he.aft).trans h3).weak (by omega), h4, h5, by omega⟩
      refine R.ite (fun h => ?_) fun _ => R.ok ⟨Aft.refl hg ha, rfl, hn, Nat.le_refl _⟩
      have ht := (Aft.refl hg ha).tail (isH_ne h)
      have := ht.len; have := ht.le
      refine R.bind (Q1 := LE 0 n.at_ [] ts.tail) ?_ fun l r hl => ?_
      · refine R.ite (fun _ => R.ok ⟨Aft.refl ht.good ht.asc, trivial, Nat.le_refl _⟩) fun _ => ?_
        exact R.weak (ih.exps n.at_ _ ht.good ht.asc (by omega)) fun l r hl => ⟨hl.aft.weak (by omega), hl.ord, hl.size⟩
      refine R.bind (rWant (ht.trans hl.aft)) fun _ r2 ⟨h2, h2'⟩ => ?_
      have := h2.le
      have h7 := hl.size
      simp only [szs] at h7
      refine R.weak (ih.sufL _ _ r2 h2.good h2.asc (ordT.mk ⟨⟨Int.le_refl _, hn⟩, hl.ord⟩ (by decide)) rfl (show n.at_ ≤ _ by omega)) fun n' s ⟨h3, h4, h5, h6⟩ => ?_
      simp only [sz, szs] at h6
      exact ⟨(h2.trans h3).weak (by omega), h4, h5, by omega⟩
    · intro lo ts hg ha hlo; unfold pExps
      refine R.bind (ih.exp _ _ (by decide) hg ha) fun e r he => ?_
      have := he.at_; have := he.size; have := he.aft.le
      refine R.weak (ih.expsL _ lo r he.aft.good he.aft.asc (by omega) (one (by omega) he.ord)) fun l s hl => ?_
      have h7 := hl.size
      simp only [szs] at h7
      exact ⟨(he.aft.trans hl.aft).weak (by omega), hl.ord, by simp only [szs]; omega⟩
    · intro acc lo ts hg ha hlo hacc; unfold pExpsL
      refine R.ite (fun h => ?_) fun _ => R.ok ⟨Aft.refl hg ha, hacc, Nat.le_refl _⟩
      have ht := (Aft.refl hg ha).tail (isH_ne h)
      have := ht.len; have := ht.le
      refine R.bind (ih.exp _ _ (by decide) ht.good ht.asc) fun e r he => ?_
      have := he.at_; have := he.size; have := he.aft.le
      refine R.weak (ih.expsL _ lo r he.aft.good he.aft.asc (by omega) (hacc.snoc (by omega) he.ord)) fun l s hl => ?_
      have h7 := hl.size
      simp only [szs_append, szs] at h7
      exact ⟨((ht.trans he.aft).trans hl.aft).weak (by omega), hl.ord, by omega⟩
end Go.Proofs.YtcdeodpakbcdeaaGreatDoor
namespace Go.Proofs.YtcdeodpakbcdeaaGreatDoor
open Go Go.RowKit
structure TB (ts : List Tk) (n : Tree) (r : List Tk) : Prop where
  aft : Aft 0 ts r
  at_ : n.at_ = at0 ts
  ord : ordT n
  size : sz n + 4 * r.length ≤ 4 * ts.length + 1
  kind : n.kind = 20
structure OS (f : Nat) : Prop where
  block : ∀ c ts, Good ts → Asc ts → R (pBlock f c ts) (TB ts)
  blockL : ∀ c at_ acc ts, Good ts → Asc ts → at_ ≤ at0 ts → ordTs at_ acc → (acc.Pairwise fun x y => x.at_ < y.at_) → (∀ x ∈ acc, x.at_ < at0 ts) → R (pBlockL f c at_ acc ts) fun n r => Aft 0 ts r ∧ n.at_ = at_ ∧ ordT n ∧ sz n + 4 * r.length ≤ szs acc + 4 * ts.length + 1 ∧ n.kind = 20
  function : ∀ ts, (hd ts).1 ≠ 6 → Good ts → Asc ts → R (pFunction f ts) (TE 0 ts)
  body : ∀ ts, Good ts → Asc ts → R (pBody f ts) fun b r => Aft 2 ts r ∧ at0 ts ≤ b.at_ ∧ ordT b ∧ sz b + 4 * r.length + 7 ≤ 4 * ts.length
  stat : ∀ ts, Good ts → Asc ts → R (pStat f ts) (TE 0 ts)
  branches : ∀ acc lo ts, Good ts → Asc ts → lo ≤ at0 ts → ordTs lo acc → R (pBranches f acc ts) (LE 1 lo acc ts)
  for_ : ∀ at_ ts, Good ts → Asc ts → at_ ≤ at0 ts → R (pFor f at_ ts) fun n r => Aft 1 ts r ∧ n.at_ = at_ ∧ ordT n ∧ sz n + 4 * r.length ≤ 4 * ts.length
  plain : ∀ ts, Good ts → Asc ts → R (pPlain f ts) (TE 0 ts)
  targets : ∀ acc lo e ts, Good ts → Asc ts → lo ≤ at0 ts → ordTs lo acc → lo ≤ e.at_ → ordT e → R (pTargets f acc e ts) fun l r => Aft 0 ts r ∧ ordTs lo l ∧ szs l + 4 * r.length ≤ szs acc + sz e + 4 * ts.length
theorem pw_snoc {acc : List Tree} {x : Tree} (h : acc.Pairwise fun x y => x.at_ < y.at_) (h2 : ∀ y ∈ acc, y.at_ < x.at_) : (acc ++ [x]).Pairwise fun x y => x.at_ < y.at_ := by
  refine List.pairwise_append.2 ⟨h, List.pairwise_singleton .., fun y hy z hz => ?_⟩
  obtain rfl := List.mem_singleton.1 hz
  exact h2 y hy
theorem rS : ∀ f, OS f
  | 0 => by constructor <;> intros <;> (first | unfold pBlock | unfold pBlockL | unfold pFunction | unfold pBody | unfold pStat | unfold pBranches | unfold pFor | unfold pPlain | unfold pTargets) <;> exact R.none
  | f + 1 => by
    have ih := rS f
    have ie := rE f
    constructor
    · intro c ts hg ha; unfold pBlock
      refine R.weak (ih.blockL c _ [] ts hg ha (Int.le_refl _) trivial List.Pairwise.nil (fun _ h => by cases h)) fun n r ⟨h1, h2, h3, h4, h5⟩ => ?_
      simp only [szs] at h4
      exact ⟨h1, h2, h3, by omega, h5⟩
    · intro c at_ acc ts hg ha hat hacc hp hlt; unfold pBlockL
      have next : ∀ x r, TE 0 ts x r → R (pBlockL f c at_ (acc ++ [x]) r) fun n r => Aft 0 ts r ∧ n.at_ = at_ ∧ ordT n ∧ sz n + 4 * r.length ≤ szs acc + 4 * ts.length + 1 ∧ n.kind = 20 := fun x r hx => by
        have := hx.at_; have := hx.size; have := hx.aft.len
        have h9 := hx.aft.lt (by omega)
        refine R.weak (ih.blockL c at_ (acc ++ [x]) r hx.aft.good hx.aft.asc (by omega) (hacc.snoc (by omega) hx.ord) (pw_snoc hp fun y hy => by have := hlt y hy; omega) fun y hy => ?_) fun n s ⟨h1, h2, h3, h4, h5⟩ => ?_
        · rcases List.mem_append.1 hy with hy | hy
          · have := hlt y hy; omega
          · obtain rfl := List.mem_singleton.1 hy; omega
        · simp only [szs_append, szs] at h4
          exact ⟨(hx.aft.trans h1).weak (by omega), h2, h3, by omega, h5⟩
      refine R.ite (fun h => ?_) fun _ => ?_
      · have ht := (Aft.refl hg ha).tail (isH_ne h)
        have := ht.len; have := ht.le
        refine R.weak (ih.blockL c at_ acc _ ht.good ht.asc (by omega) hacc hp fun x hx => by have := hlt x hx; omega) fun n s ⟨h1, h2, h3, h4, h5⟩ => ?_
        exact ⟨(ht.trans h1).weak (by omega), h2, h3, by omega, h5⟩
      refine R.ite (fun h => ?_) fun _ => ?_
      · have ht := (Aft.refl hg ha).tail (isH_ne h)
        have := ht.len; have := ht.le
        refine R.bind (Q1 := LE 0 (at0 ts) [] ts.tail) ?_ fun l r hl => ?_
        · refine R.ite (fun _ => R.ok ⟨Aft.refl ht.good ht.asc, trivial, Nat.le_refl _⟩) fun _ => ?_
          exact R.weak (ie.exps (at0 ts) _ ht.good ht.asc (by omega)) fun l r hl => ⟨hl.aft.weak (by omega), hl.ord, hl.size⟩
        have h7 := hl.size
        simp only [szs] at h7
        have hr : Aft 0 ts (if isH kSemi r = true then r.tail else r) ∧ (if isH kSemi r = true then r.tail else r).length ≤ r.length := by
          split
          · rename_i hc
            have := (hl.aft.good.tail (isH_ne hc)).2.1
            exact ⟨((ht.trans hl.aft).tail (isH_ne hc)).weak (by omega), by omega⟩
          · exact ⟨(ht.trans hl.aft).weak (by omega), Nat.le_refl _⟩
        have := hr.2
        refine R.ok ⟨hr.1, rfl, ⟨hacc.snoc (show at_ ≤ at0 ts by omega) (ordT.mk hl.ord (by decide)), fun _ => pw_snoc hp fun y hy => hlt y hy⟩, ?_, rfl⟩
        simp only [sz, szs, szs_append]
        omega
      refine R.ite (fun h => ?_) fun _ => ?_
      · simp only [Bool.and_eq_true] at h
        exact R.bind (ih.function ts (isH_ne h.2) hg ha) next
      refine R.ite (fun h => ?_) fun _ => R.bind (ih.stat ts hg ha) next
      refine R.ok ⟨Aft.refl hg ha, rfl, ⟨hacc, fun _ => hp⟩, ?_, rfl⟩
      simp only [sz]; omega
    · intro ts h6 hg ha; unfold pFunction
      have ht := (Aft.refl hg ha).tail h6
      have := ht.len; have := ht.le
      refine R.bind (rName (by decide) ht.good ht.asc) fun nm r hn => ?_
      have := hn.size
      have hnp : 1 ≤ sz nm := by cases nm; simp only [sz]; omega
      refine R.bind (rWant (ht.trans hn.aft)) fun _ r2 ⟨h2, h2'⟩ => ?_
      have := h2.le
      refine R.bind (Q1 := LE 0 (at0 ts) [] r2) ?_ fun ps r3 hl => ?_
      · refine R.ite (fun _ => R.ok ⟨Aft.refl h2.good h2.asc, trivial, Nat.le_refl _⟩) fun _ => ?_
        exact R.weak (rNames f h2.good h2.asc (by omega)) fun l r hl => ⟨hl.aft.weak (by omega), hl.ord, hl.size⟩
      refine R.bind (rWant (h2.trans hl.aft)) fun _ r4 ⟨h4, h4'⟩ => ?_
      have h7 := hl.size
      simp only [szs] at h7
      have := h4.le
      refine R.bind (ih.block false r4 h4.good h4.asc) fun b r5 hb => ?_
      have := hb.at_; have := hb.size
      refine R.bind (rWant (h4.trans hb.aft)) fun _ r6 ⟨h8, h8'⟩ => R.ok ?_
      refine ⟨h8.weak (by omega), rfl, ordT.mk (hl.ord.snoc (show at0 ts ≤ _ by omega) hb.ord) (by decide), ?_⟩
      simp only [sz, szs, szs_append]
      omega
    · intro ts hg ha; unfold pBody
      refine R.bind (rWant (Aft.refl hg ha)) fun _ r ⟨h1, h1'⟩ => ?_
      have := h1.le
      refine R.bind (ih.block false r h1.good h1.asc) fun b r2 hb => ?_
      have := hb.at_; have := hb.size
      refine R.bind (rWant (h1.trans hb.aft)) fun _ r3 ⟨h3, h3'⟩ => R.ok ?_
      exact ⟨h3.weak (by omega), by omega, hb.ord, by omega⟩
    · intro ts hg ha; unfold pStat
      refine R.ite (fun h => ?_) fun _ => ?_
      · refine R.bind (ih.body ts hg ha) fun b r ⟨h1, h2, h3, h4⟩ => R.ok ?_
        exact ⟨h1.weak (by omega), rfl, ordT.mk (one (show at0 ts ≤ _ by omega) h3) (by decide), by simp only [sz, szs]; omega⟩
      refine R.ite (fun h => ?_) fun _ => ?_
      · have ht := (Aft.refl hg ha).tail (isH_ne h)
        have := ht.len; have := ht.le
        refine R.bind (ie.exp _ _ (by decide) ht.good ht.asc) fun e r he => ?_
        have := he.at_; have := he.size; have := he.aft.le
        refine R.bind (ih.body r he.aft.good he.aft.asc) fun b r ⟨h1, h2, h3, h4⟩ => R.ok ?_
        exact ⟨((ht.trans he.aft).trans h1).weak (by omega), rfl, ordT.mk ⟨⟨show at0 ts ≤ _ by omega, he.ord⟩, ⟨show at0 ts ≤ _ by omega, h3⟩, trivial⟩ (by decide), by simp only [sz, szs]; omega⟩
      refine R.ite (fun h => ?_) fun _ => ?_
      · have ht := (Aft.refl hg ha).tail (isH_ne h)
        have := ht.len; have := ht.le
        refine R.bind (ih.branches [] (at0 ts) _ ht.good ht.asc (by omega) trivial) fun l r hl => R.ok ?_
        have h7 := hl.size
        simp only [szs] at h7
        exact ⟨(ht.trans hl.aft).weak (by omega), rfl, ordT.mk hl.ord (by decide), by simp only [sz]; omega⟩
      refine R.ite (fun h => ?_) fun _ => ?_
      · have ht := (Aft.refl hg ha).tail (isH_ne h)
        have := ht.len; have := ht.le
        refine R.weak (ih.for_ (at0 ts) _ ht.good ht.asc (by omega)) fun n r ⟨h1, h2, h3, h4⟩ => ?_
        exact ⟨(ht.trans h1).weak (by omega), h2, h3, by omega⟩
      refine R.ite (fun h => ?_) fun _ => ?_
      · have ht := (Aft.refl hg ha).tail (isH_ne h)
        have := ht.len; have := ht.le
        refine R.bind (rNames f ht.good ht.asc (lo := at0 ts) (by omega)) fun l r hl => ?_
        have := hl.aft.le
        have h7 := hl.size
        simp only [szs] at h7
        refine R.bind (Q1 := LE 0 (at0 ts) [] r) ?_ fun es r2 he => R.ok ?_
        · refine R.ite (fun hc => ?_) fun _ => R.ok ⟨Aft.refl hl.aft.good hl.aft.asc, trivial, Nat.le_refl _⟩
          have ht2 := (Aft.refl hl.aft.good hl.aft.asc).tail (isH_ne hc)
          have := ht2.len; have := ht2.le
          exact R.weak (ie.exps (at0 ts) _ ht2.good ht2.asc (by omega)) fun l r hl => ⟨(ht2.trans hl.aft).weak (by omega), hl.ord, by have := hl.size; omega⟩
        have h8 := he.size
        simp only [szs] at h8
        exact ⟨((ht.trans hl.aft).trans he.aft).weak (by omega), rfl, ordT.mk (hl.ord.app he.ord) (by decide), by simp only [sz, szs_append]; omega⟩
      refine R.ite (fun h => ?_) fun _ => ih.plain ts hg ha
      have := leafTE (k := 29) (t := noB) (n := 0) (by decide) hg ha (isH_ne h)
      exact R.ok ⟨this.aft, this.at_, this.ord, by have := this.size; omega⟩
    · intro acc lo ts hg ha hlo hacc; unfold pBranches
      refine R.bind (ie.exp _ _ (by decide) hg ha) fun e r he => ?_
      have := he.at_; have := he.size; have := he.aft.le
      refine R.bind (rWant he.aft) fun _ r2 ⟨h2, h2'⟩ => ?_
      have := h2.le
      refine R.bind (ih.block false r2 h2.good h2.asc) fun b r3 hb => ?_
      have := hb.at_; have := hb.size; have := hb.aft.le
      have h3 := h2.trans hb.aft
      have hacc' := (hacc.snoc (x := e) (by omega) he.ord).snoc (x := b) (by omega) hb.ord
      refine R.ite (fun h => ?_) fun _ => ?_
      · have ht := h3.tail (isH_ne h)
        have := ht.le
        have := (h3.good.tail (isH_ne h)).2.1
        refine R.weak (ih.branches _ lo _ ht.good ht.asc (by omega) hacc') fun l s hl => ?_
        have h7 := hl.size
        simp only [szs_append, szs] at h7
        exact ⟨(ht.trans hl.aft).weak (by omega), hl.ord, by omega⟩
      refine R.ite (fun h => ?_) fun _ => ?_
      · have ht := h3.tail (isH_ne h)
        have := ht.le
        have := (h3.good.tail (isH_ne h)).2.1
        refine R.bind (ih.block false _ ht.good ht.asc) fun c r4 hc => ?_
        have := hc.at_; have := hc.size
        refine R.bind (rWant (ht.trans hc.aft)) fun _ r5 ⟨h5, h5'⟩ => R.ok ?_
        exact ⟨h5.weak (by omega), hacc'.snoc (by omega) hc.ord, by simp only [szs_append, szs]; omega⟩
      · refine R.bind (rWant h3) fun _ r5 ⟨h5, h5'⟩ => R.ok ?_
        exact ⟨h5.weak (by omega), hacc', by simp only [szs_append, szs]; omega⟩
    · intro at_ ts hg ha hat; unfold pFor
      refine R.bind (rName (by decide) hg ha) fun n r hn => ?_
      have := hn.at_; have := hn.size; have := hn.aft.le
      refine R.ite (fun h => ?_) fun _ => ?_
      · have ht := hn.aft.tail (isH_ne h)
        have := ht.le
        have := (hn.aft.good.tail (isH_ne h)).2.1
        refine R.bind (ie.exp _ _ (by decide) ht.good ht.asc) fun a r2 h2 => ?_
        have := h2.at_; have := h2.size
        refine R.bind (rWant (ht.trans h2.aft)) fun _ r3 ⟨h3, h3'⟩ => ?_
        have := h3.le
        refine R.bind (ie.exp _ _ (by decide) h3.good h3.asc) fun b r4 h4 => ?_
        have := h4.at_; have := h4.size; have := h4.aft.le
        refine R.bind (Q1 := LE 0 at_ [] r4) ?_ fun cs r5 h5 => ?_
        · refine R.ite (fun hc => ?_) fun _ => R.ok ⟨Aft.refl h4.aft.good h4.aft.asc, trivial, Nat.le_refl _⟩
          have ht2 := (Aft.refl h4.aft.good h4.aft.asc).tail (isH_ne hc)
          have := ht2.len; have := ht2.le
          refine R.bind (ie.exp _ _ (by decide) ht2.good ht2.asc) fun c s hc => R.ok ?_
          have := hc.at_; have := hc.size
          exact ⟨(ht2.trans hc.aft).weak (by omega), one (by omega) hc.ord, by simp only [szs]; omega⟩
        have h7 := h5.size
        simp only [szs] at h7
        have := h5.aft.le
        refine R.bind (ih.body r5 h5.aft.good h5.aft.asc) fun bd r6 ⟨h8, h9, h10, h11⟩ => R.ok ?_
        refine ⟨(((h3.trans h4.aft).trans h5.aft).trans h8).weak (by omega), rfl, ordT.mk ?_ (by decide), by simp only [sz, szs_append, szs]; omega⟩
        exact ((((one (x := n) (by omega) hn.ord).snoc (x := a) (by omega) h2.ord).snoc (x := b) (by omega) h4.ord).app h5.ord).snoc (x := bd) (by omega) h10
      refine R.bind (rNamesL f [n] at_ r hn.aft.good hn.aft.asc (by omega) (one (by omega) hn.ord)) fun l r2 hl => ?_
      have h7 := hl.size
      simp only [szs] at h7
      refine R.bind (rWant (hn.aft.trans hl.aft)) fun _ r3 ⟨h3, h3'⟩ => ?_
      have := h3.le
      refine R.bind (ie.exps at_ r3 h3.good h3.asc (by omega)) fun es r4 h4 => ?_
      have h8 := h4.size
      simp only [szs] at h8
      have := h4.aft.le
      refine R.bind (ih.body r4 h4.aft.good h4.aft.asc) fun bd r6 ⟨h9, h10, h11, h12⟩ => R.ok ?_
      exact ⟨((h3.trans h4.aft).trans h9).weak (by omega), rfl, ordT.mk ((hl.ord.app h4.ord).snoc (x := bd) (by omega) h11) (by decide), by simp only [sz, szs_append, szs]; omega⟩
    · intro ts hg ha; unfold pPlain
      refine R.bind (ie.suffixed ts hg ha) fun e r he => ?_
      have := he.at_; have := he.size; have := he.aft.le
      refine R.ite (fun h => ?_) fun _ => ?_
      · refine R.bind (ih.targets [] (at0 ts) e r he.aft.good he.aft.asc (by omega) trivial (by omega) he.ord) fun l r2 ⟨h1, h2, h3⟩ => ?_
        simp only [szs] at h3
        refine R.bind (rWant (he.aft.trans h1)) fun _ r3 ⟨h4, h4'⟩ => ?_
        have := h4.le
        refine R.bind (ie.exps (at0 ts) r3 h4.good h4.asc (by omega)) fun es r4 h5 => R.ok ?_
        have h6 := h5.size
        simp only [szs] at h6
        exact ⟨(h4.trans h5.aft).weak (by omega), he.at_, ordT.mk ((h2.app h5.ord).weak (by omega)) (by decide), by simp only [sz, szs_append]; omega⟩
      refine R.ite (fun h => R.ok ?_) fun _ => R.bad
      exact ⟨he.aft, he.at_, ordT.mk (one (Int.le_refl _) he.ord) (by decide), by simp only [sz, szs]; omega⟩
    · intro acc lo e ts hg ha hlo hacc he0 he; unfold pTargets
      refine R.ite (fun h => ?_) fun _ => R.bad
      have hacc' := hacc.snoc he0 he
      refine R.ite (fun h => ?_) fun _ => R.ok ⟨Aft.refl hg ha, hacc', by simp only [szs_append, szs]; omega⟩
      have ht := (Aft.refl hg ha).tail (isH_ne h)
      have := ht.len; have := ht.le
      refine R.bind (ie.suffixed _ ht.good ht.asc) fun e' r hx => ?_
      have := hx.at_; have := hx.size; have := hx.aft.le
      refine R.weak (ih.targets _ lo e' r hx.aft.good hx.aft.asc (by omega) hacc' (by omega) hx.ord) fun l s ⟨h1, h2, h3⟩ => ?_
      simp only [szs_append, szs] at h3
      exact ⟨((ht.trans hx.aft).trans h1).weak (by omega), h2, by omega⟩
theorem vBlock_tb {c : Bool} {ts r : List Tk} {b : Tree} (hg : Good ts) (ha : Asc ts) (h : vBlock c ts = .ok b r) : TB ts b r :=
  (rS _).block c ts hg ha b r ((pBlock_v c hg (by unfold fu; omega : _ ≤ fu ts)).trans (congrArg some h))
end Go.Proofs.YtcdeodpakbcdeaaGreatDoor
namespace Go.Proofs.YtcdeodpakbcdeaaGreatDoor
namespace Lx
theorem scanG_succ (f : Nat) (l : Bs) (at_ : Nat) (acc : List Tok) : scanG (f + 1) l at_ acc =
    match stepF (l.drop (runL blankR l)) with
    | .done => .inr (acc ++ [⟨6, [], 0, at_ + runL blankR l⟩])
    | .skip n => scanG f ((l.drop (runL blankR l)).drop n) (at_ + runL blankR l + n) acc
    | .tok kind text n len => scanG f ((l.drop (runL blankR l)).drop len) (at_ + runL blankR l + len) (acc ++ [⟨kind, text, n, at_ + runL blankR l⟩])
    | .bad c r => .inl (c, (at_ + runL blankR l + r : Nat)) := rfl
end Lx
end Go.Proofs.YtcdeodpakbcdeaaGreatDoor
namespace Go.Proofs.YtcdeodpakbcdeaaGreatDoor
namespace Lx
theorem stepF_take (l : Bs) : (∀ n, stepF l = .skip n → 1 ≤ n ∧ n ≤ l.length) ∧ (∀ k t n len, stepF l = .tok k t n len → 1 ≤ len ∧ len ≤ l.length) :=
  ⟨fun n h => stepF_skip l n h, fun k t n len h => stepF_tok l k t n len h⟩
theorem scanG_fuel : ∀ (f g : Nat) (l : Bs) (at_ : Nat) (acc : List Tok), l.length < f → l.length < g → scanG f l at_ acc = scanG g l at_ acc
  | 0, _, l, _, _, h, _ => by omega
  | _, 0, l, _, _, _, h => by omega
  | f + 1, g + 1, l, at_, acc, h, h' => by
    rw [scanG_succ, scanG_succ]
    have hd : (l.drop (runL blankR l)).length ≤ l.length := by rw [List.length_drop]; omega
    cases hst : stepF (l.drop (runL blankR l)) with
    | done => rfl
    | bad c r => rfl
    | skip n =>
      have := (stepF_take _).1 n hst
      exact scanG_fuel f g _ _ _ (by rw [List.length_drop]; omega) (by rw [List.length_drop]; omega)
    | tok k t n len =>
      have := (stepF_take _).2 k t n len hst
      exact scanG_fuel f g _ _ _ (by rw [List.length_drop]; omega) (by rw [List.length_drop]; omega)
def scanL (l : Bs) (at_ : Nat) (acc : List Tok) : (Int × Int) ⊕ List Tok := scanG (l.length + 1) l at_ acc
theorem scanL_step (l : Bs) (at_ : Nat) (acc : List Tok) : scanL l at_ acc =
    match stepF (l.drop (runL blankR l)) with
    | .done => .inr (acc ++ [⟨6, [], 0, at_ + runL blankR l⟩])
    | .skip n => scanL ((l.drop (runL blankR l)).drop n) (at_ + runL blankR l + n) acc
    | .tok kind text n len => scanL ((l.drop (runL blankR l)).drop len) (at_ + runL blankR l + len) (acc ++ [⟨kind, text, n, at_ + runL blankR l⟩])
    | .bad c r => .inl (c, (at_ + runL blankR l + r : Nat)) := by
  unfold scanL
  rw [scanG_succ]
  have hd : (l.drop (runL blankR l)).length ≤ l.length := by rw [List.length_drop]; omega
  cases hst : stepF (l.drop (runL blankR l)) with
  | done => rfl
  | bad c r => rfl
  | skip n =>
    have := (stepF_take _).1 n hst
    exact scanG_fuel _ _ _ _ _ (by rw [List.length_drop]; omega) (by omega)
  | tok k t n len =>
    have := (stepF_take _).2 k t n len hst
    exact scanG_fuel _ _ _ _ _ (by rw [List.length_drop]; omega) (by omega)
end Lx
end Go.Proofs.YtcdeodpakbcdeaaGreatDoor
namespace Go.Proofs.YtcdeodpakbcdeaaGreatDoor
open Go Go.RowKit Lx
def Rise : Nat → Nat → List Tok → Prop
  | _, _, [] => False
  | lo, hi, x :: t => lo ≤ x.at_ ∧ x.at_ ≤ hi ∧ ((x.kind = 6 ∧ t = []) ∨ (x.kind ≠ 6 ∧ Rise (x.at_ + 1) hi t))
theorem Rise.weak : ∀ {t : List Tok} {lo lo' hi : Nat}, lo' ≤ lo → Rise lo hi t → Rise lo' hi t
  | [], _, _, _, _, h => h
  | _ :: _, _, _, _, hl, ⟨h1, h2, h3⟩ => ⟨Nat.le_trans hl h1, h2, h3⟩
theorem stepF_kind (l : Bs) (k : Int) (t : Bs) (n : Int) (len : Nat) (h : stepF l = .tok k t n len) : k ≠ 6 := by
  unfold stepF at h
  dsimp only at h
  repeat' split at h
  all_goals first | (cases h; done) | (simp only [Step.tok.injEq] at h; obtain ⟨rfl, _⟩ := h; (repeat' split) <;> decide)
theorem scan_rise : ∀ (f : Nat) (l : Bs) (at_ : Nat) (acc t : List Tok), l.length < f → scanG f l at_ acc = .inr t → ∃ t', t = acc ++ t' ∧ Rise at_ (at_ + l.length) t'
  | 0, l, _, _, _, hf, _ => absurd hf (Nat.not_lt_zero _)
  | f + 1, l, at_, acc, t, hf, h => by
    unfold scanG at h
    dsimp only at h
    have hk := runL_le' blankR l
    have hdl : (l.drop (runL blankR l)).length = l.length - runL blankR l := List.length_drop
    cases hst : stepF (l.drop (runL blankR l)) with
    | done =>
      rw [hst] at h
      cases h
      exact ⟨_, rfl, by show at_ ≤ at_ + _; omega, by show at_ + _ ≤ _; omega, .inl ⟨rfl, rfl⟩⟩
    | bad c r => rw [hst] at h; cases h
    | skip q =>
      have hq := (stepF_take _).1 q hst
      rw [hst] at h
      dsimp only at h
      have hlen : ((l.drop (runL blankR l)).drop q).length = l.length - runL blankR l - q := by rw [List.length_drop, hdl]
      obtain ⟨t', e, hR⟩ := scan_rise f _ _ _ _ (by omega) h
      refine ⟨t', e, ?_⟩
      rw [show at_ + l.length = at_ + runL blankR l + q + ((l.drop (runL blankR l)).drop q).length by omega]
      exact hR.weak (by omega)
    | tok kd tx x len =>
      have hq := (stepF_take _).2 _ _ _ _ hst
      rw [hst] at h
      dsimp only at h
      have hlen : ((l.drop (runL blankR l)).drop len).length = l.length - runL blankR l - len := by rw [List.length_drop, hdl]
      obtain ⟨t', e, hR⟩ := scan_rise f _ _ _ _ (by omega) h
      refine ⟨⟨kd, tx, x, at_ + runL blankR l⟩ :: t', by rw [e, List.append_assoc]; rfl, by show at_ ≤ at_ + _; omega, by show at_ + _ ≤ _; omega, .inr ⟨stepF_kind _ _ _ _ _ hst, ?_⟩⟩
      rw [show at_ + l.length = at_ + runL blankR l + len + ((l.drop (runL blankR l)).drop len).length by omega]
      exact hR.weak (by show at_ + _ + 1 ≤ _; omega)
theorem Rise.good : ∀ {t : List Tok} {lo hi : Nat}, Rise lo hi t → Good (t.map tokT) ∧ Asc (t.map tokT) ∧ (∀ x ∈ t.map tokT, (lo : Int) ≤ x.2.2.2 ∧ x.2.2.2 ≤ hi) ∧ lo + t.length ≤ hi + 1
  | [], _, _, h => h.elim
  | x :: t, lo, hi, ⟨h1, h2, h3⟩ => by
    rcases h3 with ⟨h6, rfl⟩ | ⟨h6, hR⟩
    · refine ⟨h6, List.pairwise_singleton .., fun y hy => ?_, by simp; omega⟩
      obtain rfl := List.mem_singleton.1 hy
      exact ⟨by show (lo : Int) ≤ x.at_; omega, by show (x.at_ : Int) ≤ hi; omega⟩
    · obtain ⟨g1, g2, g3, g4⟩ := hR.good
      refine ⟨?_, List.pairwise_cons.2 ⟨fun y hy => ?_, g2⟩, fun y hy => ?_, by simp only [List.length_cons]; omega⟩
      · cases t with
        | nil => exact hR.elim
        | cons u t => exact ⟨h6, g1⟩
      · have := (g3 y hy).1
        show (x.at_ : Int) < _
        omega
      · rcases List.mem_cons.1 hy with rfl | hy
        · exact ⟨by show (lo : Int) ≤ x.at_; omega, by show (x.at_ : Int) ≤ hi; omega⟩
        · have := g3 y hy
          exact ⟨by omega, this.2⟩
structure Toks (n : Nat) (ts : List Tk) : Prop where
  good : Good ts
  asc : Asc ts
  at_ : ∀ x ∈ ts, 0 ≤ x.2.2.2 ∧ x.2.2.2 ≤ n
  len : ts.length ≤ 20001
theorem scan_toks (s : ByteArray) (t : List Tok) (h : scanF (bs s) = .inr t) : Toks s.size (t.map tokT) := by
  unfold scanF at h
  split at h
  · cases h
  · rename_i hs
    have hl : (bs s).length = s.size := bs_length s
    obtain ⟨t', e, hR⟩ := scan_rise _ _ _ _ _ (Nat.lt_succ_self _) h
    rw [List.nil_append] at e
    subst e
    obtain ⟨g1, g2, g3, g4⟩ := hR.good
    refine ⟨g1, g2, fun x hx => ?_, by rw [List.length_map]; omega⟩
    have := g3 x hx
    omega
end Go.Proofs.YtcdeodpakbcdeaaGreatDoor
namespace Go.Proofs.YtcdeodpakbcdeaaGreatDoor
open Go Go.RowKit
structure Cx (n : Int) (ts : List Tk) : Prop where
  good : Good ts
  asc : Asc ts
  at_ : ∀ x ∈ ts, 0 ≤ x.2.2.2 ∧ x.2.2.2 ≤ n
theorem Cx.suf {n : Int} {ts r : List Tk} (h : Cx n ts) (hg : Good r) (hs : r <:+ ts) : Cx n r := ⟨hg, List.Pairwise.sublist hs.sublist h.asc, fun x hx => h.at_ x (hs.subset hx)⟩
theorem Cx.tail {n : Int} {ts : List Tk} (h : Cx n ts) (h6 : (hd ts).1 ≠ 6) : Cx n ts.tail := h.suf (h.good.tail h6).1 (h.good.tail h6).2.2
theorem Cx.hd {n : Int} {ts : List Tk} (h : Cx n ts) : 0 ≤ (hd ts).2.2.2 ∧ (hd ts).2.2.2 ≤ n := by
  cases ts with
  | nil => exact h.good.elim
  | cons t ts => exact h.at_ t (List.mem_cons_self ..)
def BB {α : Type} (n : Int) (x : Option (PV α)) : Prop := ∀ i, x = some (.bad i) → 0 ≤ i ∧ i ≤ n
section
variable {α β : Type} {n : Int} {m : Nat} {ts : List Tk} {x y : Option (PV α)} {f : α → List Tk → Option (PV β)}
theorem BB.bind (hC : Cx n ts) (hs : Step m ts x) (h1 : BB n x) (h2 : ∀ a r, x = some (.ok a r) → Cx n r → BB n (f a r)) : BB n (PV.bind x f) := fun i h => by
  rcases bind_some h with ⟨j, hx, he⟩ | ⟨a, r, hx, hf⟩
  · cases he; exact h1 _ hx
  · obtain ⟨g1, _, g3⟩ := hs hC.good _ hx
    exact h2 a r hx (hC.suf g1 g3) i hf
theorem BB.none : BB n (none : Option (PV α)) := fun _ h => by cases h
theorem BB.ok {a : α} {r : List Tk} : BB n (some (.ok a r)) := fun _ h => by cases h
theorem BB.bad {i : Int} (h : 0 ≤ i ∧ i ≤ n) : BB n (some (.bad i) : Option (PV α)) := fun _ h' => by cases h'; exact h
theorem BB.ite {c : Prop} [Decidable c] (h1 : c → BB n x) (h2 : ¬ c → BB n y) : BB n (if c then x else y) := by
  by_cases h : c
  · rw [if_pos h]; exact h1 h
  · rw [if_neg h]; exact h2 h
theorem bWant {w : ByteArray} (hC : Cx n ts) : BB n (pWant w ts) := BB.ite (fun _ => BB.ok) fun _ => BB.bad hC.hd
theorem bName {k : Int} (hC : Cx n ts) : BB n (pName k ts) := BB.ite (fun _ => BB.ok) fun _ => BB.bad hC.hd
end
variable {n : Int}
theorem bNamesL : ∀ (f : Nat) (acc : List Tree) (ts : List Tk), Cx n ts → BB n (pNamesL f acc ts)
  | 0, _, _, _ => BB.none
  | f + 1, acc, ts, hC => by
    unfold pNamesL
    refine BB.ite (fun hc => ?_) fun _ => BB.ok
    exact BB.bind (hC.tail (isH_ne hc)) (step_name _ _) (bName (hC.tail (isH_ne hc))) fun a r _ hr => bNamesL f _ r hr
theorem bNames (f : Nat) {ts : List Tk} (hC : Cx n ts) : BB n (pNames f ts) := BB.bind hC (step_name _ _) (bName hC) fun a r _ hr => bNamesL f _ r hr
structure BE' (n : Int) (f : Nat) : Prop where
  exp : ∀ least ts, 0 ≤ least → Cx n ts → BB n (pExp f least ts)
  loop : ∀ least t ts, 0 ≤ least → Cx n ts → BB n (pLoop f least t ts)
  operand : ∀ ts, Cx n ts → BB n (pOperand f ts)
  fields : ∀ acc ts, Cx n ts → BB n (pFields f acc ts)
  field : ∀ ts, Cx n ts → BB n (pField f ts)
  suffixed : ∀ ts, Cx n ts → BB n (pSuffixed f ts)
  sufL : ∀ at_ t ts, Cx n ts → BB n (pSufL f at_ t ts)
  exps : ∀ ts, Cx n ts → BB n (pExps f ts)
  expsL : ∀ acc ts, Cx n ts → BB n (pExpsL f acc ts)
theorem bE : ∀ f, BE' n f
  | 0 => by constructor <;> intros <;> (first | unfold pExp | unfold pLoop | unfold pOperand | unfold pFields | unfold pField | unfold pSuffixed | unfold pSufL | unfold pExps | unfold pExpsL) <;> exact BB.none
  | f + 1 => by
    have ih := bE f
    have is := stepE f
    constructor
    · intro least ts hl hC; unfold pExp
      exact BB.bind hC (is.operand ts) (ih.operand ts hC) fun a r _ hr => ih.loop _ _ _ hl hr
    · intro least t ts hl hC; unfold pLoop
      refine BB.ite (fun _ => BB.ok) fun hc => ?_
      have hb := bindsH_range ts
      have hT := hC.tail (bindsH_ne (by omega))
      exact BB.bind hT (is.exp _ _) (ih.exp _ _ (by split <;> omega) hT) fun a r _ hr => ih.loop _ _ _ hl hr
    · intro ts hC; unfold pOperand
      refine BB.ite (fun _ => BB.ok) fun _ => BB.ite (fun _ => BB.ok) fun _ => BB.ite (fun _ => BB.ok) fun _ => BB.ite (fun _ => BB.ok) fun _ => BB.ite (fun _ => BB.ok) fun _ => ?_
      refine BB.ite (fun h => ?_) fun _ => BB.ite (fun h => ?_) fun _ => ih.suffixed ts hC
      · have h6 : (hd ts).1 ≠ 6 := by
          simp only [Bool.or_eq_true] at h
          rcases h with (h | h) | h <;> exact isH_ne h
        exact BB.bind (hC.tail h6) (is.exp _ _) (ih.exp _ _ (by decide) (hC.tail h6)) fun _ _ _ _ => BB.ok
      · exact BB.bind (hC.tail (isH_ne h)) (is.fields _ _) (ih.fields _ _ (hC.tail (isH_ne h))) fun _ _ _ _ => BB.ok
    · intro acc ts hC; unfold pFields
      refine BB.ite (fun _ => BB.ok) fun _ => BB.bind hC (is.field ts) (ih.field ts hC) fun x r _ hr => ?_
      refine BB.ite (fun h => ih.fields _ _ (hr.tail (isH_ne h))) fun _ => BB.ite (fun h => ih.fields _ _ (hr.tail (isH_ne h))) fun _ => ?_
      exact BB.bind hr (step_want _ _) (bWant hr) fun _ _ _ _ => BB.ok
    · intro ts hC; unfold pField
      refine BB.ite (fun h => ?_) fun _ => BB.ite (fun h => ?_) fun _ => ?_
      · have hT := hC.tail (isH_ne h)
        exact BB.bind hT (is.exp _ _) (ih.exp _ _ (by decide) hT) fun _ r _ hr => BB.bind hr (step_want _ _) (bWant hr) fun _ r _ hr => BB.bind hr (step_want _ _) (bWant hr) fun _ r _ hr => BB.bind hr (is.exp _ _) (ih.exp _ _ (by decide) hr) fun _ _ _ _ => BB.ok
      · obtain ⟨h1, h2, _⟩ := h
        have hT := (hC.tail (by omega)).tail (by omega)
        exact BB.bind hT (is.exp _ _) (ih.exp _ _ (by decide) hT) fun _ _ _ _ => BB.ok
      · exact BB.bind hC (is.exp _ _) (ih.exp _ _ (by decide) hC) fun _ _ _ _ => BB.ok
    · intro ts hC; unfold pSuffixed
      refine BB.ite (fun h => ?_) fun _ => ?_
      · have hT := hC.tail (isH_ne h)
        exact BB.bind hT (is.exp _ _) (ih.exp _ _ (by decide) hT) fun _ r _ hr => BB.bind hr (step_want _ _) (bWant hr) fun _ r _ hr => ih.sufL _ _ _ hr
      · exact BB.bind hC (step_name _ _) (bName hC) fun _ r _ hr => ih.sufL _ _ _ hr
    · intro at_ t ts hC; unfold pSufL
      refine BB.ite (fun h => ?_) fun _ => BB.ite (fun h => ?_) fun _ => BB.ite (fun h => ?_) fun _ => BB.ok
      · have hT := hC.tail (isH_ne h)
        exact BB.bind hT (is.exp _ _) (ih.exp _ _ (by decide) hT) fun _ r _ hr => BB.bind hr (step_want _ _) (bWant hr) fun _ r _ hr => ih.sufL _ _ _ hr
      · have hT := hC.tail (isH_ne h)
        exact BB.bind hT (step_name _ _) (bName hT) fun _ r _ hr => ih.sufL _ _ _ hr
      · have hT := hC.tail (isH_ne h)
        exact BB.bind (m := 0) hT (step_if (fun _ => step_ok) fun _ => step_weak (is.exps _) (by omega)) (BB.ite (fun _ => BB.ok) fun _ => ih.exps _ hT) fun _ r _ hr => BB.bind hr (step_want _ _) (bWant hr) fun _ r _ hr => ih.sufL _ _ _ hr
    · intro ts hC; unfold pExps
      exact BB.bind hC (is.exp _ _) (ih.exp _ _ (by decide) hC) fun _ r _ hr => ih.expsL _ _ hr
    · intro acc ts hC; unfold pExpsL
      refine BB.ite (fun h => ?_) fun _ => BB.ok
      have hT := hC.tail (isH_ne h)
      exact BB.bind hT (is.exp _ _) (ih.exp _ _ (by decide) hT) fun _ r _ hr => ih.expsL _ _ hr
structure BS' (n : Int) (f : Nat) : Prop where
  block : ∀ c ts, Cx n ts → BB n (pBlock f c ts)
  blockL : ∀ c at_ acc ts, Cx n ts → BB n (pBlockL f c at_ acc ts)
  function : ∀ ts, (hd ts).1 ≠ 6 → Cx n ts → BB n (pFunction f ts)
  body : ∀ ts, Cx n ts → BB n (pBody f ts)
  stat : ∀ ts, Cx n ts → BB n (pStat f ts)
  branches : ∀ acc ts, Cx n ts → BB n (pBranches f acc ts)
  for_ : ∀ at_ ts, Cx n ts → BB n (pFor f at_ ts)
  plain : ∀ ts, Cx n ts → BB n (pPlain f ts)
  targets : ∀ acc e ts, Cx n ts → 0 ≤ e.at_ ∧ e.at_ ≤ n → BB n (pTargets f acc e ts)
theorem bS : ∀ f, BS' n f
  | 0 => by constructor <;> intros <;> (first | unfold pBlock | unfold pBlockL | unfold pFunction | unfold pBody | unfold pStat | unfold pBranches | unfold pFor | unfold pPlain | unfold pTargets) <;> exact BB.none
  | f + 1 => by
    have ih := bS f
    have ie := bE (n := n) f
    have is := stepE f
    have it := stepS f
    constructor
    · intro c ts hC; unfold pBlock; exact ih.blockL _ _ _ _ hC
    · intro c at_ acc ts hC; unfold pBlockL
      refine BB.ite (fun h => ih.blockL _ _ _ _ (hC.tail (isH_ne h))) fun _ => BB.ite (fun h => ?_) fun _ => BB.ite (fun h => ?_) fun _ => BB.ite (fun _ => BB.ok) fun _ => ?_
      · have hT := hC.tail (isH_ne h)
        exact BB.bind (m := 0) hT (step_if (fun _ => step_ok) fun _ => step_weak (is.exps _) (by omega)) (BB.ite (fun _ => BB.ok) fun _ => ie.exps _ hT) fun _ _ _ _ => BB.ok
      · simp only [Bool.and_eq_true] at h
        exact BB.bind hC (it.function _ (isH_ne h.2)) (ih.function _ (isH_ne h.2) hC) fun _ r _ hr => ih.blockL _ _ _ _ hr
      · exact BB.bind hC (it.stat _) (ih.stat _ hC) fun _ r _ hr => ih.blockL _ _ _ _ hr
    · intro ts h6 hC; unfold pFunction
      have hT := hC.tail h6
      refine BB.bind hT (step_name _ _) (bName hT) fun _ r _ hr => BB.bind hr (step_want _ _) (bWant hr) fun _ r _ hr => ?_
      refine BB.bind (m := 0) hr (step_if (fun _ => step_ok) fun _ => step_weak (step_names f _) (by omega)) (BB.ite (fun _ => BB.ok) fun _ => bNames f hr) fun _ r _ hr => BB.bind hr (step_want _ _) (bWant hr) fun _ r _ hr => ?_
      exact BB.bind hr (it.block _ _) (ih.block _ _ hr) fun _ r _ hr => BB.bind hr (step_want _ _) (bWant hr) fun _ _ _ _ => BB.ok
    · intro ts hC; unfold pBody
      exact BB.bind hC (step_want _ _) (bWant hC) fun _ r _ hr => BB.bind hr (it.block _ _) (ih.block _ _ hr) fun _ r _ hr => BB.bind hr (step_want _ _) (bWant hr) fun _ _ _ _ => BB.ok
    · intro ts hC; unfold pStat
      refine BB.ite (fun h => BB.bind hC (it.body _) (ih.body _ hC) fun _ _ _ _ => BB.ok) fun _ => BB.ite (fun h => ?_) fun _ => BB.ite (fun h => ?_) fun _ => BB.ite (fun h => ih.for_ _ _ (hC.tail (isH_ne h))) fun _ => BB.ite (fun h => ?_) fun _ => BB.ite (fun _ => BB.ok) fun _ => ih.plain _ hC
      · have hT := hC.tail (isH_ne h)
        exact BB.bind hT (is.exp _ _) (ie.exp _ _ (by decide) hT) fun _ r _ hr => BB.bind hr (it.body _) (ih.body _ hr) fun _ _ _ _ => BB.ok
      · have hT := hC.tail (isH_ne h)
        exact BB.bind hT (it.branches _ _) (ih.branches _ _ hT) fun _ _ _ _ => BB.ok
      · have hT := hC.tail (isH_ne h)
        refine BB.bind hT (step_names f _) (bNames f hT) fun _ r _ hr => ?_
        exact BB.bind (m := 0) hr (step_if (fun hc => step_weak (step_tail (isH_ne hc) (is.exps _)) (by omega)) fun _ => step_ok) (BB.ite (fun hc => ie.exps _ (hr.tail (isH_ne hc))) fun _ => BB.ok) fun _ _ _ _ => BB.ok
    · intro acc ts hC; unfold pBranches
      refine BB.bind hC (is.exp _ _) (ie.exp _ _ (by decide) hC) fun _ r _ hr => BB.bind hr (step_want _ _) (bWant hr) fun _ r _ hr => BB.bind hr (it.block _ _) (ih.block _ _ hr) fun _ r _ hr => ?_
      refine BB.ite (fun h => ih.branches _ _ (hr.tail (isH_ne h))) fun _ => BB.ite (fun h => ?_) fun _ => BB.bind hr (step_want _ _) (bWant hr) fun _ _ _ _ => BB.ok
      have hT := hr.tail (isH_ne h)
      exact BB.bind hT (it.block _ _) (ih.block _ _ hT) fun _ r _ hr => BB.bind hr (step_want _ _) (bWant hr) fun _ _ _ _ => BB.ok
    · intro at_ ts hC; unfold pFor
      refine BB.bind hC (step_name _ _) (bName hC) fun _ r _ hr => BB.ite (fun h => ?_) fun _ => ?_
      · have hT := hr.tail (isH_ne h)
        refine BB.bind hT (is.exp _ _) (ie.exp _ _ (by decide) hT) fun _ r _ hr => BB.bind hr (step_want _ _) (bWant hr) fun _ r _ hr => BB.bind hr (is.exp _ _) (ie.exp _ _ (by decide) hr) fun _ r _ hr => ?_
        refine BB.bind (m := 0) hr (step_if (fun hc => step_weak (step_tail (isH_ne hc) (step_bind (is.exp _ _) fun _ _ => step_ok)) (by omega)) fun _ => step_ok) (BB.ite (fun hc => ?_) fun _ => BB.ok) fun _ r _ hr => BB.bind hr (it.body _) (ih.body _ hr) fun _ _ _ _ => BB.ok
        have hT := hr.tail (isH_ne hc)
        exact BB.bind hT (is.exp _ _) (ie.exp _ _ (by decide) hT) fun _ _ _ _ => BB.ok
      · exact BB.bind hr (step_namesL f _ _) (bNamesL f _ _ hr) fun _ r _ hr => BB.bind hr (step_want _ _) (bWant hr) fun _ r _ hr => BB.bind hr (is.exps _) (ie.exps _ hr) fun _ r _ hr => BB.bind hr (it.body _) (ih.body _ hr) fun _ _ _ _ => BB.ok
    · intro ts hC; unfold pPlain
      refine BB.bind hC (is.suffixed _) (ie.suffixed _ hC) fun e r he hr => ?_
      have hat := ((rE f).suffixed ts hC.good hC.asc e r he).at_
      refine BB.ite (fun h => ?_) fun _ => BB.ite (fun _ => BB.ok) fun _ => BB.bad hr.hd
      exact BB.bind hr (it.targets _ _ _) (ih.targets _ _ _ hr (by rw [hat]; exact hC.hd)) fun _ r _ hr => BB.bind hr (step_want _ _) (bWant hr) fun _ r _ hr => BB.bind hr (is.exps _) (ie.exps _ hr) fun _ _ _ _ => BB.ok
    · intro acc e ts hC he; unfold pTargets
      refine BB.ite (fun _ => BB.ite (fun h => ?_) fun _ => BB.ok) fun _ => BB.bad he
      have hT := hC.tail (isH_ne h)
      refine BB.bind hT (is.suffixed _) (ie.suffixed _ hT) fun e r he hr => ih.targets _ _ _ hr ?_
      rw [((rE f).suffixed _ hT.good hT.asc e r he).at_]
      exact hT.hd
theorem vBlock_bad {c : Bool} {ts : List Tk} {i : Int} (hC : Cx n ts) (h : vBlock c ts = .bad i) : 0 ≤ i ∧ i ≤ n :=
  (bS _).block c ts hC i ((pBlock_v c hC.good (by unfold fu; omega : _ ≤ fu ts)).trans (congrArg some h))
end Go.Proofs.YtcdeodpakbcdeaaGreatDoor
namespace Go.Proofs.YtcdeodpakbcdeaaGreatDoor
namespace Lx
def Closed' (a : Bs) : Prop := ∀ i, [45, 45].isPrefixOf (a.drop i) = true → 10 ∈ a.drop i
theorem Closed'.drop {a : Bs} (h : Closed' a) (k : Nat) : Closed' (a.drop k) := fun i hi => by
  rw [List.drop_drop] at hi ⊢
  exact h _ hi
def shift (d : Nat) (t : Tok) : Tok := { t with at_ := t.at_ + d }
theorem bad_ne (l : Bs) (c : Int) (r : Nat) (h : stepF l = .bad c r) : c ≠ 0 := by
  have ht : ∀ q f (l acc : Bs) i c r, textG q f l acc i = .bad c r → c ≠ 0 := by
    intro q f
    induction f with
    | zero => intro l acc i c r h; cases h; decide
    | succ f ih =>
      intro l acc i c r h
      cases l with
      | nil => cases h; decide
      | cons b t =>
        simp only [textG] at h
        split at h
        · cases h; decide
        split at h
        · split at h
          · cases h; decide
          · cases h
        split at h
        · split at h
          · cases h; decide
          · cases h; decide
          · exact ih _ _ _ _ _ h
        · exact ih _ _ _ _ _ h
  unfold stepF at h
  by_cases h0 : l = []
  · rw [if_pos h0] at h; cases h
  rw [if_neg h0] at h
  by_cases h1 : [45, 45].isPrefixOf l = true
  · rw [if_pos h1] at h; cases h
  rw [if_neg h1] at h
  by_cases h2 : letterR (decL l).1 = true
  · rw [if_pos h2] at h
    dsimp only at h
    split at h
    · cases h; decide
    · cases h
  rw [if_neg h2] at h
  by_cases h3 : digitR (decL l).1 = true
  · rw [if_pos h3] at h
    dsimp only at h
    split at h
    · rename_i hp
      cases h
      exact hp
    · cases h
  rw [if_neg h3] at h
  split at h
  · split at h
    · rename_i c' r' hx
      cases h
      exact ht _ _ _ _ _ _ _ hx
    · cases h
  · split at h
    · cases h; decide
    · cases h
theorem scan_ne : ∀ (n : Nat) (l : Bs) (at_ : Nat) (acc : List Tok) (c p : Int), l.length ≤ n → scanL l at_ acc = .inl (c, p) → c ≠ 0 := by
  intro n
  induction n with
  | zero =>
    intro l at_ acc c p hn h
    have : l = [] := List.eq_nil_of_length_eq_zero (by omega)
    subst this
    rw [scanL_step] at h
    have e0 : stepF (([] : Bs).drop (runL blankR [])) = .done := rfl
    rw [e0] at h
    cases h
  | succ n ih =>
    intro l at_ acc c p hn h
    rw [scanL_step] at h
    have hk := runL_le' blankR l
    cases hst : stepF (l.drop (runL blankR l)) with
    | done => rw [hst] at h; cases h
    | bad c' r =>
      rw [hst] at h
      simp only [Sum.inl.injEq, Prod.mk.injEq] at h
      rw [← h.1]
      exact bad_ne _ _ _ hst
    | skip q =>
      have := (stepF_take _).1 q hst
      rw [List.length_drop] at this
      rw [hst] at h
      exact ih _ _ _ _ _ (by rw [List.length_drop, List.length_drop]; omega) h
    | tok kd tx x len =>
      have := (stepF_take _).2 _ _ _ _ hst
      rw [List.length_drop] at this
      rw [hst] at h
      exact ih _ _ _ _ _ (by rw [List.length_drop, List.length_drop]; omega) h
end Lx
end Go.Proofs.YtcdeodpakbcdeaaGreatDoor
namespace Go.Proofs.YtcdeodpakbcdeaaGreatDoor
namespace Lx
theorem textG_place (q : UInt8) : ∀ (f : Nat) (l acc : Bs) (i : Nat) (c : Int) (r : Nat), textG q f l acc i = .bad c r → r = 0 ∨ (i ≤ r ∧ r < i + l.length)
  | 0, l, acc, i, c, r, h => by cases h; exact .inl rfl
  | f + 1, [], acc, i, c, r, h => by cases h; exact .inl rfl
  | f + 1, b :: t, acc, i, c, r, h => by
    simp only [textG] at h
    split at h
    · cases h; exact .inl rfl
    split at h
    · split at h
      · cases h; exact .inl rfl
      · cases h
    split at h
    · split at h
      · cases h; exact .inl rfl
      · cases h; exact .inr ⟨Nat.le_refl _, by simp⟩
      · rename_i e n he
        have h1 := escF_room t e n he
        rcases textG_place q f _ _ _ c r h with h2 | h2
        · exact .inl h2
        · rw [List.length_drop] at h2
          simp only [List.length_cons] at h2 ⊢
          exact .inr ⟨by omega, by omega⟩
    · rcases textG_place q f _ _ _ c r h with h2 | h2
      · exact .inl h2
      · simp only [List.length_cons]
        exact .inr ⟨by omega, by omega⟩
theorem bad_place (l : Bs) (c : Int) (r : Nat) (h : stepF l = .bad c r) : r < l.length := by
  unfold stepF at h
  by_cases h0 : l = []
  · rw [if_pos h0] at h; cases h
  rw [if_neg h0] at h
  have hl : 1 ≤ l.length := by cases l with | nil => exact absurd rfl h0 | cons => simp
  by_cases h1 : [45, 45].isPrefixOf l = true
  · rw [if_pos h1] at h; cases h
  rw [if_neg h1] at h
  by_cases h2 : letterR (decL l).1 = true
  · rw [if_pos h2] at h
    dsimp only at h
    split at h
    · cases h; omega
    · cases h
  rw [if_neg h2] at h
  by_cases h3 : digitR (decL l).1 = true
  · rw [if_pos h3] at h
    dsimp only at h
    split at h
    · cases h; omega
    · cases h
  rw [if_neg h3] at h
  split at h
  · split at h
    · rename_i c' r' hx
      cases h
      have := textG_place _ _ _ _ _ _ _ hx
      rw [List.length_tail] at this
      omega
    · cases h
  · split at h
    · cases h; omega
    · cases h
theorem scan_place : ∀ (n : Nat) (l : Bs) (at_ : Nat) (acc : List Tok) (c p : Int), l.length ≤ n → scanL l at_ acc = .inl (c, p) → at_ ≤ p ∧ p < at_ + l.length := by
  intro n
  induction n with
  | zero =>
    intro l at_ acc c p hn h
    have : l = [] := List.eq_nil_of_length_eq_zero (by omega)
    subst this
    rw [scanL_step] at h
    have e0 : stepF (([] : Bs).drop (runL blankR [])) = .done := rfl
    rw [e0] at h
    cases h
  | succ n ih =>
    intro l at_ acc c p hn h
    rw [scanL_step] at h
    have hk := runL_le' blankR l
    cases hst : stepF (l.drop (runL blankR l)) with
    | done => rw [hst] at h; cases h
    | bad c' r =>
      rw [hst] at h
      simp only [Sum.inl.injEq, Prod.mk.injEq] at h
      have := bad_place _ _ _ hst
      rw [List.length_drop] at this
      omega
    | skip q =>
      have := (stepF_take _).1 q hst
      rw [List.length_drop] at this
      rw [hst] at h
      have := ih _ _ _ _ _ (by rw [List.length_drop, List.length_drop]; omega) h
      rw [List.length_drop, List.length_drop] at this
      omega
    | tok kd tx x len =>
      have := (stepF_take _).2 _ _ _ _ hst
      rw [List.length_drop] at this
      rw [hst] at h
      have := ih _ _ _ _ _ (by rw [List.length_drop, List.length_drop]; omega) h
      rw [List.length_drop, List.length_drop] at this
      omega
end Lx
end Go.Proofs.YtcdeodpakbcdeaaGreatDoor
namespace Go.Proofs.YtcdeodpakbcdeaaGreatDoor
open Go Go.RowKit Lx
abbrev Out := Int × ByteArray × Int × Int × List Tree × Int × Int
def outV (c a : Int) : Out := (0, ⟨#[]⟩, 0, 0, [], c, a)
def treeV (n : Tree) : Out := (n.kind, n.text, n.n, n.at_, n.kids, 0, 0)
def parseV (s : ByteArray) : Out :=
  match scanF (bs s) with
  | .inl (c, a) => outV c a
  | .inr t => match vAll (t.map tokT) with
    | .ok n _ => treeV n
    | .bad i => outV 4 i
theorem scanF_ne' (l : Bs) (c p : Int) (h : scanF l = .inl (c, p)) : c ≠ 0 := by
  unfold scanF at h
  split at h
  · simp only [Sum.inl.injEq, Prod.mk.injEq] at h
    omega
  · exact scan_ne l.length l 0 [] c p (Nat.le_refl _) h
theorem scanF_at (s : ByteArray) (c p : Int) (h : scanF (bs s) = .inl (c, p)) : -1 ≤ p ∧ p ≤ s.size := by
  unfold scanF at h
  split at h
  · simp only [Sum.inl.injEq, Prod.mk.injEq] at h
    omega
  · have := scan_place _ _ _ _ _ _ (Nat.le_refl _) h
    rw [bs_length] at this
    omega
theorem vAll_cases {n : Nat} {ts : List Tk} (h : Toks n ts) : (∃ b r, vBlock true ts = .ok b r ∧ TB ts b r ∧ ((hd r).1 = 6 ∧ vAll ts = .ok b r ∨ (hd r).1 ≠ 6 ∧ vAll ts = .bad (hd r).2.2.2)) ∨ ∃ i, vBlock true ts = .bad i ∧ vAll ts = .bad i := by
  unfold vAll
  cases hb : vBlock true ts with
  | bad i => exact .inr ⟨i, rfl, rfl⟩
  | ok b r =>
    refine .inl ⟨b, r, rfl, vBlock_tb h.good h.asc hb, ?_⟩
    by_cases h6 : (hd r).1 = 6
    · exact .inl ⟨h6, by simp [PV.then, h6]⟩
    · exact .inr ⟨h6, by simp [PV.then, h6]⟩
theorem vAll_bad {n : Nat} {ts : List Tk} (h : Toks n ts) {i : Int} (hv : vAll ts = .bad i) : 0 ≤ i ∧ i ≤ n := by
  have hC : Cx (n : Int) ts := ⟨h.good, h.asc, h.at_⟩
  rcases vAll_cases h with ⟨b, r, hb, hB, ⟨_, he⟩ | ⟨_, he⟩⟩ | ⟨j, hb, he⟩
  · rw [he] at hv; cases hv
  · rw [he] at hv
    cases hv
    have := (fBlock true h.good)
    rw [hb] at this
    exact (hC.suf this.1 this.2.2).hd
  · rw [he] at hv
    cases hv
    exact vBlock_bad hC hb
theorem parseV_inl {s : ByteArray} {c p : Int} (h : scanF (bs s) = .inl (c, p)) : parseV s = outV c p := by unfold parseV; rw [h]
theorem parseV_ok {s : ByteArray} {t : List Tok} {b : Tree} {r : List Tk} (h : scanF (bs s) = .inr t) (hv : vAll (t.map tokT) = .ok b r) : parseV s = treeV b := by unfold parseV; rw [h]; simp only [hv]
theorem parseV_bad {s : ByteArray} {t : List Tok} {i : Int} (h : scanF (bs s) = .inr t) (hv : vAll (t.map tokT) = .bad i) : parseV s = outV 4 i := by unfold parseV; rw [h]; simp only [hv]
theorem ix_self (l : List Tk) : ix l l = 0 := by unfold ix; omega
theorem parse_eq (k : Nat) (hk : 400000 ≤ k) (s : ByteArray) : parse_Parse.f k s = some (parseV s) := by
  unfold parse_Parse.f lex_Scan.f lexR parseV
  simp only [Option.bind_some]
  cases hs : scanF (bs s) with
  | inl x =>
    obtain ⟨c, p⟩ := x
    have := scanF_ne' _ _ _ hs
    simp only
    rw [show (c != 0) = true by rw [bne_iff_ne]; exact this]
    rfl
  | inr t =>
    have hT := scan_toks s t hs
    simp only [bne_self_eq_false, cond_false]
    have hf := fblock_eq (l := t.map tokT) (by have := hT.len; omega) k true hT.good (List.suffix_refl _) (by have := hT.len; omega)
    rw [ix_self] at hf
    rw [hf]
    rcases vAll_cases hT with ⟨b, r, hb, hB, h6⟩ | ⟨i, hb, he⟩
    · have hw := fBlock true hT.good
      rw [hb] at hw ⊢
      obtain ⟨hg, _, hsuf⟩ := hw
      simp only [conv, PR.elim, joinF]
      unfold parse_parser_now.f
      simp only [eT]
      rw [idx_hd hg hsuf]
      simp only [Option.bind_some]
      rcases h6 with ⟨h6, he⟩ | ⟨h6, he⟩
      · rw [he, show ((hd r).1 != 6) = false by rw [bne_eq_false_iff_eq]; exact h6]
        rfl
      · rw [he, show ((hd r).1 != 6) = true by rw [bne_iff_ne]; exact h6]
        rfl
    · rw [hb, he]
      rfl
end Go.Proofs.YtcdeodpakbcdeaaGreatDoor
namespace Go.Proofs.YtcdeodpakbcdeaaGreatDoor
open Go Go.RowKit
def lSub {α : Type} (l : List α) (lo hi : Int) : Option (List α) := cond (decide (0 ≤ lo ∧ lo ≤ hi ∧ hi ≤ l.length)) (some ((l.drop lo.toNat).take (hi.toNat - lo.toNat))) none
section
variable {A : World} {ds : List Deferred} {n : Nat} {env env' : Env} {l l' X : List Frag} {q : Act → World → Prop} {P : Program} {Q : Exit → Act → World → Prop} {ops : Array Oper} {os rest : List Oper} {o : Oper}
theorem kl_shr {kd kd2 : IntKind} {a b : Int} {t t2 : TypeId} {x y : Operand} (ho : o.op = .binOp .shr t x y t2) (hg : wantE ops env o = some true) (hd : inB n o.dst = true) (hx : evalE env x = some (.int kd a)) (hy : evalE env y = some (.int kd2 b)) (hc : decide (0 ≤ b) = true)
    (h : K ds A n (putE env o.dst (.int kd (a.fdiv (2 ^ min b.toNat kd.bits)))) l (wpList P ops Q rest)) : K ds A n env l (wpList P ops Q (o :: rest)) :=
  kl_op hg fun ac w ha hw => by
    have h0 := of_decide_eq_true hc
    have h1 : ¬ b < 0 := by omega
    unfold Oper.wp execOp
    simp only [ho, ha.eval hx, ha.eval hy, Sem.run_bind, eqGuard]
    simp only [binOp, Op.shift, if_neg h1]
    exact h _ _ (ha.putE _ hd) hw
variable {S : World → Prop} {tail : Act → World → Prop} {pl : List (Oper × Nat)}
theorem kp_cat {a b r : ByteArray} {t t2 : TypeId} {x y : Operand} (ho : o.op = .binOp .add t x y t2) (hg : wantE ops env o = some true) (hd : inB n o.dst = true) (hx : evalE env x = some (.string a)) (hy : evalE env y = some (.string b)) (hc : sCat a b = some r)
    (h : K ds A n (putE env o.dst (.string r)) l (wpPlan P ops Q S tail pl)) : K ds A n env l (wpPlan P ops Q S tail ((o, 0) :: pl)) := fun ac w ha hw => by
  obtain ⟨h1, h2⟩ := condN hc
  cases h2
  have h1 := of_decide_eq_true h1
  have h3 : ¬ (((a.size + b.size : Nat) : Int) > IntKind.i64.max) := by
    have : IntKind.i64.max = 9223372036854775807 := by decide
    omega
  refine plan_pure (wantE_spec ha hg) (fun w' => ?_) (h _ _ (ha.putE _ hd) hw)
  unfold execOp
  simp only [ho, ha.eval hx, ha.eval hy, Sem.run_bind, eqGuard]
  simp only [binOp, Op.stringOp, if_neg h3]
  rfl
theorem kl_subR {α : Type} {R : Rich α} {xs xs' : List α} {h : Frag} {A' : Option Addr} {c : Nat} {T TS : TypeId} {x : Operand} {lo hi : Option Operand} (L H : Int) (ho : o.op = .slice TS x lo hi none) (hg : wantE ops env o = some true) (hd : inB n o.dst = true) (hx : evalE env x = some (.slice A' xs.length c))
    (hlo : (lo = none ∧ L = 0) ∨ ∃ y k, lo = some y ∧ evalE env y = some (.int k L)) (hhi : (hi = none ∧ H = xs.length) ∨ ∃ y k, hi = some y ∧ evalE env y = some (.int k H)) (h1 : P.underlying TS = some (.slice T)) (h2 : (P.info? T).map (·.size) = some R.sz) (hs : lSub xs L H = some xs') (hR : RdR R h (.slice A' xs.length c) xs)
    (hk : ∀ a' c', RdR R h (.slice a' xs'.length c') xs' → K ds A n (putE env o.dst (.slice a' xs'.length c')) l (wpList P ops Q rest)) : K ds A n env l (wpList P ops Q (o :: rest)) := by
  obtain ⟨hb, hxs⟩ := condN hs
  obtain ⟨hL, hLH, hH⟩ := of_decide_eq_true hb
  cases hxs
  have hR0 := hR
  obtain ⟨cs, ⟨hl, hone, hc⟩, hrow⟩ := hR
  have hcap : xs.length ≤ c := by
    rcases hc with ⟨he, h0⟩ | ⟨b, off, cap, cur, T', z, he, hb, h4, h5, hc⟩
    · omega
    · cases he; exact h4
  refine kl_op hg fun a w ha hw => ?_
  cases hif : P.info? T with
  | none => rw [hif] at h2; cases h2
  | some i =>
    rw [hif] at h2
    have hsz : i.size = R.sz := Option.some.inj h2
    have e1 : max H 0 = H := by omega
    have hsl : ∀ (lv hv : Option Value), (lv = none ∧ L = 0 ∨ ∃ k, lv = some (.int k L)) → (hv = none ∧ H = xs.length ∨ ∃ k, hv = some (.int k H)) → (Instr.sliceAt TS (.slice A' xs.length c) lv hv none).run P w = .ok (.slice (if c = L.toNat then A' else A'.map (·.add (L.toNat * R.sz))) (H.toNat - L.toNat) (c - L.toNat)) w := by
      have h5 : 0 ≤ H := by omega
      have h6 : H ≤ c := by omega
      have h7 : L ≤ max H 0 := by omega
      rintro lv hv (⟨rfl, rfl⟩ | ⟨k, rfl⟩) (⟨rfl, rfl⟩ | ⟨k', rfl⟩)
      · simp [Instr.sliceAt, Instr.slice, Instr.sliceBounds, run_underlying h1, sizeOf, typeInfo, hif, hsz]
      · simp [Instr.sliceAt, Instr.slice, Instr.sliceBounds, Instr.sliceBound, asIntOf, run_underlying h1, sizeOf, typeInfo, hif, hsz, h5, h6]
      · have h8 : L ≤ (xs.length : Int) := by omega
        simp [Instr.sliceAt, Instr.slice, Instr.sliceBounds, Instr.sliceBound, asIntOf, run_underlying h1, sizeOf, typeInfo, hif, hsz, hL, h8]
      · simp [Instr.sliceAt, Instr.slice, Instr.sliceBounds, Instr.sliceBound, asIntOf, run_underlying h1, sizeOf, typeInfo, hif, hsz, h5, h6, hL, h7, hLH]
    have hrun := hsl (lo.map a.eval) (hi.map a.eval) (hlo.imp (fun ⟨e, e'⟩ => ⟨by rw [e]; rfl, e'⟩) (fun ⟨y, k, e, e'⟩ => ⟨k, by rw [e]; exact congrArg some (ha.eval e')⟩)) (hhi.imp (fun ⟨e, e'⟩ => ⟨by rw [e]; rfl, e'⟩) (fun ⟨y, k, e, e'⟩ => ⟨k, by rw [e]; exact congrArg some (ha.eval e')⟩))
    unfold Oper.wp execOp
    simp only [ho, ha.eval hx, Option.map_none, Sem.run_bind, hrun, Result.andThen_ok, Sem.run_pure]
    have hlen : ((xs.drop L.toNat).take (H.toNat - L.toNat)).length = H.toNat - L.toNat := by
      rw [List.length_take, List.length_drop]; omega
    rw [← hlen]
    refine hk _ _ ?_ _ _ (ha.putE _ hd) hw
    refine ⟨(cs.drop (L.toNat * R.sz)).take ((H.toNat - L.toNat) * R.sz), ⟨?_, fun u hu => hone u (List.mem_of_mem_drop (List.mem_of_mem_take hu)), ?_⟩, (hrow.drop L.toNat).take _⟩
    · rw [hlen, List.length_take, List.length_drop, hl, ← Nat.sub_mul, Nat.min_eq_left]
      exact Nat.mul_le_mul_right _ (by omega)
    · rw [hlen]
      rcases hc with ⟨he, h0⟩ | ⟨b, off, cap, cur, T', z, he, hb, h4, h5, hc⟩
      · cases A' with
        | none =>
          left
          simp only [Value.slice.injEq] at he
          refine ⟨?_, by omega⟩
          have : c = 0 := he.2.2
          subst this
          rw [show H.toNat - L.toNat = 0 by omega, show 0 - L.toNat = 0 by omega]
          simp
        | some ad => simp at he
      · cases he
        right
        by_cases hcl : c = L.toNat
        · rw [if_pos hcl]
          refine ⟨b, off, c - L.toNat, cur, T', z, rfl, hb, by omega, by omega, fun j u hj => ?_⟩
          rw [show H.toNat - L.toNat = 0 by omega] at hj
          simp at hj
        · rw [if_neg hcl]
          refine ⟨b, off + L.toNat * R.sz, c - L.toNat, cur, T', z, by simp [addr_add], hb, by omega, by omega, fun j u hj => ?_⟩
          rw [List.getElem?_take] at hj
          split at hj
          · rw [List.getElem?_drop] at hj
            rw [Nat.add_assoc]
            exact hc _ u hj
          · cases hj
end
def GrowT {α : Type} (E : α → List Value) (T : TypeId) (sz : Nat) (h : Frag) (v : Value) (l : List α) : Prop := OwnT E T sz h v l ∨ (RdT E sz h v l ∧ ∃ A', v = .slice A' l.length l.length)
theorem OwnT.grow {α : Type} {E : α → List Value} {T : TypeId} {sz : Nat} {h : Frag} {v : Value} {l : List α} (ho : OwnT E T sz h v l) : GrowT E T sz h v l := .inl ho
theorem GrowT.rd {α : Type} {E : α → List Value} {T : TypeId} {sz : Nat} {h : Frag} {v : Value} {l : List α} (ho : GrowT E T sz h v l) : RdT E sz h v l := ho.elim OwnT.rd (·.1)
section
variable {A : World} {ds : List Deferred} {n0 : Nat} {env env' : Env} {l l' X : List Frag} {q : Act → World → Prop} {P : Program} {Q : Exit → Act → World → Prop} {ops : Array Oper} {os rest : List Oper} {o : Oper}
theorem kl_apdG {α : Type} {E : α → List Value} {xs ys xs' : List α} {T TS U : TypeId} {sz bytes : Nat} {i : TypeInfo} {z : Value} {h : Frag} {v y : Value} {s x : Operand} (hE : EncOk E sz) (ho : o.op = .call { callee := .builtin .append, args := #[s, x], argTypes := #[TS, U] })
    (he : ElemTy P TS T sz bytes i z) (hg : wantE ops env o = some true) (hd : inB n0 o.dst = true) (hs : evalE env s = some v) (hx : evalE env x = some y) (hu : noInt P U = true) (hap : apd bytes xs ys = some xs') (hO : GrowT E T sz h v xs) (hys : 0 < ys.length) (hsrc : ∀ w, Sat (h :: l) w → Src P sz w y ys.length (ys.flatMap E))
    (hk : ∀ h' a' c', OwnT E T sz h' (.slice a' xs'.length c') xs' → K ds A n0 (putE env o.dst (.slice a' xs'.length c')) (h' :: l) (wpList P ops Q rest)) : K ds A n0 env (h :: l) (wpList P ops Q (o :: rest)) := by
  rcases hO with hO | ⟨hR, A', rfl⟩
  · exact kl_apd hE ho he hg hd hs hx hu hap hO hsrc hk
  obtain ⟨hb, rfl⟩ := apd_spec hap
  refine kl_op hg fun a w ha hw => ?_
  have hsr := hsrc w hw.sat
  have hpos := he.pos
  have hnm : xs.length + ys.length ≤ 140737488355328 := Nat.le_trans (Nat.le_mul_of_pos_right _ hpos) hb
  have hmax : xs.length + ys.length ≤ maxLen := by unfold maxLen; omega
  have hold : (Builtin.firstCells sz xs.length (.slice A' xs.length xs.length)).run P w.drew = .ok (xs.flatMap E).toArray w.drew := (Rd.src (P := P) hR hw.sat (List.mem_cons_self ..)).drew
  have hr := run_app_grow (ty := o.type) he hu hsr A' xs.length xs.length (xs.flatMap E) (by omega) hold (by omega) (growslice_fits (by omega) hb)
  unfold Oper.wp execOp
  simp only [ho, resolve, invoke, builtin, Sem.run_bind, Sem.run_pure, Result.andThen_ok, List.map_toArray, List.map_cons, List.map_nil, ha.eval hs, ha.eval hx, hr]
  rw [← List.length_append]
  refine hk _ _ _ ?_ _ _ (ha.putE _ hd) (hw.tail.drew.new _)
  have hge := grownCap_ge w (xs.length + ys.length) xs.length T
  have hcm : grownCap w (xs.length + ys.length) xs.length T ≤ maxLen := grownCap_le_maxLen w _ xs.length T hmax
  have hlen : (xs.flatMap E ++ ys.flatMap E).length = (xs.length + ys.length) * sz := by rw [List.length_append, hE.lens, hE.lens, Nat.add_mul]
  unfold OwnT
  rw [List.length_append, List.flatMap_append]
  refine ⟨hlen, fun u hu => (List.mem_append.1 hu).elim (hE.ones xs u) (hE.ones ys u), .inr ⟨w.heap.size, _, _, rfl, rfl, hge, hcm, ?_, ?_⟩⟩
  · simp only [Array.size_append, List.size_toArray, size_zeroCells, he.cells, hE.lens, ← Nat.add_mul]
    congr 1
    omega
  · simp only [Array.toList_append, List.append_assoc]
    rw [← List.append_assoc, ← hlen]
    exact List.take_left
theorem St.mark {w : World} {b : Nat} {cs : Array Value} {T : TypeId} (h : St A (blk b (.cells cs T (0, 0)) :: l) w) (k : Nat) : St A (blk b (.cells cs T (k, k + 1)) :: l) (w.freeze ⟨b, k, none⟩ 1) := by
  have hg : w.heap[b]? = some (.cells cs T (0, 0)) := h.sat.1 b _ (by simp [blk])
  have hks : ∀ j, j ≠ b → (w.freeze ⟨b, k, none⟩ 1).heap[j]? = w.heap[j]? := fun j hj => by
    unfold World.freeze
    split
    · rfl
    · simp only [Array.getElem?_modify]
      rw [if_neg (fun e => hj e.symm)]
  have hsz : (w.freeze ⟨b, k, none⟩ 1).heap.size = w.heap.size := by unfold World.freeze; split <;> simp
  have ho : (w.freeze ⟨b, k, none⟩ 1).os = w.os ∧ (w.freeze ⟨b, k, none⟩ 1).tape = w.tape ∧ (w.freeze ⟨b, k, none⟩ 1).output = w.output := by unfold World.freeze; split <;> exact ⟨rfl, rfl, rfl⟩
  refine ⟨⟨fun j o hk => ?_, fun f hf j => ?_, h.sat.2.2.keep fun f hf j o hk => ?_⟩, ho.1.trans h.os, ho.2.1.trans h.tape, ho.2.2.trans h.output, by rw [hsz]; exact h.size⟩
  · unfold blk at hk
    split at hk
    · rename_i e; subst e; cases hk
      unfold World.freeze
      rw [if_neg (by decide)]
      simp only [Array.getElem?_modify, hg]
      rfl
    · cases hk
  · rcases h.sat.2.1 f hf j with h' | h'
    · unfold blk at h' ⊢
      split at h'
      · cases h'
      · rename_i e'; rw [if_neg e']; exact .inl rfl
    · exact .inr h'
  · refine hks j fun e' => ?_
    subst e'
    rcases h.sat.2.1 f hf j with h' | h'
    · simp [blk] at h'
    · rw [h'] at hk; cases hk
theorem kl_convS {b n : Nat} {cs : Array Value} {T U : TypeId} {xs : List Int} {x : Operand} (ho : o.op = .convert T T x) (hg : wantE ops env o = some true) (hd : inB n0 o.dst = true) (hx : evalE env x = some (.slice (some ⟨b, 0, none⟩) n n)) (h1 : P.underlying T = some (.slice U)) (h2 : P.underlying U = some (.int .u8))
    (hO : OwnT (encI .u8) U 1 (blk b (.cells cs U (0, 0))) (.slice (some ⟨b, 0, none⟩) n n) xs) (hn : xs.length = n)
    (hk : ∀ h' a' c', GrowT (encI .u8) U 1 h' (.slice a' xs.length c') xs → K ds A n0 (putE env o.dst (.slice a' xs.length c')) (h' :: l) (wpList P ops Q rest)) : K ds A n0 env (blk b (.cells cs U (0, 0)) :: l) (wpList P ops Q (o :: rest)) := by
  subst hn
  refine kl_op hg fun a w ha hw => ?_
  have hgc : w.heap[b]? = some (.cells cs U (0, 0)) := hw.sat.1 b _ (by simp [blk])
  have hr : (convert T T (.slice (some ⟨b, 0, none⟩) xs.length xs.length)).run P w = .ok (.slice (some ⟨b, 0, none⟩) xs.length xs.length) (w.freeze ⟨b, cs.size, none⟩ 1) := by
    simp [convert, run_underlying h1, run_underlying h2, markStringish, World.shape?, hgc]
  unfold Oper.wp execOp
  simp only [ho, ha.eval hx, Sem.run_bind, hr, Result.andThen_ok, Sem.run_pure]
  refine hk _ _ _ (.inr ⟨?_, _, rfl⟩) _ _ (ha.putE _ hd) (hw.mark cs.size)
  obtain ⟨hl, h1, h3⟩ := hO.rd
  refine ⟨hl, h1, ?_⟩
  rcases h3 with ⟨he, _⟩ | ⟨b', off, cap, cur, T', z, he, hb, h4, h5, hc⟩
  · cases he
  · cases he
    simp only [blk, if_pos, Option.some.injEq] at hb
    cases hb
    exact .inr ⟨b, 0, _, cs, U, (cs.size, cs.size + 1), rfl, by simp [blk], h4, h5, hc⟩
end
end Go.Proofs.YtcdeodpakbcdeaaGreatDoor
namespace Go.Proofs.YtcdeodpakbcdeaaGreatDoor
open Go Go.RowKit
def SelfOr (b : Nat) (v : Value) : Prop := v = .pointer none ∨ v = .pointer (some ⟨b, 0, none⟩)
def rAt (s : ByteArray) (pos : Nat) : Int := (Utf8.decode s pos).1
def rNx (s : ByteArray) (pos : Nat) : Nat := pos + (Utf8.decode s pos).2
section
variable {A : World} {ds : List Deferred} {n0 : Nat} {env env' : Env} {l l' X : List Frag} {q : Act → World → Prop} {P : Program} {Q : Exit → Act → World → Prop} {ops : Array Oper} {os rest : List Oper} {o : Oper}
theorem St.iter {w : World} {b : Nat} {s : ByteArray} {pos : Nat} (h : St A (blk b (.stringIter s pos) :: l) w) (pos' : Nat) : St A (blk b (.stringIter s pos') :: l) (w.iterAt b s pos') := by
  have hb : w.heap[b]? = some (.stringIter s pos) := h.sat.1 b _ (by simp [blk])
  refine ⟨⟨fun k o hk => ?_, fun f hf k => ?_, h.sat.2.2.keep fun f hf k o hk => ?_⟩, h.os, h.tape, h.output, by rw [Lib.iterAt_size]; exact h.size⟩
  · unfold blk at hk
    split at hk
    · rename_i e; subst e; cases hk; exact Lib.iterAt_heap w k s pos pos' hb
    · cases hk
  · rcases h.sat.2.1 f hf k with h' | h'
    · unfold blk at h' ⊢
      split at h'
      · cases h'
      · rename_i e'; rw [if_neg e']; exact .inl rfl
    · exact .inr h'
  · refine Lib.iterAt_other w b k s pos' fun e' => ?_
    subst e'
    rcases h.sat.2.1 f hf k with h' | h'
    · simp [blk] at h'
    · rw [h'] at hk; cases hk
theorem kl_range {s : ByteArray} {t : TypeId} {x : Operand} (ho : o.op = .range t x) (hg : wantE ops env o = some true) (hd : inB n0 o.dst = true) (hx : evalE env x = some (.string s)) (ht : P.underlying t = some .string)
    (h : ∀ b, K ds A n0 (putE env o.dst (.pointer (some ⟨b, 0, none⟩))) (blk b (.stringIter s 0) :: l) (wpList P ops Q rest)) : K ds A n0 env l (wpList P ops Q (o :: rest)) :=
  kl_op hg fun a w ha hw => by
    unfold Oper.wp execOp
    simp only [ho, ha.eval hx, Sem.run_bind, run_range_string w t s ht, Result.andThen_ok, Sem.run_pure]
    exact h _ _ _ (ha.putE _ hd) (hw.new _)
theorem kl_nextT {b : Nat} {s : ByteArray} {pos : Nat} {x : Operand} (hlt : decide (pos < s.size) = true) (ho : o.op = .next x true) (hg : wantE ops env o = some true) (hd : inB n0 o.dst = true) (hx : evalE env x = some (.pointer (some ⟨b, 0, none⟩)))
    (h : K ds A n0 (putE env o.dst (.tuple #[.bool true, .int .i64 (pos : Nat), .int .i32 (rAt s pos)])) (blk b (.stringIter s (rNx s pos)) :: l) (wpList P ops Q rest)) : K ds A n0 env (blk b (.stringIter s pos) :: l) (wpList P ops Q (o :: rest)) :=
  kl_op hg fun a w ha hw => by
    have hb : w.heap[b]? = some (.stringIter s pos) := hw.sat.1 b _ (by simp [blk])
    unfold Oper.wp execOp
    simp only [ho, ha.eval hx, Sem.run_bind, Lib.run_next_any_at w b s pos _ hb (of_decide_eq_true hlt), Result.andThen_ok, Sem.run_pure]
    exact h _ _ (ha.putE _ hd) (hw.iter _)
theorem kl_nextF {b : Nat} {s : ByteArray} {pos : Nat} {x : Operand} (hlt : decide (pos < s.size) = false) (ho : o.op = .next x true) (hg : wantE ops env o = some true) (hd : inB n0 o.dst = true) (hx : evalE env x = some (.pointer (some ⟨b, 0, none⟩)))
    (h : K ds A n0 (putE env o.dst (.tuple #[.bool false])) (blk b (.stringIter s pos) :: l) (wpList P ops Q rest)) : K ds A n0 env (blk b (.stringIter s pos) :: l) (wpList P ops Q (o :: rest)) :=
  kl_op hg fun a w ha hw => by
    have hb : w.heap[b]? = some (.stringIter s pos) := hw.sat.1 b _ (by simp [blk])
    unfold Oper.wp execOp
    simp only [ho, ha.eval hx, Sem.run_bind, Lib.run_next_end_at w b s pos _ hb (of_decide_eq_false hlt), Result.andThen_ok, Sem.run_pure]
    exact h _ _ (ha.putE _ hd) hw
def SdP {α : Type} (A' : Option Addr) (xs : List α) (p : Option Addr) : Prop := xs ≠ [] → p = A'
theorem op_sdata {T TS U : TypeId} {h : Frag} {A' : Option Addr} {c : Nat} {xs : List Int} {x : Operand} {next : Act → World → Prop} (ho : o.op = .call { callee := .builtin .unsafeSliceData, args := #[x], argTypes := #[TS] }) (hd : inB n0 o.dst = true) (hx : evalE env x = some (.slice A' xs.length c))
    (ht : P.underlying o.type = some (.pointer U)) (hO : OwnT (encI .u8) T 1 h (.slice A' xs.length c) xs) (hm : h ∈ l) (hk : ∀ p, SdP A' xs p → K ds A n0 (putE env o.dst (.pointer p)) l next) : K ds A n0 env l (fun a w => o.wp P a w next Q) := by
  intro a w ha hw
  have hex : ∃ p w', (Builtin.unsafeSliceData_ #[TS] o.type #[.slice A' xs.length c]).run P w = .ok (.pointer p) w' ∧ SdP A' xs p ∧ St A l w' := by
    rcases hO.2.2 with ⟨he, h0⟩ | ⟨g, cap, cur, he, rfl, h4, h5, h6, h7⟩
    · simp only [Value.slice.injEq] at he
      obtain ⟨rfl, _, rfl⟩ := he
      exact ⟨none, w, Lib.run_unsafeSliceData_nil w _ _ _ _, fun _ => rfl, hw⟩
    · simp only [Value.slice.injEq] at he
      obtain ⟨rfl, _, rfl⟩ := he
      by_cases hc : c = 0
      · subst hc
        have h0 : xs = [] := List.eq_nil_of_length_eq_zero (by omega)
        have hgc : w.heap[g]? = some (.cells cur T (0, 0)) := hw.sat.on _ hm g _ (by simp [blk])
        exact ⟨_, _, Lib.run_unsafeSliceData_zero w _ _ U ht _ _ (T, cur.size) (by simp [World.shape?, hgc]), fun h => absurd h0 h, (hw.new _).tail⟩
      · exact ⟨_, w, Lib.run_unsafeSliceData_row w _ _ _ _ _ hc, fun _ => rfl, hw⟩
  obtain ⟨p, w', hr, hp, hw'⟩ := hex
  unfold Oper.wp execOp
  simp only [ho, resolve, invoke, builtin, Sem.run_bind, Sem.run_pure, Result.andThen_ok, List.map_toArray, List.map_cons, List.map_nil, ha.eval hx, hr]
  exact hk p hp _ _ (ha.putE _ hd) hw'
def allByte (xs : List Int) : Bool := xs.all fun x => decide (0 ≤ x ∧ x < 256)
theorem allByte_spec : ∀ {xs : List Int}, allByte xs = true → xs = (xs.map fun n => UInt8.ofNat n.toNat).map fun u => (u.toNat : Int)
  | [], _ => rfl
  | x :: xs, h => by
    simp only [allByte, List.all_cons, Bool.and_eq_true] at h
    have h0 := of_decide_eq_true h.1
    rw [List.map_cons, List.map_cons, ← allByte_spec (xs := xs) h.2]
    congr 1
    have e : (UInt8.ofNat x.toNat).toNat = x.toNat := by
      rw [UInt8.toNat_ofNat']
      omega
    rw [e]
    omega
theorem St.freeze {w : World} {g : Nat} {o : Obj} (h : St A (blk g o :: l) w) (n : Nat) : St A l (w.freeze ⟨g, 0, none⟩ n) := by
  have hks : ∀ f ∈ l, ∀ k o', f k = some o' → (w.freeze ⟨g, 0, none⟩ n).heap[k]? = w.heap[k]? := fun f hf k o' hk => by
    have hne : k ≠ g := fun e => by
      subst e
      rcases h.sat.2.1 f hf k with h' | h'
      · simp [blk] at h'
      · rw [h'] at hk; cases hk
    unfold World.freeze
    split
    · rfl
    · simp only [Array.getElem?_modify]
      rw [if_neg (fun e => hne e.symm)]
  have hsz : (w.freeze ⟨g, 0, none⟩ n).heap.size = w.heap.size := by unfold World.freeze; split <;> simp
  have ho : (w.freeze ⟨g, 0, none⟩ n).os = w.os ∧ (w.freeze ⟨g, 0, none⟩ n).tape = w.tape ∧ (w.freeze ⟨g, 0, none⟩ n).output = w.output := by unfold World.freeze; split <;> exact ⟨rfl, rfl, rfl⟩
  exact ⟨h.sat.2.2.keep hks, ho.1.trans h.os, ho.2.1.trans h.tape, ho.2.2.trans h.output, by rw [hsz]; exact h.size⟩
theorem kl_ustr {T PT IT : TypeId} {h : Frag} {A' p : Option Addr} {c : Nat} {xs : List Int} {x y : Operand} (ho : o.op = .call { callee := .builtin .unsafeString, args := #[x, y], argTypes := #[PT, IT] }) (hg : wantE ops env o = some true) (hd : inB n0 o.dst = true) (hx : evalE env x = some (.pointer p)) (hy : evalE env y = some (.int .i64 xs.length))
    (ht : P.underlying PT = some (.pointer T)) (hc1 : P.cellsOf T = 1) (hO : OwnT (encI .u8) T 1 h (.slice A' xs.length c) xs) (hp : SdP A' xs p) (hb : allByte xs = true) (hk : K ds A n0 (putE env o.dst (.string (strOfNums xs))) l (wpList P ops Q rest)) : K ds A n0 env (h :: l) (wpList P ops Q (o :: rest)) := by
  refine kl_op hg fun a w ha hw => ?_
  have hex : ∃ w', (Builtin.unsafeString_ #[PT, IT] o.type #[.pointer p, .int .i64 xs.length]).run P w = .ok (.string (strOfNums xs)) w' ∧ St A l w' := by
    by_cases h0 : xs = []
    · subst h0
      exact ⟨w, Lib.run_unsafeString_none w _ _ _ p, hw.tail⟩
    · have hp := hp h0
      subst hp
      rcases hO.2.2 with ⟨he, hz⟩ | ⟨g, cap, cur, he, rfl, h4, h5, h6, h7⟩
      · exact absurd (List.eq_nil_of_length_eq_zero hz) h0
      · simp only [Value.slice.injEq] at he
        obtain ⟨rfl, _, rfl⟩ := he
        have hgc : w.heap[g]? = some (.cells cur T (0, 0)) := hw.sat.1 g _ (by simp [blk])
        have e := allByte_spec hb
        have hl : (xs.map fun n => UInt8.ofNat n.toNat).length = xs.length := List.length_map _
        have hr := Lib.run_unsafeString_row (P := P) (w := w) PT IT o.type T ht hc1 g cur.size (by simp [World.shape?, hgc]) (xs.map fun n => UInt8.ofNat n.toNat) (by simpa using h0) (by rw [hl]; omega) (by rw [hl]; unfold maxLen at h5; omega) (fun j u hj => by
          rw [addr_add, Nat.zero_add, World.cell?, hgc]
          have h8 : (xs.flatMap (encI .u8))[j]? = some (.int .u8 u.toNat) := by
            rw [flatMap_encI, e, List.map_map, List.getElem?_map, hj]; rfl
          rw [← h7, List.getElem?_take] at h8
          split at h8
          · simpa using h8
          · cases h8)
        rw [hl] at hr
        exact ⟨_, hr, hw.freeze _⟩
  obtain ⟨w', hr, hw'⟩ := hex
  unfold Oper.wp execOp
  simp only [ho, resolve, invoke, builtin, Sem.run_bind, Sem.run_pure, Result.andThen_ok, List.map_toArray, List.map_cons, List.map_nil, ha.eval hx, ha.eval hy, hr]
  exact hk _ _ (ha.putE _ hd) hw'
end
def isBd (T : Nat) : Prop := liesAt Tryz.prog Tryz.prog.depth T (2 / Tryz.prog.cellsOf T) 0 71 1 = true
theorem bd71 : isBd 71 := by unfold isBd; kernel_rfl
theorem sizeBuilderJ : (Tryz.prog.info? 71).map (·.size) = some 2 := by kernel_rfl
set_option maxHeartbeats 1000000 in
set_option maxRecDepth 100000 in
theorem checkJ_used (b : Nat) (w : World) (h0 : w.cell? ⟨b, 0, none⟩ = some (.pointer (some ⟨b, 0, none⟩))) :
    Calls Tryz.prog 121 #[.pointer (some ⟨b, 0, none⟩)] w fun e w' => e = .returned (.tuple #[]) ∧ w = w' := by
  obtain ⟨j, hj, _⟩ := Option.map_eq_some_iff.1 sizeBuilderJ
  go_enter Tryz.func121, Tryz.ntmps121
  go_wp2
  rw [Lib.run_neq_ptr_same w _ Tryz.underlying68 hj]
  go_wp2
  go_end0
  exact ⟨rfl, rfl⟩
set_option maxHeartbeats 1000000 in
set_option maxRecDepth 100000 in
theorem checkJ_fresh (b T : Nat) (w : World) (hT : isBd T) (h0 : w.cell? ⟨b, 0, none⟩ = some (.pointer none)) (hsh : w.shape? b = some (T, 2)) (hfz : w.frozen? ⟨b, 0, none⟩ = false) :
    Calls Tryz.prog 121 #[.pointer (some ⟨b, 0, none⟩)] w fun e w' => e = .returned (.tuple #[]) ∧ w.setCell ⟨b, 0, none⟩ (.pointer (some ⟨b, 0, none⟩)) = w' := by
  obtain ⟨j, hj, hjs⟩ := Option.map_eq_some_iff.1 sizeBuilderJ
  have hlies : liesAt Tryz.prog Tryz.prog.depth T (2 / Tryz.prog.cellsOf T) 0 71 1 = true := hT
  clear hT
  go_enter Tryz.func121, Tryz.ntmps121
  go_wp2
  rw [Lib.run_to_unsafe w ⟨b, 0, none⟩ Tryz.underlying68 Tryz.underlying143 hj (by rw [hjs]; decide) hsh (Nat.zero_lt_succ 1)]
  simp only [Result.andThen]
  rw [Oper.upon_value]
  go_wp2
  rw [run_callFunc_extern Tryz.func136 (by kernel_rfl) (by kernel_rfl) (by kernel_rfl) (e := Extern.AbiNoEscape.same) (by kernel_rfl)]
  rw [Lib.run_noEscape]
  simp only [Result.andThen]
  rw [Oper.upon_value]
  go_wp2
  rw [Lib.run_from_unsafe w ⟨b, 0, none⟩ Tryz.underlying143 Tryz.underlying68 hj hsh hlies]
  simp only [Result.andThen]
  rw [Oper.upon_value]
  go_wp2
  go_end0
  exact ⟨rfl, rfl⟩
def strings_Builder_copyCheck.f (_k : Nat) (_l : List Int) : Option Unit := some ()
theorem strings_Builder_copyCheck.ok {k : Nat} {l : List Int} {b0 T0 c : Nat} {v : Value} {H : Frag} {A' : Option Addr} {r : Unit} (_h : strings_Builder_copyCheck.f k l = some r) (hT : isBd T0) (hv : SelfOr b0 v) (_hR : RdT (encI .u8) 1 H (.slice A' l.length c) l) :
    Ct Tryz.prog 121 #[.pointer (some ⟨b0, 0, none⟩)] [blk b0 (.cells #[v, .slice A' l.length c] T0 (0, 0))] [H] fun e l1 => ∃ W0_ : Value, SelfOr b0 W0_ ∧ e = .returned (.tuple #[]) ∧ l1 = [blk b0 (.cells #[W0_, .slice A' l.length c] T0 (0, 0))] := by
  intro A w X _ hw
  have hw' : St A (blk b0 (.cells #[v, .slice A' l.length c] T0 (0, 0)) :: X) w := hw
  have hc := hw'.sat.cell (List.mem_cons_self ..) 0
  have hf := hw'.sat.free (List.mem_cons_self ..) 0
  have hb : w.heap[b0]? = some (.cells #[v, .slice A' l.length c] T0 (0, 0)) := hw'.sat.1 b0 _ (by simp [blk])
  rcases hv with rfl | rfl
  · refine (checkJ_fresh b0 T0 w hT hc (by simp [World.shape?, hb]) hf).mono ?_
    rintro e w2 ⟨rfl, rfl⟩
    exact ⟨_, ⟨_, .inr rfl, rfl, rfl⟩, hw'.set 0 _⟩
  · refine (checkJ_used b0 w hc).mono ?_
    rintro e w2 ⟨rfl, rfl⟩
    exact ⟨_, ⟨_, .inr rfl, rfl, rfl⟩, hw'⟩
end Go.Proofs.YtcdeodpakbcdeaaGreatDoor
namespace Go.Proofs.YtcdeodpakbcdeaaGreatDoor
open Go Go.RowKit
def GlT (G : Frag) : Prop := GlP G ∧ ∀ w, G.On w → Lib.TabIs Tryz.prog w "internal/strconv.uint64pow10" .u64 Lib.pow10Tab
theorem powAt : Tryz.prog.globalNamed "internal/strconv.uint64pow10" = some 5 := by kernel_rfl
theorem Gl.pieceT {w : World} (h : Gl w) (ht : Lib.TabIs Tryz.prog w "internal/strconv.uint64pow10" .u64 Lib.pow10Tab) : GlT (Go.Proofs.YtcdeodpakbcdeaaGreatDoor.old w) := ⟨h.piece, fun w' hw => by
  have hsz := h.size
  have hlt : 5 < w.heap.size := by omega
  have h1 : w.heap[5]? = some w.heap[5] := Array.getElem?_eq_getElem hlt
  have h2 : w'.heap[5]? = w.heap[5]? := (hw _ _ h1).trans h1.symm
  unfold Lib.TabIs World.var? at ht ⊢
  rw [powAt] at ht ⊢
  simp only [Option.bind_some] at ht ⊢
  rw [h2]
  exact ht⟩
def strconv_Itoa.f (_k : Nat) (n : Int) : Option ByteArray := cond (decide (-9223372036854775808 ≤ n ∧ n ≤ 9223372036854775807)) (some ⟨(Lib.itoa n).toArray⟩) none
theorem strconv_Itoa.ok {k : Nat} {a0 : Int} {G : Frag} {r : ByteArray} (h : strconv_Itoa.f k a0 = some r) (hG : GlT G) : Ct Tryz.prog 137 #[.int .i64 a0] [] [G] fun e l1 => e = .returned (.string r) ∧ l1 = [] := by
  obtain ⟨h1, h2⟩ := condN h
  obtain ⟨h3, h4⟩ := of_decide_eq_true h1
  cases h2
  intro A w X hh hw
  refine (Tryz.strconv_Itoa a0 h3 h4 w (hG.2 w (hw.sat.on G hh.1))).mono ?_
  rintro e w' ⟨rfl, q, os, rfl⟩
  exact ⟨[], ⟨rfl, rfl⟩, hw.below (Lib.below_grow _ w (Nat.le_refl _) q os)⟩
def strings_Repeat.f (_k : Nat) (s : ByteArray) (n : Int) : Option ByteArray := cond (decide (0 ≤ n ∧ n ≤ 1000 ∧ s.size ≤ 1000)) (some ⟨(Lib.repeatL s.data.toList n.toNat).toArray⟩) none
theorem strings_Repeat.ok {k : Nat} {a0 : ByteArray} {a1 : Int} {r : ByteArray} (h : strings_Repeat.f k a0 a1 = some r) : Ct Tryz.prog 124 #[.string a0, .int .i64 a1] [] [] fun e l1 => e = .returned (.string r) ∧ l1 = [] := by
  obtain ⟨h1, h2⟩ := condN h
  obtain ⟨h3, h4, h5⟩ := of_decide_eq_true h1
  cases h2
  intro A w X _ hw
  obtain ⟨c, rfl⟩ : ∃ c : Nat, a1 = c := ⟨a1.toNat, by omega⟩
  refine (Tryz.strings_Repeat a0 c w (by omega) ?_).mono ?_
  · have := Nat.mul_le_mul h5 (show c ≤ 1000 by omega)
    omega
  · rintro e w' ⟨rfl, hb⟩
    exact ⟨[], ⟨rfl, rfl⟩, hw.below hb⟩
end Go.Proofs.YtcdeodpakbcdeaaGreatDoor
namespace Go.Proofs.YtcdeodpakbcdeaaGreatDoor
open Go Go.RowKit
def strings_Builder_WriteByte.f (k : Nat) (a0_1 : List Int) (a1 : Int) : Option (List Int) := (strings_Builder_copyCheck.f k a0_1).bind fun r1 => (apd 1 a0_1 [a1]).bind fun l5 => some (l5)
set_option maxRecDepth 100000 in
theorem strings_Builder_WriteByte.ok {k : Nat} {a0_1 : List Int} {a1 : Int} {b0 : Nat} {T0_ : Nat} {v0_ : Value} {H_a0_1 : Frag} {A_a0_1 : Option Addr} {c_a0_1 : Nat} {r : List Int} (h : strings_Builder_WriteByte.f k a0_1 a1 = some r) (BT_b0 : isBd T0_) (V_v0_ : SelfOr b0 v0_) (R_a0_1 : OwnT (encI .u8) 5 1 H_a0_1 (.slice A_a0_1 a0_1.length c_a0_1) a0_1) : Ct Tryz.prog 92 #[pt b0, .int .u8 a1] [bk b0 #[v0_, .slice A_a0_1 a0_1.length c_a0_1] T0_, H_a0_1] [] (fun e l1 => ∃ (W0_ : Value) (H0_ : Frag) (A0_ : Option Addr) (c0_ : Nat), SelfOr b0 W0_ ∧ OwnT (encI .u8) 5 1 H0_ (.slice A0_ r.length c0_) r ∧ e = .returned (.nilIface) ∧ l1 = [bk b0 #[W0_, .slice A0_ r.length c0_] T0_, H0_]) := by
  refine ct_enter (args := [pt b0, .int .u8 a1]) Tryz.func92 rfl (Nat.le_of_ble_eq_true rfl) ?_
  intro A X hh_
  unfold strings_Builder_WriteByte.f at h
  refine K.eq (env' := [(0, pt b0), (1, .int .u8 a1)]) (l' := bk b0 #[v0_, .slice A_a0_1 a0_1.length c_a0_1] T0_ :: H_a0_1 :: X) rfl rfl ?_
  refine ksr ?_
  refine kx 1 ?_
  refine kns' ?_
  refine kx 1 ?_
  refine bnd h fun r1 hr1 h => ?_
  refine kcl (strings_Builder_copyCheck.ok (b0 := b0) hr1 BT_b0 V_v0_ (OwnT.rd R_a0_1)) rfl ⟨(.head _), trivial⟩ ?_
  rintro _ _ ⟨v2, V3, rfl, rfl⟩
  refine nx_ret1 ?_
  refine kns' ?_
  refine kx 4 ?_
  refine kld 0 1 rfl ?_
  refine kx 1 ?_
  refine kns #[.int .u8 a1] 5 1 fun b4 => ?_
  refine K.mv2 ?_
  refine bnd h fun l5 hl5 h => ?_
  refine kl_apd (ys := [a1]) (encI_ok .u8) rfl ety69 (by kernel_rfl) (by kernel_rfl) (by kernel_rfl) (by kernel_rfl) (by kernel_rfl) hl5 R_a0_1 (src_blk (n := 1) (encI_ok .u8) [a1] (by kernel_rfl) rfl (by decide) 1 rfl) fun h6 A7 k8 o9 => ?_
  refine K.mv1 ?_
  refine K.drop ?_
  refine kx 2 ?_
  refine K.mv1 ?_
  refine kst 1 1 #[v2, .slice A7 l5.length k8] ?_
  refine kns' ?_
  refine kx 1 ?_
  refine knt ?_
  refine k_ret ?_
  obtain rfl := Option.some.inj h
  refine kdv (.nilIface) [bk b0 #[v2, .slice A7 l5.length k8] T0_, h6] ?_
  exact k_end ⟨v2, h6, A7, k8, V3, o9, rfl, rfl⟩
def strings_Builder_WriteString.f (k : Nat) (a0_1 : List Int) (a1 : ByteArray) : Option (Int × List Int) := (strings_Builder_copyCheck.f k a0_1).bind fun r1 => (apd 1 a0_1 (bsI a1)).bind fun l4 => some ((a1.size : Int), l4)
set_option maxRecDepth 100000 in
theorem strings_Builder_WriteString.ok {k : Nat} {a0_1 : List Int} {a1 : ByteArray} {b0 : Nat} {T0_ : Nat} {v0_ : Value} {H_a0_1 : Frag} {A_a0_1 : Option Addr} {c_a0_1 : Nat} {r : Int × List Int} (h : strings_Builder_WriteString.f k a0_1 a1 = some r) (BT_b0 : isBd T0_) (V_v0_ : SelfOr b0 v0_) (R_a0_1 : OwnT (encI .u8) 5 1 H_a0_1 (.slice A_a0_1 a0_1.length c_a0_1) a0_1) : Ct Tryz.prog 93 #[pt b0, sv a1] [bk b0 #[v0_, .slice A_a0_1 a0_1.length c_a0_1] T0_, H_a0_1] [] (fun e l1 => ∃ (W0_ : Value) (H0_ : Frag) (A0_ : Option Addr) (c0_ : Nat), SelfOr b0 W0_ ∧ OwnT (encI .u8) 5 1 H0_ (.slice A0_ r.2.length c0_) r.2 ∧ e = .returned (.tuple #[iv r.1, .nilIface]) ∧ l1 = [bk b0 #[W0_, .slice A0_ r.2.length c0_] T0_, H0_]) := by
  refine ct_enter (args := [pt b0, sv a1]) Tryz.func93 rfl (Nat.le_of_ble_eq_true rfl) ?_
  intro A X hh_
  unfold strings_Builder_WriteString.f at h
  refine K.eq (env' := [(0, pt b0), (1, sv a1)]) (l' := bk b0 #[v0_, .slice A_a0_1 a0_1.length c_a0_1] T0_ :: H_a0_1 :: X) rfl rfl ?_
  refine ksr ?_
  refine kx 2 ?_
  refine kns' ?_
  refine kx 1 ?_
  refine bnd h fun r1 hr1 h => ?_
  refine kcl (strings_Builder_copyCheck.ok (b0 := b0) hr1 BT_b0 V_v0_ (OwnT.rd R_a0_1)) rfl ⟨(.head _), trivial⟩ ?_
  rintro _ _ ⟨v2, V3, rfl, rfl⟩
  refine nx_ret1 ?_
  refine kns' ?_
  refine kx 4 ?_
  refine kld 0 1 rfl ?_
  refine kx 1 ?_
  refine K.mv1 ?_
  refine bnd h fun l4 hl4 h => ?_
  refine kl_apd (ys := (bsI a1)) (encI_ok .u8) rfl ety69 (by kernel_rfl) (by kernel_rfl) (by kernel_rfl) (by kernel_rfl) (by kernel_rfl) hl4 R_a0_1 (fun w_ _ => src_strT a1 w_) fun h5 A6 k7 o8 => ?_
  refine kx 2 ?_
  refine K.mv1 ?_
  refine kst 1 1 #[v2, .slice A6 l4.length k7] ?_
  refine kns' ?_
  refine kx 4 ?_
  refine knt ?_
  refine k_ret ?_
  obtain rfl := Option.some.inj h
  refine kdv (.tuple #[iv (a1.size : Int), .nilIface]) [bk b0 #[v2, .slice A6 l4.length k7] T0_, h5] ?_
  exact k_end ⟨v2, h5, A6, k7, V3, o8, rfl, rfl⟩
def strings_Builder_Len.f (_k : Nat) (a0_1 : List Int) : Option (Int) := some (((a0_1.length : Nat) : Int))
set_option maxRecDepth 100000 in
theorem strings_Builder_Len.ok {k : Nat} {a0_1 : List Int} {b0 : Nat} {T0_ : Nat} {v0_ : Value} {H_a0_1 : Frag} {A_a0_1 : Option Addr} {c_a0_1 : Nat} {r : Int} (h : strings_Builder_Len.f k a0_1 = some r) (BT_b0 : isBd T0_) (V_v0_ : SelfOr b0 v0_) (R_a0_1 : RdT (encI .u8) 1 H_a0_1 (.slice A_a0_1 a0_1.length c_a0_1) a0_1) : Ct Tryz.prog 91 #[pt b0] [bk b0 #[v0_, .slice A_a0_1 a0_1.length c_a0_1] T0_] [H_a0_1] (fun e l1 => e = .returned (iv r) ∧ l1 = [bk b0 #[v0_, .slice A_a0_1 a0_1.length c_a0_1] T0_]) := by
  refine ct_enter (args := [pt b0]) Tryz.func91 rfl (Nat.le_of_ble_eq_true rfl) ?_
  intro A X hh_
  obtain ⟨hm_H_a0_1, _⟩ := hh_
  unfold strings_Builder_Len.f at h
  refine K.eq (env' := [(0, pt b0)]) (l' := bk b0 #[v0_, .slice A_a0_1 a0_1.length c_a0_1] T0_ :: X) rfl rfl ?_
  refine ksr ?_
  refine kx 1 ?_
  refine kns' ?_
  refine kx 3 ?_
  refine kld 0 1 rfl ?_
  refine kx 2 ?_
  refine knt ?_
  refine k_ret ?_
  obtain rfl := Option.some.inj h
  exact kdn rfl
def strings_Builder_String.f (_k : Nat) (a0_1 : List Int) : Option (ByteArray) := cond (allByte a0_1) (some ((strOfNums a0_1))) none
set_option maxRecDepth 100000 in
theorem strings_Builder_String.ok {k : Nat} {a0_1 : List Int} {b0 : Nat} {T0_ : Nat} {v0_ : Value} {H_a0_1 : Frag} {A_a0_1 : Option Addr} {c_a0_1 : Nat} {r : ByteArray} (h : strings_Builder_String.f k a0_1 = some r) (BT_b0 : isBd T0_) (V_v0_ : SelfOr b0 v0_) (R_a0_1 : OwnT (encI .u8) 5 1 H_a0_1 (.slice A_a0_1 a0_1.length c_a0_1) a0_1) : Ct Tryz.prog 32 #[pt b0] [bk b0 #[v0_, .slice A_a0_1 a0_1.length c_a0_1] T0_, H_a0_1] [] (fun e l1 => e = .returned (sv r) ∧ l1 = [bk b0 #[v0_, .slice A_a0_1 a0_1.length c_a0_1] T0_]) := by
  refine ct_enter (args := [pt b0]) Tryz.func32 rfl (Nat.le_of_ble_eq_true rfl) ?_
  intro A X hh_
  unfold strings_Builder_String.f at h
  refine K.eq (env' := [(0, pt b0)]) (l' := bk b0 #[v0_, .slice A_a0_1 a0_1.length c_a0_1] T0_ :: H_a0_1 :: X) rfl rfl ?_
  refine ksr ?_
  refine kx 1 ?_
  refine knt ?_
  refine k_seq ?_
  refine kpr [(0, 0), (1, 0), (2, 0), (3, 3), (5, 0), (6, 0), (7, 0), (8, 3), (9, 0), (4, 1)] [0] ?_
  refine kpx 3 ?_
  refine kpd 0 1 rfl ?_
  refine kpx 3 ?_
  refine kpd 0 1 rfl ?_
  refine kpx 1 ?_
  refine kpt ?_
  refine op_sdata (U := 5) rfl (by kernel_rfl) (by kernel_rfl) (by kernel_rfl) R_a0_1 (.tail _ (.head _)) fun p1 d2 => ?_
  refine kan [0] rfl ?_
  refine kp_done ?_
  refine K.mv1 ?_
  obtain ⟨t3, h⟩ := condN h
  refine kl_ustr rfl (by kernel_rfl) (by kernel_rfl) (by kernel_rfl) (by kernel_rfl) (by kernel_rfl) (by kernel_rfl) R_a0_1 d2 t3 ?_
  refine kx 1 ?_
  refine knt ?_
  refine k_ret ?_
  obtain rfl := Option.some.inj h
  exact kdn rfl
def words_Format.f (k : Nat) (a0 : Int) : Option (ByteArray) := (strconv_Itoa.f k a0).bind fun r1 => some (r1)
set_option maxRecDepth 100000 in
theorem words_Format.ok {k : Nat} {a0 : Int} {G : Frag} {r : ByteArray} (h : words_Format.f k a0 = some r) (hG : GlT G) : Ct Tryz.prog 122 #[iv a0] [] [G] (fun e l1 => e = .returned (sv r) ∧ l1 = []) := by
  refine ct_enter (args := [iv a0]) Tryz.func122 rfl (Nat.le_of_ble_eq_true rfl) ?_
  intro A X hh_
  obtain ⟨hm_G, _⟩ := hh_
  unfold words_Format.f at h
  refine ksr ?_
  refine kx 1 ?_
  refine kns' ?_
  refine kx 1 ?_
  refine bnd h fun r1 hr1 h => ?_
  refine kcv (strconv_Itoa.ok hr1 hG) ⟨hm_G, trivial⟩ ?_
  refine kx 1 ?_
  refine knt ?_
  refine k_ret ?_
  obtain rfl := Option.some.inj h
  exact kdn rfl
def parse_numeral.l0 : Nat → (a0 : Int) → (J13 : (List Int) → Option (ByteArray)) → (l14 : List Int) → (x19 : Int) → Option (ByteArray)
  | 0, _, _, _, _ => none
  | m20 + 1, a0, J13, l14, x19 => cond (decide (x19 ≥ (0 : Int))) (cond (decide (0 ≤ x19)) ((sIdx (⟨#[48, 49, 50, 51, 52, 53, 54, 55, 56, 57, 97, 98, 99, 100, 101, 102]⟩ : ByteArray) (IntKind.u64.wrap ((BitVec.ofInt 64 (Int.fdiv (IntKind.u64.wrap a0) (2 ^ min (Int.toNat x19) 64)) &&& BitVec.ofInt 64 (15 : Int)).toNat : Int))).bind fun c23 : UInt8 => (apd 1 l14 [(c23.toNat : Int)]).bind fun l25 => parse_numeral.l0 m20 a0 J13 l25 (IntKind.i64.wrap (x19 - (4 : Int)))) none) (J13 l14)
def parse_numeral.f (k : Nat) (a0 : Int) : Option (ByteArray) := cond (decide (a0 ≥ (0 : Int))) ((words_Format.f k a0).bind fun r2 => some (r2)) (joinF (fun (l8 : List Int) => some ((strOfNums l8))) (fun J13 => parse_numeral.l0 k a0 J13 ([(48 : Int), (120 : Int)]) (60 : Int)))
set_option maxRecDepth 100000 in
theorem parse_numeral.ok {k : Nat} {a0 : Int} {G : Frag} {r : ByteArray} (h : parse_numeral.f k a0 = some r) (hG : GlT G) : Ct Tryz.prog 97 #[iv a0] [] [G] (fun e l1 => e = .returned (sv r) ∧ l1 = []) := by
  refine ct_enter (args := [iv a0]) Tryz.func97 rfl (Nat.le_of_ble_eq_true rfl) ?_
  intro A X hh_
  obtain ⟨hm_G, _⟩ := hh_
  unfold parse_numeral.f at h
  refine ksr ?_
  refine kx 1 ?_
  refine knt ?_
  refine k_seq ?_
  refine ksr ?_
  refine kx 2 ?_
  refine knt ?_
  refine kcn h (fun h => ?_) fun h => ?_
  · refine ksr ?_
    refine kx 1 ?_
    refine bnd h fun r2 hr2 h => ?_
    refine kcv (words_Format.ok hr2 hG) ⟨hm_G, trivial⟩ ?_
    refine kx 1 ?_
    refine knt ?_
    refine k_ret ?_
    refine k_then_ret ?_
    obtain rfl := Option.some.inj h
    exact kdn rfl
  · refine k_skip ?_
    refine k_then ?_
    refine ksr ?_
    refine kns #[.int .u8 (48 : Int), .int .u8 (120 : Int)] 5 2 fun b3 => ?_
    refine kl_convS (U := 5) (xs := [(48 : Int), (120 : Int)]) rfl (by kernel_rfl) (by kernel_rfl) (by kernel_rfl) (by kernel_rfl) (by kernel_rfl) (OwnT.blk 5 (encI_ok .u8) b3 [(48 : Int), (120 : Int)] #[.int .u8 (48 : Int), .int .u8 (120 : Int)] 2 (by kernel_rfl) rfl (by decide)) rfl fun h4 A5 k6 o7 => ?_
    refine kx 1 ?_
    refine knt ?_
    obtain ⟨J13, hJ13, h⟩ := joinSplit h
    refine k_cut (τ := (List Int) × Frag × (Option Addr) × Nat) (fun t => [(3, .slice t.2.2.1 t.1.length t.2.2.2)]) (fun t => t.2.1 :: X) (fun t => J13 t.1 = some r ∧ GrowT (encI .u8) 5 1 t.2.1 (.slice t.2.2.1 t.1.length t.2.2.2) t.1) ?_ ?_
    · rintro ⟨l8, h9, A10, k11⟩ ⟨h, o12⟩
      subst hJ13
      refine ksr ?_
      refine kx 1 ?_
      refine kl_string (U := 5) (xs := l8) rfl (by kernel_rfl) (by kernel_rfl) (by kernel_rfl) (by kernel_rfl) (by kernel_rfl) (by kernel_rfl) (GrowT.rd o12) (.head _) ?_
      refine K.drop ?_
      refine kx 1 ?_
      refine knt ?_
      refine k_ret ?_
      obtain rfl := Option.some.inj h
      exact kdn rfl
    · skip
      refine ksr ?_
      refine kx 1 ?_
      refine knt ?_
      refine k_block ?_
      refine k_loop (τ := (List Int) × Int × Frag × (Option Addr) × Nat) (fun t => [(0, iv a0), (3, .slice t.2.2.2.1 t.1.length t.2.2.2.2), (4, iv t.2.1)]) (fun t => t.2.2.1 :: X) (fun m t => parse_numeral.l0 m a0 J13 t.1 t.2.1 = some r ∧ GrowT (encI .u8) 5 1 t.2.2.1 (.slice t.2.2.2.1 t.1.length t.2.2.2.2) t.1) k ([(48 : Int), (120 : Int)], (60 : Int), h4, A5, k6) ⟨h, o7⟩ sb rfl ?_
      clear h
      rintro m20 ⟨l14, x19, h15, A16, k17⟩ ⟨h, o18⟩
      cases m20 with
      | zero => simp [parse_numeral.l0] at h
      | succ m20 =>
        simp only [parse_numeral.l0] at h
        refine k_seq ?_
        refine ksr ?_
        refine kx 2 ?_
        refine knt ?_
        refine kcn h (fun h => ?_) fun h => ?_
        · refine k_skip ?_
          refine k_then ?_
          refine k_seq ?_
          refine k_block ?_
          refine k_region ?_
          refine kx 4 ?_
          obtain ⟨t22, h⟩ := condN h
          refine kl_shr (kd := .u64) (kd2 := .i64) (a := (IntKind.u64.wrap a0)) (b := x19) rfl (by kernel_rfl) (by kernel_rfl) (by kernel_rfl) (by kernel_rfl) t22 ?_
          refine kx 1 ?_
          refine bnd h fun c23 hc23 h => ?_
          refine kl_index (kd := .u64) rfl (by kernel_rfl) (by kernel_rfl) (by kernel_rfl) (by kernel_rfl) (by kernel_rfl) hc23 ?_
          refine kns #[.int .u8 (c23.toNat : Int)] 5 1 fun b24 => ?_
          refine K.mv1 ?_
          refine bnd h fun l25 hl25 h => ?_
          refine kl_apdG (ys := [(c23.toNat : Int)]) (encI_ok .u8) rfl ety69 (by kernel_rfl) (by kernel_rfl) (by kernel_rfl) (by kernel_rfl) (by kernel_rfl) hl25 o18 (Nat.succ_pos _) (src_blk (n := 1) (encI_ok .u8) [(c23.toNat : Int)] (by kernel_rfl) rfl (by decide) 1 rfl) fun h26 A27 k28 o29 => ?_
          refine K.mv1 ?_
          refine K.drop ?_
          refine kx 1 ?_
          refine k_nil ?_
          refine k_blk ?_
          refine k_then ?_
          refine k_region ?_
          refine kx 3 ?_
          refine knt ?_
          exact k_again m20 (l25, IntKind.i64.wrap (x19 - (4 : Int)), h26, A27, k28) (Nat.lt_succ_self _) ⟨h, (OwnT.grow o29)⟩ sb rfl
        · refine k_exit ?_
          refine k_then_exit ?_
          refine k_then_exit ?_
          refine k_here ?_
          refine k_then ?_
          exact k_meet (l14, h15, A16, k17) ⟨h, o18⟩ sb rfl
def e134 (x : Int × Int × Int) : List Value := [.int .i64 x.1, .int .i64 x.2.1, .int .i64 x.2.2]
theorem e134_ok : EncOk e134 3 := ⟨fun _ => rfl, fun _ => rfl⟩
theorem ety132 : ElemTy Tryz.prog 132 134 3 24 Tryz.t134 (.agg #[iv 0, iv 0, iv 0]) := ⟨by kernel_rfl, by kernel_rfl, by kernel_rfl, by kernel_rfl, by kernel_rfl, by kernel_rfl, by decide⟩
def runes_List_1.f (_k : Nat) (a0_0 : Int) (a0_1 : Int) (a0_2 : Int) (a1_0 : List (Int × Int × Int)) : Option (Bool × List (Int × Int × Int)) := (apd 24 a1_0 [(a0_0, a0_1, a0_2)]).bind fun l3 => some (true, l3)
set_option maxRecDepth 100000 in
theorem runes_List_1.ok {k : Nat} {a0_0 : Int} {a0_1 : Int} {a0_2 : Int} {a1_0 : List (Int × Int × Int)} {b1_ : Nat} {H_a1_0 : Frag} {A_a1_0 : Option Addr} {c_a1_0 : Nat} {r : Bool × List (Int × Int × Int)} (h : runes_List_1.f k a0_0 a0_1 a0_2 a1_0 = some r) (R_a1_0 : OwnT e134 134 3 H_a1_0 (.slice A_a1_0 a1_0.length c_a1_0) a1_0) : Ct Tryz.prog 139 #[.agg #[iv a0_0, iv a0_1, iv a0_2], pt b1_] [bk b1_ #[.slice A_a1_0 a1_0.length c_a1_0] 132, H_a1_0] [] (fun e l1 => ∃ (H0_ : Frag) (A0_ : Option Addr) (c0_ : Nat), OwnT e134 134 3 H0_ (.slice A0_ r.2.length c0_) r.2 ∧ e = .returned (bv r.1) ∧ l1 = [bk b1_ #[.slice A0_ r.2.length c0_] 132, H0_]) := by
  refine ct_enter (args := [.agg #[iv a0_0, iv a0_1, iv a0_2], pt b1_]) Tryz.func139 rfl (Nat.le_of_ble_eq_true rfl) ?_
  intro A X hh_
  unfold runes_List_1.f at h
  refine K.eq (env' := [(0, .agg #[iv a0_0, iv a0_1, iv a0_2]), (1, pt b1_)]) (l' := bk b1_ #[.slice A_a1_0 a1_0.length c_a1_0] 132 :: H_a1_0 :: X) rfl rfl ?_
  refine ksr ?_
  refine knp #[iv a0_0, iv a0_1, iv a0_2] 134 fun b1 => ?_
  refine kx 1 ?_
  refine kns' ?_
  refine kld 1 0 rfl ?_
  refine kla 0 0 3 rfl ?_
  refine K.drop ?_
  refine kns #[iv a0_0, iv a0_1, iv a0_2] 134 1 fun b2 => ?_
  refine K.mv2 ?_
  refine bnd h fun l3 hl3 h => ?_
  refine kl_apd (ys := [(a0_0, a0_1, a0_2)]) e134_ok rfl ety132 (by kernel_rfl) (by kernel_rfl) (by kernel_rfl) (by kernel_rfl) (by kernel_rfl) hl3 R_a1_0 (src_blk (n := 1) e134_ok [(a0_0, a0_1, a0_2)] (by kernel_rfl) rfl (by decide) 1 rfl) fun h4 A5 k6 o7 => ?_
  refine K.mv1 ?_
  refine K.drop ?_
  refine K.mv1 ?_
  refine kst 0 1 #[.slice A5 l3.length k6] ?_
  refine kns' ?_
  refine kx 1 ?_
  refine knt ?_
  refine k_ret ?_
  obtain rfl := Option.some.inj h
  refine kdv (bv true) [bk b1_ #[.slice A5 l3.length k6] 132, h4] ?_
  exact k_end ⟨h4, A5, k6, o7, rfl, rfl⟩
def runes_each.l0 : Nat → (a0 : ByteArray) → (J9 : Int → Int → (List (Int × Int × Int)) → Option (List (Int × Int × Int))) → (p17 : Nat) → (x18 : Int) → (x19 : Int) → (l20 : List (Int × Int × Int)) → Option (List (Int × Int × Int))
  | 0, _, _, _, _, _, _ => none
  | m25 + 1, a0, J9, p17, x18, x19, l20 => cond (decide (p17 < ByteArray.size a0)) (joinF (fun (x27 : Int) (l28 : List (Int × Int × Int)) => runes_each.l0 m25 a0 J9 (rNx a0 p17) ((p17 : Nat) : Int) (IntKind.i64.wrap (rAt a0 p17)) l28) (fun J33 => cond (decide (x18 ≥ (0 : Int))) ((runes_List_1.f m25 x18 (IntKind.i64.wrap (((p17 : Nat) : Int) - x18)) x19 l20).bind fun r35 => cond (!r35.1) (some (r35.2)) (J33 (IntKind.i64.wrap (((p17 : Nat) : Int) - x18)) r35.2)) (J33 (0 : Int) l20))) (J9 x18 x19 l20)
def runes_each.f (k : Nat) (a0 : ByteArray) (a200_0 : List (Int × Int × Int)) : Option (List (Int × Int × Int)) := joinF (fun (x2 : Int) (x3 : Int) (l4 : List (Int × Int × Int)) => cond (decide (x2 ≥ (0 : Int))) ((runes_List_1.f k x2 (IntKind.i64.wrap ((a0.size : Int) - x2)) x3 l4).bind fun r11 => some (r11.2)) (some (l4))) (fun J9 => runes_each.l0 k a0 J9 0 (-1 : Int) (0 : Int) a200_0)
set_option maxRecDepth 100000 in
theorem runes_each.ok {k : Nat} {a0 : ByteArray} {a200_0 : List (Int × Int × Int)} {b200_ : Nat} {H_a200_0 : Frag} {A_a200_0 : Option Addr} {c_a200_0 : Nat} {r : List (Int × Int × Int)} (h : runes_each.f k a0 a200_0 = some r) (R_a200_0 : OwnT e134 134 3 H_a200_0 (.slice A_a200_0 a200_0.length c_a200_0) a200_0) : Ct Tryz.prog 138 #[sv a0, .func (.func 139) #[] #[pt b200_]] [bk b200_ #[.slice A_a200_0 a200_0.length c_a200_0] 132, H_a200_0] [] (fun e l1 => ∃ (H0_ : Frag) (A0_ : Option Addr) (c0_ : Nat), OwnT e134 134 3 H0_ (.slice A0_ r.length c0_) r ∧ e = .returned (.tuple #[]) ∧ l1 = [bk b200_ #[.slice A0_ r.length c0_] 132, H0_]) := by
  refine ct_enter (args := [sv a0, .func (.func 139) #[] #[pt b200_]]) Tryz.func138 rfl (Nat.le_of_ble_eq_true rfl) ?_
  intro A X hh_
  unfold runes_each.f at h
  refine K.eq (env' := [(0, sv a0), (1, .func (.func 139) #[] #[pt b200_])]) (l' := bk b200_ #[.slice A_a200_0 a200_0.length c_a200_0] 132 :: H_a200_0 :: X) rfl rfl ?_
  refine ksr ?_
  refine kx 1 ?_
  refine knp #[iv 0, iv 0, iv 0] 134 fun b1 => ?_
  refine kst 0 3 #[iv (-1), iv 0, iv 0] ?_
  refine knt ?_
  obtain ⟨J9, hJ9, h⟩ := joinSplit h
  refine k_cut (τ := Int × Int × (List (Int × Int × Int)) × Frag × (Option Addr) × Nat) (fun t => [(0, sv a0), (1, .func (.func 139) #[] #[pt b200_]), (4, pt b1)]) (fun t => bk b1 #[iv t.1, iv 0, iv t.2.1] 134 :: bk b200_ #[.slice t.2.2.2.2.1 t.2.2.1.length t.2.2.2.2.2] 132 :: t.2.2.2.1 :: X) (fun t => J9 t.1 t.2.1 t.2.2.1 = some r ∧ OwnT e134 134 3 t.2.2.2.1 (.slice t.2.2.2.2.1 t.2.2.1.length t.2.2.2.2.2) t.2.2.1) ?_ ?_
  · rintro ⟨x2, x3, l4, h5, A6, k7⟩ ⟨h, o8⟩
    subst hJ9
    refine ksr ?_
    refine kx 1 ?_
    refine kld 0 0 rfl ?_
    refine kx 1 ?_
    refine knt ?_
    refine kcn h (fun h => ?_) fun h => ?_
    · refine ksr ?_
      refine kx 3 ?_
      refine kld 0 0 rfl ?_
      refine kx 2 ?_
      refine kst 1 1 #[iv x2, iv (IntKind.i64.wrap ((a0.size : Int) - x2)), iv x3] ?_
      refine knr ?_
      refine kx 1 ?_
      refine kla 0 0 3 rfl ?_
      refine K.drop ?_
      refine K.mv1 ?_
      refine K.mv1 ?_
      refine bnd h fun r11 hr11 h => ?_
      refine kcl (runes_List_1.ok (b1_ := b200_) hr11 o8) rfl trivial ?_
      rintro _ _ ⟨h12, A13, k14, o15, rfl, rfl⟩
      refine nx_ret2 ?_
      refine k_nil ?_
      refine k_fall ?_
      obtain rfl := Option.some.inj h
      refine kdv (.tuple #[]) [bk b200_ #[.slice A13 r11.2.length k14] 132, h12] ?_
      exact k_end ⟨h12, A13, k14, o15, rfl, rfl⟩
    · refine k_skip ?_
      refine k_fall ?_
      obtain rfl := Option.some.inj h
      refine kdv (.tuple #[]) [bk b200_ #[.slice A6 l4.length k7] 132, h5] ?_
      refine K.drop ?_
      exact k_end ⟨h5, A6, k7, o8, rfl, rfl⟩
  · skip
    refine ksr ?_
    refine kx 1 ?_
    refine kl_range (s := a0) rfl (by kernel_rfl) (by kernel_rfl) (by kernel_rfl) (by kernel_rfl) fun b16 => ?_
    refine knt ?_
    refine k_block ?_
    refine k_loop (τ := Nat × Int × Int × (List (Int × Int × Int)) × Frag × (Option Addr) × Nat) (fun t => [(0, sv a0), (1, .func (.func 139) #[] #[pt b200_]), (4, pt b1), (9, pt b16)]) (fun t => blk b16 (.stringIter a0 t.1) :: bk b1 #[iv t.2.1, iv 0, iv t.2.2.1] 134 :: bk b200_ #[.slice t.2.2.2.2.2.1 t.2.2.2.1.length t.2.2.2.2.2.2] 132 :: t.2.2.2.2.1 :: X) (fun m t => runes_each.l0 m a0 J9 t.1 t.2.1 t.2.2.1 t.2.2.2.1 = some r ∧ OwnT e134 134 3 t.2.2.2.2.1 (.slice t.2.2.2.2.2.1 t.2.2.2.1.length t.2.2.2.2.2.2) t.2.2.2.1) k (0, (-1 : Int), (0 : Int), a200_0, H_a200_0, A_a200_0, c_a200_0) ⟨h, R_a200_0⟩ sb rfl ?_
    clear h
    rintro m25 ⟨p17, x18, x19, l20, h21, A22, k23⟩ ⟨h, o24⟩
    cases m25 with
    | zero => simp [runes_each.l0] at h
    | succ m25 =>
      simp only [runes_each.l0] at h
      refine ksr ?_
      rcases Bool.eq_false_or_eq_true (decide (p17 < ByteArray.size a0)) with t26 | t26
      · have h := condT h t26
        refine kl_nextT t26 rfl (by kernel_rfl) (by kernel_rfl) (by kernel_rfl) ?_
        refine kx 1 ?_
        refine knt ?_
        refine k_seq ?_
        refine k_cond_true (by kernel_rfl) ?_
        refine k_skip ?_
        refine k_then ?_
        refine k_block ?_
        refine ksr ?_
        refine kx 4 ?_
        refine knt ?_
        obtain ⟨J33, hJ33, h⟩ := joinSplit h
        refine k_cut (τ := Int × (List (Int × Int × Int)) × Frag × (Option Addr) × Nat) (fun t => [(0, sv a0), (1, .func (.func 139) #[] #[pt b200_]), (4, pt b1), (5, iv ((p17 : Nat) : Int)), (6, .int .i32 (rAt a0 p17)), (9, pt b16)]) (fun t => blk b16 (.stringIter a0 (rNx a0 p17)) :: bk b1 #[iv x18, iv t.1, iv x19] 134 :: bk b200_ #[.slice t.2.2.2.1 t.2.1.length t.2.2.2.2] 132 :: t.2.2.1 :: X) (fun t => J33 t.1 t.2.1 = some r ∧ OwnT e134 134 3 t.2.2.1 (.slice t.2.2.2.1 t.2.1.length t.2.2.2.2) t.2.1) ?_ ?_
        · rintro ⟨x27, l28, h29, A30, k31⟩ ⟨h, o32⟩
          subst hJ33
          refine k_region ?_
          refine kx 4 ?_
          refine K.mv1 ?_
          refine kst 0 3 #[iv ((p17 : Nat) : Int), iv 0, iv (IntKind.i64.wrap (rAt a0 p17))] ?_
          refine k_nil ?_
          refine k_blk ?_
          refine k_then ?_
          refine K.mv3 ?_
          refine K.mv3 ?_
          refine K.mv2 ?_
          refine K.mv3 ?_
          exact k_again m25 ((rNx a0 p17), ((p17 : Nat) : Int), IntKind.i64.wrap (rAt a0 p17), l28, h29, A30, k31) (Nat.lt_succ_self _) ⟨h, o32⟩ sb rfl
        · skip
          refine ksr ?_
          refine kx 1 ?_
          refine kld 1 0 rfl ?_
          refine kx 1 ?_
          refine knt ?_
          refine kcn h (fun h => ?_) fun h => ?_
          · refine ksr ?_
            refine kx 2 ?_
            refine kld 1 0 rfl ?_
            refine kx 2 ?_
            refine K.mv1 ?_
            refine kst 1 1 #[iv x18, iv (IntKind.i64.wrap (((p17 : Nat) : Int) - x18)), iv x19] ?_
            refine kns' ?_
            refine kx 1 ?_
            refine kla 0 0 3 rfl ?_
            refine K.mv3 ?_
            refine K.mv3 ?_
            refine bnd h fun r35 hr35 h => ?_
            refine kcl (runes_List_1.ok (b1_ := b200_) hr35 o24) rfl trivial ?_
            rintro _ _ ⟨h36, A37, k38, o39, rfl, rfl⟩
            refine nx_ret2 ?_
            refine kx 1 ?_
            refine knt ?_
            refine kcn h (fun h => ?_) fun h => ?_
            · refine k_ret ?_
              refine k_then_ret ?_
              refine k_blk_ret ?_
              refine k_then_ret ?_
              refine k_blk_ret ?_
              refine k_then_ret ?_
              obtain rfl := Option.some.inj h
              refine kdv (.tuple #[]) [bk b200_ #[.slice A37 r35.2.length k38] 132, h36] ?_
              refine K.mv2 ?_
              refine K.drop ?_
              refine K.mv2 ?_
              refine K.drop ?_
              exact k_end ⟨h36, A37, k38, o39, rfl, rfl⟩
            · refine k_skip ?_
              refine k_then ?_
              refine K.mv1 ?_
              refine K.mv1 ?_
              refine K.mv2 ?_
              refine K.mv3 ?_
              exact k_meet (IntKind.i64.wrap (((p17 : Nat) : Int) - x18), r35.2, h36, A37, k38) ⟨h, o39⟩ sb rfl
          · refine k_skip ?_
            refine k_then ?_
            exact k_meet ((0 : Int), l20, h21, A22, k23) ⟨h, o24⟩ sb rfl
      · have h := condF h t26
        refine kl_nextF t26 rfl (by kernel_rfl) (by kernel_rfl) (by kernel_rfl) ?_
        refine kx 1 ?_
        refine knt ?_
        refine k_seq ?_
        refine k_cond_false (by kernel_rfl) ?_
        refine k_exit ?_
        refine k_then_exit ?_
        refine k_then_exit ?_
        refine k_here ?_
        refine k_then ?_
        refine K.drop ?_
        exact k_meet (x18, x19, l20, h21, A22, k23) ⟨h, o24⟩ sb rfl
def runes_List.f (k : Nat) (a0 : ByteArray) : Option (List (Int × Int × Int)) := (runes_each.f k a0 ([])).bind fun r2 => some (r2)
set_option maxRecDepth 100000 in
theorem runes_List.ok {k : Nat} {a0 : ByteArray} {r : List (Int × Int × Int)} (h : runes_List.f k a0 = some r) : Ct Tryz.prog 123 #[sv a0] [] [] (fun e l1 => ∃ (H0_ : Frag) (A0_ : Option Addr) (c0_ : Nat), OwnT e134 134 3 H0_ (.slice A0_ r.length c0_) r ∧ e = .returned (.slice A0_ r.length c0_) ∧ l1 = [H0_]) := by
  refine ct_enter (args := [sv a0]) Tryz.func123 rfl (Nat.le_of_ble_eq_true rfl) ?_
  intro A X hh_
  unfold runes_List.f at h
  refine ksr ?_
  refine kx 1 ?_
  refine kns' ?_
  refine knp #[nS] 132 fun b1 => ?_
  refine kns' ?_
  refine kx 2 ?_
  refine k_none ?_
  refine K.mv1 ?_
  refine bnd h fun r2 hr2 h => ?_
  refine kcl (runes_each.ok (b200_ := b1) hr2 (OwnT.nil e134 134 3 none_)) rfl trivial ?_
  rintro _ _ ⟨h3, A4, k5, o6, rfl, rfl⟩
  refine nx_ret2 ?_
  refine kns' ?_
  refine kld 0 0 rfl ?_
  refine K.drop ?_
  refine kx 1 ?_
  refine knt ?_
  refine k_ret ?_
  obtain rfl := Option.some.inj h
  refine kdv (.slice A4 r2.length k5) [h3] ?_
  exact k_end ⟨h3, A4, k5, o6, rfl, rfl⟩
def lex_Quote.l0 : Nat → (a0 : ByteArray) → (J16 : (List Int) → Option (ByteArray)) → (r25 : List (Int × Int × Int)) → (x30 : Int) → (l33 : List Int) → Option (ByteArray)
  | 0, _, _, _, _, _ => none
  | m38 + 1, a0, J16, r25, x30, l33 => cond (decide (x30 < ((r25.length : Nat) : Int))) (joinF (fun (l42 : List Int) => lex_Quote.l0 m38 a0 J16 r25 (IntKind.i64.wrap (x30 + (1 : Int))) l42) (fun J47 => (lIdx r25 x30).bind fun x48 => (sIdx a0 x48.1).bind fun c53 : UInt8 => (cond ((c53.toNat : Int) == (92 : Int)) (some true) (some ((c53.toNat : Int) == (34 : Int))) : Option Bool).bind fun q54 => cond q54 ((strings_Builder_WriteByte.f m38 l33 (92 : Int)).bind fun r56 => (strings_Builder_WriteByte.f m38 r56 (c53.toNat : Int)).bind fun r63 => J47 r63) (cond ((c53.toNat : Int) == (10 : Int)) ((strings_Builder_WriteString.f m38 l33 (⟨#[92, 110]⟩ : ByteArray)).bind fun r71 => J47 r71.2) (cond ((c53.toNat : Int) == (13 : Int)) ((strings_Builder_WriteString.f m38 l33 (⟨#[92, 114]⟩ : ByteArray)).bind fun r79 => J47 r79.2) ((cond (decide ((c53.toNat : Int) < (32 : Int))) (some true) (some ((c53.toNat : Int) == (127 : Int))) : Option Bool).bind fun q86 => cond q86 ((words_Format.f m38 (IntKind.i64.wrap (c53.toNat : Int))).bind fun r88 => (strings_Repeat.f m38 (⟨#[48]⟩ : ByteArray) (IntKind.i64.wrap ((3 : Int) - (r88.size : Int)))).bind fun r89 => (sCat (⟨#[92]⟩ : ByteArray) r89).bind fun s90 : ByteArray => (sCat s90 r88).bind fun s91 : ByteArray => (strings_Builder_WriteString.f m38 l33 s91).bind fun r92 => J47 r92.2) ((cond (x48.2.2 == (65533 : Int)) (some (x48.2.1 == (1 : Int))) (some false) : Option Bool).bind fun q99 => cond q99 ((sIdx (⟨#[48, 49, 50, 51, 52, 53, 54, 55, 56, 57, 97, 98, 99, 100, 101, 102]⟩ : ByteArray) (Int.fdiv (c53.toNat : Int) 16)).bind fun c101 : UInt8 => (sCat (⟨#[92, 120]⟩ : ByteArray) (Utf8.encode (c101.toNat : Int))).bind fun s102 : ByteArray => (sIdx (⟨#[48, 49, 50, 51, 52, 53, 54, 55, 56, 57, 97, 98, 99, 100, 101, 102]⟩ : ByteArray) (IntKind.u8.wrap ((BitVec.ofInt 8 (c53.toNat : Int) &&& BitVec.ofInt 8 (15 : Int)).toNat : Int))).bind fun c103 : UInt8 => (sCat s102 (Utf8.encode (c103.toNat : Int))).bind fun s104 : ByteArray => (strings_Builder_WriteString.f m38 l33 s104).bind fun r105 => J47 r105.2) ((sSub a0 x48.1 (IntKind.i64.wrap (x48.1 + x48.2.1))).bind fun s112 : ByteArray => (strings_Builder_WriteString.f m38 l33 s112).bind fun r113 => J47 r113.2))))))) (J16 l33)
def lex_Quote.f (k : Nat) (a0 : ByteArray) : Option (ByteArray) := (strings_Builder_WriteByte.f k ([]) (34 : Int)).bind fun r2 => joinF (fun (l11 : List Int) => (strings_Builder_WriteByte.f k l11 (34 : Int)).bind fun r17 => (strings_Builder_String.f k r17).bind fun r24 => some (r24)) (fun J16 => (runes_List.f k a0).bind fun r25 => lex_Quote.l0 k a0 J16 r25 (0 : Int) r2)
set_option maxRecDepth 100000 in
theorem lex_Quote.ok {k : Nat} {a0 : ByteArray} {G : Frag} {r : ByteArray} (h : lex_Quote.f k a0 = some r) (hG : GlT G) : Ct Tryz.prog 98 #[sv a0] [] [G] (fun e l1 => e = .returned (sv r) ∧ l1 = []) := by
  refine ct_enter (args := [sv a0]) Tryz.func98 rfl (Nat.le_of_ble_eq_true rfl) ?_
  intro A X hh_
  obtain ⟨hm_G, _⟩ := hh_
  unfold lex_Quote.f at h
  refine ksr ?_
  refine kx 1 ?_
  refine kns' ?_
  refine knp #[.pointer none, nS] 71 fun b1 => ?_
  refine kns' ?_
  refine k_none ?_
  refine K.mv1 ?_
  refine bnd h fun r2 hr2 h => ?_
  refine kcl (strings_Builder_WriteByte.ok (b0 := b1) hr2 bd71 (.inl rfl) (OwnT.nil (encI .u8) 5 1 none_)) rfl trivial ?_
  rintro _ _ ⟨v3, h5, A6, k7, V4, o8, rfl, rfl⟩
  refine nx_ret2 ?_
  refine knt ?_
  obtain ⟨J16, hJ16, h⟩ := joinSplit h
  refine k_cut (τ := (List Int) × Value × Frag × (Option Addr) × Nat) (fun t => [(3, pt b1)]) (fun t => bk b1 #[t.2.1, .slice t.2.2.2.1 t.1.length t.2.2.2.2] 71 :: t.2.2.1 :: X) (fun t => J16 t.1 = some r ∧ SelfOr b1 t.2.1 ∧ OwnT (encI .u8) 5 1 t.2.2.1 (.slice t.2.2.2.1 t.1.length t.2.2.2.2) t.1) ?_ ?_
  · rintro ⟨l11, v9, h12, A13, k14⟩ ⟨h, V10, o15⟩
    subst hJ16
    refine ksr ?_
    refine K.mv1 ?_
    refine K.mv1 ?_
    refine bnd h fun r17 hr17 h => ?_
    refine kcl (strings_Builder_WriteByte.ok (b0 := b1) hr17 bd71 V10 o15) rfl trivial ?_
    rintro _ _ ⟨v18, h20, A21, k22, V19, o23, rfl, rfl⟩
    refine nx_ret2 ?_
    refine kns' ?_
    refine K.mv1 ?_
    refine K.mv1 ?_
    refine bnd h fun r24 hr24 h => ?_
    refine kc1 (strings_Builder_String.ok (b0 := b1) hr24 bd71 V19 o23) rfl trivial ?_
    refine K.drop ?_
    refine kx 1 ?_
    refine knt ?_
    refine k_ret ?_
    obtain rfl := Option.some.inj h
    exact kdn rfl
  · skip
    refine ksr ?_
    refine kx 1 ?_
    refine bnd h fun r25 hr25 h => ?_
    refine kcl (runes_List.ok hr25) rfl trivial ?_
    rintro _ _ ⟨h26, A27, k28, o29, rfl, rfl⟩
    refine nx_ret1 ?_
    refine kx 2 ?_
    refine knt ?_
    refine k_block ?_
    refine k_loop (τ := Int × (List Int) × Value × Frag × (Option Addr) × Nat) (fun t => [(0, sv a0), (3, pt b1), (10, .slice A27 r25.length k28), (11, iv ((r25.length : Nat) : Int)), (12, iv t.1)]) (fun t => h26 :: bk b1 #[t.2.2.1, .slice t.2.2.2.2.1 t.2.1.length t.2.2.2.2.2] 71 :: t.2.2.2.1 :: X) (fun m t => lex_Quote.l0 m a0 J16 r25 t.1 t.2.1 = some r ∧ SelfOr b1 t.2.2.1 ∧ OwnT (encI .u8) 5 1 t.2.2.2.1 (.slice t.2.2.2.2.1 t.2.1.length t.2.2.2.2.2) t.2.1) k ((0 : Int), r2, v3, h5, A6, k7) ⟨h, V4, o8⟩ sb rfl ?_
    clear h
    rintro m38 ⟨x30, l33, v31, h34, A35, k36⟩ ⟨h, V32, o37⟩
    cases m38 with
    | zero => simp [lex_Quote.l0] at h
    | succ m38 =>
      simp only [lex_Quote.l0] at h
      refine ksr ?_
      refine kx 1 ?_
      refine knt ?_
      refine k_seq ?_
      refine kcn h (fun h => ?_) fun h => ?_
      · refine k_skip ?_
        refine k_then ?_
        obtain ⟨J47, hJ47, h⟩ := joinSplit h
        refine k_cut (τ := (List Int) × Value × Frag × (Option Addr) × Nat) (fun t => [(0, sv a0), (3, pt b1), (10, .slice A27 r25.length k28), (11, iv ((r25.length : Nat) : Int)), (12, iv x30)]) (fun t => h26 :: bk b1 #[t.2.1, .slice t.2.2.2.1 t.1.length t.2.2.2.2] 71 :: t.2.2.1 :: X) (fun t => J47 t.1 = some r ∧ SelfOr b1 t.2.1 ∧ OwnT (encI .u8) 5 1 t.2.2.1 (.slice t.2.2.2.1 t.1.length t.2.2.2.2) t.1) ?_ ?_
        · rintro ⟨l42, v40, h43, A44, k45⟩ ⟨h, V41, o46⟩
          subst hJ47
          refine k_region ?_
          refine kx 2 ?_
          refine knt ?_
          exact k_again m38 (IntKind.i64.wrap (x30 + (1 : Int)), l42, v40, h43, A44, k45) (Nat.lt_succ_self _) ⟨h, V41, o46⟩ sb rfl
        · skip
          refine k_block ?_
          refine ksr ?_
          refine bnd h fun x48 hx48 h => ?_
          refine kl_elemP (T := 134) (kd := .i64) e134_ok rfl (by kernel_rfl) (by kernel_rfl) (by kernel_rfl) (by kernel_rfl) (by kernel_rfl) (by kernel_rfl) hx48 (OwnT.rd o29) fun p49 e50 y51 => ?_
          have e50 : Elem _ p49 [iv x48.1, iv x48.2.1, iv x48.2.2] := e50
          refine kl_eloadN rfl (by kernel_rfl) (by kernel_rfl) (by kernel_rfl) (by kernel_rfl) (by kernel_rfl) e50 (.head _) ?_
          refine knp #[iv 0, iv 0, iv 0] 134 fun b52 => ?_
          refine kst 0 3 #[iv x48.1, iv x48.2.1, iv x48.2.2] ?_
          refine kns' ?_
          refine kx 2 ?_
          refine kld 0 0 rfl ?_
          refine bnd h fun c53 hc53 h => ?_
          refine kl_index (kd := .i64) rfl (by kernel_rfl) (by kernel_rfl) (by kernel_rfl) (by kernel_rfl) (by kernel_rfl) hc53 ?_
          refine kx 1 ?_
          refine knt ?_
          refine k_block ?_
          refine bnd h fun q54 hq54 h => ?_
          refine k_cut1 [(0, sv a0), (3, pt b1), (10, .slice A27 r25.length k28), (11, iv ((r25.length : Nat) : Int)), (12, iv x30), (5, pt b52), (6, .int .u8 (c53.toNat : Int)), (30, bv q54)] (bk b52 #[iv x48.1, iv x48.2.1, iv x48.2.2] 134 :: h26 :: bk b1 #[v31, .slice A35 l33.length k36] 71 :: h34 :: X) ?_ ?_
          · clear hq54
            refine kcn h (fun h => ?_) fun h => ?_
            · refine ksr ?_
              refine K.mv3 ?_
              refine K.mv3 ?_
              refine bnd h fun r56 hr56 h => ?_
              refine kcl (strings_Builder_WriteByte.ok (b0 := b1) hr56 bd71 V32 o37) rfl trivial ?_
              rintro _ _ ⟨v57, h59, A60, k61, V58, o62, rfl, rfl⟩
              refine nx_ret2 ?_
              refine K.mv2 ?_
              refine K.drop ?_
              refine knr ?_
              refine kx 1 ?_
              refine K.mv1 ?_
              refine K.mv1 ?_
              refine bnd h fun r63 hr63 h => ?_
              refine kcl (strings_Builder_WriteByte.ok (b0 := b1) hr63 bd71 V58 o62) rfl trivial ?_
              rintro _ _ ⟨v64, h66, A67, k68, V65, o69, rfl, rfl⟩
              refine nx_ret2 ?_
              refine k_nil ?_
              refine k_blk ?_
              refine k_blk ?_
              refine k_then ?_
              refine K.mv1 ?_
              refine K.mv1 ?_
              refine K.mv2 ?_
              exact k_meet (r63, v64, h66, A67, k68) ⟨h, V65, o69⟩ sb rfl
            · refine ksr ?_
              refine kx 3 ?_
              refine knt ?_
              refine kcn h (fun h => ?_) fun h => ?_
              · refine k_region ?_
                refine K.mv3 ?_
                refine K.mv3 ?_
                refine bnd h fun r71 hr71 h => ?_
                refine kcl (strings_Builder_WriteString.ok (b0 := b1) hr71 bd71 V32 o37) rfl trivial ?_
                rintro _ _ ⟨v72, h74, A75, k76, V73, o77, rfl, rfl⟩
                refine nx_ret2 ?_
                refine K.mv2 ?_
                refine K.drop ?_
                refine k_nil ?_
                refine k_blk ?_
                refine k_blk ?_
                refine k_then ?_
                refine K.mv1 ?_
                refine K.mv1 ?_
                refine K.mv2 ?_
                exact k_meet (r71.2, v72, h74, A75, k76) ⟨h, V73, o77⟩ sb rfl
              · refine ksr ?_
                refine kx 3 ?_
                refine knt ?_
                refine kcn h (fun h => ?_) fun h => ?_
                · refine k_region ?_
                  refine K.mv3 ?_
                  refine K.mv3 ?_
                  refine bnd h fun r79 hr79 h => ?_
                  refine kcl (strings_Builder_WriteString.ok (b0 := b1) hr79 bd71 V32 o37) rfl trivial ?_
                  rintro _ _ ⟨v80, h82, A83, k84, V81, o85, rfl, rfl⟩
                  refine nx_ret2 ?_
                  refine K.mv2 ?_
                  refine K.drop ?_
                  refine k_nil ?_
                  refine k_blk ?_
                  refine k_blk ?_
                  refine k_then ?_
                  refine K.mv1 ?_
                  refine K.mv1 ?_
                  refine K.mv2 ?_
                  exact k_meet (r79.2, v80, h82, A83, k84) ⟨h, V81, o85⟩ sb rfl
                · refine bnd h fun q86 hq86 h => ?_
                  refine k_cut1 [(0, sv a0), (3, pt b1), (10, .slice A27 r25.length k28), (11, iv ((r25.length : Nat) : Int)), (12, iv x30), (5, pt b52), (6, .int .u8 (c53.toNat : Int)), (48, bv q86)] (bk b52 #[iv x48.1, iv x48.2.1, iv x48.2.2] 134 :: h26 :: bk b1 #[v31, .slice A35 l33.length k36] 71 :: h34 :: X) ?_ ?_
                  · clear hq86
                    refine kcn h (fun h => ?_) fun h => ?_
                    · refine ksr ?_
                      refine kx 2 ?_
                      refine bnd h fun r88 hr88 h => ?_
                      refine kcv (words_Format.ok hr88 hG) ⟨(t4 hm_G), trivial⟩ ?_
                      refine K.drop ?_
                      refine kx 1 ?_
                      refine knr ?_
                      refine kx 3 ?_
                      refine bnd h fun r89 hr89 h => ?_
                      refine kcv (strings_Repeat.ok hr89) trivial ?_
                      refine bnd h fun s90 hs90 h => ?_
                      refine kl_cat rfl (by kernel_rfl) (by kernel_rfl) (by kernel_rfl) (by kernel_rfl) hs90 ?_
                      refine kx 1 ?_
                      refine bnd h fun s91 hs91 h => ?_
                      refine kl_cat rfl (by kernel_rfl) (by kernel_rfl) (by kernel_rfl) (by kernel_rfl) hs91 ?_
                      refine K.mv2 ?_
                      refine K.mv2 ?_
                      refine bnd h fun r92 hr92 h => ?_
                      refine kcl (strings_Builder_WriteString.ok (b0 := b1) hr92 bd71 V32 o37) rfl trivial ?_
                      rintro _ _ ⟨v93, h95, A96, k97, V94, o98, rfl, rfl⟩
                      refine nx_ret2 ?_
                      refine k_nil ?_
                      refine k_blk ?_
                      refine k_blk ?_
                      refine k_then ?_
                      refine K.mv1 ?_
                      refine K.mv1 ?_
                      refine K.mv2 ?_
                      exact k_meet (r92.2, v93, h95, A96, k97) ⟨h, V94, o98⟩ sb rfl
                    · refine bnd h fun q99 hq99 h => ?_
                      refine k_cut1 [(0, sv a0), (3, pt b1), (10, .slice A27 r25.length k28), (11, iv ((r25.length : Nat) : Int)), (12, iv x30), (5, pt b52), (6, .int .u8 (c53.toNat : Int)), (66, bv q99)] (bk b52 #[iv x48.1, iv x48.2.1, iv x48.2.2] 134 :: h26 :: bk b1 #[v31, .slice A35 l33.length k36] 71 :: h34 :: X) ?_ ?_
                      · clear hq99
                        refine kcn h (fun h => ?_) fun h => ?_
                        · refine kpr [(0, 0), (1, 0), (2, 0), (3, 0), (4, 0)] [] ?_
                          refine kpx 2 ?_
                          refine bnd h fun c101 hc101 h => ?_
                          refine kp_index (kd := .u8) rfl (by kernel_rfl) (by kernel_rfl) (by kernel_rfl) (by kernel_rfl) (by kernel_rfl) hc101 ?_
                          refine kpx 1 ?_
                          refine bnd h fun s102 hs102 h => ?_
                          refine kp_cat rfl (by kernel_rfl) (by kernel_rfl) (by kernel_rfl) (by kernel_rfl) hs102 ?_
                          refine kp_done ?_
                          refine kx 2 ?_
                          refine bnd h fun c103 hc103 h => ?_
                          refine kl_index (kd := .u8) rfl (by kernel_rfl) (by kernel_rfl) (by kernel_rfl) (by kernel_rfl) (by kernel_rfl) hc103 ?_
                          refine K.drop ?_
                          refine kx 1 ?_
                          refine bnd h fun s104 hs104 h => ?_
                          refine kl_cat rfl (by kernel_rfl) (by kernel_rfl) (by kernel_rfl) (by kernel_rfl) hs104 ?_
                          refine K.mv2 ?_
                          refine K.mv2 ?_
                          refine bnd h fun r105 hr105 h => ?_
                          refine kcl (strings_Builder_WriteString.ok (b0 := b1) hr105 bd71 V32 o37) rfl trivial ?_
                          rintro _ _ ⟨v106, h108, A109, k110, V107, o111, rfl, rfl⟩
                          refine nx_ret2 ?_
                          refine k_nil ?_
                          refine k_blk ?_
                          refine k_blk ?_
                          refine k_then ?_
                          refine K.mv1 ?_
                          refine K.mv1 ?_
                          refine K.mv2 ?_
                          exact k_meet (r105.2, v106, h108, A109, k110) ⟨h, V107, o111⟩ sb rfl
                        · refine k_region ?_
                          refine kx 2 ?_
                          refine kld 0 0 rfl ?_
                          refine kx 1 ?_
                          refine kld 0 0 rfl ?_
                          refine kx 1 ?_
                          refine kld 0 1 rfl ?_
                          refine K.drop ?_
                          refine kx 1 ?_
                          refine bnd h fun s112 hs112 h => ?_
                          refine kl_sstr x48.1 (IntKind.i64.wrap (x48.1 + x48.2.1)) rfl (by kernel_rfl) (by kernel_rfl) (by kernel_rfl) (.inr ⟨_, .i64, rfl, (by kernel_rfl)⟩) (.inr ⟨_, .i64, rfl, (by kernel_rfl)⟩) (by kernel_rfl) hs112 ?_
                          refine K.mv2 ?_
                          refine K.mv2 ?_
                          refine bnd h fun r113 hr113 h => ?_
                          refine kcl (strings_Builder_WriteString.ok (b0 := b1) hr113 bd71 V32 o37) rfl trivial ?_
                          rintro _ _ ⟨v114, h116, A117, k118, V115, o119, rfl, rfl⟩
                          refine nx_ret2 ?_
                          refine k_nil ?_
                          refine k_blk ?_
                          refine k_blk ?_
                          refine k_then ?_
                          refine K.mv1 ?_
                          refine K.mv1 ?_
                          refine K.mv2 ?_
                          exact k_meet (r113.2, v114, h116, A117, k118) ⟨h, V115, o119⟩ sb rfl
                      · have h := hq99
                        clear hq99
                        refine k_region ?_
                        refine kx 1 ?_
                        refine kld 0 2 rfl ?_
                        refine kx 2 ?_
                        refine kcs 70 h (fun h => ?_) fun h => ?_
                        · refine kx 1 ?_
                          refine kld 0 1 rfl ?_
                          refine kx 3 ?_
                          refine knt ?_
                          exact k_meet1 ⟨gr, gr, gr, gr, gr, gr, gr, gb (Option.some.inj h), trivial⟩
                        · refine kx 5 ?_
                          refine knt ?_
                          exact k_meet1 ⟨gr, gr, gr, gr, gr, gr, gr, gb (Option.some.inj h), trivial⟩
                  · have h := hq86
                    clear hq86
                    refine k_region ?_
                    refine kx 3 ?_
                    refine kcs 51 h (fun h => ?_) fun h => ?_
                    · refine kx 4 ?_
                      refine knt ?_
                      exact k_meet1 ⟨gr, gr, gr, gr, gr, gr, gr, gb (Option.some.inj h), trivial⟩
                    · refine kx 4 ?_
                      refine knt ?_
                      exact k_meet1 ⟨gr, gr, gr, gr, gr, gr, gr, gb (Option.some.inj h), trivial⟩
          · have h := hq54
            clear hq54
            refine k_region ?_
            refine kx 3 ?_
            refine kcs 33 h (fun h => ?_) fun h => ?_
            · refine kx 4 ?_
              refine knt ?_
              exact k_meet1 ⟨gr, gr, gr, gr, gr, gr, gr, gb (Option.some.inj h), trivial⟩
            · refine kx 4 ?_
              refine knt ?_
              exact k_meet1 ⟨gr, gr, gr, gr, gr, gr, gr, gb (Option.some.inj h), trivial⟩
      · refine k_exit ?_
        refine k_then_exit ?_
        refine k_then_exit ?_
        refine k_here ?_
        refine k_then ?_
        refine K.drop ?_
        exact k_meet (l33, v31, h34, A35, k36) ⟨h, V32, o37⟩ sb rfl
end Go.Proofs.YtcdeodpakbcdeaaGreatDoor
namespace Go.Proofs.YtcdeodpakbcdeaaGreatDoor
open Go Go.RowKit
theorem bd73 : isBd 73 := by unfold isBd; kernel_rfl
end Go.Proofs.YtcdeodpakbcdeaaGreatDoor
