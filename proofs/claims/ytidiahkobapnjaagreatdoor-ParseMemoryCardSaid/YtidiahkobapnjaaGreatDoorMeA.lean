/- Texts of mine for parseMemory_card, part 1. -/
import Derived.OrdersHeld
import Derived.Lib.Hide
import Derived.WalkKit
import Derived.WalkSpells
import Derived.WalkLawsBesides
import Derived.Test.YtidiahkobapnjaaGreatDoorProg
set_option linter.unusedSimpArgs false
set_option linter.unusedVariables false
set_option linter.unusedSectionVars false
namespace Go.Proofs.YtidiahkobapnjaaGreatDoor
open Go Go.RowKit
section
variable {P : Program} {ops : Array Oper} {Q : Exit → Act → World → Prop} {md : Region.Mode} {S : World → Prop} {E : List Nat}
def waitsB (md : Region.Mode) (ops : Array Oper) : Nat → Nat → Nat → Bool
 | 0, _, _ => false
 | f + 1, j, i =>
  match ops[j]? with
  | some oj => oj.after.any fun e => Region.binds md e && (e.on == i || waitsB md ops f e.on i)
  | none => false
def Closed (md : Region.Mode) (ops : Array Oper) (listed : Array Bool) : Prop :=
 ∀ j oj, ops[j]? = some oj → listed.getD j false = true → ∀ e ∈ oj.after, Region.binds md e = true → listed.getD e.on false = true
theorem Closed.set {i : Nat} {listed : Array Bool} (h : Closed md ops listed) (hi : i ∈ Region.ready md ops listed) : Closed md ops (listed.setIfInBounds i true) := by
 obtain ⟨_, oi, hoi, hall⟩ := mem_ready.1 hi
 intro j oj hj hl e he hb
 by_cases hij : i = j
 ·subst hij
  rw [hoi] at hj
  cases hj
  exact getD_set_true (hall e he hb)
 ·rw [getD_set_ne false hij] at hl
  exact getD_set_true (h j oj hj hl e he hb)
theorem Closed.waits {listed : Array Bool} (h : Closed md ops listed) (i : Nat) : ∀ (f j : Nat), waitsB md ops f j i = true → listed.getD j false = true → listed.getD i false = true
 | 0, _, hw, _ => by simp [waitsB] at hw
 | f + 1, j, hw, hl => by
  simp only [waitsB] at hw
  split at hw
  ·rename_i oj hoj
   obtain ⟨e, he, hb⟩ := Array.any_eq_true'.1 hw
   simp only [Bool.and_eq_true, Bool.or_eq_true, beq_iff_eq] at hb
   have h1 := h j oj hoj hl e he hb.1
   rcases hb.2 with h2 | h2
   ·rw [← h2]; exact h1
   ·exact Closed.waits h i f e.on h2 h1
  ·cases hw
theorem not_both {i : Nat} {listed : Array Bool} (h0 : listed.getD i true = false) (h1 : listed.getD i false = true) : False := by
 rcases Nat.lt_or_ge i listed.size with h' | h'
 ·simp [h'] at h0 h1; rw [h0] at h1; cases h1
 ·simp [h'] at h1
def needsS (md : Region.Mode) (ops : Array Oper) (E : List Nat) (j : Nat) : Bool := !(E.all fun i => waitsB md ops ops.size j i)
theorem needsS_of_left {i j : Nat} {listed : Array Bool} (hc : Closed md ops listed) (hi : i ∈ E) (hl : listed.getD i true = false) (hj : j ∈ Region.ready md ops listed) : needsS md ops E j = true := by
 unfold needsS
 rw [Bool.not_eq_true', Bool.eq_false_iff]
 intro hall
 have hw := List.all_eq_true.1 hall i hi
 obtain ⟨_, oj, hoj, hallj⟩ := mem_ready.1 hj
 cases hn : ops.size with
 | zero => rw [hn] at hw; simp [waitsB] at hw
 | succ f =>
  rw [hn] at hw
  simp only [waitsB, hoj] at hw
  obtain ⟨e, he, hb⟩ := Array.any_eq_true'.1 hw
  simp only [Bool.and_eq_true, Bool.or_eq_true, beq_iff_eq] at hb
  have h1 := hallj e he hb.1
  rcases hb.2 with h2 | h2
  ·rw [h2] at h1; exact not_both hl h1
  ·exact not_both hl (hc.waits i f e.on h2 h1)
def wpAnyS (P : Program) (md : Region.Mode) (ops : Array Oper) (Q : Exit → Act → World → Prop) (S : World → Prop) (E : List Nat) : Nat → Array Bool → Act → World → Prop
 | 0, listed, a, w => Region.ready md ops listed = [] ∧ Q .normal a w
 | fuel + 1, listed, a, w =>
  (Region.ready md ops listed = [] → Q .normal a w) ∧
  ∀ i ∈ Region.ready md ops listed, wpOp P ops Q i (fun a' w' => (needsS md ops E i = true → S w → S w') ∧ wpAnyS P md ops Q S E fuel (listed.setIfInBounds i true) a' w') a w
theorem wpAny_of_S : ∀ (fuel : Nat) (listed : Array Bool) (a : Act) (w : World), wpAnyS P md ops Q S E fuel listed a w → wpAny P md ops Q fuel listed a w
 | 0, _, _, _, h => h
 | fuel + 1, _, _, _, h => ⟨h.1, fun i hi => wpOp_mono (fun a' w' h' => wpAny_of_S fuel _ a' w' h'.2) (h.2 i hi)⟩
theorem wpAnyS_first {T : World → Prop} {i : Nat} {oi : Oper} {v : Value} (hi : ops[i]? = some oi) (hsel : ∀ (j : Nat) (o : Oper) cs b, ops[j]? = some o → o.op ≠ .select cs b)
  (hQ : ∀ c a w, Q (.panic c) (a.put oi.dst v) w → Q (.panic c) a w) (hT : (∀ w, T w) ∨ (i ∈ E ∧ ∀ w, S w → T w)) :
  ∀ (fuel : Nat) (listed : Array Bool) (a : Act) (w : World), Closed md ops listed →
   (∀ j oj, ops[j]? = some oj → j ≠ i → listed.getD j true = false → (∀ e ∈ oj.after, Region.binds md e = true → e.on ≠ i) → oi.apart ops oj = true) →
   i ∈ Region.ready md ops listed → YieldsIf P ops T oi v a → ((∀ w, T w) ∨ S w) →
   wpAnyS P md ops Q S E fuel (listed.setIfInBounds i true) (a.put oi.dst v) w → wpAnyS P md ops Q S E (fuel + 1) listed a w := by
 intro fuel
 induction fuel with
 | zero =>
  intro listed a w _ _ hr hy hSw H
  have hTw : T w := hT.elim (fun h => h w) (fun h => hSw.elim (fun h => h w) (fun h' => h.2 w h'))
  refine ⟨fun h => (by rw [h] at hr; cases hr), fun j hj => ?_⟩
  by_cases hji : j = i
  ·subst hji; exact hy.wpOp hi hTw ⟨fun _ h => h, H⟩
  ·have := ready_mono hj hji
   rw [H.1] at this
   cases this
 | succ fuel ih =>
  intro listed a w hcl hfree hr hy hSw H
  have hTw : T w := hT.elim (fun h => h w) (fun h => hSw.elim (fun h => h w) (fun h' => h.2 w h'))
  refine ⟨fun h => (by rw [h] at hr; cases hr), fun j hj => ?_⟩
  by_cases hji : j = i
  ·subst hji; exact hy.wpOp hi hTw ⟨fun _ h => h, H⟩
  ·have h1 := H.2 j (ready_mono hj hji)
   obtain ⟨hjun, oj, hoj, hall⟩ := mem_ready.1 hj
   have hnot : ∀ e ∈ oj.after, Region.binds md e = true → e.on ≠ i := fun e he hb heq => by
    have h1 := hall e he hb
    rw [heq] at h1
    exact not_both (mem_ready.1 hr).1 h1
   have h2 := wpOp_putIf hoj (hfree j oj hoj hji hjun hnot) (fun cs b => hsel i oi cs b hi) (fun cs b => hsel j oj cs b hoj) hQ hy h1
   have hfree' : ∀ k ok, ops[k]? = some ok → k ≠ i → (listed.setIfInBounds j true).getD k true = false →
     (∀ e ∈ ok.after, Region.binds md e = true → e.on ≠ i) → oi.apart ops ok = true := fun k ok hk hki hun hno => by
    refine hfree k ok hk hki ?_ hno
    by_cases hjk : j = k
    ·subst hjk; exact hjun
    ·rw [getD_set_ne true hjk] at hun; exact hun
   refine wpOp_mono (fun a' w' h3 => ⟨h3.2.1, ?_⟩) h2
   have hH := h3.2.2
   rw [Array.setIfInBounds_comm _ _ (Ne.symm hji)] at hH
   refine ih (listed.setIfInBounds j true) a' w' (hcl.set hj) hfree' (ready_mono hr (Ne.symm hji)) h3.1 ?_ hH
   rcases hSw with h | h
   ·exact .inl h
   ·rcases hT with h' | h'
    ·exact .inl h'
    ·exact .inr (h3.2.1 (needsS_of_left hcl h'.1 (mem_ready.1 hr).1 hj) h)
def tailB (md : Region.Mode) (ops : Array Oper) (E : List Nat) : Nat → Nat → Array Bool → Bool
 | 0, _, listed => (Region.ready md ops listed).isEmpty
 | g + 1, k, listed => decide (Region.ready md ops listed = [k]) && !needsS md ops E k && tailB md ops E g (k + 1) (listed.setIfInBounds k true)
theorem wpAnyS_of_tail : ∀ (l : List Oper) (k : Nat) (listed : Array Bool) (a : Act) (w : World), (∀ j, l[j]? = ops[k + j]?) →
  tailB md ops E l.length k listed = true → wpList P ops Q l a w → wpAnyS P md ops Q S E l.length listed a w
 | [], _, _, _, _, _, hB, h => ⟨by simpa [tailB] using hB, h⟩
 | o :: l, k, listed, a, w, hl, hB, h => by
  have h0 : ops[k]? = some o := by simpa using (hl 0).symm
  simp only [List.length_cons, tailB, Bool.and_eq_true, decide_eq_true_eq, Bool.not_eq_true'] at hB
  refine ⟨fun h1 => (by rw [hB.1.1] at h1; cases h1), fun i hi => ?_⟩
  rw [hB.1.1] at hi
  have hik : i = k := by simpa using hi
  subst hik
  have hw : wpOp P ops Q i (wpList P ops Q l) a w := by unfold wpOp; simp only [h0]; exact h
  exact wpOp_mono (fun a' w' h' => ⟨fun hc => (by rw [hB.1.2] at hc; cases hc), wpAnyS_of_tail l (i + 1) _ a' w' (fun j => by have := hl (j + 1); simpa [Nat.add_assoc, Nat.add_comm 1 j] using this) hB.2 h'⟩) hw
def wpPlan (P : Program) (ops : Array Oper) (Q : Exit → Act → World → Prop) (S : World → Prop) (tail : Act → World → Prop) : List (Oper × Nat) → Act → World → Prop
 | [], a, w => tail a w
 | (o, 0) :: rest, a, w => ∃ v, YieldsIf P ops (fun _ => True) o v a ∧ wpPlan P ops Q S tail rest (a.put o.dst v) w
 | (o, 1) :: rest, a, w => ∀ K : Act → World → Prop, (∀ a' w', (S w' ∧ wpPlan P ops Q S tail rest a' w') → K a' w') →
   if Region.wanted o (yielded ops a.tmps) then o.wp P a w K Q else K (a.put o.dst undef) w
 | (o, 2) :: rest, a, w => ∀ K : Act → World → Prop, (∀ a' w', wpPlan P ops Q S tail rest a' w' → K a' w') →
   if Region.wanted o (yielded ops a.tmps) then o.wp P a w K Q else K (a.put o.dst undef) w
 | (o, _) :: rest, a, w => ∃ v, YieldsIf P ops S o v a ∧ wpPlan P ops Q S tail rest (a.put o.dst v) w
def planOps (ops : Array Oper) (plan : List (Nat × Nat)) : List (Oper × Nat) := plan.filterMap fun x => (ops[x.1]?).map fun o => (o, x.2)
def planB (ops : Array Oper) (E : List Nat) (n : Nat) : List (Nat × Nat) → Array Bool → Bool
 | [], listed => tailB .any ops E (ops.size - n) n listed
 | (i, 0) :: rest, listed => decide (i < ops.size) && (Region.ready .any ops listed).contains i && Region.free .any ops listed i && planB ops E n rest (listed.setIfInBounds i true)
 | (i, 1) :: rest, listed => decide (i < ops.size) && decide (Region.ready .any ops listed = [i]) && planB ops E n rest (listed.setIfInBounds i true)
 | (i, 2) :: rest, listed => decide (i < ops.size) && decide (Region.ready .any ops listed = [i]) && !needsS .any ops E i && !(rest.any (·.2 == 3)) && planB ops E n rest (listed.setIfInBounds i true)
 | (i, k + 3) :: rest, listed => decide (k = 0) && E.contains i && decide (i < ops.size) && (Region.ready .any ops listed).contains i && Region.free .any ops listed i && planB ops E n rest (listed.setIfInBounds i true)
theorem wpAnyS_of_plan (l : List Oper) (n : Nat) (hsel : Region.noSelect l.toArray = true)
  (hQ : ∀ c a d v w, Q (.panic c) (Act.put a d v) w → Q (.panic c) a w) :
  ∀ (plan : List (Nat × Nat)) (listed : Array Bool) (a : Act) (w : World), Closed .any l.toArray listed → planB l.toArray E n plan listed = true → (plan.any (·.2 == 3) = true → S w) →
   wpPlan P l.toArray Q S (wpList P l.toArray Q (l.drop n)) (planOps l.toArray plan) a w → wpAnyS P .any l.toArray Q S E (plan.length + (l.toArray.size - n)) listed a w
 | [], listed, a, w, _, hB, _, h => by
  simp only [planB] at hB
  have hd : (l.drop n).length = l.toArray.size - n := by simp
  have := wpAnyS_of_tail (S := S) (l.drop n) n listed a w (fun j => by simp) (by rw [hd]; exact hB) h
  simpa using this
 | (i, 0) :: rest, listed, a, w, hcl, hB, hS, h => by
  simp only [planB, Bool.and_eq_true, decide_eq_true_eq] at hB
  obtain ⟨⟨⟨hi, hr⟩, hf⟩, hB'⟩ := hB
  have ho : l.toArray[i]? = some l.toArray[i] := by simp
  simp only [planOps, List.filterMap_cons, ho, Option.map_some, wpPlan] at h
  obtain ⟨v, hy, h⟩ := h
  have hr' : i ∈ Region.ready .any l.toArray listed := by simpa using hr
  rw [show (((i, 0) :: rest : List (Nat × Nat)).length + (l.toArray.size - n)) = (rest.length + (l.toArray.size - n)) + 1 by simp only [List.length_cons]; omega]
  exact wpAnyS_first ho (Region.noSelect_spec hsel) (fun c a w => hQ c a _ v w) (.inl fun _ => trivial) _ listed a w hcl (Region.free_spec ho hf) hr' hy (.inl fun _ => trivial)
   (wpAnyS_of_plan l n hsel hQ rest _ _ w (hcl.set hr') hB' (fun h => hS (by simpa using h)) h)
 | (i, 1) :: rest, listed, a, w, hcl, hB, hS, h => by
  simp only [planB, Bool.and_eq_true, decide_eq_true_eq] at hB
  obtain ⟨⟨hi, hr⟩, hB'⟩ := hB
  have ho : l.toArray[i]? = some l.toArray[i] := by simp
  simp only [planOps, List.filterMap_cons, ho, Option.map_some, wpPlan] at h
  rw [show (((i, 1) :: rest : List (Nat × Nat)).length + (l.toArray.size - n)) = (rest.length + (l.toArray.size - n)) + 1 by simp only [List.length_cons]; omega]
  refine ⟨fun h0 => (by rw [hr] at h0; cases h0), fun j hj => ?_⟩
  have hj' := hj
  rw [hr] at hj
  have hji : j = i := by simpa using hj
  subst hji
  have h := h _ (fun a' w' h => h)
  unfold wpOp
  rw [ho]
  simp only
  have step : ∀ a' w', (S w' ∧ wpPlan P l.toArray Q S (wpList P l.toArray Q (l.drop n)) (planOps l.toArray rest) a' w') →
    ((needsS .any l.toArray E j = true → S w → S w') ∧ wpAnyS P .any l.toArray Q S E (rest.length + (l.toArray.size - n)) (listed.setIfInBounds j true) a' w') :=
   fun a' w' ⟨hSw, hp⟩ => ⟨fun _ _ => hSw, wpAnyS_of_plan l n hsel hQ rest _ _ w' (hcl.set hj') hB' (fun _ => hSw) hp⟩
  split
  ·rename_i hw
   rw [if_pos hw] at h
   exact .inl (Oper.wp_mono step h)
  ·rename_i hw
   rw [if_neg hw] at h
   exact step _ _ h
 | (i, 2) :: rest, listed, a, w, hcl, hB, hS, h => by
  simp only [planB, Bool.and_eq_true, decide_eq_true_eq, Bool.not_eq_true'] at hB
  obtain ⟨⟨⟨⟨hi, hr⟩, hn⟩, hno⟩, hB'⟩ := hB
  have ho : l.toArray[i]? = some l.toArray[i] := by simp
  simp only [planOps, List.filterMap_cons, ho, Option.map_some, wpPlan] at h
  rw [show (((i, 2) :: rest : List (Nat × Nat)).length + (l.toArray.size - n)) = (rest.length + (l.toArray.size - n)) + 1 by simp only [List.length_cons]; omega]
  refine ⟨fun h0 => (by rw [hr] at h0; cases h0), fun j hj => ?_⟩
  have hj' := hj
  rw [hr] at hj
  have hji : j = i := by simpa using hj
  subst hji
  have h := h _ (fun a' w' h => h)
  unfold wpOp
  rw [ho]
  simp only
  have step : ∀ a' w', wpPlan P l.toArray Q S (wpList P l.toArray Q (l.drop n)) (planOps l.toArray rest) a' w' →
    ((needsS .any l.toArray E j = true → S w → S w') ∧ wpAnyS P .any l.toArray Q S E (rest.length + (l.toArray.size - n)) (listed.setIfInBounds j true) a' w') :=
   fun a' w' hp => ⟨fun hc => (by rw [hn] at hc; cases hc), wpAnyS_of_plan l n hsel hQ rest _ _ w' (hcl.set hj') hB' (fun hc => (by rw [hno] at hc; cases hc)) hp⟩
  split
  ·rename_i hw
   rw [if_pos hw] at h
   exact .inl (Oper.wp_mono step h)
  ·rename_i hw
   rw [if_neg hw] at h
   exact step _ _ h
 | (i, k + 3) :: rest, listed, a, w, hcl, hB, hS, h => by
  simp only [planB, Bool.and_eq_true, decide_eq_true_eq] at hB
  obtain ⟨⟨⟨⟨⟨hk, hE⟩, hi⟩, hr⟩, hf⟩, hB'⟩ := hB
  subst hk
  have ho : l.toArray[i]? = some l.toArray[i] := by simp
  simp only [planOps, List.filterMap_cons, ho, Option.map_some, wpPlan] at h
  obtain ⟨v, hy, h⟩ := h
  have hr' : i ∈ Region.ready .any l.toArray listed := by simpa using hr
  have hSw : S w := hS (by simp)
  rw [show (((i, 0 + 3) :: rest : List (Nat × Nat)).length + (l.toArray.size - n)) = (rest.length + (l.toArray.size - n)) + 1 by simp only [List.length_cons]; omega]
  exact wpAnyS_first (T := S) ho (Region.noSelect_spec hsel) (fun c a w => hQ c a _ v w) (.inr ⟨by simpa using hE, fun _ h => h⟩) _ listed a w hcl (Region.free_spec ho hf) hr' hy (.inr hSw)
   (wpAnyS_of_plan l n hsel hQ rest _ _ w (hcl.set hr') hB' (fun _ => hSw) h)
def earlyOf (plan : List (Nat × Nat)) : List Nat := plan.filterMap fun x => if x.2 == 3 then some x.1 else none
theorem wp_region_plan {id : Nat} {a : Act} {w : World} {l : List Oper} (plan : List (Nat × Nat)) (S : World → Prop) (hm : P.follows .mixedOrders = true)
  (hB : (Region.noSelect l.toArray && decide (plan.length ≤ l.length) && planB l.toArray (earlyOf plan) plan.length plan (Array.replicate l.toArray.size false)) = true)
  (hQ : ∀ c a d v w, Q (.panic c) (Act.put a d v) w → Q (.panic c) a w) (hS : S w.drew)
  (h : wpPlan P l.toArray Q S (wpList P l.toArray Q (l.drop plan.length)) (planOps l.toArray plan) a w.drew) : (Code.region id l.toArray true).wp P Q a w := by
 simp only [Bool.and_eq_true, decide_eq_true_eq] at hB
 obtain ⟨⟨hsel, hlen⟩, hB⟩ := hB
 refine wp_region_any hm ?_
 have hcl : Closed .any l.toArray (Array.replicate l.toArray.size false) := fun j oj _ hl => by
  rw [show (Array.replicate l.toArray.size false).getD j false = false by
   rcases Nat.lt_or_ge j l.toArray.size with h' | h' <;> (simp [Array.getD_eq_getD_getElem?, Array.getElem?_replicate]; try split <;> rfl)] at hl
  cases hl
 have := wpAnyS_of_plan (P := P) (Q := Q) (S := S) l plan.length hsel hQ plan _ a w.drew hcl hB (fun _ => hS) h
 have := wpAny_of_S _ _ _ _ this
 rw [show plan.length + (l.toArray.size - plan.length) = l.toArray.size by simp only [List.size_toArray]; omega] at this
 exact this
section steps
variable {T : Act → World → Prop} {o : Oper} {rest : List (Oper × Nat)} {a : Act} {w : World} {v : Value}
theorem plan_pure (hg : Region.wanted o (yielded ops a.tmps) = true) (hy : ∀ w, (execOp a.eval o).run P w = .ok (.value v) w) (h : wpPlan P ops Q S T rest (a.put o.dst v) w) :
  wpPlan P ops Q S T ((o, 0) :: rest) a w := ⟨v, .inl ⟨hg, fun w _ => hy w⟩, h⟩
theorem plan_pass (hg : Region.wanted o (yielded ops a.tmps) = false) (h : wpPlan P ops Q S T rest (a.put o.dst undef) w) : wpPlan P ops Q S T ((o, 0) :: rest) a w := ⟨undef, .inr ⟨hg, rfl⟩, h⟩
theorem plan_pass3 (hg : Region.wanted o (yielded ops a.tmps) = false) (h : wpPlan P ops Q S T rest (a.put o.dst undef) w) : wpPlan P ops Q S T ((o, 3) :: rest) a w := ⟨undef, .inr ⟨hg, rfl⟩, h⟩
theorem plan_load (hg : Region.wanted o (yielded ops a.tmps) = true) (hy : ∀ w, S w → (execOp a.eval o).run P w = .ok (.value v) w) (h : wpPlan P ops Q S T rest (a.put o.dst v) w) :
  wpPlan P ops Q S T ((o, 3) :: rest) a w := ⟨v, .inl ⟨hg, hy⟩, h⟩
theorem plan_turn (hg : Region.wanted o (yielded ops a.tmps) = true)
  (h : ∀ K : Act → World → Prop, (∀ a' w', (S w' ∧ wpPlan P ops Q S T rest a' w') → K a' w') → o.wp P a w K Q) : wpPlan P ops Q S T ((o, 1) :: rest) a w :=
 fun K hK => by rw [if_pos hg]; exact h K hK
theorem plan_done (h : T a w) : wpPlan P ops Q S T [] a w := h
end steps
end
end Go.Proofs.YtidiahkobapnjaaGreatDoor
namespace Go.Proofs.YtidiahkobapnjaaGreatDoor
open Go Go.RowKit
abbrev Frag := Nat → Option Obj
def blk (b : Nat) (o : Obj) : Frag := fun k => if k = b then some o else none
def Frag.Apart (f g : Frag) : Prop := ∀ k, f k = none ∨ g k = none
def Frag.On (f : Frag) (w : World) : Prop := ∀ k o, f k = some o → w.heap[k]? = some o
def Sat : List Frag → World → Prop
 | [], _ => True
 | f :: l, w => f.On w ∧ (∀ g ∈ l, f.Apart g) ∧ Sat l w
theorem Frag.Apart.symm {f g : Frag} (h : f.Apart g) : g.Apart f := fun k => (h k).symm
theorem Sat.on : ∀ {l : List Frag} {w : World}, Sat l w → ∀ f ∈ l, f.On w
 | _ :: _, _, h, f, hf => by
  rcases List.mem_cons.1 hf with rfl | hf
  ·exact h.1
  ·exact h.2.2.on f hf
theorem Sat.perm {l l' : List Frag} (hp : l.Perm l') {w : World} (h : Sat l w) : Sat l' w := by
 induction hp with
 | nil => trivial
 | cons x hp ih => exact ⟨h.1, fun g hg => h.2.1 g (hp.mem_iff.2 hg), ih h.2.2⟩
 | swap x y l =>
  obtain ⟨h1, h2, h3, h4, h5⟩ := h
  refine ⟨h3, fun g hg => ?_, h1, fun g hg => h2 g (List.mem_cons_of_mem _ hg), h5⟩
  rcases List.mem_cons.1 hg with rfl | hg
  ·exact (h2 x (List.mem_cons_self ..)).symm
  ·exact h4 g hg
 | trans _ _ ih1 ih2 => exact ih2 (ih1 h)
theorem Sat.lt {l : List Frag} {w : World} (h : Sat l w) {f : Frag} (hf : f ∈ l) {k : Nat} {o : Obj} (hk : f k = some o) : k < w.heap.size :=
 (Array.getElem?_eq_some_iff.1 (h.on f hf k o hk)).1
theorem Sat.keep : ∀ {l : List Frag} {w w' : World}, Sat l w → (∀ f ∈ l, ∀ k o, f k = some o → w'.heap[k]? = w.heap[k]?) → Sat l w'
 | [], _, _, _, _ => trivial
 | f :: l, w, w', h, hk => ⟨fun k o e => (hk f (List.mem_cons_self ..) k o e).trans (h.1 k o e), h.2.1, h.2.2.keep fun g hg => hk g (List.mem_cons_of_mem _ hg)⟩
theorem Sat.app {l l' : List Frag} {w : World} (h : Sat (l ++ l') w) : Sat l w ∧ Sat l' w := by
 induction l with
 | nil => exact ⟨trivial, h⟩
 | cons f l ih => exact ⟨⟨h.1, fun g hg => h.2.1 g (List.mem_append_left _ hg), (ih h.2.2).1⟩, (ih h.2.2).2⟩
theorem Sat.new {l : List Frag} {w : World} (h : Sat l w) (o : Obj) : Sat (blk w.heap.size o :: l) (w.alloc o) := by
 refine ⟨fun k o' hk => ?_, fun g hg k => ?_, h.keep fun f hf k o' hk => ?_⟩
 ·unfold blk at hk
  split at hk
  ·rename_i e; subst e; cases hk; exact heap_alloc_new w _
  ·cases hk
 ·unfold blk
  split
  ·rename_i e
   subst e
   cases hgk : g w.heap.size with
   | none => exact .inr rfl
   | some o' => exact absurd (h.lt hg hgk) (Nat.lt_irrefl _)
  ·exact .inl rfl
 ·exact Below.heap_alloc w o k (h.lt hf hk)
theorem Sat.set {l : List Frag} {w : World} {b : Nat} {cs : Array Value} {e : TypeId} {z : Nat × Nat} (h : Sat (blk b (.cells cs e z) :: l) w) (i : Nat) (v : Value) :
  Sat (blk b (.cells (cs.setIfInBounds i v) e z) :: l) (w.setCell ⟨b, i, none⟩ v) := by
 refine ⟨fun k o hk => ?_, fun g hg k => ?_, h.2.2.keep fun f hf k o hk => ?_⟩
 ·unfold blk at hk
  split at hk
  ·rename_i e'; subst e'; cases hk
   have := h.1 k (.cells cs e z) (by simp [blk])
   simp [World.setCell, Array.getElem?_modify, this]
  ·cases hk
 ·rcases h.2.1 g hg k with h' | h'
  ·unfold blk at h' ⊢
   split at h'
   ·cases h'
   ·rename_i e'; rw [if_neg e']; exact .inl rfl
  ·exact .inr h'
 ·refine Below.heap_setCell w ⟨b, i, none⟩ v k fun e' => ?_
  have e' : k = b := e'
  rcases h.2.1 f hf k with h' | h'
  ·simp [blk, e'] at h'
  ·rw [h'] at hk; cases hk
theorem Sat.cell {l : List Frag} {w : World} {b : Nat} {cs : Array Value} {e : TypeId} {z : Nat × Nat} (h : Sat l w) (hb : blk b (.cells cs e z) ∈ l) (i : Nat) : w.cell? ⟨b, i, none⟩ = cs[i]? := by
 have := h.on _ hb b (.cells cs e z) (by simp [blk])
 simp [World.cell?, this]
theorem Sat.free {l : List Frag} {w : World} {b : Nat} {cs : Array Value} {e : TypeId} (h : Sat l w) (hb : blk b (.cells cs e (0, 0)) ∈ l) (i : Nat) : w.frozen? ⟨b, i, none⟩ = false := by
 have := h.on _ hb b (.cells cs e (0, 0)) (by simp [blk])
 simp [World.frozen?, this]
structure St (A : World) (l : List Frag) (w : World) : Prop where
 sat : Sat l w
 os : w.os = A.os
 tape : w.tape = A.tape
 output : w.output = A.output
 size : A.heap.size ≤ w.heap.size
section
variable {A w w' : World} {l l' : List Frag}
theorem St.perm (hp : l.Perm l') (h : St A l w) : St A l' w := ⟨h.sat.perm hp, h.os, h.tape, h.output, h.size⟩
theorem St.new (h : St A l w) (o : Obj) : St A (blk w.heap.size o :: l) (w.alloc o) := ⟨h.sat.new o, h.os, h.tape, h.output, by have := h.size; simp; omega⟩
theorem St.drew (h : St A l w) : St A l w.drew := ⟨h.sat.keep fun _ _ _ _ _ => rfl, h.os, h.tape, h.output, h.size⟩
theorem St.tail {f : Frag} (h : St A (f :: l) w) : St A l w := ⟨h.sat.2.2, h.os, h.tape, h.output, h.size⟩
theorem St.set {b : Nat} {cs : Array Value} {e : TypeId} {z : Nat × Nat} (h : St A (blk b (.cells cs e z) :: l) w) (i : Nat) (v : Value) :
  St A (blk b (.cells (cs.setIfInBounds i v) e z) :: l) (w.setCell ⟨b, i, none⟩ v) := ⟨h.sat.set i v, h.os, h.tape, h.output, by have := h.size; simp; omega⟩
theorem St.below (h : St A l w) (hb : Below w.heap.size w w') : St A l w' :=
 ⟨h.sat.keep fun _ hf k o hk => hb.block k (h.sat.lt hf hk), hb.os.trans h.os, hb.tape.trans h.tape, hb.output.trans h.output, Nat.le_trans h.size hb.size⟩
def old (w : World) : Frag := fun k => w.heap[k]?
theorem St.start (w : World) : St w [old w] w := ⟨⟨fun _ _ h => h, fun _ h => (by cases h), trivial⟩, rfl, rfl, rfl, Nat.le_refl _⟩
theorem St.end_ (h : St A (l ++ [old A]) w') : Below A.heap.size A w' :=
 ⟨h.os, h.tape, h.output, h.size, fun k hk => by
  have h1 := h.sat.on (old A) (by simp) k A.heap[k] (by simp [old, hk])
  rw [h1]; simp [hk]⟩
end
abbrev Env := List (Nat × Value)
def Env.get : Env → Nat → Option Value
 | [], _ => none
 | (k, v) :: r, i => cond (Nat.beq k i) (some v) (Env.get r i)
structure Holds (ds : List Deferred) (n : Nat) (env : Env) (a : Act) : Prop where
 size : a.tmps.size = n
 defers : a.defers = ds
 at_ : ∀ i v, env.get i = some v → a.tmps.getD i undef = v
def evalE (env : Env) : Operand → Option Value
 | .tmp t => env.get t
 | .const v => some v
 | .global g => some (.pointer (some ⟨g, 0, none⟩))
 | .func f => some (.func (.func f) #[] #[])
def rho (env : Env) (x : Operand) : Value := (evalE env x).getD undef
def allB : List Operand → Env → Bool
 | [], _ => true
 | x :: r, env => match evalE env x with | some _ => allB r env | none => false
theorem Holds.eval {ds : List Deferred} {n : Nat} {env : Env} {a : Act} (h : Holds ds n env a) {x : Operand} {v : Value} (hx : evalE env x = some v) : a.eval x = v := by
 cases x with
 | tmp t => exact h.at_ t v hx
 | const u => exact Option.some.inj hx
 | global g => exact Option.some.inj hx
 | func f => exact Option.some.inj hx
theorem Holds.rho {ds : List Deferred} {n : Nat} {env : Env} {a : Act} (h : Holds ds n env a) {xs : List Operand} (hx : allB xs env = true) : ∀ x ∈ xs, a.eval x = rho env x := by
 induction xs with
 | nil => intro x hx; cases hx
 | cons y r ih =>
  intro x hm
  unfold allB at hx
  split at hx
  ·rename_i v hv
   rcases List.mem_cons.1 hm with rfl | hm
   ·rw [h.eval hv]; simp [Go.Proofs.YtidiahkobapnjaaGreatDoor.rho, hv]
   ·exact ih hx x hm
  ·cases hx
theorem Holds.put {ds : List Deferred} {n : Nat} {env : Env} {a : Act} (h : Holds ds n env a) (d : Nat) (v : Value) (hd : d < n) : Holds ds n ((d, v) :: env) (a.put (some d) v) := by
 refine ⟨by simp [Act.put, h.size], h.defers, fun i u hi => ?_⟩
 simp only [Env.get] at hi
 simp only [Act.put, Array.getD_eq_getD_getElem?, Array.getElem?_setIfInBounds]
 cases hb : Nat.beq d i with
 | true =>
  have : d = i := Nat.eq_of_beq_eq_true hb
  subst this
  rw [hb] at hi
  cases hi
  simp [h.size, hd]
 | false =>
  have : d ≠ i := Nat.ne_of_beq_eq_false hb
  rw [hb] at hi
  rw [if_neg this]
  have := h.at_ i u hi
  rw [Array.getD_eq_getD_getElem?] at this
  exact this
def putE (env : Env) : Option Nat → Value → Env
 | some d, v => (d, v) :: env
 | none, _ => env
def inB (n : Nat) : Option Nat → Bool
 | some d => Nat.blt d n
 | none => true
theorem Holds.putE {ds : List Deferred} {n : Nat} {env : Env} {a : Act} (h : Holds ds n env a) {d : Option Nat} (v : Value) (hd : inB n d = true) : Holds ds n (putE env d v) (a.put d v) := by
 cases d with
 | none => exact h
 | some d => exact h.put d v (by simpa [inB, Nat.blt_eq] using hd)
def Sub (env : Env) : Env → Prop
 | [] => True
 | (k, v) :: r => env.get k = some v ∧ Sub env r
theorem Sub.get {env : Env} : ∀ {sub : Env}, Sub env sub → ∀ i v, sub.get i = some v → env.get i = some v
 | (k, u) :: r, h, i, v, hi => by
  simp only [Env.get] at hi
  cases hb : Nat.beq k i with
  | true =>
   rw [hb] at hi
   cases hi
   rw [← Nat.eq_of_beq_eq_true hb]
   exact h.1
  | false => rw [hb] at hi; exact h.2.get i v hi
theorem Holds.sub {ds : List Deferred} {n : Nat} {env sub : Env} {a : Act} (h : Holds ds n env a) (hs : Sub env sub) : Holds ds n sub a := ⟨h.size, h.defers, fun i v hi => h.at_ i v (hs.get i v hi)⟩
def K (ds : List Deferred) (A : World) (n : Nat) (env : Env) (l : List Frag) (q : Act → World → Prop) : Prop := ∀ a w, Holds ds n env a → St A l w → q a w
section
variable {A : World} {ds : List Deferred} {n : Nat} {env env' : Env} {l l' : List Frag} {q : Act → World → Prop} {P : Program} {Q : Exit → Act → World → Prop}
theorem K.weak (h : K ds A n env' l q) (hs : Sub env env') : K ds A n env l q := fun a w ha hw => h a w (ha.sub hs) hw
theorem K.perm (h : K ds A n env l' q) (hp : l.Perm l') : K ds A n env l q := fun a w ha hw => h a w ha (hw.perm hp)
theorem K.drop {f : Frag} (h : K ds A n env l q) : K ds A n env (f :: l) q := fun a w ha hw => h a w ha hw.tail
theorem K.mv1 {a b : Frag} (h : K ds A n env (b :: a :: l) q) : K ds A n env (a :: b :: l) q := h.perm (List.Perm.swap ..)
theorem K.mv2 {a b c : Frag} (h : K ds A n env (c :: a :: b :: l) q) : K ds A n env (a :: b :: c :: l) q := h.perm ((List.Perm.swap c b l).cons a |>.trans (List.Perm.swap ..))
theorem K.mv3 {a b c d : Frag} (h : K ds A n env (d :: a :: b :: c :: l) q) : K ds A n env (a :: b :: c :: d :: l) q :=
 h.perm ((((List.Perm.swap d c l).cons b).cons a).trans (((List.Perm.swap d b _).cons a).trans (List.Perm.swap ..)))
theorem K.mv4 {a b c d e : Frag} (h : K ds A n env (e :: a :: b :: c :: d :: l) q) : K ds A n env (a :: b :: c :: d :: e :: l) q :=
 h.perm (((((List.Perm.swap e d l).cons c).cons b).cons a).trans ((((List.Perm.swap e c _).cons b).cons a).trans (((List.Perm.swap e b _).cons a).trans (List.Perm.swap ..))))
theorem k_skip (h : K ds A n env l (Q .normal)) : K ds A n env l (Code.skip.wp P Q) := fun a w ha hw => wp_skip (h a w ha hw)
theorem k_exit {id : Nat} (h : K ds A n env l (Q (.exit id))) : K ds A n env l ((Code.exit id).wp P Q) := fun a w ha hw => wp_exit (h a w ha hw)
theorem k_ret (h : K ds A n env l (Q .ret)) : K ds A n env l (Code.ret.wp P Q) := fun a w ha hw => wp_ret (h a w ha hw)
theorem k_block {id : Nat} {c : Code} (h : K ds A n env l (c.wp P (Exit.inBlock id Q))) : K ds A n env l ((Code.block id c).wp P Q) := fun a w ha hw => wp_block (h a w ha hw)
theorem k_seq {x y : Code} (h : K ds A n env l (x.wp P (Exit.then (y.wp P Q) Q))) : K ds A n env l ((Code.seq x y).wp P Q) := fun a w ha hw => wp_seq (h a w ha hw)
theorem k_here {id : Nat} (h : K ds A n env l (Q .normal)) : K ds A n env l (Exit.inBlock id Q (.exit id)) := fun a w ha hw => by
 simp only [Exit.inBlock, if_true]; exact h a w ha hw
theorem k_there {id id' : Nat} (hne : Nat.beq id' id = false) (h : K ds A n env l (Q (.exit id'))) : K ds A n env l (Exit.inBlock id Q (.exit id')) := fun a w ha hw => by
 simp only [Exit.inBlock, if_neg (Nat.ne_of_beq_eq_false hne)]; exact h a w ha hw
theorem k_cond {c : Operand} {x y : Code} {t : Bool} (hc : evalE env c = some (.bool t)) (hx : t = true → K ds A n env l (x.wp P Q)) (hy : t = false → K ds A n env l (y.wp P Q)) : K ds A n env l ((Code.cond c x y).wp P Q) :=
 fun a w ha hw => wp_cond_split (ha.eval hc) (fun h => hx h a w ha hw) (fun h => hy h a w ha hw)
theorem k_cond_true {c : Operand} {x y : Code} (hc : evalE env c = some (.bool true)) (hx : K ds A n env l (x.wp P Q)) : K ds A n env l ((Code.cond c x y).wp P Q) :=
 fun a w ha hw => wp_cond_true (ha.eval hc) (hx a w ha hw)
theorem k_cond_false {c : Operand} {x y : Code} (hc : evalE env c = some (.bool false)) (hx : K ds A n env l (y.wp P Q)) : K ds A n env l ((Code.cond c x y).wp P Q) :=
 fun a w ha hw => wp_cond_false (ha.eval hc) (hx a w ha hw)
theorem k_region {id : Nat} {ops : List Oper} (h : K ds A n env l (wpList P ops.toArray Q ops)) : K ds A n env l ((Code.region id ops.toArray false).wp P Q) := fun a w ha hw => wp_region_lit (h a w ha hw)
theorem k_nil {ops : Array Oper} (h : K ds A n env l (Q .normal)) : K ds A n env l (wpList P ops Q []) := fun a w ha hw => wpList_nil (h a w ha hw)
theorem wp_loop_count {c : Code} {a : Act} {w : World} (I : Nat → Act → World → Prop) (m : Nat) (h0 : I m a w)
  (round : ∀ m a w, I m a w → c.wp P (Exit.then (fun a' w' => ∃ k, k < m ∧ I k a' w') Q) a w) : (Code.loop c).wp P Q a w := by
 intro b k cs
 have key : ∀ m a w, I m a w → ∃ e a' w', Q e a' w' ∧ Arrives P (lone (b.at a (.code c :: .inLoop c :: k)) cs w) b k cs e a' w' := by
  intro m
  induction m using Nat.strongRecOn with
  | _ m ih =>
   intro a w hI
   obtain ⟨e, a₁, w₁, hq, harr⟩ := round m a w hI b (.inLoop c :: k) cs
   cases e with
   | normal =>
    obtain ⟨j, hlt, hI₁⟩ := hq
    obtain ⟨e₂, a₂, w₂, hq₂, harr₂⟩ := ih j hlt a₁ w₁ hI₁
    exact ⟨e₂, a₂, w₂, hq₂, .of_steps (Steps.trans harr (.one step_inLoop)) harr₂⟩
   | exit id => exact ⟨_, a₁, w₁, hq, .pass (x := .inLoop c) rfl (fun _ _ => .inl (by simp)) harr⟩
   | goto l => exact ⟨_, a₁, w₁, hq, .pass (x := .inLoop c) rfl (fun _ _ => .inl (by simp)) harr⟩
   | ret => exact ⟨_, a₁, w₁, hq, .pass (x := .inLoop c) rfl (fun _ _ => .inl (by simp)) harr⟩
   | panic ch => exact ⟨_, a₁, w₁, hq, .pass (x := .inLoop c) rfl (fun _ _ => .inl (by simp)) harr⟩
   | outgrown => exact ⟨_, a₁, w₁, hq, .pass (x := .inLoop c) rfl (fun _ _ => .inl (by simp)) harr⟩
 obtain ⟨e, a', w', hq, harr⟩ := key m a w h0
 exact ⟨e, a', w', hq, .of_steps (.one step_loop) harr⟩
def Again {τ : Type} (ds : List Deferred) (A : World) (n : Nat) (E : τ → Env) (L : τ → List Frag) (S : Nat → τ → Prop) (m : Nat) (a : Act) (w : World) : Prop :=
 ∃ k, k < m ∧ ∃ t, S k t ∧ Holds ds n (E t) a ∧ St A (L t) w
theorem k_loop {τ : Type} {c : Code} (E : τ → Env) (L : τ → List Frag) (S : Nat → τ → Prop) (m : Nat) (t : τ) (h0 : S m t) (hs : Sub env (E t)) (hl : l = L t)
  (round : ∀ m t, S m t → K ds A n (E t) (L t) (c.wp P (Exit.then (Again ds A n E L S m) Q))) : K ds A n env l ((Code.loop c).wp P Q) := fun a w ha hw => by
 subst hl
 refine wp_loop_count (fun m a w => ∃ t, S m t ∧ Holds ds n (E t) a ∧ St A (L t) w) m ⟨t, h0, ha.sub hs, hw⟩ ?_
 rintro m a w ⟨t, hS, ha, hw⟩
 exact round m t hS a w ha hw
theorem k_again {τ : Type} {E : τ → Env} {L : τ → List Frag} {S : Nat → τ → Prop} {m : Nat} (k : Nat) (t : τ) (hk : k < m) (hS : S k t) (hs : Sub env (E t)) (hl : l = L t) : K ds A n env l (Again ds A n E L S m) :=
 fun _ _ ha hw => ⟨k, hk, t, hS, ha.sub hs, by subst hl; exact hw⟩
end
end Go.Proofs.YtidiahkobapnjaaGreatDoor
namespace Go.Proofs.YtidiahkobapnjaaGreatDoor
open Go Go.RowKit
def pureP (P : Program) {α : Type} : Sem α → Option α
 | .pure a => some a
 | .program k => pureP P (k P)
 | .mark _ k => pureP P k
 | _ => none
theorem pureP_run {P : Program} {α : Type} : ∀ {e : Sem α} {x : α} {w : World}, pureP P e = some x → e.run P w = .ok x w
 | .pure a, x, w, h => by simp only [pureP, Option.some.injEq] at h; subst h; rfl
 | .program k, x, w, h => by simp only [pureP] at h; simp only [Sem.run]; exact pureP_run h
 | .mark m k, x, w, h => by simp only [pureP] at h; simp only [Sem.run]; exact pureP_run h
 | .load .., _, _, h | .store .., _, _, h | .new .., _, _, h | .shape .., _, _, h | .freeze .., _, _, h | .frozen .., _, _, h | .getObj .., _, _, h | .setObj .., _, _, h | .choose .., _, _, h | .sys .., _, _, h | .halt .., _, _, h => by simp [pureP] at h
def haltP (P : Program) {α : Type} : Sem α → Option Halt
 | .halt h => some h
 | .program k => haltP P (k P)
 | .mark _ k => haltP P k
 | _ => none
theorem haltP_run {P : Program} {α : Type} : ∀ {e : Sem α} {x : Halt} {w : World}, haltP P e = some x → e.run P w = .halt x w
 | .halt a, x, w, h => by simp only [haltP, Option.some.injEq] at h; subst h; rfl
 | .program k, x, w, h => by simp only [haltP] at h; simp only [Sem.run]; exact haltP_run h
 | .mark m k, x, w, h => by simp only [haltP] at h; simp only [Sem.run]; exact haltP_run h
 | .load .., _, _, h | .store .., _, _, h | .new .., _, _, h | .shape .., _, _, h | .freeze .., _, _, h | .frozen .., _, _, h | .getObj .., _, _, h | .setObj .., _, _, h | .choose .., _, _, h | .sys .., _, _, h | .pure .., _, _, h => by simp [haltP] at h
theorem map_congr' {α β : Type} {f g : α → β} {xs : Array α} (h : ∀ x ∈ xs, f x = g x) : xs.map f = xs.map g := Array.map_congr_left h
def noSel : Op → Bool
 | .select .. => false
 | _ => true
theorem execOp_congr (ρ ρ' : Operand → Value) (o : Oper) (hs : noSel o.op = true) (h : ∀ x ∈ o.op.operands.toList, ρ x = ρ' x) : execOp ρ o = execOp ρ' o := by
 obtain ⟨dst, op, ty, pos, after, guard⟩ := o
 have ha : ∀ x ∈ op.operands, ρ x = ρ' x := fun x hx => h x (Array.mem_toList_iff.2 hx)
 clear h
 cases op with
 | select cs b => cases hs
 | call c =>
  obtain ⟨callee, args, argTypes⟩ := c
  have h2 : args.map ρ = args.map ρ' := map_congr' fun x hx => ha x (by cases callee <;> simp [Op.operands, Call.operands, hx])
  cases callee with
  | value f => have h1 : ρ f = ρ' f := ha f (by simp [Op.operands, Call.operands]); simp only [execOp, resolve, h1, h2]
  | invoke r m => have h1 : ρ r = ρ' r := ha r (by simp [Op.operands, Call.operands]); simp only [execOp, resolve, h1, h2]
  | builtin b => simp only [execOp, resolve, h2]
 | go c =>
  obtain ⟨callee, args, argTypes⟩ := c
  have h2 : args.map ρ = args.map ρ' := map_congr' fun x hx => ha x (by cases callee <;> simp [Op.operands, Call.operands, hx])
  cases callee with
  | value f => have h1 : ρ f = ρ' f := ha f (by simp [Op.operands, Call.operands]); simp only [execOp, resolve, h1, h2]
  | invoke r m => have h1 : ρ r = ρ' r := ha r (by simp [Op.operands, Call.operands]); simp only [execOp, resolve, h1, h2]
  | builtin b => simp only [execOp, resolve, h2]
 | defer c =>
  obtain ⟨callee, args, argTypes⟩ := c
  have h2 : args.map ρ = args.map ρ' := map_congr' fun x hx => ha x (by cases callee <;> simp [Op.operands, Call.operands, hx])
  cases callee with
  | value f => have h1 : ρ f = ρ' f := ha f (by simp [Op.operands, Call.operands]); simp only [execOp, resolve, h1, h2]
  | invoke r m => have h1 : ρ r = ρ' r := ha r (by simp [Op.operands, Call.operands]); simp only [execOp, resolve, h1, h2]
  | builtin b => simp only [execOp, resolve, h2]
 | build t ps =>
  have h1 : (ps.map fun (i, x) => (i, ρ x)) = (ps.map fun (i, x) => (i, ρ' x)) := map_congr' fun x hx => by
   obtain ⟨i, y⟩ := x
   have := ha y (by simp only [Op.operands, List.mem_toArray, List.mem_map]; exact ⟨(i, y), Array.mem_toList_iff.2 hx, rfl⟩)
   simp [this]
  simp only [execOp, h1]
 | buildSlice t n ps =>
  have h1 : (ps.map fun (i, x) => (i, ρ x)) = (ps.map fun (i, x) => (i, ρ' x)) := map_congr' fun x hx => by
   obtain ⟨i, y⟩ := x
   have := ha y (by simp only [Op.operands, List.mem_toArray, List.mem_map]; exact ⟨(i, y), Array.mem_toList_iff.2 hx, rfl⟩)
   simp [this]
  simp only [execOp, h1]
 | makeFunc fn first captured =>
  have h1 : first.map ρ = first.map ρ' := map_congr' fun x hx => ha x (by simp [Op.operands, hx])
  have h2 : captured.map ρ = captured.map ρ' := map_congr' fun x hx => ha x (by simp [Op.operands, hx])
  simp only [execOp, h1, h2]
 | makeMap t r => cases r with
  | none => rfl
  | some x => have h1 : ρ x = ρ' x := ha x (by simp [Op.operands]); simp only [execOp, Option.map_some, h1]
 | slice t x lo hi mx =>
  have h0 : ρ x = ρ' x := ha x (by simp [Op.operands])
  have h1 : lo.map ρ = lo.map ρ' := by cases lo with | none => rfl | some y => exact congrArg some (ha y (by simp [Op.operands]))
  have h2 : hi.map ρ = hi.map ρ' := by cases hi with | none => rfl | some y => exact congrArg some (ha y (by simp [Op.operands]))
  have h3 : mx.map ρ = mx.map ρ' := by cases mx with | none => rfl | some y => exact congrArg some (ha y (by simp [Op.operands]))
  simp only [execOp, h0, h1, h2, h3]
 | alloc | ready | waits => rfl
 | move x | assign x | box _ x | load _ x | nilCheck x | unOp _ _ x | convert _ _ x | sliceToArrayPointer _ x | makeInterface _ x | makeChan _ x | fieldAddr _ x _ | field _ x _ | range _ x | next x _ | entry x | typeAssert x _ _ _ | extract x _ | panic x | recv _ x _ =>
  have h1 : ρ x = ρ' x := ha x (by simp [Op.operands])
  simp only [execOp, h1]
 | pick x y z | mapUpdate _ x y z | entryStore _ x y z | insert _ x y z =>
  have h1 : ρ x = ρ' x := ha x (by simp [Op.operands])
  have h2 : ρ y = ρ' y := ha y (by simp [Op.operands])
  have h3 : ρ z = ρ' z := ha z (by simp [Op.operands])
  simp only [execOp, h1, h2, h3]
 | store _ x y | binOp _ _ x y _ | makeSlice _ x y | indexAddr _ x y | index _ x y | lookup _ x y _ | mapEntry _ x y | send x y =>
  have h1 : ρ x = ρ' x := ha x (by simp [Op.operands])
  have h2 : ρ y = ρ' y := ha y (by simp [Op.operands])
  simp only [execOp, h1, h2]
def wantE (ops : Array Oper) (env : Env) (o : Oper) : Option Bool :=
 match o.guard with
 | none => some true
 | some (j, want) =>
  match (ops[j]?).bind (·.dst) with
  | none => none
  | some d => match env.get d with
   | some (.bool b) => some (b == want)
   | some (.tuple _) => some false
   | _ => none
theorem wantE_spec {ops : Array Oper} {ds : List Deferred} {n : Nat} {env : Env} {a : Act} {o : Oper} {b : Bool} (ha : Holds ds n env a) (h : wantE ops env o = some b) : Region.wanted o (yielded ops a.tmps) = b := by
 unfold wantE at h
 unfold Region.wanted
 split at h
 ·rename_i hg
  rw [hg]
  exact Option.some.inj h
 ·rename_i j want hg
  rw [hg]
  split at h
  ·cases h
  ·rename_i d hd
   have hy : ∀ v, env.get d = some v → v ≠ undef → a.tmps[d]? = some v := fun v hv hne => by
    have := ha.at_ d v hv
    rw [Array.getD_eq_getD_getElem?] at this
    cases hq : a.tmps[d]? with
    | none => rw [hq] at this; exact absurd this.symm hne
    | some u => rw [hq] at this; exact congrArg some this
   split at h
   ·rename_i b' hv
    have := hy _ hv (by intro e; cases e)
    simp only [yielded, hd, Option.bind_some, this]
    have := Option.some.inj h
    subst this
    cases b' <;> cases want <;> rfl
   ·rename_i t hv
    have := ha.at_ d _ hv
    have hb := Option.some.inj h
    subst hb
    rw [Array.getD_eq_getD_getElem?] at this
    simp only [yielded, hd, Option.bind_some]
    cases hq : a.tmps[d]? with
    | none => rfl
    | some u =>
     rw [hq] at this
     simp only [Option.getD_some] at this
     subst this
     rfl
   ·cases h
def stepsP (P : Program) (ops : Array Oper) (n : Nat) : List Oper → Env → Option Env
 | [], env => some env
 | o :: rest, env =>
  match wantE ops env o with
  | none => none
  | some false => match inB n o.dst with
   | true => stepsP P ops n rest (putE env o.dst undef)
   | false => none
  | some true => match noSel o.op && allB o.op.operands.toList env && inB n o.dst with
   | false => none
   | true => match pureP P (execOp (rho env) o) with
    | some (.value v) => stepsP P ops n rest (putE env o.dst v)
    | _ => none
def picks : List Nat → Env → Option (List Value)
 | [], _ => some []
 | k :: ks, env => match env.get k with
  | none => none
  | some v => (picks ks env).map (v :: ·)
theorem picks_sub : ∀ {sub : Env} {env : Env}, picks (sub.map (·.1)) env = some (sub.map (·.2)) → Sub env sub
 | [], _, _ => trivial
 | (k, v) :: r, env, h => by
  simp only [List.map_cons, picks] at h
  split at h
  ·cases h
  ·rename_i u hu
   cases hp : picks (r.map (·.1)) env with
   | none => rw [hp] at h; cases h
   | some vs =>
    rw [hp] at h
    simp only [Option.map_some, Option.some.injEq, List.cons.injEq] at h
    exact ⟨hu.trans (congrArg some h.1), picks_sub (hp.trans (congrArg some h.2))⟩
section
variable {A : World} {ds : List Deferred} {n : Nat} {env env' : Env} {l l' X : List Frag} {q : Act → World → Prop} {P : Program} {Q : Exit → Act → World → Prop} {ops : Array Oper} {os rest : List Oper} {o : Oper}
theorem kl_op (hg : wantE ops env o = some true) (h : K ds A n env l (fun a w => o.wp P a w (wpList P ops Q rest) Q)) : K ds A n env l (wpList P ops Q (o :: rest)) := fun a w ha hw => by
 unfold wpList
 rw [if_pos (wantE_spec ha hg)]
 exact .inl (h a w ha hw)
theorem op_value {v : Value} (hs : (noSel o.op && allB o.op.operands.toList env && inB n o.dst) = true) (hv : pureP P (execOp (rho env) o) = some (.value v)) {q : Act → World → Prop} (h : K ds A n (putE env o.dst v) l q) :
  K ds A n env l (fun a w => o.wp P a w q Q) := fun a w ha hw => by
 simp only [Bool.and_eq_true] at hs
 unfold Oper.wp
 rw [execOp_congr a.eval (rho env) o hs.1.1 (ha.rho hs.1.2), pureP_run hv]
 exact h _ _ (ha.putE v hs.2) hw
theorem kl_skip (hg : wantE ops env o = some false) (hd : inB n o.dst = true) (h : K ds A n (putE env o.dst undef) l (wpList P ops Q rest)) : K ds A n env l (wpList P ops Q (o :: rest)) := fun a w ha hw => by
 unfold wpList
 rw [if_neg (by rw [wantE_spec ha hg]; simp)]
 exact h _ _ (ha.putE _ hd) hw
theorem kl_all : ∀ (os : List Oper) (env : Env), stepsP P ops n os env = some env' → K ds A n env' l (wpList P ops Q rest) → K ds A n env l (wpList P ops Q (os ++ rest))
 | [], env, h, hk => by simp only [stepsP, Option.some.injEq] at h; subst h; exact hk
 | o :: os, env, h, hk => by
  simp only [stepsP] at h
  split at h
  ·cases h
  ·rename_i hg
   split at h
   ·rename_i hd
    exact kl_skip hg hd (kl_all os _ h hk)
   ·cases h
  ·rename_i hg
   split at h
   ·cases h
   ·rename_i hs
    split at h
    ·rename_i v hv
     exact kl_op hg (op_value hs hv (kl_all os _ h hk))
    ·cases h
theorem kl_steps (m : Nat) (sub : Env) (h : (stepsP P ops n (os.take m) env).bind (picks (sub.map (·.1))) = some (sub.map (·.2))) (hk : K ds A n sub l (wpList P ops Q (os.drop m))) : K ds A n env l (wpList P ops Q os) := by
 cases hs : stepsP P ops n (os.take m) env with
 | none => rw [hs] at h; cases h
 | some env1 =>
  rw [hs] at h
  have := kl_all (rest := os.drop m) (os.take m) env hs (K.weak hk (picks_sub h))
  rwa [List.take_append_drop] at this
inductive Orc where
 | val (v : Value)
 | num (b : Nat)
inductive Ev where
 | ld (a : Addr) (v : Value)
 | st (a : Addr) (v : Value)
 | nw (o : Obj) (b : Nat)
def follow (P : Program) {α : Type} : Sem α → List Orc → Option (α × List Ev)
 | .pure x, _ => some (x, [])
 | .program k, os => follow P (k P) os
 | .mark _ k, os => follow P k os
 | .load _ a k, .val v :: os => match follow P (k v) os with
  | some (x, es) => some (x, .ld a v :: es)
  | none => none
 | .store _ a v k, os => match follow P k os with
  | some (x, es) => some (x, .st a v :: es)
  | none => none
 | .new o k, .num b :: os => match follow P (k b) os with
  | some (x, es) => some (x, .nw o b :: es)
  | none => none
 | _, _ => none
def EvsOk : List Ev → World → World → Prop
 | [], w, w' => w = w'
 | .ld a v :: es, w, w' => w.cell? a = some v ∧ EvsOk es w w'
 | .st a v :: es, w, w' => v.oneCell' = true ∧ (∃ u, w.cell? a = some u) ∧ w.frozen? a = false ∧ EvsOk es (w.setCell a v) w'
 | .nw o b :: es, w, w' => b = w.heap.size ∧ EvsOk es (w.alloc o) w'
theorem follow_run {α : Type} : ∀ {e : Sem α} {os : List Orc} {x : α} {es : List Ev} {w w' : World}, follow P e os = some (x, es) → EvsOk es w w' → e.run P w = .ok x w'
 | .pure a, _, x, es, w, w', h, he => by
  simp only [follow, Option.some.injEq, Prod.mk.injEq] at h
  obtain ⟨rfl, rfl⟩ := h
  cases he
  rfl
 | .program k, os, x, es, w, w', h, he => by simp only [follow] at h; simp only [Sem.run]; exact follow_run h he
 | .mark m k, os, x, es, w, w', h, he => by simp only [follow] at h; simp only [Sem.run]; exact follow_run h he
 | .load m a k, [], x, es, w, w', h, he => by simp [follow] at h
 | .load m a k, .num _ :: _, x, es, w, w', h, he => by simp [follow] at h
 | .load m a k, .val v :: os, x, es, w, w', h, he => by
  simp only [follow] at h
  split at h
  ·rename_i y es' hf
   simp only [Option.some.injEq, Prod.mk.injEq] at h
   obtain ⟨rfl, rfl⟩ := h
   simp only [Sem.run, he.1]
   exact follow_run hf he.2
  ·cases h
 | .store m a v k, os, x, es, w, w', h, he => by
  simp only [follow] at h
  split at h
  ·rename_i y es' hf
   simp only [Option.some.injEq, Prod.mk.injEq] at h
   obtain ⟨rfl, rfl⟩ := h
   obtain ⟨h1, ⟨u, h2⟩, h3, h4⟩ := he
   have := follow_run hf h4
   cases v <;> first | (simp [Value.oneCell'] at h1; done) | (simp only [Sem.run, h2, h3, Bool.false_eq_true, if_false]; exact this)
  ·cases h
 | .new o k, [], x, es, w, w', h, he => by simp [follow] at h
 | .new o k, .val _ :: _, x, es, w, w', h, he => by simp [follow] at h
 | .new o k, .num b :: os, x, es, w, w', h, he => by
  simp only [follow] at h
  split at h
  ·rename_i y es' hf
   simp only [Option.some.injEq, Prod.mk.injEq] at h
   obtain ⟨rfl, rfl⟩ := h
   obtain ⟨rfl, h4⟩ := he
   simp only [Sem.run]
   exact follow_run hf h4
  ·cases h
 | .shape .., _, _, _, _, _, h, _ | .freeze .., _, _, _, _, _, h, _ | .frozen .., _, _, _, _, _, h, _ | .getObj .., _, _, _, _, _, h, _ | .setObj .., _, _, _, _, _, h, _ | .choose .., _, _, _, _, _, h, _ | .sys .., _, _, _, _, _, h, _ | .halt .., _, _, _, _, _, h, _ => by simp [follow] at h
def LdOk (l : List Frag) : List Ev → Prop
 | [] => True
 | .ld a v :: es => (∃ (i : Nat) (cs : Array Value) (e : TypeId) (z : Nat × Nat), l[i]? = some (blk a.block (.cells cs e z)) ∧ a.spot = none ∧ cs[a.off]? = some v) ∧ LdOk l es
 | _ => False
theorem LdOk.evs {w : World} (hw : St A l w) : ∀ {es : List Ev}, LdOk l es → EvsOk es w w
 | [], _ => rfl
 | .ld a v :: es, h => by
  obtain ⟨⟨i, cs, e, z, h1, h2, h3⟩, h4⟩ := h
  refine ⟨?_, h4.evs hw⟩
  have := hw.sat.cell (List.mem_of_getElem? h1) a.off
  rw [h3] at this
  have e' : a = ⟨a.block, a.off, none⟩ := by cases a; simp only at h2; subst h2; rfl
  rw [e']
  exact this
 | Ev.st .. :: _, h => h.elim
 | Ev.nw .. :: _, h => h.elim
theorem op_load {v : Value} {q : Act → World → Prop} (vs : List Orc) (es : List Ev) (hs : (noSel o.op && allB o.op.operands.toList env && inB n o.dst) = true) (hf : follow P (execOp (rho env) o) vs = some (.value v, es)) (hl : LdOk l es) (h : K ds A n (putE env o.dst v) l q) :
  K ds A n env l (fun a w => o.wp P a w q Q) := fun a w ha hw => by
 simp only [Bool.and_eq_true] at hs
 unfold Oper.wp
 rw [execOp_congr a.eval (rho env) o hs.1.1 (ha.rho hs.1.2), follow_run hf (hl.evs hw)]
 exact h _ _ (ha.putE v hs.2) hw
theorem kl_load {v : Value} (vs : List Orc) (es : List Ev) (hg : wantE ops env o = some true) (hs : (noSel o.op && allB o.op.operands.toList env && inB n o.dst) = true) (hf : follow P (execOp (rho env) o) vs = some (.value v, es)) (hl : LdOk l es)
  (h : K ds A n (putE env o.dst v) l (wpList P ops Q rest)) : K ds A n env l (wpList P ops Q (o :: rest)) := kl_op hg (op_load vs es hs hf hl h)
def stAll (b : Nat) (e : TypeId) : List Ev → Array Value → Option (Array Value)
 | [], cs => some cs
 | .st a v :: es, cs => match a.spot, v.oneCell', Nat.blt a.off cs.size with
  | none, true, true => stAll b e es (cs.setIfInBounds a.off v)
  | _, _, _ => none
 | _, _ => none
def stAt (b : Nat) : List Ev → Prop
 | [] => True
 | .st a _ :: es => a.block = b ∧ stAt b es
 | _ => False
theorem stAll_evs {b : Nat} {e : TypeId} : ∀ {es : List Ev} {cs cs' : Array Value} {w : World}, St A (blk b (.cells cs e (0, 0)) :: l) w → stAt b es → stAll b e es cs = some cs' → ∃ w', EvsOk es w w' ∧ St A (blk b (.cells cs' e (0, 0)) :: l) w'
 | [], cs, cs', w, hw, _, h => by simp only [stAll, Option.some.injEq] at h; subst h; exact ⟨w, rfl, hw⟩
 | .st a v :: es, cs, cs', w, hw, hb, h => by
  simp only [stAll] at h
  split at h
  ·rename_i h1 h2 h3
   have e' : a = ⟨b, a.off, none⟩ := by obtain ⟨x, y, z⟩ := a; simp only at h1; subst h1; have := hb.1; simp only at this; subst this; rfl
   have h3 : a.off < cs.size := by simpa [Nat.blt_eq] using h3
   obtain ⟨w', hw1, hw2⟩ := stAll_evs (hw.set a.off v) hb.2 h
   refine ⟨w', ⟨h2, ⟨cs[a.off], ?_⟩, ?_, ?_⟩, hw2⟩
   ·exact (congrArg w.cell? e').trans ((hw.sat.cell (List.mem_cons_self ..) _).trans (by simp [h3]))
   ·exact (congrArg w.frozen? e').trans (hw.sat.free (List.mem_cons_self ..) _)
   ·rw [e']; exact hw1
  ·cases h
 | Ev.ld .. :: _, _, _, _, _, h, _ => h.elim
 | Ev.nw .. :: _, _, _, _, _, h, _ => h.elim
theorem op_store {b : Nat} {e : TypeId} {cs cs' : Array Value} {q : Act → World → Prop} (es : List Ev) (hs : (noSel o.op && allB o.op.operands.toList env && inB n o.dst) = true) (hf : follow P (execOp (rho env) o) [] = some (.skip, es)) (hb : stAt b es)
  (hc : stAll b e es cs = some cs') (h : K ds A n (putE env o.dst undef) (blk b (.cells cs' e (0, 0)) :: l) q) : K ds A n env (blk b (.cells cs e (0, 0)) :: l) (fun a w => o.wp P a w q Q) := fun a w ha hw => by
 simp only [Bool.and_eq_true] at hs
 obtain ⟨w', h1, h2⟩ := stAll_evs hw hb hc
 unfold Oper.wp
 rw [execOp_congr a.eval (rho env) o hs.1.1 (ha.rho hs.1.2), follow_run hf h1]
 exact h _ _ (ha.putE _ hs.2) h2
theorem kl_store {b : Nat} {e : TypeId} {cs cs' : Array Value} (es : List Ev) (hg : wantE ops env o = some true) (hs : (noSel o.op && allB o.op.operands.toList env && inB n o.dst) = true) (hf : follow P (execOp (rho env) o) [] = some (.skip, es)) (hb : stAt b es)
  (hc : stAll b e es cs = some cs') (h : K ds A n (putE env o.dst undef) (blk b (.cells cs' e (0, 0)) :: l) (wpList P ops Q rest)) : K ds A n env (blk b (.cells cs e (0, 0)) :: l) (wpList P ops Q (o :: rest)) := kl_op hg (op_store es hs hf hb hc h)
theorem op_new {q : Act → World → Prop} (ob : Obj) (v : Nat → Value) (hs : (noSel o.op && allB o.op.operands.toList env && inB n o.dst) = true) (hf : ∀ b, follow P (execOp (rho env) o) [.num b] = some (.value (v b), [.nw ob b]))
  (h : ∀ b, K ds A n (putE env o.dst (v b)) (blk b ob :: l) q) : K ds A n env l (fun a w => o.wp P a w q Q) := fun a w ha hw => by
 simp only [Bool.and_eq_true] at hs
 unfold Oper.wp
 rw [execOp_congr a.eval (rho env) o hs.1.1 (ha.rho hs.1.2), follow_run (w' := w.alloc ob) (hf w.heap.size) ⟨rfl, rfl⟩]
 exact h _ _ _ (ha.putE _ hs.2) (hw.new ob)
theorem kl_new (ob : Obj) (v : Nat → Value) (hg : wantE ops env o = some true) (hs : (noSel o.op && allB o.op.operands.toList env && inB n o.dst) = true) (hf : ∀ b, follow P (execOp (rho env) o) [.num b] = some (.value (v b), [.nw ob b]))
  (h : ∀ b, K ds A n (putE env o.dst (v b)) (blk b ob :: l) (wpList P ops Q rest)) : K ds A n env l (wpList P ops Q (o :: rest)) := kl_op hg (op_new ob v hs hf h)
def Lent : List Frag → List Frag → Prop
 | [], _ => True
 | h :: r, X => h ∈ X ∧ Lent r X
def Ct (P : Program) (f : FuncId) (args : Array Value) (l0 hs : List Frag) (R : Ending → List Frag → Prop) : Prop :=
 ∀ A w X, Lent hs X → St A (l0 ++ X) w → Calls P f args w fun e w' => ∃ l1, R e l1 ∧ St A (l1 ++ X) w'
theorem Ct.mono {f : FuncId} {args : Array Value} {l0 hs : List Frag} {R R' : Ending → List Frag → Prop} (h : Ct P f args l0 hs R) (hr : ∀ e l1, R e l1 → R' e l1) : Ct P f args l0 hs R' :=
 fun A w X hh hw => (h A w X hh hw).mono fun e w' ⟨l1, h1, h2⟩ => ⟨l1, hr e l1 h1, h2⟩
def Nx (ds : List Deferred) (A : World) (n : Nat) (env : Env) (d : Option Nat) (X : List Frag) (next : Act → World → Prop) (Q : Exit → Act → World → Prop) : Ending → List Frag → Prop
 | .returned v, l1 => K ds A n (putE env d v) (l1 ++ X) next
 | .panicked c, l1 => K ds A n env (l1 ++ X) (Q (.panic c))
 | .outgrown, _ => False
theorem op_call {f : FuncId} {args : Array Value} {l0 hs : List Frag} {R : Ending → List Frag → Prop} {next : Act → World → Prop} (hg1 : (noSel o.op && allB o.op.operands.toList env && inB n o.dst) = true) (hp : pureP P (execOp (rho env) o) = some (.enter f args)) (hc : Ct P f args l0 hs R)
  (hl : l = l0 ++ X) (hh : Lent hs X) (hk : ∀ e l1, R e l1 → Nx ds A n env o.dst X next Q e l1) : K ds A n env l (fun a w => o.wp P a w next Q) := fun a w ha hw => by
 subst hl
 simp only [Bool.and_eq_true] at hg1
 unfold Oper.wp
 rw [execOp_congr a.eval (rho env) o hg1.1.1 (ha.rho hg1.1.2), pureP_run hp]
 refine (hc A w X hh hw).mono fun e w' ⟨l1, h1, h2⟩ => ?_
 have := hk e l1 h1
 cases e with
 | returned v => exact this _ _ (ha.putE v hg1.2) h2
 | panicked c => exact this _ _ ha h2
 | outgrown => exact this.elim
theorem kl_call {f : FuncId} {args : Array Value} {l0 hs : List Frag} {R : Ending → List Frag → Prop} (X : List Frag) (hg : wantE ops env o = some true) (hg1 : (noSel o.op && allB o.op.operands.toList env && inB n o.dst) = true) (hp : pureP P (execOp (rho env) o) = some (.enter f args)) (hc : Ct P f args l0 hs R)
  (hl : l = l0 ++ X) (hh : Lent hs X) (hk : ∀ e l1, R e l1 → Nx ds A n env o.dst X (wpList P ops Q rest) Q e l1) : K ds A n env l (wpList P ops Q (o :: rest)) := kl_op hg (op_call hg1 hp hc hl hh hk)
theorem kl_panic {v : Value} (hg : wantE ops env o = some true) (hs : (noSel o.op && allB o.op.operands.toList env) = true) (hp : haltP P (execOp (rho env) o) = some (.panic v)) (hk : K ds A n env l (Q (.panic [{ v, recovered := false }]))) : K ds A n env l (wpList P ops Q (o :: rest)) := by
 refine kl_op hg fun a w ha hw => ?_
 simp only [Bool.and_eq_true] at hs
 unfold Oper.wp
 rw [execOp_congr a.eval (rho env) o hs.1 (ha.rho hs.2), haltP_run hp]
 exact hk a w ha hw
def argEnv : Nat → List Value → Env
 | _, [] => []
 | i, v :: r => (i, v) :: argEnv (i + 1) r
theorem argEnv_get : ∀ (i : Nat) (vs : List Value) (j : Nat) (v : Value), (argEnv i vs).get j = some v → i ≤ j ∧ vs[j - i]? = some v
 | i, v :: r, j, u, h => by
  simp only [argEnv, Env.get] at h
  cases hb : Nat.beq i j with
  | true =>
   rw [hb] at h
   have := Nat.eq_of_beq_eq_true hb
   subst this
   exact ⟨Nat.le_refl _, by simpa using h⟩
  | false =>
   rw [hb] at h
   have := argEnv_get (i + 1) r j u h
   have hne := Nat.ne_of_beq_eq_false hb
   refine ⟨by omega, ?_⟩
   rw [show j - i = (j - (i + 1)) + 1 by omega, List.getElem?_cons_succ]
   exact this.2
theorem ct_enter {f : FuncId} {fn : Func} {c : Code} {args : List Value} {l0 hs : List Frag} {R : Ending → List Frag → Prop} (hf : P.funcs[f]? = some fn) (hb : fn.body = some c) (ha : args.length ≤ fn.ntmps)
  (h : ∀ A X, Lent hs X → K [] A fn.ntmps (argEnv 0 args) (l0 ++ X) (c.wp P (bodyPost P fn fun e w' => ∃ l1, R e l1 ∧ St A (l1 ++ X) w'))) : Ct P f args.toArray l0 hs R := fun A w X hh hw => by
 refine calls_of_wp hf hb (h A X hh _ w ⟨?_, rfl, fun i v hi => ?_⟩ hw)
 ·simp; omega
 ·have := argEnv_get 0 args i v hi
  simp only [Nat.sub_zero] at this
  have hlt := (List.getElem?_eq_some_iff.1 this.2).1
  simp only [Array.getD_eq_getD_getElem?]
  rw [Array.getElem?_append_left (by simpa using hlt)]
  simp [this.2]
def resGet (ρ : Nat → Value) : ResultVar → Sem Value
 | .tmp t => pure (ρ t)
 | .cell a t => do loadVar t (← asAddr (ρ a))
def resS (rs : Array ResultVar) (ρ : Nat → Value) : Sem Value := do
 let vs ← rs.mapM (resGet ρ)
 pure (if h : vs.size = 1 then vs[0] else .tuple vs)
theorem results_eq (fn : Func) (tmps : Array Value) : results fn tmps = resS fn.results (fun t => tmps.getD t undef) := rfl
def resSlots : ResultVar → Nat
 | .tmp t => t
 | .cell a _ => a
def hasAll : List ResultVar → Env → Bool
 | [], _ => true
 | r :: rs, env => match env.get (resSlots r) with | some _ => hasAll rs env | none => false
def rhoN (env : Env) (t : Nat) : Value := (env.get t).getD undef
theorem mapM_congr' {f g : ResultVar → Sem Value} : ∀ (rs : List ResultVar), (∀ r ∈ rs, f r = g r) → rs.mapM f = rs.mapM g
 | [], _ => rfl
 | r :: rs, h => by
  rw [List.mapM_cons, List.mapM_cons, h r (List.mem_cons_self ..), mapM_congr' rs fun r' hr => h r' (List.mem_cons_of_mem _ hr)]
theorem hasAll_mem {env : Env} : ∀ {rs : List ResultVar}, hasAll rs env = true → ∀ r ∈ rs, ∃ v, env.get (resSlots r) = some v
 | r0 :: rs, h, r, hr => by
  simp only [hasAll] at h
  split at h
  ·rename_i v hv
   rcases List.mem_cons.1 hr with rfl | hr
   ·exact ⟨v, hv⟩
   ·exact hasAll_mem h r hr
  ·cases h
theorem resS_congr {rs : Array ResultVar} {a : Act} (ha : Holds ds n env a) (h : hasAll rs.toList env = true) : resS rs (fun t => a.tmps.getD t undef) = resS rs (rhoN env) := by
 have hq : ∀ r ∈ rs.toList, a.tmps.getD (resSlots r) undef = rhoN env (resSlots r) := fun r hr => by
  obtain ⟨v, hv⟩ := hasAll_mem h r hr
  rw [ha.at_ _ v hv]; simp [rhoN, hv]
 unfold resS
 rw [Array.mapM_eq_mapM_toList, Array.mapM_eq_mapM_toList]
 rw [mapM_congr' (f := resGet fun t => a.tmps.getD t undef) (g := resGet (rhoN env)) rs.toList fun r hr => by
  have := hq r hr
  cases r with
  | tmp t => simp only [resSlots] at this; simp only [resGet, this]
  | cell a t => simp only [resSlots] at this; simp only [resGet, this]]
theorem k_done {fn : Func} {R : Ending → List Frag → Prop} {v : Value} (vs : List Orc) (es : List Ev) (l1 : List Frag) (hr : hasAll fn.results.toList env = true) (hf : follow P (resS fn.results (rhoN env)) vs = some (v, es)) (hl : LdOk l es)
  (hk : K [] A n env l fun _ w => R (.returned v) l1 ∧ St A (l1 ++ X) w) : K [] A n env l (bodyPost P fn (fun e w' => ∃ l1, R e l1 ∧ St A (l1 ++ X) w') .ret) := fun a w ha hw =>
 ⟨ha.defers, v, by rw [results_eq, resS_congr ha hr]; exact follow_run hf (hl.evs hw), l1, hk a w ha hw⟩
theorem k_end {R : Prop} (h : R) : K [] A n env l fun _ w => R ∧ St A l w := fun _ _ _ hw => ⟨h, hw⟩
theorem k_fall {fn : Func} {R : Ending → World → Prop} (h : K [] A n env l (bodyPost P fn R .ret)) : K [] A n env l (bodyPost P fn R .normal) := h
theorem k_panicked {fn : Func} {R : Ending → List Frag → Prop} {c : List PanicEntry} (l1 : List Frag) (hk : K [] A n env l fun _ w => R (.panicked c) l1 ∧ St A (l1 ++ X) w) : K [] A n env l (bodyPost P fn (fun e w' => ∃ l1, R e l1 ∧ St A (l1 ++ X) w') (.panic c)) :=
 fun a w ha hw => ⟨ha.defers, l1, hk a w ha hw⟩
end
end Go.Proofs.YtidiahkobapnjaaGreatDoor
namespace Go.Proofs.YtidiahkobapnjaaGreatDoor
open Go Go.RowKit
def force (n : Nat) (k : Nat → Bool) : Bool := match n with | 0 => k 0 | m + 1 => k (m + 1)
theorem force_eq (n : Nat) (k : Nat → Bool) : force n k = k n := by cases n <;> rfl
abbrev AbsO := Nat × Nat × Nat
def afterM (o : Oper) : Nat := o.after.toList.foldr (fun e m => if Region.binds .any e then m ||| 2 ^ e.on else m) 0
def lookM (os : Array Oper) (o : Oper) : Nat := (o.looksAt os).foldr (fun t m => m ||| 2 ^ t) 0
def dstN (o : Oper) : Nat := match o.dst with | none => 0 | some d => d + 1
def absO (os : Array Oper) (o : Oper) : AbsO := (afterM o, lookM os o, dstN o)
def buildD (os : Array Oper) : List Oper → (List AbsO → Bool) → Bool
 | [], k => k []
 | o :: r, k => force (afterM o) fun a => force (lookM os o) fun b => force (dstN o) fun d => buildD os r fun D => k ((a, b, d) :: D)
theorem buildD_eq (os : Array Oper) : ∀ (l : List Oper) (k : List AbsO → Bool), buildD os l k = k (l.map (absO os))
 | [], k => rfl
 | o :: r, k => by simp only [buildD, force_eq, buildD_eq os r]; rfl
def apartD (lk d lk' d' : Nat) : Bool := (d == 0 || (!Nat.testBit lk' (d - 1) && d' != d)) && (d' == 0 || !Nat.testBit lk (d' - 1))
def freeD (i lk d mask : Nat) : Nat → List AbsO → Bool
 | _, [] => true
 | j, x :: r => (j == i || Nat.testBit mask j || Nat.testBit x.1 i || apartD lk d x.2.1 x.2.2) && freeD i lk d mask (j + 1) r
def readyX (mask i a : Nat) : Bool := !Nat.testBit mask i && Nat.beq (a &&& mask) a
def pickD (D : List AbsO) (i mask : Nat) : Bool := match D[i]? with
 | none => false
 | some x => readyX mask i x.1 && freeD i x.2.1 x.2.2 mask 0 D
def readyD (mask : Nat) : Nat → List AbsO → List Nat
 | _, [] => []
 | j, x :: r => cond (readyX mask j x.1) (j :: readyD mask (j + 1) r) (readyD mask (j + 1) r)
def onlyD (D : List AbsO) (i mask : Nat) : Bool := match readyD mask 0 D with | [k] => Nat.beq k i | _ => false
def stepD (m : Nat) : Nat → List AbsO → Nat → Nat
 | _, [], acc => acc
 | j, x :: r, acc => stepD m (j + 1) r (cond (Nat.testBit m j) (acc ||| x.1) acc)
def reachD (D : List AbsO) : Nat → Nat → Nat
 | 0, m => m
 | f + 1, m => reachD D f (stepD m 0 D m)
def waitsD (D : List AbsO) (E j : Nat) : Bool := match D[j]? with
 | none => Nat.beq E 0
 | some x => force (reachD D (D.length - 1) x.1) fun m => Nat.beq (E &&& m) E
def tailD (D : List AbsO) (E : Nat) : Nat → Nat → Nat → Bool
 | 0, _, mask => (readyD mask 0 D).isEmpty
 | g + 1, k, mask => onlyD D k mask && waitsD D E k && force (mask ||| 2 ^ k) fun m => tailD D E g (k + 1) m
def runD (D : List AbsO) (E n : Nat) : List (Nat × Nat) → Nat → Bool
 | [], mask => tailD D E (D.length - n) n mask
 | (i, 0) :: rest, mask => pickD D i mask && force (mask ||| 2 ^ i) fun m => runD D E n rest m
 | (i, 1) :: rest, mask => onlyD D i mask && force (mask ||| 2 ^ i) fun m => runD D E n rest m
 | (i, 2) :: rest, mask => onlyD D i mask && waitsD D E i && !(rest.any (·.2 == 3)) && force (mask ||| 2 ^ i) fun m => runD D E n rest m
 | (i, k + 3) :: rest, mask => Nat.beq k 0 && Nat.testBit E i && pickD D i mask && force (mask ||| 2 ^ i) fun m => runD D E n rest m
def maskOf (E : List Nat) : Nat := E.foldr (fun t m => m ||| 2 ^ t) 0
def planD (os : List Oper) (plan : List (Nat × Nat)) : Bool :=
 Region.noSelect os.toArray && decide (plan.length ≤ os.length) && force (maskOf (earlyOf plan)) fun E => buildD os.toArray os fun D => runD D E plan.length plan 0
theorem maskOf_bit (i : Nat) : ∀ (E : List Nat), Nat.testBit (maskOf E) i = E.contains i
 | [] => by simp [maskOf]
 | t :: E => by
  have := maskOf_bit i E
  unfold maskOf at this ⊢
  rw [List.foldr_cons, Nat.testBit_or, this, Nat.testBit_two_pow, List.contains_cons]
  rw [Bool.or_comm]
  congr 1
  rw [Bool.eq_iff_iff, decide_eq_true_eq, beq_iff_eq]
  exact eq_comm
theorem lookM_bit (os : Array Oper) (o : Oper) (d : Nat) : Nat.testBit (lookM os o) d = (o.looksAt os).contains d := maskOf_bit d _
theorem afterM_bit (o : Oper) (i : Nat) : Nat.testBit (afterM o) i = true ↔ ∃ e ∈ o.after, Region.binds .any e = true ∧ e.on = i := by
 have key : ∀ l : List Edge, Nat.testBit (l.foldr (fun e m => if Region.binds .any e then m ||| 2 ^ e.on else m) 0) i = true ↔ ∃ e ∈ l, Region.binds .any e = true ∧ e.on = i := by
  intro l
  induction l with
  | nil => simp
  | cons e l ih =>
   rw [List.foldr_cons]
   by_cases hb : Region.binds .any e = true
   ·rw [if_pos hb, Nat.testBit_or, Nat.testBit_two_pow, Bool.or_eq_true, ih, decide_eq_true_eq]
    constructor
    ·rintro (⟨x, hx, h⟩ | h)
     ·exact ⟨x, List.mem_cons_of_mem _ hx, h⟩
     ·exact ⟨e, List.mem_cons_self .., hb, h⟩
    ·rintro ⟨x, hx, h⟩
     rcases List.mem_cons.1 hx with rfl | hx
     ·exact .inr h.2
     ·exact .inl ⟨x, hx, h⟩
   ·rw [if_neg hb, ih]
    constructor
    ·rintro ⟨x, hx, h⟩; exact ⟨x, List.mem_cons_of_mem _ hx, h⟩
    ·rintro ⟨x, hx, h⟩
     rcases List.mem_cons.1 hx with rfl | hx
     ·exact absurd h.1 hb
     ·exact ⟨x, hx, h⟩
 unfold afterM
 rw [key]
 constructor
 ·rintro ⟨e, he, h⟩; exact ⟨e, Array.mem_toList_iff.1 he, h⟩
 ·rintro ⟨e, he, h⟩; exact ⟨e, Array.mem_toList_iff.2 he, h⟩
structure RepM (n mask : Nat) (listed : Array Bool) : Prop where
 size : listed.size = n
 bit : ∀ k, Nat.testBit mask k = listed.getD k false
theorem RepM.none (n : Nat) : RepM n 0 (Array.replicate n false) := ⟨by simp, fun k => by
 rw [Nat.zero_testBit]
 rcases Nat.lt_or_ge k n with h | h <;> simp [Array.getD_eq_getD_getElem?, Array.getElem?_replicate, h] <;> omega⟩
theorem RepM.set {n mask i : Nat} {listed : Array Bool} (h : RepM n mask listed) (hi : i < n) : RepM n (mask ||| 2 ^ i) (listed.setIfInBounds i true) := ⟨by simp [h.size], fun k => by
 rw [Nat.testBit_or, Nat.testBit_two_pow, h.bit]
 simp only [Array.getD_eq_getD_getElem?, Array.getElem?_setIfInBounds]
 have := h.size
 by_cases hik : i = k
 ·subst hik; simp [this, hi]
 ·simp [hik]⟩
theorem RepM.bitT {n mask k : Nat} {listed : Array Bool} (h : RepM n mask listed) (hk : k < n) : listed.getD k true = Nat.testBit mask k := by
 have := h.size
 rw [h.bit]
 simp only [Array.getD_eq_getD_getElem?]
 rw [Array.getElem?_eq_getElem (by omega)]
 rfl
section
variable {os : List Oper} {mask i : Nat} {listed : Array Bool}
theorem readyX_iff (hr : RepM os.length mask listed) {o : Oper} (ho : os[i]? = some o) : readyX mask i (afterM o) = true ↔ i ∈ Region.ready .any os.toArray listed := by
 have hi : i < os.length := (List.getElem?_eq_some_iff.1 ho).1
 unfold readyX
 rw [mem_ready, Bool.and_eq_true, Bool.not_eq_true', hr.bitT hi]
 refine and_congr Iff.rfl ?_
 rw [Nat.beq_eq]
 constructor
 ·intro h
  refine ⟨o, by simpa using ho, fun e he hb => ?_⟩
  have h1 : Nat.testBit (afterM o) e.on = true := (afterM_bit o e.on).2 ⟨e, he, hb, rfl⟩
  rw [← hr.bit]
  rw [← h, Nat.testBit_and, Bool.and_eq_true] at h1
  exact h1.2
 ·rintro ⟨o', ho', h⟩
  obtain rfl : o' = o := Option.some.inj ((show os.toArray[i]? = some o by simpa using ho).symm.trans ho') |>.symm
  refine Nat.eq_of_testBit_eq fun k => ?_
  rw [Nat.testBit_and]
  cases hk : Nat.testBit (afterM o') k with
  | false => rfl
  | true =>
   obtain ⟨e, he, hb, rfl⟩ := (afterM_bit o' k).1 hk
   rw [hr.bit, h e he hb]
   rfl
theorem readyD_eq (hr : RepM os.length mask listed) : readyD mask 0 (os.map (absO os.toArray)) = Region.ready .any os.toArray listed := by
 have key : ∀ (l : List Oper) (j : Nat), (∀ t, l[t]? = os[j + t]?) → readyD mask j (l.map (absO os.toArray)) = (List.range' j l.length).filter fun i => !listed.getD i true && ((os.toArray[i]?).map (·.after.all fun e => !Region.binds .any e || listed.getD e.on false)).getD false := by
  intro l
  induction l with
  | nil => intro j _; rfl
  | cons o l ih =>
   intro j hl
   have ho : os[j]? = some o := by simpa using (hl 0).symm
   rw [List.map_cons, List.length_cons, List.range'_succ, List.filter_cons]
   unfold readyD
   rw [ih (j + 1) fun t => by have := hl (t + 1); simpa [Nat.add_assoc, Nat.add_comm 1 t] using this]
   have h1 := readyX_iff hr ho
   have h2 : j ∈ Region.ready .any os.toArray listed ↔ (!listed.getD j true && ((os.toArray[j]?).map (·.after.all fun e => !Region.binds .any e || listed.getD e.on false)).getD false) = true := by
    unfold Region.ready
    rw [List.mem_filter, List.mem_range]
    exact and_iff_right (by simpa using (List.getElem?_eq_some_iff.1 ho).1)
   have h3 := h1.trans h2
   show cond (readyX mask j (afterM o)) _ _ = _
   cases hx : readyX mask j (afterM o) with
   | true => rw [if_pos (h3.1 hx)]; rfl
   | false => rw [if_neg (fun h => by rw [h3.2 h] at hx; cases hx)]; rfl
 rw [key os 0 fun t => by rw [Nat.zero_add]]
 unfold Region.ready
 rw [List.range_eq_range', List.size_toArray]
theorem onlyD_spec (hr : RepM os.length mask listed) (h : onlyD (os.map (absO os.toArray)) i mask = true) : Region.ready .any os.toArray listed = [i] := by
 unfold onlyD at h
 rw [readyD_eq hr] at h
 split at h
 ·rename_i k hk; rw [hk, Nat.eq_of_beq_eq_true h]
 ·cases h
theorem apartD_eq (A : Array Oper) (x y : Oper) : apartD (lookM A x) (dstN x) (lookM A y) (dstN y) = x.apart A y := by
 unfold apartD Oper.apart dstN
 cases x.dst with
 | none => cases y.dst with
  | none => rfl
  | some d' => simp [lookM_bit]
 | some d => cases y.dst with
  | none => simp [lookM_bit]
  | some d' =>
   simp only [lookM_bit, Nat.add_sub_cancel]
   have e1 : (d + 1 == 0) = false := rfl
   have e2 : (d' + 1 == 0) = false := rfl
   have e3 : (d' + 1 != d + 1) = (some d' != some d) := by
    rw [Bool.eq_iff_iff, bne_iff_ne, bne_iff_ne]
    simp
   rw [e1, e2, e3]
   rfl
theorem pickD_spec (hr : RepM os.length mask listed) (h : pickD (os.map (absO os.toArray)) i mask = true) : i < os.length ∧ i ∈ Region.ready .any os.toArray listed ∧ Region.free .any os.toArray listed i = true := by
 unfold pickD at h
 rw [List.getElem?_map] at h
 cases ho : os[i]? with
 | none => rw [ho] at h; cases h
 | some o =>
  rw [ho] at h
  simp only [Option.map_some, Bool.and_eq_true] at h
  have hi : i < os.length := (List.getElem?_eq_some_iff.1 ho).1
  refine ⟨hi, (readyX_iff hr ho).1 h.1, ?_⟩
  have key : ∀ (l : List Oper) (j : Nat), freeD i (lookM os.toArray o) (dstN o) mask j (l.map (absO os.toArray)) = true → ∀ t oj, l[t]? = some oj → ((j + t == i) || Nat.testBit mask (j + t) || Nat.testBit (afterM oj) i || o.apart os.toArray oj) = true := by
   intro l
   induction l with
   | nil => intro j _ t oj h; cases h
   | cons x l ih =>
    intro j h t oj hoj
    simp only [List.map_cons, freeD, Bool.and_eq_true] at h
    cases t with
    | zero =>
     cases hoj
     have := h.1
     rw [← apartD_eq]
     exact this
    | succ t =>
     have := ih (j + 1) h.2 t oj hoj
     rw [show j + 1 + t = j + (t + 1) by omega] at this
     exact this
  have hk := key os 0 h.2
  unfold Region.free
  rw [show os.toArray[i]? = some o by simpa using ho]
  simp only
  rw [List.all_eq_true]
  intro j hj
  rw [List.mem_range, List.size_toArray] at hj
  have hoj : os[j]? = some os[j] := List.getElem?_eq_getElem hj
  have := hk j os[j] hoj
  rw [Nat.zero_add] at this
  rw [show os.toArray[j]? = some os[j] by simp [hj], hr.bitT hj]
  simp only [Bool.or_eq_true] at this ⊢
  rcases this with ((h1 | h1) | h1) | h1
  ·exact .inl (.inl h1)
  ·exact .inl (.inr h1)
  ·obtain ⟨e, he, hb, hon⟩ := (afterM_bit _ _).1 h1
   refine .inr (.inl ?_)
   rw [Array.any_eq_true']
   exact ⟨e, he, by rw [hb, hon]; simp⟩
  ·exact .inr (.inr h1)
theorem waitsB_succ {A : Array Oper} {f j i : Nat} : waitsB .any A (f + 1) j i = true ↔ ∃ oj, A[j]? = some oj ∧ ∃ e ∈ oj.after, Region.binds .any e = true ∧ (e.on = i ∨ waitsB .any A f e.on i = true) := by
 rw [waitsB]
 cases hoj : A[j]? with
 | none => simp
 | some oj =>
  simp only [Option.some.injEq, exists_eq_left']
  rw [Array.any_eq_true']
  simp only [Bool.and_eq_true, Bool.or_eq_true, beq_iff_eq]
theorem waitsB_mono {A : Array Oper} : ∀ {f j i : Nat}, waitsB .any A f j i = true → waitsB .any A (f + 1) j i = true
 | 0, _, _, h => by simp [waitsB] at h
 | f + 1, j, i, h => by
  obtain ⟨oj, hoj, e, he, hb, h⟩ := waitsB_succ.1 h
  exact waitsB_succ.2 ⟨oj, hoj, e, he, hb, h.imp id waitsB_mono⟩
theorem waitsB_one {A : Array Oper} {f k k' : Nat} {ok : Oper} (hk : A[k]? = some ok) (hk' : Nat.testBit (afterM ok) k' = true) : waitsB .any A (f + 1) k k' = true := by
 obtain ⟨e, he, hb, hon⟩ := (afterM_bit _ _).1 hk'
 exact waitsB_succ.2 ⟨ok, hk, e, he, hb, .inl hon⟩
theorem waitsB_step {A : Array Oper} {k k' : Nat} {ok : Oper} (hk : A[k]? = some ok) (hk' : Nat.testBit (afterM ok) k' = true) : ∀ {f j : Nat}, waitsB .any A f j k = true → waitsB .any A (f + 1) j k' = true
 | 0, _, h => by simp [waitsB] at h
 | f + 1, j, h => by
  obtain ⟨oj, hoj, e, he, hb, h⟩ := waitsB_succ.1 h
  refine waitsB_succ.2 ⟨oj, hoj, e, he, hb, .inr ?_⟩
  rcases h with rfl | h
  ·exact waitsB_one hk hk'
  ·exact waitsB_step hk hk' h
theorem stepD_bit (m : Nat) : ∀ (l : List Oper) (j acc k : Nat), (∀ t, l[t]? = os[j + t]?) → Nat.testBit (stepD m j (l.map (absO os.toArray)) acc) k = true → Nat.testBit acc k = true ∨ ∃ q oq, os[q]? = some oq ∧ Nat.testBit m q = true ∧ Nat.testBit (afterM oq) k = true
 | [], _, _, _, _, h => .inl h
 | o :: l, j, acc, k, hl, h => by
  rw [List.map_cons] at h
  unfold stepD at h
  have ho : os[j]? = some o := by simpa using (hl 0).symm
  rcases stepD_bit m l (j + 1) _ k (fun t => by have := hl (t + 1); simpa [Nat.add_assoc, Nat.add_comm 1 t] using this) h with h | h
  ·cases hm : Nat.testBit m j with
   | false => rw [hm] at h; exact .inl h
   | true =>
    rw [hm, cond_true, Nat.testBit_or, Bool.or_eq_true] at h
    rcases h with h | h
    ·exact .inl h
    ·exact .inr ⟨j, o, ho, hm, h⟩
  ·exact .inr h
theorem reachD_bit (j : Nat) : ∀ (f g m : Nat), (∀ k, Nat.testBit m k = true → waitsB .any os.toArray g j k = true) → ∀ k, Nat.testBit (reachD (os.map (absO os.toArray)) f m) k = true → waitsB .any os.toArray (g + f) j k = true
 | 0, _, _, hm, k, h => hm k h
 | f + 1, g, m, hm, k, h => by
  unfold reachD at h
  have := reachD_bit j f (g + 1) _ (fun k hk => by
   rcases stepD_bit m os 0 m k (fun t => by rw [Nat.zero_add]) hk with h | ⟨q, oq, hq, hmq, hk⟩
   ·exact waitsB_mono (hm k h)
   ·exact waitsB_step (by simpa using hq) hk (hm q hmq)) k h
  rw [show g + 1 + f = g + (f + 1) by omega] at this
  exact this
theorem waitsD_spec {E : List Nat} {j : Nat} (hj : j < os.length) (h : waitsD (os.map (absO os.toArray)) (maskOf E) j = true) : needsS .any os.toArray E j = false := by
 unfold waitsD at h
 have hoj : os[j]? = some os[j] := List.getElem?_eq_getElem hj
 rw [List.getElem?_map, hoj] at h
 simp only [Option.map_some, force_eq, List.length_map, Nat.beq_eq] at h
 unfold needsS
 rw [Bool.not_eq_false', List.all_eq_true]
 intro i hi
 have h1 : Nat.testBit (maskOf E) i = true := by rw [maskOf_bit]; simpa using hi
 rw [← h, Nat.testBit_and, Bool.and_eq_true] at h1
 have := reachD_bit (os := os) j (os.length - 1) 1 _ (fun k hk => waitsB_one (show os.toArray[j]? = some os[j] by simp [hj]) hk) i h1.2
 rw [show 1 + (os.length - 1) = os.toArray.size by rw [List.size_toArray]; omega] at this
 exact this
theorem tailD_spec {E : List Nat} : ∀ (g k mask : Nat) (listed : Array Bool), RepM os.length mask listed → tailD (os.map (absO os.toArray)) (maskOf E) g k mask = true → tailB .any os.toArray E g k listed = true
 | 0, _, _, _, hr, h => by unfold tailD at h; unfold tailB; rw [readyD_eq hr] at h; exact h
 | g + 1, k, mask, listed, hr, h => by
  simp only [tailD, force_eq, Bool.and_eq_true] at h
  obtain ⟨⟨h1, h2⟩, h3⟩ := h
  have ho := onlyD_spec hr h1
  have hk : k < os.length := by
   have hm : k ∈ Region.ready .any os.toArray listed := by rw [ho]; exact List.mem_singleton.2 rfl
   obtain ⟨_, o, hoq, _⟩ := mem_ready.1 hm
   simpa using (Array.getElem?_eq_some_iff.1 hoq).1
  unfold tailB
  rw [ho, waitsD_spec hk h2, tailD_spec g (k + 1) _ _ (hr.set hk) h3]
  simp
theorem runD_spec {E : List Nat} {n : Nat} : ∀ (plan : List (Nat × Nat)) (mask : Nat) (listed : Array Bool), RepM os.length mask listed → runD (os.map (absO os.toArray)) (maskOf E) n plan mask = true → planB os.toArray E n plan listed = true
 | [], mask, listed, hr, h => by
  unfold runD at h
  unfold planB
  rw [List.length_map] at h
  rw [List.size_toArray]
  exact tailD_spec _ _ _ _ hr h
 | (i, 0) :: rest, mask, listed, hr, h => by
  simp only [runD, force_eq, Bool.and_eq_true] at h
  obtain ⟨h1, h2, h3⟩ := pickD_spec hr h.1
  unfold planB
  rw [h3, runD_spec rest _ _ (hr.set h1) h.2]
  simp [h1, h2]
 | (i, 1) :: rest, mask, listed, hr, h => by
  simp only [runD, force_eq, Bool.and_eq_true] at h
  have ho := onlyD_spec hr h.1
  have hk : i < os.length := by
   have hm : i ∈ Region.ready .any os.toArray listed := by rw [ho]; exact List.mem_singleton.2 rfl
   obtain ⟨_, o, hoq, _⟩ := mem_ready.1 hm
   simpa using (Array.getElem?_eq_some_iff.1 hoq).1
  unfold planB
  rw [ho, runD_spec rest _ _ (hr.set hk) h.2]
  simp [hk]
 | (i, 2) :: rest, mask, listed, hr, h => by
  simp only [runD, force_eq, Bool.and_eq_true] at h
  obtain ⟨⟨⟨h1, h2⟩, h4⟩, h3⟩ := h
  have ho := onlyD_spec hr h1
  have hk : i < os.length := by
   have hm : i ∈ Region.ready .any os.toArray listed := by rw [ho]; exact List.mem_singleton.2 rfl
   obtain ⟨_, o, hoq, _⟩ := mem_ready.1 hm
   simpa using (Array.getElem?_eq_some_iff.1 hoq).1
  unfold planB
  rw [ho, h4, waitsD_spec hk h2, runD_spec rest _ _ (hr.set hk) h3]
  simp [hk]
 | (i, k + 3) :: rest, mask, listed, hr, h => by
  simp only [runD, force_eq, Bool.and_eq_true] at h
  obtain ⟨⟨⟨h1, h2⟩, h4⟩, h3⟩ := h
  obtain ⟨g1, g2, g3⟩ := pickD_spec hr h4
  rw [maskOf_bit] at h2
  unfold planB
  rw [h2, g3, runD_spec rest _ _ (hr.set g1) h3]
  simp [g1, g2, Nat.eq_of_beq_eq_true h1]
end
theorem planD_spec {os : List Oper} {plan : List (Nat × Nat)} (h : planD os plan = true) : (Region.noSelect os.toArray && decide (plan.length ≤ os.length) && planB os.toArray (earlyOf plan) plan.length plan (Array.replicate os.toArray.size false)) = true := by
 unfold planD at h
 rw [force_eq, buildD_eq] at h
 simp only [Bool.and_eq_true] at h ⊢
 refine ⟨h.1, ?_⟩
 rw [List.size_toArray]
 exact runD_spec plan 0 _ (RepM.none _) h.2
end Go.Proofs.YtidiahkobapnjaaGreatDoor
namespace Go.Proofs.YtidiahkobapnjaaGreatDoor
open Go Go.RowKit
theorem bindSome {α β : Type} {x : Option α} {f : α → Option β} {r : β} (h : x.bind f = some r) : ∃ a, x = some a ∧ f a = some r := by
 cases x with
 | none => cases h
 | some a => exact ⟨a, rfl, h⟩
theorem condT {α : Type} {b : Bool} {x y : Option α} {r : α} (h : cond b x y = some r) (hb : b = true) : x = some r := by subst hb; exact h
theorem condF {α : Type} {b : Bool} {x y : Option α} {r : α} (h : cond b x y = some r) (hb : b = false) : y = some r := by subst hb; exact h
theorem condN {α : Type} {b : Bool} {x : Option α} {r : α} (h : cond b x none = some r) : b = true ∧ x = some r := by
 cases b with
 | true => exact ⟨rfl, h⟩
 | false => cases h
def sIdx (s : ByteArray) (i : Int) : Option UInt8 := if 0 ≤ i then s[i.toNat]? else none
def sSub (s : ByteArray) (lo hi : Int) : Option ByteArray := cond (decide (0 ≤ lo ∧ lo ≤ hi ∧ hi ≤ s.size)) (some (s.extract lo.toNat hi.toNat)) none
section
variable {A : World} {ds : List Deferred} {n : Nat} {env env' : Env} {l l' X : List Frag} {q : Act → World → Prop} {P : Program} {Q : Exit → Act → World → Prop} {ops : Array Oper} {os rest : List Oper} {o : Oper}
def Meet {τ : Type} (ds : List Deferred) (A : World) (n : Nat) (E : τ → Env) (L : τ → List Frag) (S : τ → Prop) (a : Act) (w : World) : Prop := ∃ t, S t ∧ Holds ds n (E t) a ∧ St A (L t) w
theorem k_cut {τ : Type} {x y : Code} (E : τ → Env) (L : τ → List Frag) (S : τ → Prop) (hy : ∀ t, S t → K ds A n (E t) (L t) (y.wp P Q)) (hx : K ds A n env l (x.wp P (Exit.then (Meet ds A n E L S) Q))) : K ds A n env l ((Code.seq x y).wp P Q) := fun a w ha hw =>
 wp_seq (wp_mono (hx a w ha hw) fun e a w h => by
  cases e with
  | normal => obtain ⟨t, hS, ha, hw⟩ := h; exact hy t hS a w ha hw
  | exit id => exact h
  | goto l => exact h
  | ret => exact h
  | panic ch => exact h
  | outgrown => exact h)
theorem k_meet {τ : Type} {E : τ → Env} {L : τ → List Frag} {S : τ → Prop} (t : τ) (hS : S t) (hs : Sub env (E t)) (hl : l = L t) : K ds A n env l (Meet ds A n E L S) :=
 fun _ _ ha hw => ⟨t, hS, ha.sub hs, by subst hl; exact hw⟩
theorem k_cut1 {x y : Code} (env1 : Env) (l1 : List Frag) (hy : K ds A n env1 l1 (y.wp P Q)) (hx : K ds A n env l (x.wp P (Exit.then (fun a w => Holds ds n env1 a ∧ St A l1 w) Q))) : K ds A n env l ((Code.seq x y).wp P Q) := fun a w ha hw =>
 wp_seq (wp_mono (hx a w ha hw) fun e a w h => by
  cases e with
  | normal => exact hy a w h.1 h.2
  | exit id => exact h
  | goto l => exact h
  | ret => exact h
  | panic ch => exact h
  | outgrown => exact h)
theorem k_meet1 {env1 : Env} (hs : Sub env env1) : K ds A n env l (fun a w => Holds ds n env1 a ∧ St A l w) := fun _ _ ha hw => ⟨ha.sub hs, hw⟩
theorem kl_index {s : ByteArray} {kd : IntKind} {i : Int} {c : UInt8} {t : TypeId} {x ix : Operand} (ho : o.op = .index t x ix) (hg : wantE ops env o = some true) (hd : inB n o.dst = true) (hx : evalE env x = some (.string s)) (hi : evalE env ix = some (.int kd i)) (ht : P.underlying t = some .string)
  (hc : sIdx s i = some c) (h : K ds A n (putE env o.dst (.int .u8 c.toNat)) l (wpList P ops Q rest)) : K ds A n env l (wpList P ops Q (o :: rest)) :=
 kl_op hg fun a w ha hw => by
  unfold Oper.wp execOp
  simp only [ho, ha.eval hx, ha.eval hi]
  have : (Instr.index t (.string s) (.int kd i)).run P w = .ok (.int .u8 c.toNat) w := by
   unfold sIdx at hc
   simp [Instr.index, asIntOf, run_underlying ht, hc]
  simp only [Sem.run_bind, this, Result.andThen_ok, Sem.run_pure]
  exact h _ _ (ha.putE _ hd) hw
theorem kl_sstr {s r : ByteArray} {t : TypeId} {x : Operand} {lo hi : Option Operand} (L H : Int) (ho : o.op = .slice t x lo hi none) (hg : wantE ops env o = some true) (hd : inB n o.dst = true) (hx : evalE env x = some (.string s))
  (hlo : (lo = none ∧ L = 0) ∨ ∃ y k, lo = some y ∧ evalE env y = some (.int k L)) (hhi : (hi = none ∧ H = s.size) ∨ ∃ y k, hi = some y ∧ evalE env y = some (.int k H)) (ht : P.underlying t = some .string) (hc : sSub s L H = some r)
  (h : K ds A n (putE env o.dst (.string r)) l (wpList P ops Q rest)) : K ds A n env l (wpList P ops Q (o :: rest)) := by
 unfold sSub at hc
 obtain ⟨hb, hr⟩ := condN hc
 obtain ⟨h1, h2, h3⟩ := of_decide_eq_true hb
 cases hr
 refine kl_op hg fun a w ha hw => ?_
 have hsl : ∀ (lv hv : Option Value), (lv = none ∧ L = 0 ∨ ∃ k, lv = some (.int k L)) → (hv = none ∧ H = s.size ∨ ∃ k, hv = some (.int k H)) → (Instr.sliceAt t (.string s) lv hv none).run P w = .ok (.string (s.extract L.toNat H.toNat)) w := by
  have h4 : L ≤ s.size := by omega
  have h5 : 0 ≤ H := by omega
  have h6 : L ≤ max H 0 := by omega
  rintro lv hv (⟨rfl, rfl⟩ | ⟨k, rfl⟩) (⟨rfl, rfl⟩ | ⟨k', rfl⟩)
  ·simp [Instr.sliceAt, Instr.slice, Instr.sliceBounds, run_underlying ht]
  ·simp [Instr.sliceAt, Instr.slice, Instr.sliceBounds, Instr.sliceBound, asIntOf, run_underlying ht, h3, h5]
  ·simp [Instr.sliceAt, Instr.slice, Instr.sliceBounds, Instr.sliceBound, asIntOf, run_underlying ht, h1, h4]
  ·simp [Instr.sliceAt, Instr.slice, Instr.sliceBounds, Instr.sliceBound, asIntOf, run_underlying ht, h1, h3, h5, h6, h2]
 have hrun := hsl (lo.map a.eval) (hi.map a.eval) (hlo.imp (fun ⟨e, e'⟩ => ⟨by rw [e]; rfl, e'⟩) (fun ⟨y, k, e, e'⟩ => ⟨k, by rw [e]; exact congrArg some (ha.eval e')⟩)) (hhi.imp (fun ⟨e, e'⟩ => ⟨by rw [e]; rfl, e'⟩) (fun ⟨y, k, e, e'⟩ => ⟨k, by rw [e]; exact congrArg some (ha.eval e')⟩))
 unfold Oper.wp execOp
 simp only [ho, ha.eval hx, Option.map_none, Sem.run_bind, hrun, Result.andThen_ok, Sem.run_pure]
 exact h _ _ (ha.putE _ hd) hw
theorem k_region_plan {id : Nat} {os : List Oper} (plan : List (Nat × Nat)) (S : World → Prop) (hm : P.follows .mixedOrders = true)
  (hB : planD os plan = true)
  (hQ : ∀ c a d v w, Q (.panic c) (Act.put a d v) w → Q (.panic c) a w) (hS : ∀ w, St A l w → S w)
  (h : K ds A n env l (wpPlan P os.toArray Q S (wpList P os.toArray Q (os.drop plan.length)) (planOps os.toArray plan))) : K ds A n env l ((Code.region id os.toArray true).wp P Q) := fun a w ha hw =>
 wp_region_plan plan S hm (planD_spec hB) hQ (hS _ hw.drew) (h a _ ha hw.drew)
variable {S : World → Prop} {tail : Act → World → Prop} {pl : List (Oper × Nat)}
theorem kp_done (h : K ds A n env l tail) : K ds A n env l (wpPlan P ops Q S tail []) := h
theorem kp_pure {v : Value} (hg : wantE ops env o = some true) (hs : (noSel o.op && allB o.op.operands.toList env && inB n o.dst) = true) (hv : pureP P (execOp (rho env) o) = some (.value v)) (h : K ds A n (putE env o.dst v) l (wpPlan P ops Q S tail pl)) :
  K ds A n env l (wpPlan P ops Q S tail ((o, 0) :: pl)) := fun a w ha hw => by
 simp only [Bool.and_eq_true] at hs
 exact plan_pure (wantE_spec ha hg) (fun w' => by rw [execOp_congr a.eval (rho env) o hs.1.1 (ha.rho hs.1.2)]; exact pureP_run hv) (h _ _ (ha.putE v hs.2) hw)
theorem kp_skip (hg : wantE ops env o = some false) (hd : inB n o.dst = true) (h : K ds A n (putE env o.dst undef) l (wpPlan P ops Q S tail pl)) : K ds A n env l (wpPlan P ops Q S tail ((o, 0) :: pl)) := fun a w ha hw =>
 plan_pass (wantE_spec ha hg) (h _ _ (ha.putE _ hd) hw)
theorem kp_skip3 (hg : wantE ops env o = some false) (hd : inB n o.dst = true) (h : K ds A n (putE env o.dst undef) l (wpPlan P ops Q S tail pl)) : K ds A n env l (wpPlan P ops Q S tail ((o, 3) :: pl)) := fun a w ha hw =>
 plan_pass3 (wantE_spec ha hg) (h _ _ (ha.putE _ hd) hw)
theorem kp_all : ∀ (os : List Oper) (env : Env), stepsP P ops n os env = some env' → K ds A n env' l (wpPlan P ops Q S tail pl) → K ds A n env l (wpPlan P ops Q S tail (os.map (·, 0) ++ pl))
 | [], env, h, hk => by simp only [stepsP, Option.some.injEq] at h; subst h; exact hk
 | o :: os, env, h, hk => by
  simp only [stepsP] at h
  split at h
  ·cases h
  ·rename_i hg
   split at h
   ·rename_i hd
    exact kp_skip hg hd (kp_all os _ h hk)
   ·cases h
  ·rename_i hg
   split at h
   ·cases h
   ·rename_i hs
    split at h
    ·rename_i v hv
     exact kp_pure hg hs hv (kp_all os _ h hk)
    ·cases h
theorem kp_map0 : ∀ (pl : List (Oper × Nat)), (pl.all fun x => Nat.beq x.2 0) = true → pl = (pl.map (·.1)).map (·, 0)
 | [], _ => rfl
 | (o, k) :: pl, h => by
  simp only [List.all_cons, Bool.and_eq_true] at h
  have hk : k = 0 := Nat.eq_of_beq_eq_true h.1
  subst hk
  simp only [List.map_cons]
  rw [← kp_map0 pl h.2]
theorem kp_steps (m : Nat) (sub : Env) (hz : ((pl.take m).all fun x => Nat.beq x.2 0) = true) (h : (stepsP P ops n ((pl.take m).map (·.1)) env).bind (picks (sub.map (·.1))) = some (sub.map (·.2))) (hk : K ds A n sub l (wpPlan P ops Q S tail (pl.drop m))) :
  K ds A n env l (wpPlan P ops Q S tail pl) := by
 rw [← List.take_append_drop m pl, kp_map0 _ hz]
 cases hs : stepsP P ops n ((pl.take m).map (·.1)) env with
 | none => rw [hs] at h; cases h
 | some env1 =>
  rw [hs] at h
  exact kp_all _ env hs (K.weak hk (picks_sub h))
theorem kp_index {s : ByteArray} {kd : IntKind} {i : Int} {c : UInt8} {t : TypeId} {x ix : Operand} (ho : o.op = .index t x ix) (hg : wantE ops env o = some true) (hd : inB n o.dst = true) (hx : evalE env x = some (.string s)) (hi : evalE env ix = some (.int kd i)) (ht : P.underlying t = some .string)
  (hc : sIdx s i = some c) (h : K ds A n (putE env o.dst (.int .u8 c.toNat)) l (wpPlan P ops Q S tail pl)) : K ds A n env l (wpPlan P ops Q S tail ((o, 0) :: pl)) := fun a w ha hw => by
 refine plan_pure (wantE_spec ha hg) (fun w' => ?_) (h _ _ (ha.putE _ hd) hw)
 unfold execOp
 simp only [ho, ha.eval hx, ha.eval hi]
 have : (Instr.index t (.string s) (.int kd i)).run P w' = .ok (.int .u8 c.toNat) w' := by
  unfold sIdx at hc
  simp [Instr.index, asIntOf, run_underlying ht, hc]
 simp only [Sem.run_bind, this, Result.andThen_ok, Sem.run_pure]
theorem kp_sstr {s r : ByteArray} {t : TypeId} {x : Operand} {lo hi : Option Operand} (L H : Int) (ho : o.op = .slice t x lo hi none) (hg : wantE ops env o = some true) (hd : inB n o.dst = true) (hx : evalE env x = some (.string s))
  (hlo : (lo = none ∧ L = 0) ∨ ∃ y k, lo = some y ∧ evalE env y = some (.int k L)) (hhi : (hi = none ∧ H = s.size) ∨ ∃ y k, hi = some y ∧ evalE env y = some (.int k H)) (ht : P.underlying t = some .string) (hc : sSub s L H = some r)
  (h : K ds A n (putE env o.dst (.string r)) l (wpPlan P ops Q S tail pl)) : K ds A n env l (wpPlan P ops Q S tail ((o, 0) :: pl)) := by
 unfold sSub at hc
 obtain ⟨hb, hr⟩ := condN hc
 obtain ⟨h1, h2, h3⟩ := of_decide_eq_true hb
 cases hr
 intro a w ha hw
 have hsl : ∀ (w : World) (lv hv : Option Value), (lv = none ∧ L = 0 ∨ ∃ k, lv = some (.int k L)) → (hv = none ∧ H = s.size ∨ ∃ k, hv = some (.int k H)) → (Instr.sliceAt t (.string s) lv hv none).run P w = .ok (.string (s.extract L.toNat H.toNat)) w := by
  intro w
  have h4 : L ≤ s.size := by omega
  have h5 : 0 ≤ H := by omega
  have h6 : L ≤ max H 0 := by omega
  rintro lv hv (⟨rfl, rfl⟩ | ⟨k, rfl⟩) (⟨rfl, rfl⟩ | ⟨k', rfl⟩)
  ·simp [Instr.sliceAt, Instr.slice, Instr.sliceBounds, run_underlying ht]
  ·simp [Instr.sliceAt, Instr.slice, Instr.sliceBounds, Instr.sliceBound, asIntOf, run_underlying ht, h3, h5]
  ·simp [Instr.sliceAt, Instr.slice, Instr.sliceBounds, Instr.sliceBound, asIntOf, run_underlying ht, h1, h4]
  ·simp [Instr.sliceAt, Instr.slice, Instr.sliceBounds, Instr.sliceBound, asIntOf, run_underlying ht, h1, h3, h5, h6, h2]
 refine plan_pure (wantE_spec ha hg) (fun w' => ?_) (h _ _ (ha.putE _ hd) hw)
 have hrun := hsl w' (lo.map a.eval) (hi.map a.eval) (hlo.imp (fun ⟨e, e'⟩ => ⟨by rw [e]; rfl, e'⟩) (fun ⟨y, k, e, e'⟩ => ⟨k, by rw [e]; exact congrArg some (ha.eval e')⟩)) (hhi.imp (fun ⟨e, e'⟩ => ⟨by rw [e]; rfl, e'⟩) (fun ⟨y, k, e, e'⟩ => ⟨k, by rw [e]; exact congrArg some (ha.eval e')⟩))
 unfold execOp
 simp only [ho, ha.eval hx, Option.map_none, Sem.run_bind, hrun, Result.andThen_ok, Sem.run_pure]
theorem kp_load {v : Value} (vs : List Orc) (es : List Ev) (hg : wantE ops env o = some true) (hs : (noSel o.op && allB o.op.operands.toList env && inB n o.dst) = true) (hf : follow P (execOp (rho env) o) vs = some (.value v, es)) (hS : ∀ w, S w → EvsOk es w w)
  (h : K ds A n (putE env o.dst v) l (wpPlan P ops Q S tail pl)) : K ds A n env l (wpPlan P ops Q S tail ((o, 3) :: pl)) := fun a w ha hw => by
 simp only [Bool.and_eq_true] at hs
 exact plan_load (wantE_spec ha hg) (fun w' hw' => by rw [execOp_congr a.eval (rho env) o hs.1.1 (ha.rho hs.1.2)]; exact follow_run hf (hS w' hw')) (h _ _ (ha.putE v hs.2) hw)
theorem kp_turn (hg : wantE ops env o = some true) (h : K ds A n env l (fun a w => o.wp P a w (fun a w => S w ∧ wpPlan P ops Q S tail pl a w) Q)) : K ds A n env l (wpPlan P ops Q S tail ((o, 1) :: pl)) := fun a w ha hw =>
 plan_turn (wantE_spec ha hg) fun _ hK => Oper.wp_mono hK (h a w ha hw)
theorem k_and (hS : ∀ w, St A l w → S w) (h : K ds A n env l q) : K ds A n env l (fun a w => S w ∧ q a w) := fun a w ha hw => ⟨hS w hw, h a w ha hw⟩
theorem k_then {next : Act → World → Prop} (h : K ds A n env l next) : K ds A n env l (Exit.then next Q .normal) := h
theorem k_then_exit {next : Act → World → Prop} {id : Nat} (h : K ds A n env l (Q (.exit id))) : K ds A n env l (Exit.then next Q (.exit id)) := h
theorem k_then_ret {next : Act → World → Prop} (h : K ds A n env l (Q .ret)) : K ds A n env l (Exit.then next Q .ret) := h
theorem k_then_panic {next : Act → World → Prop} {c : List PanicEntry} (h : K ds A n env l (Q (.panic c))) : K ds A n env l (Exit.then next Q (.panic c)) := h
theorem k_blk {id : Nat} (h : K ds A n env l (Q .normal)) : K ds A n env l (Exit.inBlock id Q .normal) := h
theorem k_blk_ret {id : Nat} (h : K ds A n env l (Q .ret)) : K ds A n env l (Exit.inBlock id Q .ret) := h
theorem k_blk_panic {id : Nat} {c : List PanicEntry} (h : K ds A n env l (Q (.panic c))) : K ds A n env l (Exit.inBlock id Q (.panic c)) := h
theorem op_callv {f : FuncId} {args : Array Value} {hs : List Frag} {v : Value} {next : Act → World → Prop} (hg1 : (noSel o.op && allB o.op.operands.toList env && inB n o.dst) = true) (hp : pureP P (execOp (rho env) o) = some (.enter f args))
  (hc : Ct P f args [] hs fun e l1 => e = .returned v ∧ l1 = []) (hh : Lent hs l) (hk : K ds A n (putE env o.dst v) l next) : K ds A n env l (fun a w => o.wp P a w next Q) :=
 op_call (X := l) hg1 hp hc rfl hh (by rintro e l1 ⟨rfl, rfl⟩; exact hk)
theorem kl_callv {f : FuncId} {args : Array Value} {hs : List Frag} {v : Value} (hg : wantE ops env o = some true) (hg1 : (noSel o.op && allB o.op.operands.toList env && inB n o.dst) = true) (hp : pureP P (execOp (rho env) o) = some (.enter f args))
  (hc : Ct P f args [] hs fun e l1 => e = .returned v ∧ l1 = []) (hh : Lent hs l) (hk : K ds A n (putE env o.dst v) l (wpList P ops Q rest)) : K ds A n env l (wpList P ops Q (o :: rest)) := kl_op hg (op_callv hg1 hp hc hh hk)
end
def joinF {γ β : Type} (f : γ) (g : γ → Option β) : Option β := g f
theorem joinSplit {γ β : Type} {f : γ} {g : γ → Option β} {r : β} (h : joinF f g = some r) : ∃ J, J = f ∧ g J = some r := ⟨f, rfl, h⟩
end Go.Proofs.YtidiahkobapnjaaGreatDoor
namespace Go.Proofs.YtidiahkobapnjaaGreatDoor
open Go Go.RowKit
def bsI (s : ByteArray) : List Int := s.data.toList.map fun b => (b.toNat : Int)
def Own (T : TypeId) (sz : Nat) (h : Frag) (v : Value) (n : Nat) (cs : List Value) : Prop :=
 cs.length = n * sz ∧ (∀ u ∈ cs, u.oneCell' = true) ∧ ((v = .slice none 0 0 ∧ n = 0) ∨
  ∃ g cap cur, v = .slice (some ⟨g, 0, none⟩) n cap ∧ h = blk g (.cells cur T (0, 0)) ∧ n ≤ cap ∧ cap ≤ maxLen ∧ cur.size = cap * sz ∧ cur.toList.take (n * sz) = cs)
def Rd (sz : Nat) (h : Frag) (v : Value) (n : Nat) (cs : List Value) : Prop :=
 cs.length = n * sz ∧ (∀ u ∈ cs, u.oneCell' = true) ∧ ((v = .slice none 0 0 ∧ n = 0) ∨
  ∃ b off cap cur T z, v = .slice (some ⟨b, off, none⟩) n cap ∧ h b = some (.cells cur T z) ∧ n ≤ cap ∧ cap ≤ maxLen ∧ ∀ j u, cs[j]? = some u → cur[off + j]? = some u)
theorem Own.rd {T : TypeId} {sz : Nat} {h : Frag} {v : Value} {n : Nat} {cs : List Value} (ho : Own T sz h v n cs) : Rd sz h v n cs := by
 obtain ⟨h1, h2, h3⟩ := ho
 refine ⟨h1, h2, ?_⟩
 rcases h3 with h3 | ⟨g, cap, cur, rfl, rfl, h4, h5, h6, h7⟩
 ·exact .inl h3
 ·refine .inr ⟨g, 0, cap, cur, T, (0, 0), rfl, by simp [blk], h4, h5, fun j u hj => ?_⟩
  rw [← h7, List.getElem?_take] at hj
  split at hj
  ·simpa using hj
  ·cases hj
theorem Own.nil (T : TypeId) (sz : Nat) (h : Frag) : Own T sz h (.slice none 0 0) 0 [] := ⟨by simp, by simp, .inl ⟨rfl, rfl⟩⟩
theorem Own.blk (T : TypeId) (sz b n : Nat) (cs : List Value) (hl : cs.length = n * sz) (h1 : (cs.all (·.oneCell')) = true) (hm : n ≤ maxLen) : Own T sz (blk b (.cells cs.toArray T (0, 0))) (.slice (some ⟨b, 0, none⟩) n n) n cs :=
 ⟨hl, fun u hu => List.all_eq_true.1 h1 u hu, .inr ⟨b, n, cs.toArray, rfl, rfl, Nat.le_refl _, hm, by simpa using hl, by simp [← hl]⟩⟩
theorem Own.max {T : TypeId} {sz : Nat} {h : Frag} {v : Value} {n : Nat} {cs : List Value} (ho : Own T sz h v n cs) : n ≤ maxLen := by
 rcases ho.2.2 with ⟨_, rfl⟩ | ⟨g, cap, cur, _, _, h4, h5, _⟩
 ·exact Nat.zero_le _
 ·exact Nat.le_trans h4 h5
structure ElemTy (P : Program) (TS T : TypeId) (sz by_ : Nat) (i : TypeInfo) (z : Value) : Prop where
 slice : P.underlying TS = some (.slice T)
 info : P.info? T = some i
 zero : i.zero = some z
 size : i.size = sz
 bytes : i.bytes = by_
 cells : z.cells.size = sz
 pos : 0 < by_
structure Src (P : Program) (sz : Nat) (w : World) (y : Value) (m : Nat) (news : List Value) : Prop where
 len : ∀ w', (Builtin.lenOf y).run P w' = .ok m w'
 now : (Builtin.firstCells sz m y).run P w = .ok news.toArray w
 drew : (Builtin.firstCells sz m y).run P w.drew = .ok news.toArray w.drew
def noInt (P : Program) (U : TypeId) : Bool :=
 match P.underlying U with
 | some (.slice _) => true
 | some .string => true
 | _ => false
theorem noInt_spec {P : Program} {U : TypeId} (h : noInt P U = true) : (∃ e, P.underlying U = some (.slice e)) ∨ P.underlying U = some .string := by
 unfold noInt at h
 split at h
 ·rename_i e hd; exact .inl ⟨e, hd⟩
 ·rename_i hd; exact .inr hd
 ·cases h
section
variable {P : Program} {w : World} {TS U T : TypeId} {sz bytes : Nat} {i : TypeInfo} {z y : Value} {m : Nat} {news : List Value} {ty : TypeId}
theorem run_app_nil0 (he : ElemTy P TS T sz bytes i z) (hu : noInt P U = true) (hs : Src P sz w y 0 []) : (Builtin.append_ #[TS, U] ty #[.slice none 0 0, y]).run P w = .ok (.slice none 0 0) w := by
 have h1 := hs.now
 have h2 := he.size
 rcases noInt_spec hu with ⟨e', hd⟩ | hd <;> simp [Builtin.append_, run_underlying he.slice, run_underlying hd, sizeOf, typeInfo, he.info, h2, hs.len, h1]
theorem run_app_grow (he : ElemTy P TS T sz bytes i z) (hu : noInt P U = true) (hs : Src P sz w y m news) (a : Option Addr) (sLen sCap : Nat) (olds : List Value) (hg : sCap < sLen + m)
  (hold : (Builtin.firstCells sz sLen (.slice a sLen sCap)).run P w.drew = .ok olds.toArray w.drew)
  (h63 : ((sLen + m : Nat) : Int) ≤ 9223372036854775807) (hfit : Builtin.nextslicecap (sLen + m) sCap * bytes ≤ 281474976710656) :
  (Builtin.append_ #[TS, U] ty #[.slice a sLen sCap, y]).run P w =
   .ok (.slice (some ⟨w.heap.size, 0, none⟩) (sLen + m) (grownCap w (sLen + m) sCap T)) (w.drew.alloc (.cells (olds.toArray ++ news.toArray ++ Builtin.zeroCells z.cells (grownCap w (sLen + m) sCap T - (sLen + m))) T)) := by
 have hn : ¬ (sLen + m ≤ sCap) := by omega
 have h63' : ¬ (9223372036854775807 < ((sLen : Int) + (m : Int))) := by omega
 have h48' : ¬ (281474976710656 < Builtin.nextslicecap (sLen + m) sCap * bytes) := by omega
 have hb := he.bytes
 have hsz := he.size
 have hp := he.pos
 have hp' : ¬ bytes = 0 := by omega
 rcases noInt_spec hu with ⟨e', hd⟩ | hd <;>
 ·simp [Builtin.append_, run_underlying he.slice, run_underlying hd, sizeOf, typeInfo, zeroValue, he.info, he.zero, hsz, hb, hs.len, hn, h63', h48', hp', Question.forced, hs.drew, hold, newRow, grownCap]
  congr 2
  apply Array.ext'
  simp [List.append_assoc]
theorem run_app_room (he : ElemTy P TS T sz bytes i z) (hu : noInt P U = true) (hs : Src P sz w y m news) (hl : news.length = m * sz) (h1 : ∀ u ∈ news, u.oneCell' = true) (g sLen sCap : Nat) (cur : Array Value) (hg : w.heap[g]? = some (.cells cur T (0, 0)))
  (hroom : sLen + m ≤ sCap) (hfit : sLen * sz + news.length ≤ cur.size) :
  (Builtin.append_ #[TS, U] ty #[.slice (some ⟨g, 0, none⟩) sLen sCap, y]).run P w =
   .ok (.slice (some ⟨g, 0, none⟩) (sLen + m) sCap) (w.setRow g (cur.toList.take (sLen * sz) ++ news ++ cur.toList.drop (sLen * sz + news.length)).toArray) := by
 have hst := run_storeCells_at P g (sLen * sz) T news 0 cur w hg (by simpa using hfit) h1
 simp only [Nat.add_zero] at hst
 have hsz := he.size
 rcases noInt_spec hu with ⟨e', hd⟩ | hd <;> simp [Builtin.append_, run_underlying he.slice, run_underlying hd, sizeOf, typeInfo, he.info, hsz, hs.len, hroom, hs.now, Addr.add_lit, hst]
end
section
variable {A : World} {ds : List Deferred} {n0 : Nat} {env env' : Env} {l l' X : List Frag} {q : Act → World → Prop} {P : Program} {Q : Exit → Act → World → Prop} {ops : Array Oper} {os rest : List Oper} {o : Oper}
theorem St.setRow {w : World} {g : Nat} {cur : Array Value} {T : TypeId} (h : St A (blk g (.cells cur T (0, 0)) :: l) w) (cs : Array Value) : St A (blk g (.cells cs T (0, 0)) :: l) (w.setRow g cs) := by
 have hg : w.heap[g]? = some (.cells cur T (0, 0)) := h.sat.1 g _ (by simp [blk])
 refine ⟨⟨fun k o hk => ?_, fun f hf k => ?_, h.sat.2.2.keep fun f hf k o hk => ?_⟩, h.os, h.tape, h.output, ?_⟩
 ·unfold blk at hk
  split at hk
  ·rename_i e; subst e; cases hk; exact setRow_heap w k cur cs T _ hg
  ·cases hk
 ·rcases h.sat.2.1 f hf k with h' | h'
  ·unfold blk at h' ⊢
   split at h'
   ·cases h'
   ·rename_i e'; rw [if_neg e']; exact .inl rfl
  ·exact .inr h'
 ·refine setRow_other w g k cs fun e' => ?_
  subst e'
  rcases h.sat.2.1 f hf k with h' | h'
  ·simp [blk] at h'
  ·rw [h'] at hk; cases hk
 ·have := h.size; simp [World.setRow]; omega
theorem cell_in {w : World} {f : Frag} {l : List Frag} (h : Sat l w) (hf : f ∈ l) {b : Nat} {cur : Array Value} {T : TypeId} {z : Nat × Nat} (hb : f b = some (.cells cur T z)) (i : Nat) : w.cell? ⟨b, i, none⟩ = cur[i]? := by
 have := h.on f hf b _ hb
 simp [World.cell?, this]
theorem addr_add (b off j : Nat) : (⟨b, off, none⟩ : Addr).add j = ⟨b, off + j, none⟩ := by unfold Addr.add; split <;> simp_all
theorem Rd.src {sz : Nat} {h : Frag} {v : Value} {m : Nat} {news : List Value} (hr : Rd sz h v m news) {w : World} (hw : Sat l w) (hm : h ∈ l) : Src P sz w v m news := by
 obtain ⟨h1, h2, h3⟩ := hr
 rcases h3 with ⟨rfl, rfl⟩ | ⟨b, off, cap, cur, T, z, rfl, hb, _, _, hc⟩
 ·have : news = [] := List.eq_nil_of_length_eq_zero (by simpa using h1)
  subst this
  exact ⟨fun _ => rfl, rfl, rfl⟩
 ·have hcell : ∀ j u, news[j]? = some u → w.cell? ((⟨b, off, none⟩ : Addr).add j) = some u := fun j u hj => by rw [addr_add, cell_in hw hm hb]; exact hc j u hj
  exact ⟨fun _ => rfl, run_firstCells_some w sz m _ _ _ _ h1 hcell, run_firstCells_some w.drew sz m _ _ _ _ h1 (by simpa using hcell)⟩
theorem src_str (s : ByteArray) (w : World) : Src P 1 w (.string s) s.size ((bsI s).map (Value.int .u8)) := by
 have : ((s.extract 0 s.size).data.map fun b => Value.int .u8 b.toNat) = ((bsI s).map (Value.int .u8)).toArray := by
  apply Array.ext'
  simp [bsI]
 exact ⟨fun _ => rfl, by simp only [Builtin.firstCells, this]; rfl, by simp only [Builtin.firstCells, this]; rfl⟩
theorem kl_append {T TS U : TypeId} {sz bytes : Nat} {i : TypeInfo} {z : Value} {h : Frag} {v y : Value} {n m : Nat} {cs news : List Value} {s x : Operand} (ho : o.op = .call { callee := .builtin .append, args := #[s, x], argTypes := #[TS, U] })
  (he : ElemTy P TS T sz bytes i z) (hg : wantE ops env o = some true) (hd : inB n0 o.dst = true) (hs : evalE env s = some v) (hx : evalE env x = some y) (hu : noInt P U = true) (hO : Own T sz h v n cs) (hsrc : ∀ w, Sat (h :: l) w → Src P sz w y m news)
  (hl : news.length = m * sz) (h1 : ∀ u ∈ news, u.oneCell' = true) (hb : (n + m) * bytes ≤ 140737488355328)
  (hk : ∀ h' v', Own T sz h' v' (n + m) (cs ++ news) → K ds A n0 (putE env o.dst v') (h' :: l) (wpList P ops Q rest)) : K ds A n0 env (h :: l) (wpList P ops Q (o :: rest)) := by
 refine kl_op hg fun a w ha hw => ?_
 have hsr := hsrc w hw.sat
 have hlen : (cs ++ news).length = (n + m) * sz := by rw [List.length_append, hO.1, hl, Nat.add_mul]
 have hones : ∀ u ∈ cs ++ news, u.oneCell' = true := fun u hu => (List.mem_append.1 hu).elim (hO.2.1 u) (h1 u)
 have hpos := he.pos
 have hnm : n + m ≤ 140737488355328 := Nat.le_trans (Nat.le_mul_of_pos_right _ hpos) hb
 have hmax : n + m ≤ maxLen := by unfold maxLen; omega
 have hex : ∃ v' w', (Builtin.append_ #[TS, U] o.type #[v, y]).run P w = .ok v' w' ∧ ∃ h', Own T sz h' v' (n + m) (cs ++ news) ∧ St A (h' :: l) w' := by
  have grown : ∀ (old : Nat), old < n + m →
    Own T sz (blk w.heap.size (.cells (cs.toArray ++ news.toArray ++ Builtin.zeroCells z.cells (grownCap w (n + m) old T - (n + m))) T (0, 0))) (.slice (some ⟨w.heap.size, 0, none⟩) (n + m) (grownCap w (n + m) old T)) (n + m) (cs ++ news) ∧
    St A (blk w.heap.size (.cells (cs.toArray ++ news.toArray ++ Builtin.zeroCells z.cells (grownCap w (n + m) old T - (n + m))) T (0, 0)) :: l) (w.drew.alloc (.cells (cs.toArray ++ news.toArray ++ Builtin.zeroCells z.cells (grownCap w (n + m) old T - (n + m))) T)) := by
   intro old hold
   have hge := grownCap_ge w (n + m) old T
   have hcm : grownCap w (n + m) old T ≤ maxLen := grownCap_le_maxLen w (n + m) old T hmax
   refine ⟨⟨hlen, hones, .inr ⟨w.heap.size, _, _, rfl, rfl, hge, hcm, ?_, ?_⟩⟩, hw.tail.drew.new _⟩
   ·simp only [Array.size_append, List.size_toArray, size_zeroCells, he.cells, hO.1, hl, ← Nat.add_mul]
    congr 1
    omega
   ·simp only [Array.toList_append, List.append_assoc]
    rw [← List.append_assoc, ← hlen]
    exact List.take_left
  rcases hO.2.2 with ⟨rfl, rfl⟩ | ⟨g, cap, cur, rfl, rfl, h4, h5, h6, h7⟩
  ·have hcs : cs = [] := List.eq_nil_of_length_eq_zero (by simpa using hO.1)
   subst hcs
   by_cases hm : m = 0
   ·subst hm
    have hn : news = [] := List.eq_nil_of_length_eq_zero (by simpa using hl)
    subst hn
    exact ⟨_, w, run_app_nil0 he hu hsr, h, Own.nil T sz h, hw⟩
   ·have hr := run_app_grow (ty := o.type) he hu hsr none 0 0 [] (by omega) rfl (by omega) (growslice_fits (by omega) hb)
    have hgr := grown 0 (by omega)
    simp only [Nat.zero_add, List.nil_append] at hr hgr ⊢
    exact ⟨_, _, hr, _, hgr.1, hgr.2⟩
  ·by_cases hroom : n + m ≤ cap
   ·have hfit : n * sz + news.length ≤ cur.size := by rw [hl, h6, ← Nat.add_mul]; exact Nat.mul_le_mul_right _ hroom
    have hgc : w.heap[g]? = some (.cells cur T (0, 0)) := hw.sat.1 g _ (by simp [blk])
    refine ⟨_, _, run_app_room he hu hsr hl h1 g n cap cur hgc hroom hfit, _, ⟨hlen, hones, .inr ⟨g, cap, _, rfl, rfl, hroom, h5, ?_, ?_⟩⟩, hw.setRow _⟩
    ·simp only [List.size_toArray, List.length_append, List.length_take, List.length_drop, Array.length_toList]
     omega
    ·rw [h7, ← hlen]
     exact List.take_left
   ·have hold : (Builtin.firstCells sz n (.slice (some ⟨g, 0, none⟩) n cap)).run P w.drew = .ok cs.toArray w.drew :=
     ((Own.rd ⟨hO.1, hO.2.1, .inr ⟨g, cap, cur, rfl, rfl, h4, h5, h6, h7⟩⟩ : Rd sz _ _ n cs).src (l := blk g (.cells cur T (0, 0)) :: l) hw.sat (List.mem_cons_self ..)).drew
    have hr := run_app_grow (ty := o.type) he hu hsr (some ⟨g, 0, none⟩) n cap cs (by omega) hold (by omega) (growslice_fits (by omega) hb)
    have hgr := grown cap (by omega)
    exact ⟨_, _, hr, _, hgr.1, hgr.2⟩
 obtain ⟨v', w', hr, h', hO', hw'⟩ := hex
 unfold Oper.wp execOp
 simp only [ho, resolve, invoke, builtin, Sem.run_bind, Sem.run_pure, Result.andThen_ok, List.map_toArray, List.map_cons, List.map_nil, ha.eval hs, ha.eval hx, hr]
 exact hk h' v' hO' _ _ (ha.putE v' hd) hw'
end
end Go.Proofs.YtidiahkobapnjaaGreatDoor
namespace Go.Proofs.YtidiahkobapnjaaGreatDoor
open Go Go.RowKit
def apd {α : Type} (b : Nat) (l ys : List α) : Option (List α) := cond (decide ((l.length + ys.length) * b ≤ 140737488355328)) (some (l ++ ys)) none
theorem apd_spec {α : Type} {b : Nat} {l ys l' : List α} (h : apd b l ys = some l') : (l.length + ys.length) * b ≤ 140737488355328 ∧ l' = l ++ ys := by
 obtain ⟨h1, h2⟩ := condN h
 exact ⟨of_decide_eq_true h1, (Option.some.inj h2).symm⟩
def lIdx {α : Type} (l : List α) (i : Int) : Option α := if 0 ≤ i then l[i.toNat]? else none
theorem lIdx_spec {α : Type} {l : List α} {i : Int} {x : α} (h : lIdx l i = some x) : 0 ≤ i ∧ i < l.length ∧ l[i.toNat]? = some x := by
 unfold lIdx at h
 split at h
 ·rename_i h0
  have := (List.getElem?_eq_some_iff.1 h).1
  exact ⟨h0, by omega, h⟩
 ·cases h
structure EncOk {α : Type} (E : α → List Value) (sz : Nat) : Prop where
 len : ∀ x, (E x).length = sz
 one : ∀ x, ((E x).all (·.oneCell')) = true
section
variable {α : Type} {E : α → List Value} {sz : Nat}
theorem EncOk.lens (h : EncOk E sz) (l : List α) : (l.flatMap E).length = l.length * sz := by
 induction l with
 | nil => simp
 | cons x l ih => rw [List.flatMap_cons, List.length_append, ih, h.len, List.length_cons, Nat.add_mul, Nat.one_mul, Nat.add_comm]
theorem EncOk.ones (h : EncOk E sz) (l : List α) : ∀ u ∈ l.flatMap E, u.oneCell' = true := fun u hu => by
 obtain ⟨x, _, hx⟩ := List.mem_flatMap.1 hu
 exact List.all_eq_true.1 (h.one x) u hx
theorem EncOk.at_ (h : EncOk E sz) : ∀ (l : List α) (k : Nat) (x : α), l[k]? = some x → ((l.flatMap E).drop (k * sz)).take sz = E x
 | y :: l, 0, x, hx => by
  simp only [List.getElem?_cons_zero, Option.some.injEq] at hx
  subst hx
  rw [List.flatMap_cons, Nat.zero_mul, List.drop_zero, ← h.len y, List.take_left]
 | y :: l, k + 1, x, hx => by
  rw [List.getElem?_cons_succ] at hx
  rw [List.flatMap_cons, Nat.add_mul, Nat.one_mul, Nat.add_comm, ← List.drop_drop, show (E y ++ l.flatMap E).drop sz = l.flatMap E by rw [← h.len y, List.drop_left]]
  exact h.at_ l k x hx
end
def OwnT {α : Type} (E : α → List Value) (T : TypeId) (sz : Nat) (h : Frag) (v : Value) (l : List α) : Prop := Own T sz h v l.length (l.flatMap E)
def RdT {α : Type} (E : α → List Value) (sz : Nat) (h : Frag) (v : Value) (l : List α) : Prop := Rd sz h v l.length (l.flatMap E)
theorem Own.val {T : TypeId} {sz : Nat} {h : Frag} {v : Value} {n : Nat} {cs : List Value} (ho : Own T sz h v n cs) : ∃ a c, v = .slice a n c := by
 rcases ho.2.2 with ⟨rfl, rfl⟩ | ⟨g, cap, cur, rfl, _⟩
 ·exact ⟨none, 0, rfl⟩
 ·exact ⟨_, cap, rfl⟩
theorem Rd.val {sz : Nat} {h : Frag} {v : Value} {n : Nat} {cs : List Value} (ho : Rd sz h v n cs) : ∃ a c, v = .slice a n c := by
 rcases ho.2.2 with ⟨rfl, rfl⟩ | ⟨b, off, cap, cur, T, z, rfl, _⟩
 ·exact ⟨none, 0, rfl⟩
 ·exact ⟨_, cap, rfl⟩
theorem OwnT.rd {α : Type} {E : α → List Value} {T : TypeId} {sz : Nat} {h : Frag} {v : Value} {l : List α} (ho : OwnT E T sz h v l) : RdT E sz h v l := Own.rd ho
theorem OwnT.nil {α : Type} (E : α → List Value) (T : TypeId) (sz : Nat) (h : Frag) : OwnT E T sz h (.slice none 0 0) [] := Own.nil T sz h
theorem RdT.nil {α : Type} (E : α → List Value) (sz : Nat) (h : Frag) : RdT E sz h (.slice none 0 0) [] := (Own.nil 0 sz h).rd
theorem OwnT.blk {α : Type} {E : α → List Value} (T : TypeId) {sz : Nat} (hE : EncOk E sz) (b : Nat) (l : List α) (cs : Array Value) (n : Nat) (hc : (l.flatMap E).toArray = cs) (hn : l.length = n) (hm : n ≤ maxLen) : OwnT E T sz (blk b (.cells cs T (0, 0))) (.slice (some ⟨b, 0, none⟩) n n) l := by
 subst hc hn
 exact Own.blk T sz b l.length (l.flatMap E) (hE.lens l) (List.all_eq_true.2 (hE.ones l)) hm
def none_ : Frag := fun _ => none
def Elem (h : Frag) (p : Value) (us : List Value) : Prop := ∃ b off cur T z, p = .pointer (some ⟨b, off, none⟩) ∧ h b = some (.cells cur T z) ∧ ∀ j u, us[j]? = some u → cur[off + j]? = some u
section
variable {A : World} {ds : List Deferred} {n0 : Nat} {env env' : Env} {l l' X : List Frag} {q : Act → World → Prop} {P : Program} {Q : Exit → Act → World → Prop} {ops : Array Oper} {os rest : List Oper} {o : Oper}
theorem kl_apd {α : Type} {E : α → List Value} {xs ys xs' : List α} {T TS U : TypeId} {sz bytes : Nat} {i : TypeInfo} {z : Value} {h : Frag} {v y : Value} {s x : Operand} (hE : EncOk E sz) (ho : o.op = .call { callee := .builtin .append, args := #[s, x], argTypes := #[TS, U] })
  (he : ElemTy P TS T sz bytes i z) (hg : wantE ops env o = some true) (hd : inB n0 o.dst = true) (hs : evalE env s = some v) (hx : evalE env x = some y) (hu : noInt P U = true) (hap : apd bytes xs ys = some xs') (hO : OwnT E T sz h v xs) (hsrc : ∀ w, Sat (h :: l) w → Src P sz w y ys.length (ys.flatMap E))
  (hk : ∀ h' a' c', OwnT E T sz h' (.slice a' xs'.length c') xs' → K ds A n0 (putE env o.dst (.slice a' xs'.length c')) (h' :: l) (wpList P ops Q rest)) : K ds A n0 env (h :: l) (wpList P ops Q (o :: rest)) := by
 obtain ⟨hb, rfl⟩ := apd_spec hap
 refine kl_append ho he hg hd hs hx hu hO hsrc (hE.lens ys) (hE.ones ys) hb fun h' v' hO' => ?_
 have hO2 : OwnT E T sz h' v' (xs ++ ys) := by
  unfold OwnT
  rw [List.length_append, List.flatMap_append]
  exact hO'
 obtain ⟨a', c', rfl⟩ := hO2.val
 exact hk h' a' c' hO2
theorem src_blk {α : Type} {E : α → List Value} {sz : Nat} (hE : EncOk E sz) (ys : List α) {T : TypeId} {b n : Nat} {cs : Array Value} (hc : (ys.flatMap E).toArray = cs) (hn : ys.length = n) (hm : n ≤ maxLen) (j : Nat) (hj : l[j]? = some (blk b (.cells cs T (0, 0)))) (w : World) (hw : Sat l w) :
  Src P sz w (.slice (some ⟨b, 0, none⟩) n n) ys.length (ys.flatMap E) := by
 have := (OwnT.blk T hE b ys cs n hc hn hm).rd
 exact Rd.src this hw (List.mem_of_getElem? hj)
theorem src_rd {α : Type} {E : α → List Value} {sz : Nat} {ys : List α} {h2 : Frag} {v : Value} (hr : RdT E sz h2 v ys) (hm : h2 ∈ l) (w : World) (hw : Sat l w) : Src P sz w v ys.length (ys.flatMap E) := Rd.src hr hw hm
def encI (k : IntKind) (x : Int) : List Value := [.int k x]
theorem encI_ok (k : IntKind) : EncOk (encI k) 1 := ⟨fun _ => rfl, fun _ => rfl⟩
def encS (x : ByteArray) : List Value := [.string x]
theorem encS_ok : EncOk encS 1 := ⟨fun _ => rfl, fun _ => rfl⟩
theorem flatMap_encI (k : IntKind) (l : List Int) : l.flatMap (encI k) = l.map (Value.int k) := by
 induction l with
 | nil => rfl
 | cons x l ih => rw [List.flatMap_cons, ih]; rfl
theorem src_strT (s : ByteArray) (w : World) : Src P 1 w (.string s) (bsI s).length ((bsI s).flatMap (encI .u8)) := by
 rw [flatMap_encI, show (bsI s).length = s.size by simp [bsI]]
 exact src_str s w
theorem kl_bytes {s : ByteArray} {S T U : TypeId} {x : Operand} (ho : o.op = .convert S T x) (hg : wantE ops env o = some true) (hd : inB n0 o.dst = true) (hx : evalE env x = some (.string s)) (h1 : P.underlying S = some .string) (h2 : P.underlying T = some (.slice U)) (h3 : P.underlying U = some (.int .u8)) (hs : s.size ≤ maxLen)
  (hk : ∀ h' a' c', RdT (encI .u8) 1 h' (.slice a' (bsI s).length c') (bsI s) → K ds A n0 (putE env o.dst (.slice a' (bsI s).length c')) (h' :: l) (wpList P ops Q rest)) : K ds A n0 env l (wpList P ops Q (o :: rest)) := by
 refine kl_op hg fun a w ha hw => ?_
 have hr := run_bytes_of_string (P := P) w S T U s h1 h2 h3
 unfold Oper.wp execOp
 simp only [ho, ha.eval hx, Sem.run_bind, hr, Result.andThen_ok, Sem.run_pure]
 have hlen : (bsI s).length = s.size := by simp [bsI]
 rw [← hlen]
 refine hk _ _ _ ?_ _ _ (ha.putE _ hd) (hw.drew.new _)
 unfold RdT
 rw [flatMap_encI, hlen]
 have hge := grownCap_ge w s.size 0 U
 refine ⟨by simp [bsI], fun u hu => ?_, .inr ⟨w.heap.size, 0, _, _, U, _, rfl, if_pos rfl, hge, grownCap_le_maxLen w _ _ _ hs, fun j u hj => ?_⟩⟩
 ·obtain ⟨n, _, rfl⟩ := List.mem_map.1 hu
  rfl
 ·have hlt : j < s.data.size := by
   have := (List.getElem?_eq_some_iff.1 hj).1
   simpa [bsI] using this
  rw [Nat.zero_add]
  simp only [bytesRow]
  rw [Array.getElem?_append_left (by simpa using hlt)]
  simp only [bsI, List.map_map, List.getElem?_map] at hj
  rw [Array.getElem?_map]
  simpa using hj
theorem kl_string {h : Frag} {v : Value} {xs : List Int} {S T U : TypeId} {x : Operand} (ho : o.op = .convert S T x) (hg : wantE ops env o = some true) (hd : inB n0 o.dst = true) (hx : evalE env x = some v) (h1 : P.underlying S = some (.slice U)) (h2 : P.underlying T = some .string) (h3 : P.underlying U = some (.int .u8))
  (hR : RdT (encI .u8) 1 h v xs) (hm : h ∈ l) (hk : K ds A n0 (putE env o.dst (.string (strOfNums xs))) l (wpList P ops Q rest)) : K ds A n0 env l (wpList P ops Q (o :: rest)) := by
 refine kl_op hg fun a w ha hw => ?_
 have hr : (convert S T v).run P w = .ok (.string (strOfNums xs)) w := by
  unfold RdT at hR
  rw [flatMap_encI] at hR
  obtain ⟨_, _, hc⟩ := hR
  rcases hc with ⟨rfl, h0⟩ | ⟨b, off, cap, cur, E, z, rfl, hb, _, _, hc⟩
  ·have : xs = [] := List.eq_nil_of_length_eq_zero h0
   subst this
   rw [run_convert_bytes_nil w S U h1 h3 0 0 T h2]
   rfl
  ·exact run_convert_bytes_arg w S U h1 h3 b off xs.length cap xs rfl (fun i hi => by
    rw [cell_in hw.sat hm hb]
    exact hc i _ (by simp [List.getD, List.getElem?_eq_getElem hi])) T h2
 unfold Oper.wp execOp
 simp only [ho, ha.eval hx, Sem.run_bind, hr, Result.andThen_ok, Sem.run_pure]
 exact hk _ _ (ha.putE _ hd) hw
def mkd {α : Type} (b : Nat) (z : α) (n : Int) : Option (List α) := cond (decide (0 ≤ n ∧ b * n ≤ 140737488355328)) (some (List.replicate n.toNat z)) none
theorem madeCells_rep {α : Type} {E : α → List Value} {sz : Nat} (hE : EncOk E sz) (zz : α) (n : Nat) : madeCells (E zz).toArray (n * sz) = ((List.replicate n zz).flatMap E).toArray := by
 apply Array.ext
 ·simp [size_madeCells, hE.len, List.length_flatMap]
 ·intro i h1 h2
  rw [size_madeCells] at h1
  have hp : 0 < sz := by
   rcases Nat.eq_zero_or_pos sz with h | h
   ·subst h; simp at h1
   ·exact h
  have hq : i / sz < n := (Nat.div_lt_iff_lt_mul hp).2 h1
  have ha := hE.at_ (List.replicate n zz) (i / sz) zz (by simp [hq])
  have hmod : i % sz < sz := Nat.mod_lt _ hp
  have hi : i / sz * sz + i % sz = i := by rw [Nat.mul_comm]; exact Nat.div_add_mod i sz
  have hg : ((List.replicate n zz).flatMap E)[i]? = (E zz)[i % sz]? := by
   rw [← ha, List.getElem?_take, if_pos hmod, List.getElem?_drop, hi]
  have h3 : (E zz)[i % sz]? = some ((E zz)[i % sz]'(by rw [hE.len]; exact hmod)) := List.getElem?_eq_getElem _
  rw [h3] at hg
  have h4 := (List.getElem?_eq_some_iff.1 hg).2
  simp only [List.getElem_toArray]
  rw [h4]
  simp only [madeCells, Array.getElem_map, Array.getElem_range, List.size_toArray, hE.len]
  rw [Array.getElem!_eq_getD, Array.getD_eq_getD_getElem?]
  simp [h3]
theorem kl_make {α : Type} {E : α → List Value} {xs : List α} {n : Int} {T TS : TypeId} {sz bytes : Nat} {i : TypeInfo} {z : Value} (zz : α) {kl kc : IntKind} {x y : Operand} (hE : EncOk E sz) (hz : z.cells = (E zz).toArray) (ho : o.op = .makeSlice TS x y) (he : ElemTy P TS T sz bytes i z) (hg : wantE ops env o = some true)
  (hd : inB n0 o.dst = true) (hx : evalE env x = some (.int kl n)) (hy : evalE env y = some (.int kc n)) (hmk : mkd bytes zz n = some xs) (hk : ∀ h' a' c', OwnT E T sz h' (.slice a' xs.length c') xs → K ds A n0 (putE env o.dst (.slice a' xs.length c')) (h' :: l) (wpList P ops Q rest)) : K ds A n0 env l (wpList P ops Q (o :: rest)) := by
 refine kl_op hg fun a w ha hw => ?_
 obtain ⟨hb, hxs⟩ := condN hmk
 cases hxs
 obtain ⟨h0, h1⟩ := of_decide_eq_true hb
 have hp := he.pos
 have hnb : n ≤ bytes * n := by
  have h2 : (1 : Int) ≤ bytes := by omega
  have := Int.mul_le_mul_of_nonneg_right h2 h0
  omega
 have hr := run_make (P := P) w TS T i z he.slice he.info he.zero kl kc n n h0 (Int.le_refl _) (by rw [he.bytes]; omega) (by omega)
 unfold Oper.wp execOp
 simp only [ho, ha.eval hx, ha.eval hy, Sem.run_bind, hr, Result.andThen_ok, Sem.run_pure]
 have hO : OwnT E T sz (blk w.heap.size (.cells (madeCells z.cells (n.toNat * i.size)) T (0, 0))) (.slice (some ⟨w.heap.size, 0, none⟩) n.toNat n.toNat) (List.replicate n.toNat zz) := by
  rw [he.size, hz, madeCells_rep hE]
  exact OwnT.blk T hE _ _ _ n.toNat rfl (by simp) (by unfold maxLen; omega)
 have e : (Value.slice (some ⟨w.heap.size, 0, none⟩) n.toNat n.toNat) = .slice (some ⟨w.heap.size, 0, none⟩) (List.replicate n.toNat zz).length n.toNat := by rw [List.length_replicate]
 rw [e] at hO ⊢
 exact hk _ _ _ hO _ _ (ha.putE _ hd) (hw.new _)
theorem run_agg {P : Program} {T : TypeId} (w : World) (h : (match P.underlying T with | some (.struct _) => true | some (.array _ _) => true | _ => false) = true) : (isAgg T).run P w = .ok true w := by
 split at h
 ·rename_i hd; simp [isAgg, run_underlying hd]
 ·rename_i hd; simp [isAgg, run_underlying hd]
 ·cases h
theorem run_noagg {P : Program} {T : TypeId} (w : World) (h : (match P.underlying T with | some (.struct _) => true | some (.array _ _) => true | some _ => false | none => true) = false) : (isAgg T).run P w = .ok false w := by
 unfold isAgg
 cases hd : P.underlying T with
 | none => rw [hd] at h; cases h
 | some d => cases d <;> simp_all [run_underlying hd]
theorem Elem.cell {h : Frag} {p : Value} {us : List Value} (he : Elem h p us) {w : World} (hw : Sat l w) (hm : h ∈ l) : ∃ a, p = .pointer (some a) ∧ ∀ j u, us[j]? = some u → w.cell? (a.add j) = some u := by
 obtain ⟨b, off, cur, T, z, rfl, hb, hc⟩ := he
 exact ⟨_, rfl, fun j u hj => by rw [addr_add, cell_in hw hm hb]; exact hc j u hj⟩
theorem kl_eload1 {h : Frag} {p u : Value} {us : List Value} {T : TypeId} {x : Operand} (ho : o.op = .load T x) (hg : wantE ops env o = some true) (hd : inB n0 o.dst = true) (hx : evalE env x = some p) (hT : (match P.underlying T with | some (.struct _) => true | some (.array _ _) => true | some _ => false | none => true) = false) (hE : Elem h p (u :: us)) (hm : h ∈ l)
  (hk : K ds A n0 (putE env o.dst u) l (wpList P ops Q rest)) : K ds A n0 env l (wpList P ops Q (o :: rest)) := by
 refine kl_op hg fun a w ha hw => ?_
 obtain ⟨ad, rfl, hc⟩ := hE.cell hw.sat hm
 have h0 := hc 0 u rfl
 rw [show ad.add 0 = ad from rfl] at h0
 have hr : (Instr.loadAt T (.pointer (some ad))).run P w = .ok u w := by
  simp [Instr.loadAt, Instr.sureAddr, loadVar, run_noagg w hT, load, Sem.run, h0]
 unfold Oper.wp execOp
 simp only [ho, ha.eval hx, Sem.run_bind, hr, Result.andThen_ok, Sem.run_pure]
 exact hk _ _ (ha.putE _ hd) hw
theorem kl_eloadN {h : Frag} {p : Value} {us : List Value} {T : TypeId} {x : Operand} (ho : o.op = .load T x) (hg : wantE ops env o = some true) (hd : inB n0 o.dst = true) (hx : evalE env x = some p) (hT : (match P.underlying T with | some (.struct _) => true | some (.array _ _) => true | _ => false) = true) (hs : (P.info? T).map (·.size) = some us.length) (hE : Elem h p us) (hm : h ∈ l)
  (hk : K ds A n0 (putE env o.dst (.agg us.toArray)) l (wpList P ops Q rest)) : K ds A n0 env l (wpList P ops Q (o :: rest)) := by
 refine kl_op hg fun a w ha hw => ?_
 obtain ⟨ad, rfl, hc⟩ := hE.cell hw.sat hm
 cases hif : P.info? T with
 | none => rw [hif] at hs; cases hs
 | some i =>
  rw [hif] at hs
  have hsz : i.size = us.length := Option.some.inj hs
  have hr : (Instr.loadAt T (.pointer (some ad))).run P w = .ok (.agg us.toArray) w := by
   simp [Instr.loadAt, Instr.sureAddr, loadVar, run_agg w hT, sizeOf, typeInfo, hif, hsz, run_loadCells_list w ad us hc]
  unfold Oper.wp execOp
  simp only [ho, ha.eval hx, Sem.run_bind, hr, Result.andThen_ok, Sem.run_pure]
  exact hk _ _ (ha.putE _ hd) hw
theorem k_none (h : K ds A n0 env (none_ :: l) q) : K ds A n0 env l q := fun a w ha hw => h a w ha ⟨⟨fun _ _ h => (by cases h), fun _ _ _ => .inl rfl, hw.sat⟩, hw.os, hw.tape, hw.output, hw.size⟩
theorem nx_ret {d : Option Nat} {v : Value} {l1 : List Frag} {next : Act → World → Prop} (h : K ds A n0 (putE env d v) (l1 ++ X) next) : Nx ds A n0 env d X next Q (.returned v) l1 := h
theorem K.mvN (pre : List Frag) (f : Frag) (post : List Frag) (h : K ds A n0 env (f :: (pre ++ post)) q) : K ds A n0 env (pre ++ f :: post) q := h.perm List.perm_middle
end
section
variable {A : World} {ds : List Deferred} {n0 : Nat} {env : Env} {d : Option Nat} {X : List Frag} {next : Act → World → Prop} {Q : Exit → Act → World → Prop} {v : Value} {f1 f2 f3 f4 : Frag}
theorem nx_ret1 (h : K ds A n0 (putE env d v) (f1 :: X) next) : Nx ds A n0 env d X next Q (.returned v) [f1] := h
theorem nx_ret2 (h : K ds A n0 (putE env d v) (f1 :: f2 :: X) next) : Nx ds A n0 env d X next Q (.returned v) [f1, f2] := h
end
end Go.Proofs.YtidiahkobapnjaaGreatDoor
namespace Go.Proofs.YtidiahkobapnjaaGreatDoor
open Go Go.RowKit
def Place (A : Option Addr) (k : Nat) (p : Value) : Prop := ∃ b off, A = some ⟨b, off, none⟩ ∧ p = .pointer (some ⟨b, off + k, none⟩)
def lSet {α : Type} (l : List α) (i : Int) (x : α) : Option (List α) := cond (decide (0 ≤ i ∧ i < l.length)) (some (l.set i.toNat x)) none
theorem lSet_spec {α : Type} {l l' : List α} {i : Int} {x : α} (h : lSet l i x = some l') : 0 ≤ i ∧ i < l.length ∧ l' = l.set i.toNat x := by
 obtain ⟨h1, h2⟩ := condN h
 obtain ⟨h3, h4⟩ := of_decide_eq_true h1
 exact ⟨h3, h4, (Option.some.inj h2).symm⟩
theorem lSet_len {α : Type} {l l' : List α} {i : Int} {x : α} (h : lSet l i x = some l') : l'.length = l.length := by
 obtain ⟨_, _, rfl⟩ := lSet_spec h
 exact List.length_set
theorem EncOk.set {α : Type} {E : α → List Value} {sz : Nat} (hE : EncOk E sz) (x : α) : ∀ (l : List α) (k : Nat), k < l.length → (l.set k x).flatMap E = (l.flatMap E).take (k * sz) ++ E x ++ (l.flatMap E).drop (k * sz + sz)
 | y :: l, 0, _ => by
  rw [List.set_cons_zero, List.flatMap_cons, List.flatMap_cons, Nat.zero_mul, List.take_zero, List.nil_append, Nat.zero_add, ← hE.len y, List.drop_left]
 | y :: l, k + 1, h => by
  have h' : k < l.length := by simpa using h
  rw [List.set_cons_succ, List.flatMap_cons, List.flatMap_cons, hE.set x l k h']
  rw [show (k + 1) * sz = (E y).length + k * sz by rw [hE.len, Nat.add_mul, Nat.one_mul, Nat.add_comm]]
  rw [List.take_length_add_append, show (E y).length + k * sz + sz = (E y).length + (k * sz + sz) by omega, List.drop_length_add_append]
  simp [List.append_assoc]
theorem splice_row {α : Type} (C V : List α) (kk off sz nn : Nat) (h1 : off + V.length ≤ sz) (h2 : kk + sz ≤ nn) (h3 : nn ≤ C.length) :
  (C.take (kk + off) ++ V ++ C.drop (kk + off + V.length)).take nn =
   (C.take nn).take kk ++ ((((C.take nn).drop kk).take sz).take off ++ V ++ (((C.take nn).drop kk).take sz).drop (off + V.length)) ++ (C.take nn).drop (kk + sz) := by
 apply List.ext_getElem?
 intro j
 by_cases j1 : j < kk
 ·rw [List.getElem?_take, if_pos (by omega), List.getElem?_append_left (by simp; omega), List.getElem?_append_left (by simp; omega), List.getElem?_take, if_pos (by omega)]
  rw [List.getElem?_append_left (by simp; omega), List.getElem?_append_left (by simp; omega), List.getElem?_take, if_pos j1, List.getElem?_take, if_pos (by omega)]
 ·obtain ⟨i, rfl⟩ : ∃ i, j = kk + i := ⟨j - kk, by omega⟩
  have hL : ∀ (m : Nat), i < m → m ≤ nn - kk → ((C.take nn).drop kk)[i]? = C[kk + i]? := fun m h h' => by rw [List.getElem?_drop, List.getElem?_take, if_pos (by omega)]
  rw [List.append_assoc ((C.take nn).take kk), List.getElem?_append_right (l₁ := (C.take nn).take kk) (by simp; omega)]
  rw [show ((C.take nn).take kk).length = kk by simp; omega, Nat.add_sub_cancel_left]
  by_cases j2 : i < off
  ·rw [List.getElem?_take, if_pos (by omega), List.append_assoc, List.getElem?_append_left (by simp; omega), List.getElem?_take, if_pos (by omega)]
   rw [List.append_assoc, List.append_assoc, List.getElem?_append_left (by simp; omega), List.getElem?_take, if_pos j2, List.getElem?_take, if_pos (by omega), hL (i + 1) (by omega) (by omega)]
  ·by_cases j3 : i < off + V.length
   ·rw [List.getElem?_take, if_pos (by omega), List.append_assoc, List.getElem?_append_right (by simp; omega), List.getElem?_append_left (by simp; omega)]
    rw [List.append_assoc, List.append_assoc, List.getElem?_append_right (by simp; omega), List.getElem?_append_left (by simp; omega)]
    congr 1
    simp
    omega
   ·by_cases j4 : i < sz
    ·rw [List.getElem?_take, if_pos (by omega), List.append_assoc, List.getElem?_append_right (by simp; omega), List.getElem?_append_right (by simp; omega), List.getElem?_drop]
     rw [List.append_assoc, List.append_assoc, List.getElem?_append_right (by simp; omega), List.getElem?_append_right (by simp; omega), List.getElem?_append_left (by simp; omega), List.getElem?_drop, List.getElem?_take, if_pos (by simp; omega), List.getElem?_drop, List.getElem?_take, if_pos (by simp; omega)]
     congr 1
     simp
     omega
    ·by_cases j5 : kk + i < nn
     ·rw [List.getElem?_take, if_pos (by omega), List.append_assoc, List.getElem?_append_right (by simp; omega), List.getElem?_append_right (by simp; omega), List.getElem?_drop]
      rw [List.append_assoc, List.append_assoc, List.getElem?_append_right (by simp; omega), List.getElem?_append_right (by simp; omega), List.getElem?_append_right (by simp; omega), List.getElem?_drop, List.getElem?_take, if_pos (by simp; omega)]
      congr 1
      simp
      omega
     ·rw [List.getElem?_take, if_neg (by omega)]
      symm
      apply List.getElem?_eq_none
      simp
      omega
def OnAll : List Frag → World → Prop
 | [], _ => True
 | f :: l, w => f.On w ∧ OnAll l w
theorem OnAll.mem : ∀ {l : List Frag} {w : World}, OnAll l w → ∀ f ∈ l, f.On w
 | _ :: _, _, h, f, hf => by
  rcases List.mem_cons.1 hf with rfl | hf
  ·exact h.1
  ·exact h.2.mem f hf
theorem OnAll.evs {l : List Frag} {w : World} (hw : OnAll l w) : ∀ {es : List Ev}, LdOk l es → EvsOk es w w
 | [], _ => rfl
 | .ld a v :: es, h => by
  obtain ⟨⟨i, cs, e, z, h1, h2, h3⟩, h4⟩ := h
  refine ⟨?_, hw.evs h4⟩
  have hb := hw.mem _ (List.mem_of_getElem? h1) a.block (.cells cs e z) (by simp [blk])
  obtain ⟨x, y, s⟩ := a
  simp only at h2 h3 hb
  subst h2
  simp [World.cell?, hb, h3]
 | Ev.st .. :: _, h => h.elim
 | Ev.nw .. :: _, h => h.elim
section
variable {A : World} {ds : List Deferred} {n0 : Nat} {env env' : Env} {l l' X : List Frag} {q : Act → World → Prop} {P : Program} {Q : Exit → Act → World → Prop} {ops : Array Oper} {os rest : List Oper} {o : Oper}
theorem K.eq (he : env = env') (hl : l = l') (h : K ds A n0 env' l' q) : K ds A n0 env l q := by subst he hl; exact h
theorem kl_elemP {α : Type} {E : α → List Value} {xs : List α} {a : α} {ix : Int} {kd : IntKind} {h : Frag} {A' : Option Addr} {c : Nat} {T TS : TypeId} {sz : Nat} {x y : Operand} (hE : EncOk E sz) (ho : o.op = .indexAddr TS x y) (hg : wantE ops env o = some true) (hd : inB n0 o.dst = true) (hx : evalE env x = some (.slice A' xs.length c)) (hy : evalE env y = some (.int kd ix))
  (h1 : P.underlying TS = some (.slice T)) (h2 : (P.info? T).map (·.size) = some sz) (hi : lIdx xs ix = some a) (hR : RdT E sz h (.slice A' xs.length c) xs) (hk : ∀ p, Elem h p (E a) → Place A' (ix.toNat * sz) p → K ds A n0 (putE env o.dst p) l (wpList P ops Q rest)) : K ds A n0 env l (wpList P ops Q (o :: rest)) := by
 refine kl_op hg fun a' w ha hw => ?_
 obtain ⟨hi0, hi1, hi2⟩ := lIdx_spec hi
 obtain ⟨hl, _, hc⟩ := hR
 cases hif : P.info? T with
 | none => rw [hif] at h2; cases h2
 | some i =>
  rw [hif] at h2
  have hsz : i.size = sz := Option.some.inj h2
  rcases hc with ⟨_, h0⟩ | ⟨b, off, cap, cur, T', z, he, hb, _, _, hc⟩
  ·omega
  ·cases he
   have hr : (Instr.indexAt TS (.slice (some ⟨b, off, none⟩) xs.length c) (.int kd ix)).run P w = .ok (.pointer (some ⟨b, off + ix.toNat * sz, none⟩)) w := by
    simp [Instr.indexAt, run_underlying h1, asIntOf, hi0, hi1, sizeOf, typeInfo, hif, hsz, addr_add]
   unfold Oper.wp execOp
   simp only [ho, ha.eval hx, ha.eval hy, Sem.run_bind, hr, Result.andThen_ok, Sem.run_pure]
   refine hk _ ⟨b, off + ix.toNat * sz, cur, T', z, rfl, hb, fun j u hj => ?_⟩ ⟨b, off, rfl, rfl⟩ _ _ (ha.putE _ hd) hw
   rw [← hE.at_ xs ix.toNat a hi2, List.getElem?_take] at hj
   split at hj
   ·rw [List.getElem?_drop] at hj
    rw [Nat.add_assoc]
    exact hc _ u hj
   ·cases hj
theorem kl_efieldP {h : Frag} {p : Value} {us : List Value} {T : TypeId} {k off k0 : Nat} {A' : Option Addr} {x : Operand} (ho : o.op = .fieldAddr T x k) (hg : wantE ops env o = some true) (hd : inB n0 o.dst = true) (hx : evalE env x = some p)
  (hT : (match P.underlying T with | some (.struct fs) => (match fs[k]? with | some f => (match (P.info? f.type).map (·.size) with | some (s + 1) => some f.offset | _ => none) | none => none) | _ => none) = some off) (hE : Elem h p us) (hp : Place A' k0 p) (hk : ∀ p', Elem h p' (us.drop off) → Place A' (k0 + off) p' → K ds A n0 (putE env o.dst p') l (wpList P ops Q rest)) : K ds A n0 env l (wpList P ops Q (o :: rest)) := by
 refine kl_op hg fun a w ha hw => ?_
 obtain ⟨b1, off1, rfl, rfl⟩ := hp
 obtain ⟨b, of_, cur, T', z, he, hb, hc⟩ := hE
 cases he
 split at hT
 ·rename_i fs hfs
  split at hT
  ·rename_i f hf
   split at hT
   ·rename_i s hs
    cases hT
    cases hif : P.info? f.type with
    | none => rw [hif] at hs; cases hs
    | some i =>
     rw [hif] at hs
     have hsz : i.size = s + 1 := Option.some.inj hs
     have hr : (Instr.fieldAt T (.pointer (some ⟨b1, off1 + k0, none⟩)) k).run P w = .ok (.pointer (some ⟨b1, off1 + k0 + f.offset, none⟩)) w := by
      simp [Instr.fieldAt, run_underlying hfs, hf, Instr.sureAddr, fieldPlace, sizeOf, typeInfo, hif, hsz, addr_add]
     unfold Oper.wp execOp
     simp only [ho, ha.eval hx, Sem.run_bind, hr, Result.andThen_ok, Sem.run_pure]
     refine hk _ ⟨b1, off1 + k0 + f.offset, cur, T', z, rfl, hb, fun j u hj => ?_⟩ ⟨b1, off1, rfl, by rw [Nat.add_assoc]⟩ _ _ (ha.putE _ hd) hw
     rw [List.getElem?_drop] at hj
     rw [Nat.add_assoc]
     exact hc _ u hj
   ·cases hT
  ·cases hT
 ·cases hT
theorem kl_estore {α : Type} {E : α → List Value} {xs xs' : List α} {x x' : α} {ix : Int} {h : Frag} {A' : Option Addr} {c : Nat} {T T1 : TypeId} {sz off : Nat} {p v : Value} {s y : Operand} (hE : EncOk E sz) (ho : o.op = .store T1 s y) (hg : wantE ops env o = some true) (hd : inB n0 o.dst = true)
  (hs : evalE env s = some p) (hy : evalE env y = some v) (hsz : (P.info? T1).map (·.size) = some v.cells.size) (hp : Place A' (ix.toNat * sz + off) p) (hO : OwnT E T sz h (.slice A' xs.length c) xs) (hx : lIdx xs ix = some x) (hx' : E x' = (E x).take off ++ v.cells.toList ++ (E x).drop (off + v.cells.toList.length))
  (hfit : Nat.ble (off + v.cells.toList.length) sz = true) (hset : lSet xs ix x' = some xs') (hk : ∀ h', OwnT E T sz h' (.slice A' xs'.length c) xs' → K ds A n0 (putE env o.dst undef) (h' :: l) (wpList P ops Q rest)) : K ds A n0 env (h :: l) (wpList P ops Q (o :: rest)) := by
 refine kl_op hg fun a w ha hw => ?_
 obtain ⟨hi0, hi1, hxi⟩ := lIdx_spec hx
 obtain ⟨_, _, rfl⟩ := lSet_spec hset
 have hfit : off + v.cells.toList.length ≤ sz := Nat.le_of_ble_eq_true hfit
 cases hif : P.info? T1 with
 | none => rw [hif] at hsz; cases hsz
 | some i =>
  rw [hif] at hsz
  have hsize : i.size = v.cells.size := Option.some.inj hsz
  rcases hO.2.2 with ⟨he, h0⟩ | ⟨g, cap, cur, he, rfl, h4, h5, h6, h7⟩
  ·omega
  ·cases he
   obtain ⟨b, of_, he, rfl⟩ := hp
   cases he
   have hgc : w.heap[g]? = some (.cells cur T (0, 0)) := hw.sat.1 g _ (by simp [blk])
   have hk1 : ix.toNat < xs.length := by omega
   have hle : ix.toNat * sz + sz ≤ xs.length * sz := by
    have := Nat.mul_le_mul_right sz (show ix.toNat + 1 ≤ xs.length by omega)
    rw [Nat.add_mul, Nat.one_mul] at this
    exact this
   have hcc : xs.length * sz ≤ cur.size := by rw [h6]; exact Nat.mul_le_mul_right _ h4
   have hone : ∀ u ∈ v.cells.toList, u.oneCell' = true := fun u hu => by
    have : u ∈ E x' := by rw [hx']; simp [hu]
    exact List.all_eq_true.1 (hE.one x') u this
   have hst := run_storeCells_at P g (ix.toNat * sz + off) T v.cells.toList 0 cur w hgc (by omega) hone
   simp only [Nat.add_zero] at hst
   have hr : (Instr.storeAt T1 (.pointer (some ⟨g, 0 + (ix.toNat * sz + off), none⟩)) v).run P w = .ok () (w.setRow g (cur.toList.take (ix.toNat * sz + off) ++ v.cells.toList ++ cur.toList.drop (ix.toNat * sz + off + v.cells.toList.length)).toArray) := by
    simp [Instr.storeAt, Instr.sureAddr, storeVar, sizeOf, typeInfo, hif, hsize]
    simpa using hst
   unfold Oper.wp execOp
   simp only [ho, ha.eval hs, ha.eval hy, Sem.run_bind, hr, Result.andThen_ok, Sem.run_pure]
   refine hk _ ?_ _ _ (ha.putE _ hd) (hw.setRow _)
   rw [List.length_set]
   unfold OwnT
   rw [List.length_set]
   refine ⟨by rw [hE.lens, List.length_set], hE.ones _, .inr ⟨g, c, _, rfl, rfl, h4, h5, ?_, ?_⟩⟩
   ·simp only [List.size_toArray, List.length_append, List.length_take, List.length_drop, Array.length_toList]
    rw [Nat.min_eq_left (by omega)]
    have : v.cells.toList.length = v.cells.size := Array.length_toList
    omega
   ·rw [hE.set x' xs _ hk1]
    have ha1 := hE.at_ xs ix.toNat x hxi
    rw [hx', ← ha1, ← h7]
    exact splice_row cur.toList v.cells.toList _ off sz _ hfit (by omega) (by simpa using hcc)
theorem kp_loadS {S : World → Prop} {tail : Act → World → Prop} {pl : List (Oper × Nat)} {v : Value} (s : List Frag) (vs : List Orc) (es : List Ev) (hg : wantE ops env o = some true) (hs : (noSel o.op && allB o.op.operands.toList env && inB n0 o.dst) = true) (hf : follow P (execOp (rho env) o) vs = some (.value v, es)) (hS : ∀ w, S w → OnAll s w) (hl : LdOk s es)
  (h : K ds A n0 (putE env o.dst v) l (wpPlan P ops Q S tail pl)) : K ds A n0 env l (wpPlan P ops Q S tail ((o, 3) :: pl)) := kp_load vs es hg hs hf (fun w hw => (hS w hw).evs hl) h
variable {S : World → Prop} {tail : Act → World → Prop} {pl : List (Oper × Nat)}
theorem kp_elemP {α : Type} {E : α → List Value} {xs : List α} {a : α} {ix : Int} {kd : IntKind} {h : Frag} {A' : Option Addr} {c : Nat} {T TS : TypeId} {sz : Nat} {x y : Operand} (hE : EncOk E sz) (ho : o.op = .indexAddr TS x y) (hg : wantE ops env o = some true) (hd : inB n0 o.dst = true) (hx : evalE env x = some (.slice A' xs.length c)) (hy : evalE env y = some (.int kd ix))
  (h1 : P.underlying TS = some (.slice T)) (h2 : (P.info? T).map (·.size) = some sz) (hi : lIdx xs ix = some a) (hR : RdT E sz h (.slice A' xs.length c) xs) (hk : ∀ p, Elem h p (E a) → Place A' (ix.toNat * sz) p → K ds A n0 (putE env o.dst p) l (wpPlan P ops Q S tail pl)) : K ds A n0 env l (wpPlan P ops Q S tail ((o, 0) :: pl)) := by
 intro a' w ha hw
 obtain ⟨hi0, hi1, hi2⟩ := lIdx_spec hi
 obtain ⟨hl, _, hc⟩ := hR
 cases hif : P.info? T with
 | none => rw [hif] at h2; cases h2
 | some i =>
  rw [hif] at h2
  have hsz : i.size = sz := Option.some.inj h2
  rcases hc with ⟨_, h0⟩ | ⟨b, off, cap, cur, T', z, he, hb, _, _, hc⟩
  ·omega
  ·cases he
   refine plan_pure (v := .pointer (some ⟨b, off + ix.toNat * sz, none⟩)) (wantE_spec ha hg) (fun w' => ?_) (hk _ ⟨b, off + ix.toNat * sz, cur, T', z, rfl, hb, fun j u hj => ?_⟩ ⟨b, off, rfl, rfl⟩ _ _ (ha.putE _ hd) hw)
   ·have hr : (Instr.indexAt TS (.slice (some ⟨b, off, none⟩) xs.length c) (.int kd ix)).run P w' = .ok (.pointer (some ⟨b, off + ix.toNat * sz, none⟩)) w' := by
     simp [Instr.indexAt, run_underlying h1, asIntOf, hi0, hi1, sizeOf, typeInfo, hif, hsz, addr_add]
    unfold execOp
    simp only [ho, ha.eval hx, ha.eval hy, Sem.run_bind, hr, Result.andThen_ok, Sem.run_pure]
   ·rw [← hE.at_ xs ix.toNat a hi2, List.getElem?_take] at hj
    split at hj
    ·rw [List.getElem?_drop] at hj
     rw [Nat.add_assoc]
     exact hc _ u hj
    ·cases hj
theorem kp_efieldP {h : Frag} {p : Value} {us : List Value} {T : TypeId} {k off k0 : Nat} {A' : Option Addr} {x : Operand} (ho : o.op = .fieldAddr T x k) (hg : wantE ops env o = some true) (hd : inB n0 o.dst = true) (hx : evalE env x = some p)
  (hT : (match P.underlying T with | some (.struct fs) => (match fs[k]? with | some f => (match (P.info? f.type).map (·.size) with | some (s + 1) => some f.offset | _ => none) | none => none) | _ => none) = some off) (hE : Elem h p us) (hp : Place A' k0 p) (hk : ∀ p', Elem h p' (us.drop off) → Place A' (k0 + off) p' → K ds A n0 (putE env o.dst p') l (wpPlan P ops Q S tail pl)) : K ds A n0 env l (wpPlan P ops Q S tail ((o, 0) :: pl)) := by
 intro a w ha hw
 obtain ⟨b1, off1, rfl, rfl⟩ := hp
 obtain ⟨b, of_, cur, T', z, he, hb, hc⟩ := hE
 cases he
 split at hT
 ·rename_i fs hfs
  split at hT
  ·rename_i f hf
   split at hT
   ·rename_i s hs
    cases hT
    cases hif : P.info? f.type with
    | none => rw [hif] at hs; cases hs
    | some i =>
     rw [hif] at hs
     have hsz : i.size = s + 1 := Option.some.inj hs
     refine plan_pure (v := .pointer (some ⟨b1, off1 + k0 + f.offset, none⟩)) (wantE_spec ha hg) (fun w' => ?_) (hk _ ⟨b1, off1 + k0 + f.offset, cur, T', z, rfl, hb, fun j u hj => ?_⟩ ⟨b1, off1, rfl, by rw [Nat.add_assoc]⟩ _ _ (ha.putE _ hd) hw)
     ·have hr : (Instr.fieldAt T (.pointer (some ⟨b1, off1 + k0, none⟩)) k).run P w' = .ok (.pointer (some ⟨b1, off1 + k0 + f.offset, none⟩)) w' := by
       simp [Instr.fieldAt, run_underlying hfs, hf, Instr.sureAddr, fieldPlace, sizeOf, typeInfo, hif, hsz, addr_add]
      unfold execOp
      simp only [ho, ha.eval hx, Sem.run_bind, hr, Result.andThen_ok, Sem.run_pure]
     ·rw [List.getElem?_drop] at hj
      rw [Nat.add_assoc]
      exact hc _ u hj
   ·cases hT
  ·cases hT
 ·cases hT
theorem Elem.cellS {h : Frag} {p : Value} {us : List Value} (he : Elem h p us) {w : World} (hw : h.On w) : ∃ a, p = .pointer (some a) ∧ ∀ j u, us[j]? = some u → w.cell? (a.add j) = some u := by
 obtain ⟨b, off, cur, T, z, rfl, hb, hc⟩ := he
 refine ⟨_, rfl, fun j u hj => ?_⟩
 rw [addr_add]
 have := hw b _ hb
 simp [World.cell?, this, hc j u hj]
theorem kp_eload1 {h : Frag} {p u : Value} {us : List Value} {T : TypeId} {x : Operand} (ho : o.op = .load T x) (hg : wantE ops env o = some true) (hd : inB n0 o.dst = true) (hx : evalE env x = some p) (hT : (match P.underlying T with | some (.struct _) => true | some (.array _ _) => true | some _ => false | none => true) = false) (hE : Elem h p (u :: us)) (hm : ∀ w, S w → h.On w)
  (hk : K ds A n0 (putE env o.dst u) l (wpPlan P ops Q S tail pl)) : K ds A n0 env l (wpPlan P ops Q S tail ((o, 3) :: pl)) := by
 intro a w ha hw
 refine plan_load (v := u) (wantE_spec ha hg) (fun w' hw' => ?_) (hk _ _ (ha.putE _ hd) hw)
 obtain ⟨ad, rfl, hc⟩ := hE.cellS (hm w' hw')
 have h0 := hc 0 u rfl
 rw [show ad.add 0 = ad from rfl] at h0
 have hr : (Instr.loadAt T (.pointer (some ad))).run P w' = .ok u w' := by
  simp [Instr.loadAt, Instr.sureAddr, loadVar, run_noagg w' hT, load, Sem.run, h0]
 unfold execOp
 simp only [ho, ha.eval hx, Sem.run_bind, hr, Result.andThen_ok, Sem.run_pure]
theorem kp_eloadN {h : Frag} {p : Value} {us : List Value} {T : TypeId} {x : Operand} (ho : o.op = .load T x) (hg : wantE ops env o = some true) (hd : inB n0 o.dst = true) (hx : evalE env x = some p) (hT : (match P.underlying T with | some (.struct _) => true | some (.array _ _) => true | _ => false) = true) (hs : (P.info? T).map (·.size) = some us.length) (hE : Elem h p us) (hm : ∀ w, S w → h.On w)
  (hk : K ds A n0 (putE env o.dst (.agg us.toArray)) l (wpPlan P ops Q S tail pl)) : K ds A n0 env l (wpPlan P ops Q S tail ((o, 3) :: pl)) := by
 intro a w ha hw
 refine plan_load (v := .agg us.toArray) (wantE_spec ha hg) (fun w' hw' => ?_) (hk _ _ (ha.putE _ hd) hw)
 obtain ⟨ad, rfl, hc⟩ := hE.cellS (hm w' hw')
 cases hif : P.info? T with
 | none => rw [hif] at hs; cases hs
 | some i =>
  rw [hif] at hs
  have hsz : i.size = us.length := Option.some.inj hs
  have hr : (Instr.loadAt T (.pointer (some ad))).run P w' = .ok (.agg us.toArray) w' := by
   simp [Instr.loadAt, Instr.sureAddr, loadVar, run_agg w' hT, sizeOf, typeInfo, hif, hsz, run_loadCells_list w' ad us hc]
  unfold execOp
  simp only [ho, ha.eval hx, Sem.run_bind, hr, Result.andThen_ok, Sem.run_pure]
end
end Go.Proofs.YtidiahkobapnjaaGreatDoor
namespace Go.Proofs.YtidiahkobapnjaaGreatDoor
open Go Go.RowKit
def eqF (P : Program) (xs ys : Array Value) : List Field → Option Bool
 | [] => some true
 | f :: fs =>
  match f.name == "_", P.underlying f.type, xs[f.offset]?, ys[f.offset]? with
  | false, some (.int _), some (.int k a), some (.int k' b) => (match decide (k = k') with | true => (eqF P xs ys fs).map fun r => (a == b) && r | false => none)
  | false, some .string, some (.string a), some (.string b) => (eqF P xs ys fs).map fun r => (a.toList == b.toList) && r
  | false, some .bool, some (.bool a), some (.bool b) => (eqF P xs ys fs).map fun r => (a == b) && r
  | _, _, _, _ => none
theorem run_part1 {P : Program} {t : TypeId} (w : World) {cs : Array Value} {off : Nat} {v : Value} (ht : ∀ fs, P.underlying t ≠ some (.struct fs)) (ha : ∀ n e, P.underlying t ≠ some (.array n e)) (hd : (P.underlying t).isSome = true) (h : cs[off]? = some v) : (part t cs off).run P w = .ok v w := by
 unfold part isAgg
 cases hq : P.underlying t with
 | none => rw [hq] at hd; cases hd
 | some d =>
  cases d <;> first | exact absurd hq (ht _) | exact absurd hq (ha _ _) | simp [run_underlying hq, h]
theorem eqF_run {P : Program} {xs ys : Array Value} (d : Nat) (w : World) : ∀ (fs : List Field) (r : Bool), eqF P xs ys fs = some r → (Op.eqFields (d + 1) xs ys fs).run P w = .ok r w
 | [], r, h => by simp only [eqF, Option.some.injEq] at h; subst h; rfl
 | f :: fs, r, h => by
  simp only [eqF] at h
  split at h
  ·rename_i k0 k a k' b hn hu hx hy
   split at h
   ·rename_i hk
    have hk := of_decide_eq_true hk
    subst hk
    obtain ⟨r', hr', rfl⟩ := Option.map_eq_some_iff.1 h
    have hn : f.name ≠ "_" := by simpa using hn
    have h1 := run_part1 (P := P) (t := f.type) w (by intro fs e; rw [hu] at e; cases e) (by intro n e' e; rw [hu] at e; cases e) (by rw [hu]; rfl) hx
    have h2 := run_part1 (P := P) (t := f.type) w (by intro fs e; rw [hu] at e; cases e) (by intro n e' e; rw [hu] at e; cases e) (by rw [hu]; rfl) hy
    have h3 := run_equalIn_int (P := P) w d f.type k k0 a b hu
    have ih := eqF_run d w fs r' hr'
    simp only [Op.eqFields, if_pos hn, Sem.run_bind, h1, h2, h3, Result.andThen_ok]
    cases hab : (a == b) with
    | true => simp only [Bool.not_true, Bool.false_eq_true, if_false, Bool.true_and]; exact ih
    | false => simp only [Bool.not_false, if_true, Bool.false_and, Sem.run_pure]
   ·cases h
  ·rename_i a b hn hu hx hy
   obtain ⟨r', hr', rfl⟩ := Option.map_eq_some_iff.1 h
   have hn : f.name ≠ "_" := by simpa using hn
   have h1 := run_part1 (P := P) (t := f.type) w (by intro fs e; rw [hu] at e; cases e) (by intro n e' e; rw [hu] at e; cases e) (by rw [hu]; rfl) hx
   have h2 := run_part1 (P := P) (t := f.type) w (by intro fs e; rw [hu] at e; cases e) (by intro n e' e; rw [hu] at e; cases e) (by rw [hu]; rfl) hy
   have h3 := run_equalIn_string (P := P) w d f.type a b hu
   have ih := eqF_run d w fs r' hr'
   simp only [Op.eqFields, if_pos hn, Sem.run_bind, h1, h2, h3, Result.andThen_ok]
   cases hab : (a.toList == b.toList) with
   | true => simp only [Bool.not_true, Bool.false_eq_true, if_false, Bool.true_and]; exact ih
   | false => simp only [Bool.not_false, if_true, Bool.false_and, Sem.run_pure]
  ·rename_i a b hn hu hx hy
   obtain ⟨r', hr', rfl⟩ := Option.map_eq_some_iff.1 h
   have hn : f.name ≠ "_" := by simpa using hn
   have h1 := run_part1 (P := P) (t := f.type) w (by intro fs e; rw [hu] at e; cases e) (by intro n e' e; rw [hu] at e; cases e) (by rw [hu]; rfl) hx
   have h2 := run_part1 (P := P) (t := f.type) w (by intro fs e; rw [hu] at e; cases e) (by intro n e' e; rw [hu] at e; cases e) (by rw [hu]; rfl) hy
   have h3 := run_equalIn_bool' (P := P) w d f.type a b hu
   have ih := eqF_run d w fs r' hr'
   simp only [Op.eqFields, if_pos hn, Sem.run_bind, h1, h2, h3, Result.andThen_ok]
   cases hab : (a == b) with
   | true => simp only [Bool.not_true, Bool.false_eq_true, if_false, Bool.true_and]; exact ih
   | false => simp only [Bool.not_false, if_true, Bool.false_and, Sem.run_pure]
  ·cases h
def fieldsP (P : Program) (t : TypeId) : Option (List Field) :=
 match P.underlying t with
 | some (.struct fs) => some fs.toList
 | _ => none
section
variable {A : World} {ds : List Deferred} {n : Nat} {env env' : Env} {l l' X : List Frag} {q : Act → World → Prop} {P : Program} {Q : Exit → Act → World → Prop} {ops : Array Oper} {os rest : List Oper} {o : Oper}
theorem run_eqS {t : TypeId} {xs ys : Array Value} {r : Bool} {x y : Operand} {ty : TypeId} (hf : ((fieldsP P t).bind (eqF P xs ys)) = some r) (hp : P.stoodInHeld t = false) (hm : P.eqGuardType P.depth t = false) (w : World) :
  (Op.equal t (.agg xs) (.agg ys)).run P w = .ok r w := by
 unfold fieldsP at hf
 cases hu : P.underlying t with
 | none => rw [hu] at hf; cases hf
 | some d =>
  rw [hu] at hf
  cases d with
  | struct fs =>
   have hfs : P.fieldsOf t = fs := by unfold Program.fieldsOf; rw [hu]
   have := run_equalIn_struct (P := P) w 9999 t xs ys (by rw [hfs]; exact hu) hp
   rw [hfs] at this
   show (Op.equalIn 10000 t _ _).run P w = _
   rw [this]
   exact eqF_run 9998 w fs.toList r hf
  | _ => cases hf
theorem kl_eqS {bo : BinOp} {t t2 : TypeId} {xs ys : Array Value} {r : Bool} {x y : Operand} (neg : Bool) (hb : (match bo, neg with | .eql, false => true | .neq, true => true | _, _ => false) = true) (ho : o.op = .binOp bo t x y t2) (hg : wantE ops env o = some true) (hd : inB n o.dst = true) (hx : evalE env x = some (.agg xs)) (hy : evalE env y = some (.agg ys))
  (hp : P.stoodInHeld t = false) (hm : P.eqGuardType P.depth t = false) (hf : ((fieldsP P t).bind (eqF P xs ys)) = some r) (h : K ds A n (putE env o.dst (.bool (cond neg (!r) r))) l (wpList P ops Q rest)) : K ds A n env l (wpList P ops Q (o :: rest)) :=
 kl_op hg fun a w ha hw => by
  have h1 := run_eqS (P := P) (ty := 0) (x := x) (y := y) hf hp hm w
  have h2 : ∀ bo, (eqGuard bo t x y (.agg xs) (.agg ys)).run P w = .ok () w := fun bo => run_eqGuard_agg w bo t x y xs ys hm
  unfold Oper.wp execOp
  simp only [ho, ha.eval hx, ha.eval hy, Sem.run_bind, h2, Result.andThen_ok]
  split at hb
  ·simp only [binOp, Sem.run_bind, h1, Result.andThen_ok, Sem.run_pure]
   exact h _ _ (ha.putE _ hd) hw
  ·simp only [binOp, Sem.run_bind, h1, Result.andThen_ok, Sem.run_pure]
   exact h _ _ (ha.putE _ hd) hw
  ·cases hb
end
end Go.Proofs.YtidiahkobapnjaaGreatDoor
namespace Go.Proofs.YtidiahkobapnjaaGreatDoor
open Go Go.RowKit
def Frag.or (f g : Frag) : Frag := fun k => match f k with | some o => some o | none => g k
theorem Frag.or_none (f : Frag) : f.or none_ = f := by
 funext k
 unfold Frag.or none_
 cases f k <;> rfl
theorem Frag.or_assoc (f g h : Frag) : (f.or g).or h = f.or (g.or h) := by
 funext k
 unfold Frag.or
 cases f k <;> rfl
theorem Frag.or_left {f g : Frag} {k : Nat} {o : Obj} (h : f k = some o) : (f.or g) k = some o := by simp [Frag.or, h]
theorem Frag.or_right {f g : Frag} (ha : f.Apart g) {k : Nat} {o : Obj} (h : g k = some o) : (f.or g) k = some o := by
 rcases ha k with h' | h'
 ·simp [Frag.or, h', h]
 ·rw [h'] at h; cases h
theorem Frag.or_some {f g : Frag} {k : Nat} {o : Obj} (h : (f.or g) k = some o) : f k = some o ∨ g k = some o := by
 unfold Frag.or at h
 split at h
 ·rename_i o' ho; cases h; exact .inl ho
 ·exact .inr h
theorem Frag.Apart.orl {f g h : Frag} (h1 : f.Apart h) (h2 : g.Apart h) : (f.or g).Apart h := fun k => by
 rcases h1 k with e | e
 ·rcases h2 k with e' | e'
  ·exact .inl (by simp [Frag.or, e, e'])
  ·exact .inr e'
 ·exact .inr e
theorem Frag.Apart.of_orl {f g h : Frag} (hfg : f.Apart g) (h1 : (f.or g).Apart h) : f.Apart h ∧ g.Apart h := by
 refine ⟨fun k => ?_, fun k => ?_⟩
 ·rcases h1 k with e | e
  ·left
   cases hf : f k with
   | none => rfl
   | some o => rw [Frag.or_left hf] at e; cases e
  ·exact .inr e
 ·rcases h1 k with e | e
  ·left
   cases hg : g k with
   | none => rfl
   | some o => rw [Frag.or_right hfg hg] at e; cases e
  ·exact .inr e
theorem Frag.none_apart (f : Frag) : none_.Apart f := fun _ => .inl rfl
theorem Frag.apart_none (f : Frag) : f.Apart none_ := fun _ => .inr rfl
def Frag.In (f g : Frag) : Prop := ∀ k o, f k = some o → g k = some o
theorem Frag.In.refl (f : Frag) : f.In f := fun _ _ h => h
theorem Frag.In.trans {f g h : Frag} (h1 : f.In g) (h2 : g.In h) : f.In h := fun k o e => h2 k o (h1 k o e)
theorem Frag.in_left (f g : Frag) : f.In (f.or g) := fun _ _ h => Frag.or_left h
theorem Frag.in_right {f g : Frag} (h : f.Apart g) : g.In (f.or g) := fun _ _ e => Frag.or_right h e
theorem Sat.or_iff {f g : Frag} {l : List Frag} {w : World} (ha : f.Apart g) : Sat (f.or g :: l) w ↔ Sat (f :: g :: l) w := by
 constructor
 ·rintro ⟨h1, h2, h3⟩
  refine ⟨fun k o e => h1 k o (Frag.or_left e), fun x hx => ?_, fun k o e => h1 k o (Frag.or_right ha e), fun x hx => (Frag.Apart.of_orl ha (h2 x hx)).2, h3⟩
  rcases List.mem_cons.1 hx with rfl | hx
  ·exact ha
  ·exact (Frag.Apart.of_orl ha (h2 x hx)).1
 ·rintro ⟨h1, h2, h3, h4, h5⟩
  refine ⟨fun k o e => (Frag.or_some e).elim (h1 k o) (h3 k o), fun x hx => (h2 x (List.mem_cons_of_mem _ hx)).orl (h4 x hx), h5⟩
theorem St.join {A w : World} {f g : Frag} {l : List Frag} (h : St A (f :: g :: l) w) : f.Apart g ∧ St A (f.or g :: l) w := by
 have ha := h.sat.2.1 g (List.mem_cons_self ..)
 exact ⟨ha, (Sat.or_iff ha).2 h.sat, h.os, h.tape, h.output, h.size⟩
theorem St.split {A w : World} {f g : Frag} {l : List Frag} (ha : f.Apart g) (h : St A (f.or g :: l) w) : St A (f :: g :: l) w := ⟨(Sat.or_iff ha).1 h.sat, h.os, h.tape, h.output, h.size⟩
structure Rich (α : Type) where
 sz : Nat
 own : α → Frag → List Value → Prop
 rd : α → Frag → List Value → Prop
 len : ∀ {x H cs}, own x H cs → cs.length = sz ∧ ∀ u ∈ cs, u.oneCell' = true
 lenr : ∀ {x H cs}, rd x H cs → cs.length = sz ∧ ∀ u ∈ cs, u.oneCell' = true
 toRd : ∀ {x H H' cs}, own x H cs → H.In H' → rd x H' cs
section
variable {α : Type} (R : Rich α)
def RowI : List α → Frag → List Value → Prop
 | [], _, cs => cs = []
 | x :: l, H, cs => ∃ H1 H2 c1 c2, H = H1.or H2 ∧ H1.Apart H2 ∧ cs = c1 ++ c2 ∧ R.own x H1 c1 ∧ RowI l H2 c2
def RowR : List α → Frag → List Value → Prop
 | [], _, cs => cs = []
 | x :: l, H, cs => ∃ c1 c2, cs = c1 ++ c2 ∧ R.rd x H c1 ∧ RowR l H c2
variable {R}
theorem RowI.toRd : ∀ {l : List α} {H H' : Frag} {cs : List Value}, RowI R l H cs → H.In H' → RowR R l H' cs
 | [], _, _, _, h, _ => h
 | x :: l, _, H', _, ⟨H1, H2, c1, c2, rfl, ha, rfl, h1, h2⟩, hi => ⟨c1, c2, rfl, R.toRd h1 ((Frag.in_left H1 H2).trans hi), h2.toRd ((Frag.in_right ha).trans hi)⟩
theorem RowI.len : ∀ {l : List α} {H : Frag} {cs : List Value}, RowI R l H cs → cs.length = l.length * R.sz ∧ ∀ u ∈ cs, u.oneCell' = true
 | [], _, _, h => by cases h; simp
 | x :: l, _, _, ⟨H1, H2, c1, c2, _, _, rfl, h1, h2⟩ => by
  obtain ⟨e1, e2⟩ := R.len h1
  obtain ⟨e3, e4⟩ := h2.len
  refine ⟨by rw [List.length_append, e1, e3, List.length_cons, Nat.add_mul, Nat.one_mul, Nat.add_comm], fun u hu => (List.mem_append.1 hu).elim (e2 u) (e4 u)⟩
theorem RowR.len : ∀ {l : List α} {H : Frag} {cs : List Value}, RowR R l H cs → cs.length = l.length * R.sz ∧ ∀ u ∈ cs, u.oneCell' = true
 | [], _, _, h => by cases h; simp
 | x :: l, _, _, ⟨c1, c2, rfl, h1, h2⟩ => by
  obtain ⟨e1, e2⟩ := R.lenr h1
  obtain ⟨e3, e4⟩ := h2.len
  refine ⟨by rw [List.length_append, e1, e3, List.length_cons, Nat.add_mul, Nat.one_mul, Nat.add_comm], fun u hu => (List.mem_append.1 hu).elim (e2 u) (e4 u)⟩
theorem RowI.one {x : α} {H : Frag} {cs : List Value} (h : R.own x H cs) : RowI R [x] H cs := ⟨H, none_, cs, [], (Frag.or_none H).symm, Frag.apart_none H, (List.append_nil _).symm, h, rfl⟩
theorem RowI.cons {x : α} {l : List α} {H1 H2 : Frag} {c1 c2 : List Value} (h : R.own x H1 c1) (ha : H1.Apart H2) (hr : RowI R l H2 c2) : RowI R (x :: l) (H1.or H2) (c1 ++ c2) := ⟨H1, H2, c1, c2, rfl, ha, rfl, h, hr⟩
theorem RowI.append : ∀ {l m : List α} {H1 H2 : Frag} {c1 c2 : List Value}, RowI R l H1 c1 → RowI R m H2 c2 → H1.Apart H2 → ∃ H, RowI R (l ++ m) H (c1 ++ c2) ∧ ∀ f, (H1.or H2).Apart f → H.Apart f ∧ H.In (H1.or H2)
 | [], m, H1, H2, c1, c2, h1, h2, ha => by cases h1; exact ⟨H2, h2, fun f hf => ⟨(Frag.Apart.of_orl ha hf).2, Frag.in_right ha⟩⟩
 | x :: l, m, _, H2, _, c2, ⟨K1, K2, d1, d2, rfl, hk, rfl, g1, g2⟩, h2, ha => by
  obtain ⟨a1, a2⟩ := Frag.Apart.of_orl hk ha
  obtain ⟨H, hH, hf⟩ := RowI.append g2 h2 a2
  have hka := hf K1 ((hk.symm).orl a1.symm)
  refine ⟨K1.or H, ⟨K1, H, d1, d2 ++ c2, rfl, hka.1.symm, by rw [List.append_assoc], g1, hH⟩, fun f hff => ?_⟩
  rw [Frag.or_assoc] at hff ⊢
  have hk2 : K1.Apart (K2.or H2) := ((hk.symm).orl a1.symm).symm
  obtain ⟨b1, b2⟩ := Frag.Apart.of_orl hk2 hff
  refine ⟨b1.orl (hf f b2).1, fun k o e => ?_⟩
  rcases Frag.or_some e with e | e
  ·exact Frag.or_left e
  ·exact Frag.or_right hk2 ((hf f b2).2 k o e)
theorem RowI.append' {l m : List α} {H1 H2 : Frag} {c1 c2 : List Value} (h1 : RowI R l H1 c1) (h2 : RowI R m H2 c2) (ha : H1.Apart H2) : RowI R (l ++ m) (H1.or H2) (c1 ++ c2) := by
 induction l generalizing H1 c1 with
 | nil =>
  cases h1
  cases m with
  | nil => exact h2
  | cons y m =>
   obtain ⟨K1, K2, d1, d2, rfl, hk, rfl, g1, g2⟩ := h2
   -- nothing is asked of H1: it goes with the last of the elements
   refine ⟨K1, H1.or K2, d1, d2, ?_, ?_, rfl, g1, ?_⟩
   ·obtain ⟨b1, b2⟩ := Frag.Apart.of_orl hk ha.symm
    funext k
    rcases b1 k with e | e
    ·simp [Frag.or, e]
    ·cases h : K1 k <;> simp [Frag.or, e, h]
   ·obtain ⟨b1, b2⟩ := Frag.Apart.of_orl hk ha.symm
    exact ((b1.symm).orl hk.symm).symm
   ·have : ∀ {l : List α} {H H1 : Frag} {c : List Value}, RowI R l H c → H1.Apart H → RowI R l (H1.or H) c := by
     intro l
     induction l with
     | nil => intro H H1 c h _; exact h
     | cons z l ih =>
      intro H H1 c h hap
      obtain ⟨L1, L2, e1, e2, rfl, hl, rfl, f1, f2⟩ := h
      obtain ⟨b1, b2⟩ := Frag.Apart.of_orl hl hap.symm
      refine ⟨L1, H1.or L2, e1, e2, ?_, ((b1.symm).orl hl.symm).symm, rfl, f1, ih f2 b2.symm⟩
      funext k
      rcases b1 k with e | e
      ·simp [Frag.or, e]
      ·cases h : L1 k <;> simp [Frag.or, e, h]
    exact this g2 (Frag.Apart.of_orl hk ha.symm).2.symm
 | cons x l ih =>
  obtain ⟨K1, K2, d1, d2, rfl, hk, rfl, g1, g2⟩ := h1
  obtain ⟨a1, a2⟩ := Frag.Apart.of_orl hk ha
  exact ⟨K1, K2.or H2, d1, d2 ++ c2, Frag.or_assoc .., ((hk.symm).orl a1.symm).symm, by rw [List.append_assoc], g1, ih g2 a2⟩
theorem RowR.at_ : ∀ {l : List α} {H : Frag} {cs : List Value}, RowR R l H cs → ∀ (k : Nat) (x : α), l[k]? = some x → R.rd x H ((cs.drop (k * R.sz)).take R.sz)
 | y :: l, H, _, ⟨c1, c2, rfl, h1, h2⟩, 0, x, hx => by
  simp only [List.getElem?_cons_zero, Option.some.injEq] at hx
  subst hx
  rw [Nat.zero_mul, List.drop_zero, ← (R.lenr h1).1, List.take_left]
  exact h1
 | y :: l, H, _, ⟨c1, c2, rfl, h1, h2⟩, k + 1, x, hx => by
  rw [List.getElem?_cons_succ] at hx
  rw [Nat.add_mul, Nat.one_mul, Nat.add_comm, ← List.drop_drop, show (c1 ++ c2).drop R.sz = c2 by rw [← (R.lenr h1).1, List.drop_left]]
  exact h2.at_ k x hx
theorem RowR.drop : ∀ {l : List α} {H : Frag} {cs : List Value} (k : Nat), RowR R l H cs → RowR R (l.drop k) H (cs.drop (k * R.sz))
 | l, H, cs, 0, h => by simpa using h
 | [], H, cs, k + 1, h => by cases h; simp [RowR]
 | y :: l, H, _, k + 1, ⟨c1, c2, rfl, h1, h2⟩ => by
  rw [List.drop_succ_cons, Nat.add_mul, Nat.one_mul, Nat.add_comm, ← List.drop_drop, show (c1 ++ c2).drop R.sz = c2 by rw [← (R.lenr h1).1, List.drop_left]]
  exact h2.drop k
theorem RowR.take : ∀ {l : List α} {H : Frag} {cs : List Value} (k : Nat), RowR R l H cs → RowR R (l.take k) H (cs.take (k * R.sz))
 | l, H, cs, 0, h => by simp [RowR]
 | [], H, cs, k + 1, h => by cases h; simp [RowR]
 | y :: l, H, _, k + 1, ⟨c1, c2, rfl, h1, h2⟩ => by
  rw [List.take_succ_cons, Nat.add_mul, Nat.one_mul, Nat.add_comm, ← (R.lenr h1).1, List.take_length_add_append, (R.lenr h1).1]
  exact ⟨c1, _, rfl, h1, h2.take k⟩
variable (R)
def OwnR (T : TypeId) (h : Frag) (v : Value) (l : List α) : Prop := ∃ Ho Hi cs, h = Ho.or Hi ∧ Ho.Apart Hi ∧ Own T R.sz Ho v l.length cs ∧ RowI R l Hi cs
def RdR (h : Frag) (v : Value) (l : List α) : Prop := ∃ cs, Rd R.sz h v l.length cs ∧ RowR R l h cs
variable {R}
theorem Rd.mono {sz : Nat} {h h' : Frag} {v : Value} {n : Nat} {cs : List Value} (hr : Rd sz h v n cs) (hi : h.In h') : Rd sz h' v n cs := by
 obtain ⟨h1, h2, h3⟩ := hr
 refine ⟨h1, h2, ?_⟩
 rcases h3 with h3 | ⟨b, off, cap, cur, T, z, h4, h5, h6⟩
 ·exact .inl h3
 ·exact .inr ⟨b, off, cap, cur, T, z, h4, hi _ _ h5, h6⟩
theorem OwnR.rdIn {T : TypeId} {h h' : Frag} {v : Value} {l : List α} (ho : OwnR R T h v l) (hi : h.In h') : RdR R h' v l := by
 obtain ⟨Ho, Hi, cs, rfl, ha, h1, h2⟩ := ho
 exact ⟨cs, h1.rd.mono ((Frag.in_left Ho Hi).trans hi), h2.toRd ((Frag.in_right ha).trans hi)⟩
theorem OwnR.rd {T : TypeId} {h : Frag} {v : Value} {l : List α} (ho : OwnR R T h v l) : RdR R h v l := ho.rdIn (.refl _)
theorem OwnR.nil (R : Rich α) (T : TypeId) (h : Frag) : OwnR R T h (.slice none 0 0) [] := ⟨none_, h, [], rfl, Frag.none_apart h, Own.nil T R.sz none_, rfl⟩
theorem RdR.nil (R : Rich α) (h : Frag) : RdR R h (.slice none 0 0) [] := (OwnR.nil R 0 h).rd
theorem OwnR.val {T : TypeId} {h : Frag} {v : Value} {l : List α} (ho : OwnR R T h v l) : ∃ a c, v = .slice a l.length c := by
 obtain ⟨_, _, _, _, _, h1, _⟩ := ho
 exact h1.val
theorem RdR.val {h : Frag} {v : Value} {l : List α} (ho : RdR R h v l) : ∃ a c, v = .slice a l.length c := by
 obtain ⟨_, h1, _⟩ := ho
 exact h1.val
end
section
variable {A : World} {ds : List Deferred} {n0 : Nat} {env env' : Env} {l l' X : List Frag} {q : Act → World → Prop} {P : Program} {Q : Exit → Act → World → Prop} {ops : Array Oper} {os rest : List Oper} {o : Oper} {α : Type} {R : Rich α}
theorem k_or {f g : Frag} (h : f.Apart g → K ds A n0 env (f.or g :: l) q) : K ds A n0 env (f :: g :: l) q := fun a w ha hw => h hw.join.1 a w ha hw.join.2
theorem k_split {f g : Frag} (ha' : f.Apart g) (h : K ds A n0 env (f :: g :: l) q) : K ds A n0 env (f.or g :: l) q := fun a w ha hw => h a w ha (hw.split ha')
theorem k_row {b n : Nat} {T : TypeId} {cs : List Value} {ca : Array Value} {H : Frag} {xs : List α} (hr : RowI R xs H cs) (hc : cs.toArray = ca) (hn : xs.length = n) (hm : n ≤ maxLen) (hk : ∀ h, OwnR R T h (.slice (some ⟨b, 0, none⟩) n n) xs → K ds A n0 env (h :: l) q) :
  K ds A n0 env (blk b (.cells ca T (0, 0)) :: H :: l) q := by
 subst hc hn
 refine k_or fun ha => hk _ ⟨_, H, cs, rfl, ha, Own.blk T R.sz b _ cs hr.len.1 (List.all_eq_true.2 hr.len.2) hm, hr⟩
theorem kl_apdR {T TS U : TypeId} {sz bytes : Nat} {i : TypeInfo} {z : Value} {h hy : Frag} {v y : Value} {xs ys xs' : List α} {s x : Operand} (ho : o.op = .call { callee := .builtin .append, args := #[s, x], argTypes := #[TS, U] })
  (he : ElemTy P TS T sz bytes i z) (hsz : sz = R.sz) (hg : wantE ops env o = some true) (hd : inB n0 o.dst = true) (hs : evalE env s = some v) (hx : evalE env x = some y) (hu : noInt P U = true) (hap : apd bytes xs ys = some xs') (hO : OwnR R T h v xs) (hY : OwnR R T hy y ys)
  (hk : ∀ h' a' c', OwnR R T h' (.slice a' xs'.length c') xs' → K ds A n0 (putE env o.dst (.slice a' xs'.length c')) (h' :: l) (wpList P ops Q rest)) : K ds A n0 env (h :: hy :: l) (wpList P ops Q (o :: rest)) := by
 subst hsz
 obtain ⟨hb, rfl⟩ := apd_spec hap
 obtain ⟨Ho, Hi, cs, rfl, ha, h1, h2⟩ := hO
 obtain ⟨Yo, Yi, ds, rfl, hya, h3, h4⟩ := hY
 refine k_split ha ?_
 refine K.mv2 (k_split hya ?_)
 -- Yo :: Yi :: Ho :: Hi :: l
 refine K.perm (l' := Ho :: Yo :: Hi :: Yi :: l) ?_ ?_
 ·refine kl_append ho he hg hd hs hx hu h1 (fun w hw => Rd.src h3.rd hw (.tail _ (.head _))) h4.len.1 h4.len.2 hb fun h' v' hO' => ?_
  refine K.mv1 (K.drop ?_)
  refine K.mv2 (K.mv2 (k_or fun ha2 => K.mv1 (k_or fun ha3 => ?_)))
  have hN : OwnR R T (h'.or (Hi.or Yi)) v' (xs ++ ys) := ⟨h', _, cs ++ ds, rfl, ha3, by rw [List.length_append]; exact hO', h2.append' h4 ha2⟩
  obtain ⟨a', c', rfl⟩ := hN.val
  exact hk _ a' c' hN
 ·have p1 : (Yo :: Yi :: Ho :: Hi :: l).Perm (Ho :: Yo :: Yi :: Hi :: l) := ((List.Perm.swap Ho Yi (Hi :: l)).cons Yo).trans (List.Perm.swap Ho Yo (Yi :: Hi :: l))
  exact p1.trans (((List.Perm.swap Hi Yi l).cons Yo).cons Ho)
theorem kl_elemR {xs : List α} {a : α} {ix : Int} {kd : IntKind} {h : Frag} {A' : Option Addr} {c : Nat} {T TS : TypeId} {x y : Operand} (ho : o.op = .indexAddr TS x y) (hg : wantE ops env o = some true) (hd : inB n0 o.dst = true) (hx : evalE env x = some (.slice A' xs.length c)) (hy : evalE env y = some (.int kd ix))
  (h1 : P.underlying TS = some (.slice T)) (h2 : (P.info? T).map (·.size) = some R.sz) (hi : lIdx xs ix = some a) (hR : RdR R h (.slice A' xs.length c) xs) (hk : ∀ p us, R.rd a h us → Elem h p us → Place A' (ix.toNat * R.sz) p → K ds A n0 (putE env o.dst p) l (wpList P ops Q rest)) : K ds A n0 env l (wpList P ops Q (o :: rest)) := by
 refine kl_op hg fun a' w ha hw => ?_
 obtain ⟨hi0, hi1, hi2⟩ := lIdx_spec hi
 obtain ⟨cs, ⟨hl, _, hc⟩, hrow⟩ := hR
 cases hif : P.info? T with
 | none => rw [hif] at h2; cases h2
 | some i =>
  rw [hif] at h2
  have hsz : i.size = R.sz := Option.some.inj h2
  rcases hc with ⟨_, h0⟩ | ⟨b, off, cap, cur, T', z, he, hb, _, _, hc⟩
  ·omega
  ·cases he
   have hr : (Instr.indexAt TS (.slice (some ⟨b, off, none⟩) xs.length c) (.int kd ix)).run P w = .ok (.pointer (some ⟨b, off + ix.toNat * R.sz, none⟩)) w := by
    simp [Instr.indexAt, run_underlying h1, asIntOf, hi0, hi1, sizeOf, typeInfo, hif, hsz, addr_add]
   unfold Oper.wp execOp
   simp only [ho, ha.eval hx, ha.eval hy, Sem.run_bind, hr, Result.andThen_ok, Sem.run_pure]
   refine hk _ _ (hrow.at_ ix.toNat a hi2) ⟨b, off + ix.toNat * R.sz, cur, T', z, rfl, hb, fun j u hj => ?_⟩ ⟨b, off, rfl, rfl⟩ _ _ (ha.putE _ hd) hw
   rw [List.getElem?_take] at hj
   split at hj
   ·rw [List.getElem?_drop] at hj
    rw [Nat.add_assoc]
    exact hc _ u hj
   ·cases hj
end
inductive Tree where
 | mk (kind : Int) (text : ByteArray) (n at_ : Int) (kids : List Tree)
def Tree.kind : Tree → Int | .mk k _ _ _ _ => k
def Tree.text : Tree → ByteArray | .mk _ t _ _ _ => t
def Tree.n : Tree → Int | .mk _ _ n _ _ => n
def Tree.at_ : Tree → Int | .mk _ _ _ a _ => a
def Tree.kids : Tree → List Tree | .mk _ _ _ _ l => l
section
variable (T : TypeId)
mutual
def treeO : Tree → Frag → List Value → Prop
 | .mk k t n a l, H, cs => ∃ A c, cs = [.int .i64 k, .string t, .int .i64 n, .int .i64 a, .slice A l.length c] ∧ ∃ Ho Hi ds, H = Ho.or Hi ∧ Ho.Apart Hi ∧ Own T 5 Ho (.slice A l.length c) l.length ds ∧ treeOs l Hi ds
def treeOs : List Tree → Frag → List Value → Prop
 | [], _, cs => cs = []
 | x :: l, H, cs => ∃ H1 H2 c1 c2, H = H1.or H2 ∧ H1.Apart H2 ∧ cs = c1 ++ c2 ∧ treeO x H1 c1 ∧ treeOs l H2 c2
end
mutual
def treeR : Tree → Frag → List Value → Prop
 | .mk k t n a l, H, cs => ∃ A c, cs = [.int .i64 k, .string t, .int .i64 n, .int .i64 a, .slice A l.length c] ∧ ∃ ds, Rd 5 H (.slice A l.length c) l.length ds ∧ treeRs l H ds
def treeRs : List Tree → Frag → List Value → Prop
 | [], _, cs => cs = []
 | x :: l, H, cs => ∃ c1 c2, cs = c1 ++ c2 ∧ treeR x H c1 ∧ treeRs l H c2
end
mutual
theorem treeO_rd : ∀ (x : Tree) {H H' : Frag} {cs : List Value}, treeO T x H cs → H.In H' → treeR x H' cs
 | .mk k t n a l, H, H', cs, h, hi => by
  simp only [treeO] at h
  obtain ⟨A, c, rfl, Ho, Hi, ds, rfl, ha, h1, h2⟩ := h
  simp only [treeR]
  exact ⟨A, c, rfl, ds, h1.rd.mono ((Frag.in_left Ho Hi).trans hi), treeOs_rd l h2 ((Frag.in_right ha).trans hi)⟩
theorem treeOs_rd : ∀ (l : List Tree) {H H' : Frag} {cs : List Value}, treeOs T l H cs → H.In H' → treeRs l H' cs
 | [], H, H', cs, h, hi => by simp only [treeOs] at h; simp only [treeRs]; exact h
 | x :: l, H, H', cs, h, hi => by
  simp only [treeOs] at h
  obtain ⟨H1, H2, c1, c2, rfl, ha, rfl, h1, h2⟩ := h
  simp only [treeRs]
  exact ⟨c1, c2, rfl, treeO_rd x h1 ((Frag.in_left H1 H2).trans hi), treeOs_rd l h2 ((Frag.in_right ha).trans hi)⟩
end
theorem treeO_len {x : Tree} {H : Frag} {cs : List Value} (h : treeO T x H cs) : cs.length = 5 ∧ ∀ u ∈ cs, u.oneCell' = true := by
 cases x
 simp only [treeO] at h
 obtain ⟨A, c, rfl, _⟩ := h
 exact ⟨rfl, List.all_eq_true.1 rfl⟩
theorem treeR_len {x : Tree} {H : Frag} {cs : List Value} (h : treeR x H cs) : cs.length = 5 ∧ ∀ u ∈ cs, u.oneCell' = true := by
 cases x
 simp only [treeR] at h
 obtain ⟨A, c, rfl, _⟩ := h
 exact ⟨rfl, List.all_eq_true.1 rfl⟩
def rTree : Rich Tree := ⟨5, treeO T, treeR, treeO_len T, treeR_len, fun h hi => treeO_rd T _ h hi⟩
theorem treeOs_row : ∀ (l : List Tree) {H : Frag} {cs : List Value}, treeOs T l H cs ↔ RowI (rTree T) l H cs
 | [], _, _ => by simp only [treeOs, RowI]
 | x :: l, H, cs => by
  simp only [treeOs, RowI]
  constructor
  ·rintro ⟨H1, H2, c1, c2, e1, e2, e3, h1, h2⟩; exact ⟨H1, H2, c1, c2, e1, e2, e3, h1, (treeOs_row l).1 h2⟩
  ·rintro ⟨H1, H2, c1, c2, e1, e2, e3, h1, h2⟩; exact ⟨H1, H2, c1, c2, e1, e2, e3, h1, (treeOs_row l).2 h2⟩
theorem treeRs_row : ∀ (l : List Tree) {H : Frag} {cs : List Value}, treeRs l H cs ↔ RowR (rTree T) l H cs
 | [], _, _ => by simp only [treeRs, RowR]
 | x :: l, H, cs => by
  simp only [treeRs, RowR]
  constructor
  ·rintro ⟨c1, c2, e3, h1, h2⟩; exact ⟨c1, c2, e3, h1, (treeRs_row l).1 h2⟩
  ·rintro ⟨c1, c2, e3, h1, h2⟩; exact ⟨c1, c2, e3, h1, (treeRs_row l).2 h2⟩
theorem treeO_mk {k n a : Int} {t : ByteArray} {l : List Tree} {H : Frag} {A : Option Addr} {c : Nat} (h : OwnR (rTree T) T H (.slice A l.length c) l) :
  (rTree T).own (.mk k t n a l) H [.int .i64 k, .string t, .int .i64 n, .int .i64 a, .slice A l.length c] := by
 obtain ⟨Ho, Hi, ds, h1, h2, h3, h4⟩ := h
 show treeO T _ _ _
 simp only [treeO]
 exact ⟨A, c, rfl, Ho, Hi, ds, h1, h2, h3, (treeOs_row T l).2 h4⟩
theorem treeR_mk {x : Tree} {H : Frag} {cs : List Value} (h : (rTree T).rd x H cs) : ∃ A c, cs = [.int .i64 x.kind, .string x.text, .int .i64 x.n, .int .i64 x.at_, .slice A x.kids.length c] ∧ RdR (rTree T) H (.slice A x.kids.length c) x.kids := by
 cases x with
 | mk k t n a l =>
  have h : treeR _ _ _ := h
  simp only [treeR] at h
  obtain ⟨A, c, rfl, ds, h1, h2⟩ := h
  exact ⟨A, c, rfl, ds, h1, (treeRs_row T l).1 h2⟩
end
inductive PR (α : Type) (ε : Type := Int) where
 | ok (a : α)
 | bad (at_ : ε)
def PR.bind {α β ε : Type} (x : Option (PR α ε)) (f : α → Option (PR β ε)) : Option (PR β ε) :=
 match x with
 | none => none
 | some (.ok a) => f a
 | some (.bad i) => some (.bad i)
theorem prBind {α β ε : Type} {x : Option (PR α ε)} {f : α → Option (PR β ε)} {r : PR β ε} (h : PR.bind x f = some r) : (∃ i, x = some (.bad i) ∧ r = .bad i) ∨ ∃ a, x = some (.ok a) ∧ f a = some r := by
 unfold PR.bind at h
 split at h
 ·cases h
 ·exact .inr ⟨_, rfl, h⟩
 ·exact .inl ⟨_, rfl, (Option.some.inj h).symm⟩
def PR.Post {α ε : Type} (fl : ε → Value) (D : α → Ending → List Frag → Prop) : PR α ε → Ending → List Frag → Prop
 | .ok a, e, l1 => D a e l1
 | .bad i, e, l1 => e = .panicked [{ v := fl i, recovered := false }] ∧ l1 = []
theorem PR.okI {α ε : Type} {fl : ε → Value} {D : α → Ending → List Frag → Prop} {a : α} {e : Ending} {l1 : List Frag} (h : D a e l1) : PR.Post fl D (.ok a) e l1 := h
theorem PR.badI {α ε : Type} {fl : ε → Value} {D : α → Ending → List Frag → Prop} {i : ε} : PR.Post fl D (.bad i) (.panicked [{ v := fl i, recovered := false }]) [] := ⟨rfl, rfl⟩
theorem nx_pan {A : World} {ds : List Deferred} {n0 : Nat} {env : Env} {d : Option Nat} {X : List Frag} {next : Act → World → Prop} {Q : Exit → Act → World → Prop} {c : List PanicEntry} {l1 : List Frag} (h : K ds A n0 env (l1 ++ X) (Q (.panic c))) : Nx ds A n0 env d X next Q (.panicked c) l1 := h
end Go.Proofs.YtidiahkobapnjaaGreatDoor
namespace Go.Proofs.YtidiahkobapnjaaGreatDoor
open Go Go.RowKit
def e49 (x : Int × ByteArray × Int × Int) : List Value := [.int .i64 x.1, .string x.2.1, .int .i64 x.2.2.1, .int .i64 x.2.2.2]
theorem e49_ok : EncOk e49 4 := ⟨fun _ => rfl, fun _ => rfl⟩
end Go.Proofs.YtidiahkobapnjaaGreatDoor
namespace Go.Proofs.YtidiahkobapnjaaGreatDoor
open Go Go.RowKit
section
variable {A : World} {ds : List Deferred} {n0 : Nat} {env env' : Env} {l l' X : List Frag} {q : Act → World → Prop} {P : Program} {Q : Exit → Act → World → Prop} {ops : Array Oper} {os rest : List Oper} {o : Oper} {α : Type} {R : Rich α}
variable {S : World → Prop} {tail : Act → World → Prop} {pl : List (Oper × Nat)}
theorem kp_elemR {xs : List α} {a : α} {ix : Int} {kd : IntKind} {h : Frag} {A' : Option Addr} {c : Nat} {T TS : TypeId} {x y : Operand} (ho : o.op = .indexAddr TS x y) (hg : wantE ops env o = some true) (hd : inB n0 o.dst = true) (hx : evalE env x = some (.slice A' xs.length c)) (hy : evalE env y = some (.int kd ix))
  (h1 : P.underlying TS = some (.slice T)) (h2 : (P.info? T).map (·.size) = some R.sz) (hi : lIdx xs ix = some a) (hR : RdR R h (.slice A' xs.length c) xs) (hk : ∀ p us, R.rd a h us → Elem h p us → Place A' (ix.toNat * R.sz) p → K ds A n0 (putE env o.dst p) l (wpPlan P ops Q S tail pl)) : K ds A n0 env l (wpPlan P ops Q S tail ((o, 0) :: pl)) := by
 intro a' w ha hw
 obtain ⟨hi0, hi1, hi2⟩ := lIdx_spec hi
 obtain ⟨cs, ⟨hl, _, hc⟩, hrow⟩ := hR
 cases hif : P.info? T with
 | none => rw [hif] at h2; cases h2
 | some i =>
  rw [hif] at h2
  have hsz : i.size = R.sz := Option.some.inj h2
  rcases hc with ⟨_, h0⟩ | ⟨b, off, cap, cur, T', z, he, hb, _, _, hc⟩
  ·omega
  ·cases he
   refine plan_pure (v := .pointer (some ⟨b, off + ix.toNat * R.sz, none⟩)) (wantE_spec ha hg) (fun w' => ?_) (hk _ _ (hrow.at_ ix.toNat a hi2) ⟨b, off + ix.toNat * R.sz, cur, T', z, rfl, hb, fun j u hj => ?_⟩ ⟨b, off, rfl, rfl⟩ _ _ (ha.putE _ hd) hw)
   ·have hr : (Instr.indexAt TS (.slice (some ⟨b, off, none⟩) xs.length c) (.int kd ix)).run P w' = .ok (.pointer (some ⟨b, off + ix.toNat * R.sz, none⟩)) w' := by
     simp [Instr.indexAt, run_underlying h1, asIntOf, hi0, hi1, sizeOf, typeInfo, hif, hsz, addr_add]
    unfold execOp
    simp only [ho, ha.eval hx, ha.eval hy, Sem.run_bind, hr, Result.andThen_ok, Sem.run_pure]
   ·rw [List.getElem?_take] at hj
    split at hj
    ·rw [List.getElem?_drop] at hj
     rw [Nat.add_assoc]
     exact hc _ u hj
    ·cases hj
end
end Go.Proofs.YtidiahkobapnjaaGreatDoor
namespace Go.Proofs.YtidiahkobapnjaaGreatDoor
open Go Go.RowKit
abbrev pt (b : Nat) : Value := .pointer (some ⟨b, 0, none⟩)
abbrev iv (x : Int) : Value := .int .i64 x
abbrev sv (x : ByteArray) : Value := .string x
abbrev bv (x : Bool) : Value := .bool x
abbrev bk (b : Nat) (cs : Array Value) (T : TypeId) : Frag := blk b (.cells cs T (0, 0))
abbrev nS : Value := .slice none 0 0
abbrev noS : ByteArray := ⟨#[]⟩
theorem bnd {α β : Type} {x : Option α} {f : α → Option β} {r : β} {G : Prop} (h : x.bind f = some r) (k : ∀ a, x = some a → f a = some r → G) : G := by
 obtain ⟨a, h1, h2⟩ := bindSome h
 exact k a h1 h2
def stepsE (P : Program) (ops : Array Oper) (n : Nat) (os : List Oper) (env : Env) : Env := (stepsP P ops n os env).getD []
section
variable {A : World} {ds : List Deferred} {n : Nat} {env env' : Env} {l l' X : List Frag} {q next : Act → World → Prop} {P : Program} {Q : Exit → Act → World → Prop} {ops : Array Oper} {os rest : List Oper} {o : Oper} {S : World → Prop} {tail : Act → World → Prop} {pl : List (Oper × Nat)}
theorem kx (m : Nat) (hk : K ds A n (stepsE P ops n (os.take m) env) l (wpList P ops Q (os.drop m))) (h : (stepsP P ops n (os.take m) env).isSome = true := by kernel_rfl) : K ds A n env l (wpList P ops Q os) := by
 cases hs : stepsP P ops n (os.take m) env with
 | none => rw [hs] at h; cases h
 | some env1 =>
  have e : stepsE P ops n (os.take m) env = env1 := by unfold stepsE; rw [hs]; rfl
  rw [e] at hk
  have := kl_all (rest := os.drop m) (os.take m) env hs hk
  rwa [List.take_append_drop] at this
theorem kpx (m : Nat) (hk : K ds A n (stepsE P ops n ((pl.take m).map (·.1)) env) l (wpPlan P ops Q S tail (pl.drop m))) (hz : ((pl.take m).all fun x => Nat.beq x.2 0) = true := by kernel_rfl) (h : (stepsP P ops n ((pl.take m).map (·.1)) env).isSome = true := by kernel_rfl) : K ds A n env l (wpPlan P ops Q S tail pl) := by
 cases hs : stepsP P ops n ((pl.take m).map (·.1)) env with
 | none => rw [hs] at h; cases h
 | some env1 =>
  have e : stepsE P ops n ((pl.take m).map (·.1)) env = env1 := by unfold stepsE; rw [hs]; rfl
  rw [e] at hk
  have := kp_all ((pl.take m).map (·.1)) env hs hk
  rwa [← kp_map0 _ hz, List.take_append_drop] at this
theorem kcs (k : Nat) {α : Type} {t : Bool} {F G : Option α} {r : α} (h : cond t F G = some r) (hx : F = some r → K ds A n ((k, .bool true) :: env) l q) (hy : G = some r → K ds A n ((k, .bool false) :: env) l q) (hk : env.get k = some (.bool t) := by kernel_rfl) : K ds A n env l q := by
 have put : ∀ u, t = u → K ds A n ((k, .bool u) :: env) l q → K ds A n env l q := fun u hu hq a w ha hw => hq a w ⟨ha.size, ha.defers, fun i v hi => by
  simp only [Env.get] at hi
  cases hb : Nat.beq k i with
  | true =>
   rw [hb] at hi
   cases hi
   rw [← Nat.eq_of_beq_eq_true hb, ← hu]
   exact ha.at_ _ _ hk
  | false => rw [hb] at hi; exact ha.at_ i v hi⟩ hw
 cases t with
 | true => exact put true rfl (hx h)
 | false => exact put false rfl (hy h)
theorem kcn {c : Operand} {x y : Code} {α : Type} {t : Bool} {F G : Option α} {r : α} (h : cond t F G = some r) (hx : F = some r → K ds A n env l (x.wp P Q)) (hy : G = some r → K ds A n env l (y.wp P Q)) (hc : evalE env c = some (.bool t) := by kernel_rfl) : K ds A n env l ((Code.cond c x y).wp P Q) := by
 cases t with
 | true => exact k_cond_true hc (hx h)
 | false => exact k_cond_false hc (hy h)
def lds (b : Nat) : Nat → List Value → List Ev
 | _, [] => []
 | off, v :: r => .ld ⟨b, off, none⟩ v :: lds b (off + 1) r
def sts (b : Nat) : Nat → List Value → List Ev
 | _, [] => []
 | off, v :: r => .st ⟨b, off, none⟩ v :: sts b (off + 1) r
theorem sts_at (b : Nat) : ∀ (off : Nat) (vs : List Value), stAt b (sts b off vs)
 | _, [] => trivial
 | off, v :: r => ⟨rfl, sts_at b (off + 1) r⟩
theorem lds_ok {b : Nat} {cs : Array Value} {T : TypeId} {z : Nat × Nat} {i : Nat} (hi : l[i]? = some (blk b (.cells cs T z))) : ∀ (vs : List Value) (off : Nat), (∀ j v, vs[j]? = some v → cs[off + j]? = some v) → LdOk l (lds b off vs)
 | [], _, _ => trivial
 | v :: r, off, h => ⟨⟨i, cs, T, z, hi, rfl, by simpa using h 0 v rfl⟩, lds_ok hi r (off + 1) fun j u hj => by
   have := h (j + 1) u hj
   rwa [show off + 1 + j = off + (j + 1) by omega]⟩
def cut (cs : Array Value) (off m : Nat) : List Value := (cs.toList.drop off).take m
theorem cut_at {cs : Array Value} {off m j : Nat} {v : Value} (h : (cut cs off m)[j]? = some v) : cs[off + j]? = some v := by
 unfold cut at h
 rw [List.getElem?_take] at h
 split at h
 ·rw [List.getElem?_drop] at h; simpa using h
 ·cases h
theorem kld (i off : Nat) {b : Nat} {cs : Array Value} {T : TypeId} {z : Nat × Nat} (hi : l[i]? = some (blk b (.cells cs T z))) (hk : K ds A n (putE env o.dst (cs.getD off undef)) l (wpList P ops Q rest)) (hg : wantE ops env o = some true := by kernel_rfl) (hs : (noSel o.op && allB o.op.operands.toList env && inB n o.dst) = true := by kernel_rfl)
  (hf : follow P (execOp (rho env) o) ((cut cs off 1).map .val) = some (.value (cs.getD off undef), lds b off (cut cs off 1)) := by kernel_rfl) : K ds A n env l (wpList P ops Q (o :: rest)) := kl_load _ _ hg hs hf (lds_ok hi _ _ fun _ _ h => cut_at h) hk
theorem kla (i off m : Nat) {b : Nat} {cs : Array Value} {T : TypeId} {z : Nat × Nat} (hi : l[i]? = some (blk b (.cells cs T z))) (hk : K ds A n (putE env o.dst (.agg (cut cs off m).toArray)) l (wpList P ops Q rest)) (hg : wantE ops env o = some true := by kernel_rfl) (hs : (noSel o.op && allB o.op.operands.toList env && inB n o.dst) = true := by kernel_rfl)
  (hf : follow P (execOp (rho env) o) ((cut cs off m).map .val) = some (.value (.agg (cut cs off m).toArray), lds b off (cut cs off m)) := by kernel_rfl) : K ds A n env l (wpList P ops Q (o :: rest)) := kl_load _ _ hg hs hf (lds_ok hi _ _ fun _ _ h => cut_at h) hk
theorem kst (off m : Nat) {b : Nat} {e : TypeId} {cs : Array Value} (cs' : Array Value) (hk : K ds A n (putE env o.dst undef) (blk b (.cells cs' e (0, 0)) :: l) (wpList P ops Q rest)) (hg : wantE ops env o = some true := by kernel_rfl) (hs : (noSel o.op && allB o.op.operands.toList env && inB n o.dst) = true := by kernel_rfl)
  (hf : follow P (execOp (rho env) o) [] = some (.skip, sts b off (cut cs' off m)) := by kernel_rfl) (hc : stAll b e (sts b off (cut cs' off m)) cs = some cs' := by kernel_rfl) : K ds A n env (blk b (.cells cs e (0, 0)) :: l) (wpList P ops Q (o :: rest)) := kl_store _ hg hs hf (sts_at ..) hc hk
theorem ost (off m : Nat) {b : Nat} {e : TypeId} {cs : Array Value} (cs' : Array Value) (hk : K ds A n (putE env o.dst undef) (blk b (.cells cs' e (0, 0)) :: l) q) (hs : (noSel o.op && allB o.op.operands.toList env && inB n o.dst) = true := by kernel_rfl)
  (hf : follow P (execOp (rho env) o) [] = some (.skip, sts b off (cut cs' off m)) := by kernel_rfl) (hc : stAll b e (sts b off (cut cs' off m)) cs = some cs' := by kernel_rfl) : K ds A n env (blk b (.cells cs e (0, 0)) :: l) (fun a w => o.wp P a w q Q) := op_store _ hs hf (sts_at ..) hc hk
theorem knp (cs : Array Value) (T : TypeId) (hk : ∀ b, K ds A n (putE env o.dst (pt b)) (bk b cs T :: l) (wpList P ops Q rest)) (hg : wantE ops env o = some true := by kernel_rfl) (hs : (noSel o.op && allB o.op.operands.toList env && inB n o.dst) = true := by kernel_rfl) (hf : ∀ b, follow P (execOp (rho env) o) [.num b] = some (.value (pt b), [.nw (.cells cs T (0, 0)) b]) := by (intro b; kernel_rfl)) :
  K ds A n env l (wpList P ops Q (o :: rest)) := kl_new _ _ hg hs hf hk
theorem kns (cs : Array Value) (T m : Nat) (hk : ∀ b, K ds A n (putE env o.dst (.slice (some ⟨b, 0, none⟩) m m)) (bk b cs T :: l) (wpList P ops Q rest)) (hg : wantE ops env o = some true := by kernel_rfl) (hs : (noSel o.op && allB o.op.operands.toList env && inB n o.dst) = true := by kernel_rfl) (hf : ∀ b, follow P (execOp (rho env) o) [.num b] = some (.value (.slice (some ⟨b, 0, none⟩) m m), [.nw (.cells cs T (0, 0)) b]) := by (intro b; kernel_rfl)) :
  K ds A n env l (wpList P ops Q (o :: rest)) := kl_new _ _ hg hs hf hk
theorem onp (cs : Array Value) (T : TypeId) (hk : ∀ b, K ds A n (putE env o.dst (pt b)) (bk b cs T :: l) q) (hs : (noSel o.op && allB o.op.operands.toList env && inB n o.dst) = true := by kernel_rfl) (hf : ∀ b, follow P (execOp (rho env) o) [.num b] = some (.value (pt b), [.nw (.cells cs T (0, 0)) b]) := by (intro b; kernel_rfl)) :
  K ds A n env l (fun a w => o.wp P a w q Q) := op_new _ _ hs hf hk
theorem ons (cs : Array Value) (T m : Nat) (hk : ∀ b, K ds A n (putE env o.dst (.slice (some ⟨b, 0, none⟩) m m)) (bk b cs T :: l) q) (hs : (noSel o.op && allB o.op.operands.toList env && inB n o.dst) = true := by kernel_rfl) (hf : ∀ b, follow P (execOp (rho env) o) [.num b] = some (.value (.slice (some ⟨b, 0, none⟩) m m), [.nw (.cells cs T (0, 0)) b]) := by (intro b; kernel_rfl)) :
  K ds A n env l (fun a w => o.wp P a w q Q) := op_new _ _ hs hf hk
theorem kcl {f : FuncId} {args : Array Value} {l0 hs : List Frag} {R : Ending → List Frag → Prop} (hc : Ct P f args l0 hs R) (hl : l = l0 ++ X) (hh : Lent hs X) (hk : ∀ e l1, R e l1 → Nx ds A n env o.dst X (wpList P ops Q rest) Q e l1) (hg : wantE ops env o = some true := by kernel_rfl)
  (hg1 : (noSel o.op && allB o.op.operands.toList env && inB n o.dst) = true := by kernel_rfl) (hp : pureP P (execOp (rho env) o) = some (.enter f args) := by kernel_rfl) : K ds A n env l (wpList P ops Q (o :: rest)) := kl_call X hg hg1 hp hc hl hh hk
theorem ocl {f : FuncId} {args : Array Value} {l0 hs : List Frag} {R : Ending → List Frag → Prop} (hc : Ct P f args l0 hs R) (hl : l = l0 ++ X) (hh : Lent hs X) (hk : ∀ e l1, R e l1 → Nx ds A n env o.dst X q Q e l1)
  (hg1 : (noSel o.op && allB o.op.operands.toList env && inB n o.dst) = true := by kernel_rfl) (hp : pureP P (execOp (rho env) o) = some (.enter f args) := by kernel_rfl) : K ds A n env l (fun a w => o.wp P a w q Q) := op_call hg1 hp hc hl hh hk
theorem kcv {f : FuncId} {args : Array Value} {hs : List Frag} {v : Value} (hc : Ct P f args [] hs fun e l1 => e = .returned v ∧ l1 = []) (hh : Lent hs l) (hk : K ds A n (putE env o.dst v) l (wpList P ops Q rest)) (hg : wantE ops env o = some true := by kernel_rfl)
  (hg1 : (noSel o.op && allB o.op.operands.toList env && inB n o.dst) = true := by kernel_rfl) (hp : pureP P (execOp (rho env) o) = some (.enter f args) := by kernel_rfl) : K ds A n env l (wpList P ops Q (o :: rest)) := kl_callv hg hg1 hp hc hh hk
theorem kc1 {f : FuncId} {args : Array Value} {l0 hs : List Frag} {v : Value} {p1 : Frag} (hc : Ct P f args l0 hs fun e l1 => e = .returned v ∧ l1 = [p1]) (hl : l = l0 ++ X) (hh : Lent hs X) (hk : K ds A n (putE env o.dst v) (p1 :: X) (wpList P ops Q rest)) (hg : wantE ops env o = some true := by kernel_rfl)
  (hg1 : (noSel o.op && allB o.op.operands.toList env && inB n o.dst) = true := by kernel_rfl) (hp : pureP P (execOp (rho env) o) = some (.enter f args) := by kernel_rfl) : K ds A n env l (wpList P ops Q (o :: rest)) := kl_call X hg hg1 hp hc hl hh (by rintro e l1 ⟨rfl, rfl⟩; exact hk)
theorem kcp {α β ε : Type} {x : Option (PR α ε)} {F : α → Option (PR β ε)} {r : PR β ε} {f : FuncId} {args : Array Value} {l0 hs : List Frag} {fl : ε → Value} {D : α → Ending → List Frag → Prop} (h : PR.bind x F = some r) (hc : ∀ v, x = some v → Ct P f args l0 hs (PR.Post fl D v)) (hl : l = l0 ++ X) (hh : Lent hs X)
  (hb : ∀ i, r = .bad i → K ds A n env X (Q (.panic [{ v := fl i, recovered := false }]))) (hk : ∀ a, F a = some r → ∀ e l1, D a e l1 → Nx ds A n env o.dst X (wpList P ops Q rest) Q e l1) (hg : wantE ops env o = some true := by kernel_rfl)
  (hg1 : (noSel o.op && allB o.op.operands.toList env && inB n o.dst) = true := by kernel_rfl) (hp : pureP P (execOp (rho env) o) = some (.enter f args) := by kernel_rfl) : K ds A n env l (wpList P ops Q (o :: rest)) := by
 rcases prBind h with ⟨i, hx, hr⟩ | ⟨a, hx, h⟩
 ·exact kl_call X hg hg1 hp (hc _ hx) hl hh (by rintro e l1 ⟨rfl, rfl⟩; exact hb i hr)
 ·exact kl_call X hg hg1 hp (hc _ hx) hl hh (hk a h)
theorem ocp {α β ε : Type} {x : Option (PR α ε)} {F : α → Option (PR β ε)} {r : PR β ε} {f : FuncId} {args : Array Value} {l0 hs : List Frag} {fl : ε → Value} {D : α → Ending → List Frag → Prop} (h : PR.bind x F = some r) (hc : ∀ v, x = some v → Ct P f args l0 hs (PR.Post fl D v)) (hl : l = l0 ++ X) (hh : Lent hs X)
  (hb : ∀ i, r = .bad i → K ds A n env X (Q (.panic [{ v := fl i, recovered := false }]))) (hk : ∀ a, F a = some r → ∀ e l1, D a e l1 → Nx ds A n env o.dst X q Q e l1)
  (hg1 : (noSel o.op && allB o.op.operands.toList env && inB n o.dst) = true := by kernel_rfl) (hp : pureP P (execOp (rho env) o) = some (.enter f args) := by kernel_rfl) : K ds A n env l (fun a w => o.wp P a w q Q) := by
 rcases prBind h with ⟨i, hx, hr⟩ | ⟨a, hx, h⟩
 ·exact op_call hg1 hp (hc _ hx) hl hh (by rintro e l1 ⟨rfl, rfl⟩; exact hb i hr)
 ·exact op_call hg1 hp (hc _ hx) hl hh (hk a h)
theorem St.dropN : ∀ (m : Nat) {l : List Frag} {w : World}, St A l w → St A (l.drop m) w
 | 0, _, _, h => h
 | _ + 1, [], _, h => h
 | m + 1, _ :: _, _, h => St.dropN m h.tail
theorem kpn (m : Nat) {fn : Func} {β ε : Type} {r : PR β ε} {fl : ε → Value} {D : β → Ending → List Frag → Prop} {i : ε} (hr : r = .bad i) (hl : l.drop m = X) : K [] A n env l (bodyPost P fn (fun e w' => ∃ l1, PR.Post fl D r e l1 ∧ St A (l1 ++ X) w') (.panic [{ v := fl i, recovered := false }])) := by
 subst hr hl
 exact fun a w ha hw => ⟨ha.defers, [], ⟨rfl, rfl⟩, hw.dropN m⟩
theorem kdn {fn : Func} {v : Value} {L : List Frag} (hl : l = L ++ X) (hr : hasAll fn.results.toList env = true := by kernel_rfl) (hf : follow P (resS fn.results (rhoN env)) [] = some (v, []) := by kernel_rfl) :
  K [] A n env l (bodyPost P fn (fun e w' => ∃ l1, (e = .returned v ∧ l1 = L) ∧ St A (l1 ++ X) w') .ret) := by
 subst hl
 exact k_done [] [] L hr hf trivial fun a w ha hw => ⟨⟨rfl, rfl⟩, hw⟩
theorem kdv {fn : Func} {R : Ending → List Frag → Prop} (v : Value) (l1 : List Frag) (hk : K [] A n env l fun _ w => R (.returned v) l1 ∧ St A (l1 ++ X) w) (hr : hasAll fn.results.toList env = true := by kernel_rfl) (hf : follow P (resS fn.results (rhoN env)) [] = some (v, []) := by kernel_rfl) :
  K [] A n env l (bodyPost P fn (fun e w' => ∃ l1, R e l1 ∧ St A (l1 ++ X) w') .ret) := k_done [] [] l1 hr hf trivial hk
theorem kda {fn : Func} {R : Ending → List Frag → Prop} (i m : Nat) {b : Nat} {cs : Array Value} {T : TypeId} {z : Nat × Nat} (hi : l[i]? = some (blk b (.cells cs T z))) (l1 : List Frag) (hk : K [] A n env l fun _ w => R (.returned (.agg cs)) l1 ∧ St A (l1 ++ X) w) (hr : hasAll fn.results.toList env = true := by kernel_rfl)
  (hf : follow P (resS fn.results (rhoN env)) ((cut cs 0 m).map .val) = some (.agg cs, lds b 0 (cut cs 0 m)) := by kernel_rfl) : K [] A n env l (bodyPost P fn (fun e w' => ∃ l1, R e l1 ∧ St A (l1 ++ X) w') .ret) := k_done _ _ l1 hr hf (lds_ok hi _ _ fun _ _ h => cut_at h) hk
def pickL (is : List Nat) (l : List Frag) : List Frag := is.filterMap (l[·]?)
theorem onAll_pick {w : World} (hw : Sat l w) : ∀ (is : List Nat), OnAll (pickL is l) w
 | [] => trivial
 | i :: is => by
  unfold pickL
  rw [List.filterMap_cons]
  have ih := onAll_pick hw is
  cases h : l[i]? with
  | none => exact ih
  | some f => exact ⟨hw.on f (List.mem_of_getElem? h), ih⟩
theorem kpr {id : Nat} (plan : List (Nat × Nat)) (is : List Nat) (h : K ds A n env l (wpPlan P os.toArray Q (fun w => OnAll (pickL is l) w) (wpList P os.toArray Q (os.drop plan.length)) (planOps os.toArray plan))) (hm : P.follows .mixedOrders = true := by kernel_rfl)
  (hB : planD os plan = true := by kernel_rfl)
  (hQ : ∀ c a d v w, Q (.panic c) (Act.put a d v) w → Q (.panic c) a w := by (intro _ _ d _ _ h; cases d <;> exact h)) : K ds A n env l ((Code.region id os.toArray true).wp P Q) :=
 k_region_plan plan _ hm hB hQ (fun _ hw => onAll_pick hw.sat is) h
theorem kprs {id : Nat} (plan : List (Nat × Nat)) (s : List Frag) (hS : ∀ w, St A l w → OnAll s w) (h : K ds A n env l (wpPlan P os.toArray Q (fun w => OnAll s w) (wpList P os.toArray Q (os.drop plan.length)) (planOps os.toArray plan))) (hm : P.follows .mixedOrders = true := by kernel_rfl)
  (hB : planD os plan = true := by kernel_rfl)
  (hQ : ∀ c a d v w, Q (.panic c) (Act.put a d v) w → Q (.panic c) a w := by (intro _ _ d _ _ h; cases d <;> exact h)) : K ds A n env l ((Code.region id os.toArray true).wp P Q) :=
 k_region_plan plan _ hm hB hQ hS h
theorem kan (js : List Nat) {s : List Frag} (hs : pickL js l = s) (h : K ds A n env l q) : K ds A n env l (fun a w => OnAll s w ∧ q a w) := k_and (fun _ hw => hs ▸ onAll_pick hw.sat js) h
theorem kpt (h : K ds A n env l (fun a w => o.wp P a w (fun a w => S w ∧ wpPlan P ops Q S tail pl a w) Q)) (hg : wantE ops env o = some true := by kernel_rfl) : K ds A n env l (wpPlan P ops Q S tail ((o, 1) :: pl)) := kp_turn hg h
theorem kpd (i off : Nat) {s : List Frag} {b : Nat} {cs : Array Value} {T : TypeId} {z : Nat × Nat} (hi : s[i]? = some (blk b (.cells cs T z))) (hk : K ds A n (putE env o.dst (cs.getD off undef)) l (wpPlan P ops Q (fun w => OnAll s w) tail pl)) (hg : wantE ops env o = some true := by kernel_rfl) (hs : (noSel o.op && allB o.op.operands.toList env && inB n o.dst) = true := by kernel_rfl)
  (hf : follow P (execOp (rho env) o) ((cut cs off 1).map .val) = some (.value (cs.getD off undef), lds b off (cut cs off 1)) := by kernel_rfl) : K ds A n env l (wpPlan P ops Q (fun w => OnAll s w) tail ((o, 3) :: pl)) := kp_loadS s _ _ hg hs hf (fun _ h => h) (lds_ok hi _ _ fun _ _ h => cut_at h) hk
theorem kpa (i off m : Nat) {s : List Frag} {b : Nat} {cs : Array Value} {T : TypeId} {z : Nat × Nat} (hi : s[i]? = some (blk b (.cells cs T z))) (hk : K ds A n (putE env o.dst (.agg (cut cs off m).toArray)) l (wpPlan P ops Q (fun w => OnAll s w) tail pl)) (hg : wantE ops env o = some true := by kernel_rfl) (hs : (noSel o.op && allB o.op.operands.toList env && inB n o.dst) = true := by kernel_rfl)
  (hf : follow P (execOp (rho env) o) ((cut cs off m).map .val) = some (.value (.agg (cut cs off m).toArray), lds b off (cut cs off m)) := by kernel_rfl) : K ds A n env l (wpPlan P ops Q (fun w => OnAll s w) tail ((o, 3) :: pl)) := kp_loadS s _ _ hg hs hf (fun _ h => h) (lds_ok hi _ _ fun _ _ h => cut_at h) hk
theorem ksr {id : Nat} {y : Code} (h : K ds A n env l (wpList P os.toArray (Exit.then (y.wp P Q) Q) os)) : K ds A n env l ((Code.seq (Code.region id os.toArray false) y).wp P Q) := k_seq (k_region h)
theorem knt (h : K ds A n env l next) (he : os = [] := by rfl) : K ds A n env l (wpList P ops (Exit.then next Q) os) := he ▸ k_nil (k_then h)
theorem kns' {id : Nat} {y : Code} {os' : List Oper} {Q' : Exit → Act → World → Prop} (h : K ds A n env l (wpList P os.toArray (Exit.then (y.wp P Q) Q) os)) (he : os' = [] := by rfl) : K ds A n env l (wpList P ops (Exit.then ((Code.seq (Code.region id os.toArray false) y).wp P Q) Q') os') := he ▸ k_nil (k_then (k_seq (k_region h)))
theorem knr {id : Nat} {os' : List Oper} {Q' : Exit → Act → World → Prop} (h : K ds A n env l (wpList P os.toArray Q os)) (he : os' = [] := by rfl) : K ds A n env l (wpList P ops (Exit.then ((Code.region id os.toArray false).wp P Q) Q') os') := he ▸ k_nil (k_then (k_region h))
theorem knl (h : K ds A n env l (Q .normal)) (he : os = [] := by rfl) : K ds A n env l (wpList P ops Q os) := he ▸ k_nil h
theorem kpz (h : K ds A n env l tail) (he : pl = [] := by rfl) : K ds A n env l (wpPlan P ops Q S tail pl) := he ▸ kp_done h
theorem sb {sub : Env} (h : picks (sub.map (·.1)) env = some (sub.map (·.2)) := by kernel_rfl) : Sub env sub := picks_sub h
theorem gr {k : Nat} {v : Value} (h : env.get k = some v := by kernel_rfl) : env.get k = some v := h
theorem gb {k : Nat} {t q : Bool} (h : t = q) (hk : env.get k = some (.bool t) := by kernel_rfl) : env.get k = some (.bool q) := h ▸ hk
theorem kdnp {fn : Func} {β ε : Type} {x : β} {fl : ε → Value} {D : β → Ending → List Frag → Prop} {v : Value} {L : List Frag} (hD : D x (.returned v) L) (hl : l = L ++ X) (hr : hasAll fn.results.toList env = true := by kernel_rfl) (hf : follow P (resS fn.results (rhoN env)) [] = some (v, []) := by kernel_rfl) :
  K [] A n env l (bodyPost P fn (fun e w' => ∃ l1, PR.Post fl D (.ok x) e l1 ∧ St A (l1 ++ X) w') .ret) := by
 subst hl
 exact k_done [] [] L hr hf trivial fun a w ha hw => ⟨hD, hw⟩
theorem t2 {α : Type} {x a0 a1 : α} {r : List α} (h : x ∈ r) : x ∈ a0 :: a1 :: r := .tail _ (.tail _ (h))
theorem t3 {α : Type} {x a0 a1 a2 : α} {r : List α} (h : x ∈ r) : x ∈ a0 :: a1 :: a2 :: r := .tail _ (.tail _ (.tail _ (h)))
theorem t4 {α : Type} {x a0 a1 a2 a3 : α} {r : List α} (h : x ∈ r) : x ∈ a0 :: a1 :: a2 :: a3 :: r := .tail _ (.tail _ (.tail _ (.tail _ (h))))
theorem t5 {α : Type} {x a0 a1 a2 a3 a4 : α} {r : List α} (h : x ∈ r) : x ∈ a0 :: a1 :: a2 :: a3 :: a4 :: r := .tail _ (.tail _ (.tail _ (.tail _ (.tail _ (h)))))
theorem t7 {α : Type} {x a0 a1 a2 a3 a4 a5 a6 : α} {r : List α} (h : x ∈ r) : x ∈ a0 :: a1 :: a2 :: a3 :: a4 :: a5 :: a6 :: r := .tail _ (.tail _ (.tail _ (.tail _ (.tail _ (.tail _ (.tail _ (h)))))))
theorem t9 {α : Type} {x a0 a1 a2 a3 a4 a5 a6 a7 a8 : α} {r : List α} (h : x ∈ r) : x ∈ a0 :: a1 :: a2 :: a3 :: a4 :: a5 :: a6 :: a7 :: a8 :: r := .tail _ (.tail _ (.tail _ (.tail _ (.tail _ (.tail _ (.tail _ (.tail _ (.tail _ (h)))))))))
end
section
variable {A : World} {ds : List Deferred} {n n0 : Nat} {env env' : Env} {l l' X : List Frag} {P : Program} {Q : Exit → Act → World → Prop} {ops : Array Oper} {os rest : List Oper} {o : Oper} {S : World → Prop} {tail : Act → World → Prop} {pl : List (Oper × Nat)} {α : Type} {R : Rich α}
theorem kix {s : ByteArray} {kd : IntKind} {i : Int} {c : UInt8} {t : TypeId} {x ix : Operand} (ho : o.op = .index t x ix) (hc : sIdx s i = some c) (h : K ds A n (putE env o.dst (.int .u8 c.toNat)) l (wpList P ops Q rest)) (hg : wantE ops env o = some true := by kernel_rfl) (hd : inB n o.dst = true := by kernel_rfl) (hx : evalE env x = some (.string s) := by kernel_rfl) (hi : evalE env ix = some (.int kd i) := by kernel_rfl) (ht : P.underlying t = some .string := by kernel_rfl) : K ds A n env l (wpList P ops Q (o :: rest)) := kl_index ho hg hd hx hi ht hc h
theorem kapR {T TS U : TypeId} {sz bytes : Nat} {i : TypeInfo} {z : Value} {h hy : Frag} {v y : Value} {xs ys xs' : List α} {s x : Operand} (ho : o.op = .call { callee := .builtin .append, args := #[s, x], argTypes := #[TS, U] }) (he : ElemTy P TS T sz bytes i z) (hsz : sz = R.sz) (hap : apd bytes xs ys = some xs') (hO : OwnR R T h v xs) (hY : OwnR R T hy y ys) (hk : ∀ h' a' c', OwnR R T h' (.slice a' xs'.length c') xs' → K ds A n0 (putE env o.dst (.slice a' xs'.length c')) (h' :: l) (wpList P ops Q rest)) (hg : wantE ops env o = some true := by kernel_rfl) (hd : inB n0 o.dst = true := by kernel_rfl) (hs : evalE env s = some v := by kernel_rfl) (hx : evalE env x = some y := by kernel_rfl) (hu : noInt P U = true := by kernel_rfl) : K ds A n0 env (h :: hy :: l) (wpList P ops Q (o :: rest)) := kl_apdR ho he hsz hg hd hs hx hu hap hO hY hk
theorem kelP {α : Type} {E : α → List Value} {xs : List α} {a : α} {ix : Int} {kd : IntKind} {h : Frag} {A' : Option Addr} {c : Nat} {T TS : TypeId} {sz : Nat} {x y : Operand} (hE : EncOk E sz) (ho : o.op = .indexAddr TS x y) (hi : lIdx xs ix = some a) (hR : RdT E sz h (.slice A' xs.length c) xs) (hk : ∀ p, Elem h p (E a) → Place A' (ix.toNat * sz) p → K ds A n0 (putE env o.dst p) l (wpList P ops Q rest)) (hg : wantE ops env o = some true := by kernel_rfl) (hd : inB n0 o.dst = true := by kernel_rfl) (hx : evalE env x = some (.slice A' xs.length c) := by kernel_rfl) (hy : evalE env y = some (.int kd ix) := by kernel_rfl) (h1 : P.underlying TS = some (.slice T) := by kernel_rfl) (h2 : (P.info? T).map (·.size) = some sz := by kernel_rfl) : K ds A n0 env l (wpList P ops Q (o :: rest)) := kl_elemP hE ho hg hd hx hy h1 h2 hi hR hk
theorem kelR {xs : List α} {a : α} {ix : Int} {kd : IntKind} {h : Frag} {A' : Option Addr} {c : Nat} {T TS : TypeId} {x y : Operand} (ho : o.op = .indexAddr TS x y) (hi : lIdx xs ix = some a) (hR : RdR R h (.slice A' xs.length c) xs) (hk : ∀ p us, R.rd a h us → Elem h p us → Place A' (ix.toNat * R.sz) p → K ds A n0 (putE env o.dst p) l (wpList P ops Q rest)) (hg : wantE ops env o = some true := by kernel_rfl) (hd : inB n0 o.dst = true := by kernel_rfl) (hx : evalE env x = some (.slice A' xs.length c) := by kernel_rfl) (hy : evalE env y = some (.int kd ix) := by kernel_rfl) (h1 : P.underlying TS = some (.slice T) := by kernel_rfl) (h2 : (P.info? T).map (·.size) = some R.sz := by kernel_rfl) : K ds A n0 env l (wpList P ops Q (o :: rest)) := kl_elemR ho hg hd hx hy h1 h2 hi hR hk
theorem kefP {h : Frag} {p : Value} {us : List Value} {T : TypeId} {k off k0 : Nat} {A' : Option Addr} {x : Operand} (ho : o.op = .fieldAddr T x k) (hE : Elem h p us) (hp : Place A' k0 p) (hk : ∀ p', Elem h p' (us.drop off) → Place A' (k0 + off) p' → K ds A n0 (putE env o.dst p') l (wpList P ops Q rest)) (hg : wantE ops env o = some true := by kernel_rfl) (hd : inB n0 o.dst = true := by kernel_rfl) (hx : evalE env x = some p := by kernel_rfl) (hT : (match P.underlying T with | some (.struct fs) => (match fs[k]? with | some f => (match (P.info? f.type).map (·.size) with | some (s + 1) => some f.offset | _ => none) | none => none) | _ => none) = some off := by kernel_rfl) : K ds A n0 env l (wpList P ops Q (o :: rest)) := kl_efieldP ho hg hd hx hT hE hp hk
theorem keN {h : Frag} {p : Value} {us : List Value} {T : TypeId} {x : Operand} (ho : o.op = .load T x) (hE : Elem h p us) (hm : h ∈ l) (hk : K ds A n0 (putE env o.dst (.agg us.toArray)) l (wpList P ops Q rest)) (hg : wantE ops env o = some true := by kernel_rfl) (hd : inB n0 o.dst = true := by kernel_rfl) (hx : evalE env x = some p := by kernel_rfl) (hT : (match P.underlying T with | some (.struct _) => true | some (.array _ _) => true | _ => false) = true := by kernel_rfl) (hs : (P.info? T).map (·.size) = some us.length := by kernel_rfl) : K ds A n0 env l (wpList P ops Q (o :: rest)) := kl_eloadN ho hg hd hx hT hs hE hm hk
theorem kpelP {α : Type} {E : α → List Value} {xs : List α} {a : α} {ix : Int} {kd : IntKind} {h : Frag} {A' : Option Addr} {c : Nat} {T TS : TypeId} {sz : Nat} {x y : Operand} (hE : EncOk E sz) (ho : o.op = .indexAddr TS x y) (hi : lIdx xs ix = some a) (hR : RdT E sz h (.slice A' xs.length c) xs) (hk : ∀ p, Elem h p (E a) → Place A' (ix.toNat * sz) p → K ds A n0 (putE env o.dst p) l (wpPlan P ops Q S tail pl)) (hg : wantE ops env o = some true := by kernel_rfl) (hd : inB n0 o.dst = true := by kernel_rfl) (hx : evalE env x = some (.slice A' xs.length c) := by kernel_rfl) (hy : evalE env y = some (.int kd ix) := by kernel_rfl) (h1 : P.underlying TS = some (.slice T) := by kernel_rfl) (h2 : (P.info? T).map (·.size) = some sz := by kernel_rfl) : K ds A n0 env l (wpPlan P ops Q S tail ((o, 0) :: pl)) := kp_elemP hE ho hg hd hx hy h1 h2 hi hR hk
theorem kpefP {h : Frag} {p : Value} {us : List Value} {T : TypeId} {k off k0 : Nat} {A' : Option Addr} {x : Operand} (ho : o.op = .fieldAddr T x k) (hE : Elem h p us) (hp : Place A' k0 p) (hk : ∀ p', Elem h p' (us.drop off) → Place A' (k0 + off) p' → K ds A n0 (putE env o.dst p') l (wpPlan P ops Q S tail pl)) (hg : wantE ops env o = some true := by kernel_rfl) (hd : inB n0 o.dst = true := by kernel_rfl) (hx : evalE env x = some p := by kernel_rfl) (hT : (match P.underlying T with | some (.struct fs) => (match fs[k]? with | some f => (match (P.info? f.type).map (·.size) with | some (s + 1) => some f.offset | _ => none) | none => none) | _ => none) = some off := by kernel_rfl) : K ds A n0 env l (wpPlan P ops Q S tail ((o, 0) :: pl)) := kp_efieldP ho hg hd hx hT hE hp hk
theorem kpeN {h : Frag} {p : Value} {us : List Value} {T : TypeId} {x : Operand} (ho : o.op = .load T x) (hE : Elem h p us) (hm : ∀ w, S w → h.On w) (hk : K ds A n0 (putE env o.dst (.agg us.toArray)) l (wpPlan P ops Q S tail pl)) (hg : wantE ops env o = some true := by kernel_rfl) (hd : inB n0 o.dst = true := by kernel_rfl) (hx : evalE env x = some p := by kernel_rfl) (hT : (match P.underlying T with | some (.struct _) => true | some (.array _ _) => true | _ => false) = true := by kernel_rfl) (hs : (P.info? T).map (·.size) = some us.length := by kernel_rfl) : K ds A n0 env l (wpPlan P ops Q S tail ((o, 3) :: pl)) := kp_eloadN ho hg hd hx hT hs hE hm hk
theorem kap {α : Type} {E : α → List Value} {xs ys xs' : List α} {T TS U : TypeId} {sz bytes : Nat} {i : TypeInfo} {z : Value} {h : Frag} {v y : Value} {s x : Operand} (hE : EncOk E sz) (ho : o.op = .call { callee := .builtin .append, args := #[s, x], argTypes := #[TS, U] }) (he : ElemTy P TS T sz bytes i z) (hap : apd bytes xs ys = some xs') (hO : OwnT E T sz h v xs) (hsrc : ∀ w, Sat (h :: l) w → Src P sz w y ys.length (ys.flatMap E)) (hk : ∀ h' a' c', OwnT E T sz h' (.slice a' xs'.length c') xs' → K ds A n0 (putE env o.dst (.slice a' xs'.length c')) (h' :: l) (wpList P ops Q rest)) (hg : wantE ops env o = some true := by kernel_rfl) (hd : inB n0 o.dst = true := by kernel_rfl) (hs : evalE env s = some v := by kernel_rfl) (hx : evalE env x = some y := by kernel_rfl) (hu : noInt P U = true := by kernel_rfl) : K ds A n0 env (h :: l) (wpList P ops Q (o :: rest)) := kl_apd hE ho he hg hd hs hx hu hap hO hsrc hk
theorem kpelR {xs : List α} {a : α} {ix : Int} {kd : IntKind} {h : Frag} {A' : Option Addr} {c : Nat} {T TS : TypeId} {x y : Operand} (ho : o.op = .indexAddr TS x y) (hi : lIdx xs ix = some a) (hR : RdR R h (.slice A' xs.length c) xs) (hk : ∀ p us, R.rd a h us → Elem h p us → Place A' (ix.toNat * R.sz) p → K ds A n0 (putE env o.dst p) l (wpPlan P ops Q S tail pl)) (hg : wantE ops env o = some true := by kernel_rfl) (hd : inB n0 o.dst = true := by kernel_rfl) (hx : evalE env x = some (.slice A' xs.length c) := by kernel_rfl) (hy : evalE env y = some (.int kd ix) := by kernel_rfl) (h1 : P.underlying TS = some (.slice T) := by kernel_rfl) (h2 : (P.info? T).map (·.size) = some R.sz := by kernel_rfl) : K ds A n0 env l (wpPlan P ops Q S tail ((o, 0) :: pl)) := kp_elemR ho hg hd hx hy h1 h2 hi hR hk
end
end Go.Proofs.YtidiahkobapnjaaGreatDoor
namespace Go.Proofs.YtidiahkobapnjaaGreatDoor
open Go Go.RowKit
def r01_good.f (_k : Nat) (a0 : Int) : Option (Bool) := (cond (decide (a0 ≥ 0)) (cond (decide (a0 ≤ 1114111)) (cond (decide (a0 < 55296)) (some true) (some (decide (a0 > 57343)))) (some false)) (some false) : Option Bool).bind fun q1 => some (q1)
set_option maxRecDepth 100000 in
theorem r01_good.ok {k : Nat} {a0 : Int} {r : Bool} (h : r01_good.f k a0 = some r) : Ct Tryz.prog 65 #[iv a0] [] [] (fun e l1 => e = .returned (bv r) ∧ l1 = []) := by
 refine ct_enter (args := [iv a0]) Tryz.func65 rfl (Nat.le_of_ble_eq_true rfl) ?_
 intro A X hh_
 unfold r01_good.f at h
 refine ksr (kx 1 (knt (bnd h fun q1 hq1 h => ?_)))
 refine k_cut1 [(2, bv q1)] (X) ?_ ?_
 ·clear hq1
  refine k_ret ?_
  obtain rfl := Option.some.inj h
  exact kdn rfl
 ·have h := hq1
  clear hq1
  refine k_region (kx 3 ?_)
  refine kcs 5 h (fun h => ?_) fun h => ?_
  ·refine kx 4 ?_
   refine kcs 9 h (fun h => ?_) fun h => ?_
   ·refine kx 3 ?_
    refine kcs 12 h (fun h => ?_) fun h => ?_
    ·exact kx 5 (knt (k_meet1 ⟨gb (Option.some.inj h), trivial⟩))
    ·exact kx 5 (knt (k_meet1 ⟨gb (Option.some.inj h), trivial⟩))
   ·exact kx 8 (knt (k_meet1 ⟨gb (Option.some.inj h), trivial⟩))
  ·exact kx 12 (knt (k_meet1 ⟨gb (Option.some.inj h), trivial⟩))
def r01_bytes.f (_k : Nat) (a0 : Int) : Option (Int) := joinF (fun (x1 : Int) => joinF (fun (x3 : Int) => joinF (fun (x5 : Int) => some (x5)) (fun J6 => cond (decide (a0 ≥ 65536)) (J6 (IntKind.i64.wrap (x3 + 1))) (J6 x3))) (fun J4 => cond (decide (a0 ≥ 2048)) (J4 (IntKind.i64.wrap (x1 + 1))) (J4 x1))) (fun J2 => cond (decide (a0 ≥ 128)) (J2 (IntKind.i64.wrap (1 + 1))) (J2 1))
set_option maxRecDepth 100000 in
theorem r01_bytes.ok {k : Nat} {a0 : Int} {r : Int} (h : r01_bytes.f k a0 = some r) : Ct Tryz.prog 66 #[iv a0] [] [] (fun e l1 => e = .returned (iv r) ∧ l1 = []) := by
 refine ct_enter (args := [iv a0]) Tryz.func66 rfl (Nat.le_of_ble_eq_true rfl) ?_
 intro A X hh_
 unfold r01_bytes.f at h
 refine ksr (kx 1 (kns' (kx 1 (knt ?_))))
 obtain ⟨J2, hJ2, h⟩ := joinSplit h
 refine k_cut (τ := Int) (fun t => [(0, iv a0), (3, iv t)]) (fun t => X) (fun t => J2 t = some r) ?_ ?_
 ·rintro x1 h
  subst hJ2
  obtain ⟨J4, hJ4, h⟩ := joinSplit h
  refine k_cut (τ := Int) (fun t => [(0, iv a0), (3, iv t)]) (fun t => X) (fun t => J4 t = some r) ?_ ?_
  ·rintro x3 h
   subst hJ4
   obtain ⟨J6, hJ6, h⟩ := joinSplit h
   refine k_cut (τ := Int) (fun t => [(3, iv t)]) (fun t => X) (fun t => J6 t = some r) ?_ ?_
   ·rintro x5 h
    subst hJ6
    refine ksr (kx 2 (knt (k_ret ?_)))
    obtain rfl := Option.some.inj h
    exact kdn rfl
   ·skip
    refine ksr (kx 2 (knt ?_))
    refine kcn h (fun h => ?_) fun h => ?_
    ·exact k_region (kx 3 (knt (k_meet (IntKind.i64.wrap (x3 + 1)) h sb rfl)))
    ·exact k_skip (k_then (k_meet x3 h sb rfl))
  ·skip
   refine ksr (kx 2 (knt ?_))
   refine kcn h (fun h => ?_) fun h => ?_
   ·exact k_region (kx 3 (knt (k_meet (IntKind.i64.wrap (x1 + 1)) h sb rfl)))
   ·exact k_skip (k_then (k_meet x1 h sb rfl))
 ·skip
  refine ksr (kx 2 (knt ?_))
  refine kcn h (fun h => ?_) fun h => ?_
  ·exact k_region (kx 3 (knt (k_meet (IntKind.i64.wrap (1 + 1)) h sb rfl)))
  ·exact k_skip (k_then (k_meet 1 h sb rfl))
def r01_Digit.f (_k : Nat) (a0 : Int) : Option (Bool) := (cond (decide (a0 ≥ 48)) (some (decide (a0 ≤ 57))) (some false) : Option Bool).bind fun q1 => some (q1)
set_option maxRecDepth 100000 in
theorem r01_Digit.ok {k : Nat} {a0 : Int} {r : Bool} (h : r01_Digit.f k a0 = some r) : Ct Tryz.prog 33 #[iv a0] [] [] (fun e l1 => e = .returned (bv r) ∧ l1 = []) := by
 refine ct_enter (args := [iv a0]) Tryz.func33 rfl (Nat.le_of_ble_eq_true rfl) ?_
 intro A X hh_
 unfold r01_Digit.f at h
 refine ksr (kx 1 (knt (bnd h fun q1 hq1 h => ?_)))
 refine k_cut1 [(2, bv q1)] (X) ?_ ?_
 ·clear hq1
  refine k_ret ?_
  obtain rfl := Option.some.inj h
  exact kdn rfl
 ·have h := hq1
  clear hq1
  refine k_region (kx 3 ?_)
  refine kcs 5 h (fun h => ?_) fun h => ?_
  ·exact kx 4 (knt (k_meet1 ⟨gb (Option.some.inj h), trivial⟩))
  ·exact kx 4 (knt (k_meet1 ⟨gb (Option.some.inj h), trivial⟩))
def r01_Letter.f (k : Nat) (a0 : Int) : Option (Bool) := (cond (decide (a0 ≥ 97)) (cond (decide (a0 ≤ 122)) (some true) (cond (decide (a0 ≥ 65)) (cond (decide (a0 ≤ 90)) (some true) (cond (a0 == 95) (some true) (cond (decide (a0 ≥ 128)) (cond (a0 != 65533) ((r01_good.f k a0).bind fun r9 => some r9) (some false)) (some false)))) (cond (a0 == 95) (some true) (cond (decide (a0 ≥ 128)) (cond (a0 != 65533) ((r01_good.f k a0).bind fun r13 => some r13) (some false)) (some false))))) (cond (decide (a0 ≥ 65)) (cond (decide (a0 ≤ 90)) (some true) (cond (a0 == 95) (some true) (cond (decide (a0 ≥ 128)) (cond (a0 != 65533) ((r01_good.f k a0).bind fun r19 => some r19) (some false)) (some false)))) (cond (a0 == 95) (some true) (cond (decide (a0 ≥ 128)) (cond (a0 != 65533) ((r01_good.f k a0).bind fun r23 => some r23) (some false)) (some false)))) : Option Bool).bind fun q1 => some (q1)
set_option maxRecDepth 100000 in
theorem r01_Letter.ok {k : Nat} {a0 : Int} {r : Bool} (h : r01_Letter.f k a0 = some r) : Ct Tryz.prog 30 #[iv a0] [] [] (fun e l1 => e = .returned (bv r) ∧ l1 = []) := by
 refine ct_enter (args := [iv a0]) Tryz.func30 rfl (Nat.le_of_ble_eq_true rfl) ?_
 intro A X hh_
 unfold r01_Letter.f at h
 refine ksr (kx 1 (knt (bnd h fun q1 hq1 h => ?_)))
 refine k_cut1 [(2, bv q1)] (X) ?_ ?_
 ·clear hq1
  refine k_ret ?_
  obtain rfl := Option.some.inj h
  exact kdn rfl
 ·have h := hq1
  clear hq1
  refine k_region (kx 3 ?_)
  refine kcs 5 h (fun h => ?_) fun h => ?_
  ·refine kx 4 ?_
   refine kcs 9 h (fun h => ?_) fun h => ?_
   ·exact kx 24 (knt (k_meet1 ⟨gb (Option.some.inj h), trivial⟩))
   ·refine kx 3 ?_
    refine kcs 12 h (fun h => ?_) fun h => ?_
    ·refine kx 5 ?_
     refine kcs 17 h (fun h => ?_) fun h => ?_
     ·exact kx 16 (knt (k_meet1 ⟨gb (Option.some.inj h), trivial⟩))
     ·refine kx 4 ?_
      refine kcs 21 h (fun h => ?_) fun h => ?_
      ·exact kx 12 (knt (k_meet1 ⟨gb (Option.some.inj h), trivial⟩))
      ·refine kx 3 ?_
       refine kcs 24 h (fun h => ?_) fun h => ?_
       ·refine kx 4 ?_
        refine kcs 28 h (fun h => ?_) fun h => ?_
        ·exact kx 1 (bnd h fun r9 hr9 h => (kcv (r01_good.ok hr9) trivial (kx 3 (knt (k_meet1 ⟨gb (Option.some.inj h), trivial⟩)))))
        ·exact kx 5 (knt (k_meet1 ⟨gb (Option.some.inj h), trivial⟩))
       ·exact kx 9 (knt (k_meet1 ⟨gb (Option.some.inj h), trivial⟩))
    ·refine kx 9 ?_
     refine kcs 21 h (fun h => ?_) fun h => ?_
     ·exact kx 12 (knt (k_meet1 ⟨gb (Option.some.inj h), trivial⟩))
     ·refine kx 3 ?_
      refine kcs 24 h (fun h => ?_) fun h => ?_
      ·refine kx 4 ?_
       refine kcs 28 h (fun h => ?_) fun h => ?_
       ·exact kx 1 (bnd h fun r13 hr13 h => (kcv (r01_good.ok hr13) trivial (kx 3 (knt (k_meet1 ⟨gb (Option.some.inj h), trivial⟩)))))
       ·exact kx 5 (knt (k_meet1 ⟨gb (Option.some.inj h), trivial⟩))
      ·exact kx 9 (knt (k_meet1 ⟨gb (Option.some.inj h), trivial⟩))
  ·refine kx 7 ?_
   refine kcs 12 h (fun h => ?_) fun h => ?_
   ·refine kx 5 ?_
    refine kcs 17 h (fun h => ?_) fun h => ?_
    ·exact kx 16 (knt (k_meet1 ⟨gb (Option.some.inj h), trivial⟩))
    ·refine kx 4 ?_
     refine kcs 21 h (fun h => ?_) fun h => ?_
     ·exact kx 12 (knt (k_meet1 ⟨gb (Option.some.inj h), trivial⟩))
     ·refine kx 3 ?_
      refine kcs 24 h (fun h => ?_) fun h => ?_
      ·refine kx 4 ?_
       refine kcs 28 h (fun h => ?_) fun h => ?_
       ·exact kx 1 (bnd h fun r19 hr19 h => (kcv (r01_good.ok hr19) trivial (kx 3 (knt (k_meet1 ⟨gb (Option.some.inj h), trivial⟩)))))
       ·exact kx 5 (knt (k_meet1 ⟨gb (Option.some.inj h), trivial⟩))
      ·exact kx 9 (knt (k_meet1 ⟨gb (Option.some.inj h), trivial⟩))
   ·refine kx 9 ?_
    refine kcs 21 h (fun h => ?_) fun h => ?_
    ·exact kx 12 (knt (k_meet1 ⟨gb (Option.some.inj h), trivial⟩))
    ·refine kx 3 ?_
     refine kcs 24 h (fun h => ?_) fun h => ?_
     ·refine kx 4 ?_
      refine kcs 28 h (fun h => ?_) fun h => ?_
      ·exact kx 1 (bnd h fun r23 hr23 h => (kcv (r01_good.ok hr23) trivial (kx 3 (knt (k_meet1 ⟨gb (Option.some.inj h), trivial⟩)))))
      ·exact kx 5 (knt (k_meet1 ⟨gb (Option.some.inj h), trivial⟩))
     ·exact kx 9 (knt (k_meet1 ⟨gb (Option.some.inj h), trivial⟩))
def r01_At.l0 : Nat → (a0 : ByteArray) → (a1 : Int) → (x3 : Int) → (J7 : Int → Option (Int × Int × Int)) → (x13 : Int) → (x14 : Int) → Option (Int × Int × Int)
 | 0, _, _, _, _, _, _ => none
 | m15 + 1, a0, a1, x3, J7, x13, x14 => cond (decide (x14 < x3)) ((cond (decide (x3 > (IntKind.i64.wrap ((a0.size : Int) - a1)))) (some true) ((sIdx a0 (IntKind.i64.wrap (a1 + x14))).bind fun c21 : UInt8 => cond (decide ((c21.toNat : Int) < 128)) (some true) ((sIdx a0 (IntKind.i64.wrap (a1 + x14))).bind fun c23 : UInt8 => some (decide ((c23.toNat : Int) ≥ 192)))) : Option Bool).bind fun q17 => cond q17 (some (a1, 1, 65533)) ((sIdx a0 (IntKind.i64.wrap (a1 + x14))).bind fun c19 : UInt8 => r01_At.l0 m15 a0 a1 x3 J7 (IntKind.i64.wrap ((IntKind.i64.wrap ((IntKind.i64.wrap (x13 * 64)) + (IntKind.i64.wrap (c19.toNat : Int)))) - 128)) (IntKind.i64.wrap (x14 + 1)))) (J7 x13)
def r01_At.f (k : Nat) (a0 : ByteArray) (a1 : Int) : Option (Int × Int × Int) := (sIdx a0 a1).bind fun c2 : UInt8 => joinF (fun (x3 : Int) (x4 : Int) => joinF (fun (x6 : Int) => ((r01_good.f k x6).bind fun r10 => cond (!r10) (some true) ((r01_bytes.f k x6).bind fun r12 => some (r12 != x3)) : Option Bool).bind fun q8 => cond q8 (some (a1, 1, 65533)) (some (a1, x3, x6))) (fun J7 => r01_At.l0 k a0 a1 x3 J7 x4 1)) (fun J5 => (cond (decide ((IntKind.i64.wrap (c2.toNat : Int)) ≥ 192)) (some (decide ((IntKind.i64.wrap (c2.toNat : Int)) < 224))) (some false) : Option Bool).bind fun q24 => cond q24 (J5 2 (IntKind.i64.wrap ((IntKind.i64.wrap (c2.toNat : Int)) - 192))) ((cond (decide ((IntKind.i64.wrap (c2.toNat : Int)) ≥ 224)) (some (decide ((IntKind.i64.wrap (c2.toNat : Int)) < 240))) (some false) : Option Bool).bind fun q26 => cond q26 (J5 3 (IntKind.i64.wrap ((IntKind.i64.wrap (c2.toNat : Int)) - 224))) ((cond (decide ((IntKind.i64.wrap (c2.toNat : Int)) ≥ 240)) (some (decide ((IntKind.i64.wrap (c2.toNat : Int)) < 248))) (some false) : Option Bool).bind fun q28 => cond q28 (J5 4 (IntKind.i64.wrap ((IntKind.i64.wrap (c2.toNat : Int)) - 240))) (cond (decide ((IntKind.i64.wrap (c2.toNat : Int)) ≥ 128)) (some (a1, 1, 65533)) (J5 1 (IntKind.i64.wrap (c2.toNat : Int)))))))
set_option maxRecDepth 100000 in
theorem r01_At.ok {k : Nat} {a0 : ByteArray} {a1 : Int} {r : Int × Int × Int} (h : r01_At.f k a0 a1 = some r) : Ct Tryz.prog 29 #[sv a0, iv a1] [] [] (fun e l1 => e = .returned (.agg #[iv r.1, iv r.2.1, iv r.2.2]) ∧ l1 = []) := by
 refine ct_enter (args := [sv a0, iv a1]) Tryz.func29 rfl (Nat.le_of_ble_eq_true rfl) ?_
 intro A X hh_
 unfold r01_At.f at h
 refine ksr (knp #[iv 0, iv 0, iv 0] 72 fun b1 => (kns' (kx 2 (bnd h fun c2 hc2 h => (kix (kd := .i64) rfl hc2 (kx 2 (kns' (kx 1 (kns' (kx 2 ?_))))))))))
 refine knt ?_
 obtain ⟨J5, hJ5, h⟩ := joinSplit h
 refine k_cut (τ := Int × Int) (fun t => [(0, sv a0), (1, iv a1), (4, pt b1), (6, iv t.1), (7, iv t.2)]) (fun t => bk b1 #[iv 0, iv 0, iv 0] 72 :: X) (fun t => J5 t.1 t.2 = some r) ?_ ?_
 ·rintro ⟨x3, x4⟩ h
  subst hJ5
  obtain ⟨J7, hJ7, h⟩ := joinSplit h
  refine k_cut (τ := Int) (fun t => [(1, iv a1), (4, pt b1), (6, iv x3), (7, iv t)]) (fun t => bk b1 #[iv 0, iv 0, iv 0] 72 :: X) (fun t => J7 t = some r) ?_ ?_
  ·rintro x6 h
   subst hJ7
   refine k_seq (bnd h fun q8 hq8 h => ?_)
   refine k_cut1 [(1, iv a1), (4, pt b1), (6, iv x3), (7, iv x6), (89, bv q8)] (bk b1 #[iv 0, iv 0, iv 0] 72 :: X) ?_ ?_
   ·clear hq8
    refine kcn h (fun h => ?_) fun h => ?_
    ·refine ksr (kx 2 (kst 0 3 #[iv a1, iv 1, iv 65533] (knt (k_ret (k_then_ret ?_)))))
     obtain rfl := Option.some.inj h
     exact kda 0 3 rfl [] (K.drop (k_end ⟨rfl, rfl⟩))
    ·refine k_skip (k_then (ksr (kx 4 (kst 0 3 #[iv a1, iv x3, iv x6] (knt (k_ret ?_))))))
     obtain rfl := Option.some.inj h
     exact kda 0 3 rfl [] (K.drop (k_end ⟨rfl, rfl⟩))
   ·have h := hq8
    clear hq8
    refine k_region (kx 1 (bnd h fun r10 hr10 h => (kcv (r01_good.ok hr10) trivial (kx 2 ?_))))
    refine kcs 84 h (fun h => ?_) fun h => ?_
    ·exact kx 5 (knt (k_meet1 ⟨gr, gr, gr, gr, gb (Option.some.inj h), trivial⟩))
    ·exact kx 1 (bnd h fun r12 hr12 h => (kcv (r01_bytes.ok hr12) trivial (kx 3 (knt (k_meet1 ⟨gr, gr, gr, gr, gb (Option.some.inj h), trivial⟩)))))
  ·skip
   refine ksr (kx 1 (knt (k_block (k_loop (τ := Int × Int) (fun t => [(0, sv a0), (1, iv a1), (4, pt b1), (6, iv x3), (7, iv t.1), (8, iv t.2)]) (fun t => bk b1 #[iv 0, iv 0, iv 0] 72 :: X) (fun m t => r01_At.l0 m a0 a1 x3 J7 t.1 t.2 = some r) k (x4, 1) h sb rfl ?_))))
   clear h
   rintro m15 ⟨x13, x14⟩ h
   cases m15 with
   | zero => simp [r01_At.l0] at h
   | succ m15 =>
    simp only [r01_At.l0] at h
    refine k_seq (ksr (kx 3 (knt ?_)))
    refine kcn h (fun h => ?_) fun h => ?_
    ·refine k_skip (k_then (k_seq (k_block (k_seq (bnd h fun q17 hq17 h => ?_)))))
     refine k_cut1 [(0, sv a0), (1, iv a1), (4, pt b1), (6, iv x3), (7, iv x13), (8, iv x14), (68, bv q17)] (bk b1 #[iv 0, iv 0, iv 0] 72 :: X) ?_ ?_
     ·clear hq17
      refine kcn h (fun h => ?_) fun h => ?_
      ·refine ksr (kx 2 (kst 0 3 #[iv a1, iv 1, iv 65533] (knt (k_ret (k_then_ret (k_blk_ret (k_then_ret (k_then_ret (k_blk_ret (k_then_ret ?_))))))))))
       obtain rfl := Option.some.inj h
       exact kda 0 3 rfl [] (K.drop (k_end ⟨rfl, rfl⟩))
      ·refine k_skip (k_then (k_region (kx 6 (bnd h fun c19 hc19 h => (kix (kd := .i64) rfl hc19 (kx 4 (knl (k_blk (k_then (k_region ?_))))))))))
       exact kx 3 (knt (k_again m15 (IntKind.i64.wrap ((IntKind.i64.wrap ((IntKind.i64.wrap (x13 * 64)) + (IntKind.i64.wrap (c19.toNat : Int)))) - 128), IntKind.i64.wrap (x14 + 1)) (Nat.lt_succ_self _) h sb rfl))
     ·have h := hq17
      clear hq17
      refine k_region (kx 7 ?_)
      refine kcs 53 h (fun h => ?_) fun h => ?_
      ·exact kx 15 (knt (k_meet1 ⟨gr, gr, gr, gr, gr, gr, gb (Option.some.inj h), trivial⟩))
      ·refine kx 4 (bnd h fun c21 hc21 h => (kix (kd := .i64) rfl hc21 (kx 3 ?_)))
       refine kcs 61 h (fun h => ?_) fun h => ?_
       ·exact kx 7 (knt (k_meet1 ⟨gr, gr, gr, gr, gr, gr, gb (Option.some.inj h), trivial⟩))
       ·exact kx 4 (bnd h fun c23 hc23 h => (kix (kd := .i64) rfl hc23 (kx 2 (knt (k_meet1 ⟨gr, gr, gr, gr, gr, gr, gb (Option.some.inj h), trivial⟩)))))
    ·exact k_exit (k_then_exit (k_then_exit (k_here (k_then (k_meet x13 h sb rfl)))))
 ·skip
  refine bnd h fun q24 hq24 h => ?_
  refine k_cut1 [(0, sv a0), (1, iv a1), (4, pt b1), (5, iv (IntKind.i64.wrap (c2.toNat : Int))), (6, iv 1), (7, iv (IntKind.i64.wrap (c2.toNat : Int))), (19, bv q24)] (bk b1 #[iv 0, iv 0, iv 0] 72 :: X) ?_ ?_
  ·clear hq24
   refine kcn h (fun h => ?_) fun h => ?_
   ·exact k_region (kx 4 (knt (k_meet (2, IntKind.i64.wrap ((IntKind.i64.wrap (c2.toNat : Int)) - 192)) h sb rfl)))
   ·refine bnd h fun q26 hq26 h => ?_
    refine k_cut1 [(0, sv a0), (1, iv a1), (4, pt b1), (5, iv (IntKind.i64.wrap (c2.toNat : Int))), (6, iv 1), (7, iv (IntKind.i64.wrap (c2.toNat : Int))), (27, bv q26)] (bk b1 #[iv 0, iv 0, iv 0] 72 :: X) ?_ ?_
    ·clear hq26
     refine kcn h (fun h => ?_) fun h => ?_
     ·exact k_region (kx 4 (knt (k_meet (3, IntKind.i64.wrap ((IntKind.i64.wrap (c2.toNat : Int)) - 224)) h sb rfl)))
     ·refine bnd h fun q28 hq28 h => ?_
      refine k_cut1 [(0, sv a0), (1, iv a1), (4, pt b1), (5, iv (IntKind.i64.wrap (c2.toNat : Int))), (6, iv 1), (7, iv (IntKind.i64.wrap (c2.toNat : Int))), (35, bv q28)] (bk b1 #[iv 0, iv 0, iv 0] 72 :: X) ?_ ?_
      ·clear hq28
       refine kcn h (fun h => ?_) fun h => ?_
       ·exact k_region (kx 4 (knt (k_meet (4, IntKind.i64.wrap ((IntKind.i64.wrap (c2.toNat : Int)) - 240)) h sb rfl)))
       ·refine ksr (kx 2 (knt ?_))
        refine kcn h (fun h => ?_) fun h => ?_
        ·refine ksr (kx 2 (kst 0 3 #[iv a1, iv 1, iv 65533] (knt (k_ret (k_then_ret ?_)))))
         obtain rfl := Option.some.inj h
         exact kda 0 3 rfl [] (K.drop (k_end ⟨rfl, rfl⟩))
        ·exact k_skip (k_then (k_meet (1, IntKind.i64.wrap (c2.toNat : Int)) h sb rfl))
      ·have h := hq28
       clear hq28
       refine k_region (kx 3 ?_)
       refine kcs 32 h (fun h => ?_) fun h => ?_
       ·exact kx 3 (knt (k_meet1 ⟨gr, gr, gr, gr, gr, gr, gb (Option.some.inj h), trivial⟩))
       ·exact kx 3 (knt (k_meet1 ⟨gr, gr, gr, gr, gr, gr, gb (Option.some.inj h), trivial⟩))
    ·have h := hq26
     clear hq26
     refine k_region (kx 3 ?_)
     refine kcs 24 h (fun h => ?_) fun h => ?_
     ·exact kx 3 (knt (k_meet1 ⟨gr, gr, gr, gr, gr, gr, gb (Option.some.inj h), trivial⟩))
     ·exact kx 3 (knt (k_meet1 ⟨gr, gr, gr, gr, gr, gr, gb (Option.some.inj h), trivial⟩))
  ·have h := hq24
   clear hq24
   refine k_region (kx 3 ?_)
   refine kcs 16 h (fun h => ?_) fun h => ?_
   ·exact kx 3 (knt (k_meet1 ⟨gr, gr, gr, gr, gr, gr, gb (Option.some.inj h), trivial⟩))
   ·exact kx 3 (knt (k_meet1 ⟨gr, gr, gr, gr, gr, gr, gb (Option.some.inj h), trivial⟩))
end Go.Proofs.YtidiahkobapnjaaGreatDoor
