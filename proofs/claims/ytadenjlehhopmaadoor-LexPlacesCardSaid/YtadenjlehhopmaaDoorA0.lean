/- A region that draws its order, walked in one order: loads and reckonings first, calls and allocations in their forced order, the stores at the end. -/
import Derived.OrdersHeld
import Derived.Lib.Hide
import Derived.WalkKit
import Derived.WalkSpells
import Derived.WalkLawsBesides
namespace Go.Proofs.YtadenjlehhopmaaDoor
set_option linter.unusedSimpArgs false
set_option linter.unusedVariables false
open Go Go.RowKit
section
variable {P : Program} {ops : Array Oper} {Q : Exit → Act → World → Prop} {md : Region.Mode} {S : World → Prop} {E : List Nat}

/-- Does operation j wait for operation i, by at most f edges? -/
def waitsB (md : Region.Mode) (ops : Array Oper) : Nat → Nat → Nat → Bool
  | 0, _, _ => false
  | f + 1, j, i =>
    match ops[j]? with
    | some oj => oj.after.any fun e => Region.binds md e && (e.on == i || waitsB md ops f e.on i)
    | none => false

/-- What is listed has all listed that it waits for. -/
def Closed (md : Region.Mode) (ops : Array Oper) (listed : Array Bool) : Prop :=
  ∀ j oj, ops[j]? = some oj → listed.getD j false = true → ∀ e ∈ oj.after, Region.binds md e = true → listed.getD e.on false = true

theorem Closed.set {i : Nat} {listed : Array Bool} (h : Closed md ops listed) (hi : i ∈ Region.ready md ops listed) : Closed md ops (listed.setIfInBounds i true) := by
  obtain ⟨_, oi, hoi, hall⟩ := mem_ready.1 hi
  intro j oj hj hl e he hb
  by_cases hij : i = j
  · subst hij
    rw [hoi] at hj
    cases hj
    exact getD_set_true (hall e he hb)
  · rw [getD_set_ne false hij] at hl
    exact getD_set_true (h j oj hj hl e he hb)

theorem Closed.waits {listed : Array Bool} (h : Closed md ops listed) (i : Nat) : ∀ (f j : Nat), waitsB md ops f j i = true → listed.getD j false = true → listed.getD i false = true
  | 0, _, hw, _ => by simp [waitsB] at hw
  | f + 1, j, hw, hl => by
    simp only [waitsB] at hw
    split at hw
    · rename_i oj hoj
      obtain ⟨e, he, hb⟩ := Array.any_eq_true'.1 hw
      simp only [Bool.and_eq_true, Bool.or_eq_true, beq_iff_eq] at hb
      have h1 := h j oj hoj hl e he hb.1
      rcases hb.2 with h2 | h2
      · rw [← h2]; exact h1
      · exact Closed.waits h i f e.on h2 h1
    · cases hw

theorem not_both {i : Nat} {listed : Array Bool} (h0 : listed.getD i true = false) (h1 : listed.getD i false = true) : False := by
  rcases Nat.lt_or_ge i listed.size with h' | h'
  · simp [h'] at h0 h1; rw [h0] at h1; cases h1
  · simp [h'] at h1

/-- Must S hold behind operation j? Not if it waits for every early operation that S is for. -/
def needsS (md : Region.Mode) (ops : Array Oper) (E : List Nat) (j : Nat) : Bool := !(E.all fun i => waitsB md ops ops.size j i)

theorem needsS_of_left {i j : Nat} {listed : Array Bool} (hc : Closed md ops listed) (hi : i ∈ E) (hl : listed.getD i true = false) (hj : j ∈ Region.ready md ops listed) : needsS md ops E j = true := by
  unfold needsS
  rw [Bool.not_eq_true', Bool.eq_false_iff]
  intro hall
  have hw := List.all_eq_true.1 hall i hi
  obtain ⟨_, oj, hoj, hallj⟩ := mem_ready.1 hj
  cases hn : ops.size with
  | zero => rw [hn] at hw; simp [waitsB] at hw
  | succ f =>
    rw [hn] at hw
    simp only [waitsB, hoj] at hw
    obtain ⟨e, he, hb⟩ := Array.any_eq_true'.1 hw
    simp only [Bool.and_eq_true, Bool.or_eq_true, beq_iff_eq] at hb
    have h1 := hallj e he hb.1
    rcases hb.2 with h2 | h2
    · rw [h2] at h1; exact not_both hl h1
    · exact not_both hl (hc.waits i f e.on h2 h1)

/-- Whatever order is picked from here on; S holds behind every operation that may come ahead of an early one. -/
def wpAnyS (P : Program) (md : Region.Mode) (ops : Array Oper) (Q : Exit → Act → World → Prop) (S : World → Prop) (E : List Nat) : Nat → Array Bool → Act → World → Prop
  | 0, listed, a, w => Region.ready md ops listed = [] ∧ Q .normal a w
  | fuel + 1, listed, a, w =>
    (Region.ready md ops listed = [] → Q .normal a w) ∧
    ∀ i ∈ Region.ready md ops listed, wpOp P ops Q i (fun a' w' => (needsS md ops E i = true → S w → S w') ∧ wpAnyS P md ops Q S E fuel (listed.setIfInBounds i true) a' w') a w

theorem wpAny_of_S : ∀ (fuel : Nat) (listed : Array Bool) (a : Act) (w : World), wpAnyS P md ops Q S E fuel listed a w → wpAny P md ops Q fuel listed a w
  | 0, _, _, _, h => h
  | fuel + 1, _, _, _, h => ⟨h.1, fun i hi => wpOp_mono (fun a' w' h' => wpAny_of_S fuel _ a' w' h'.2) (h.2 i hi)⟩

/-- An operation that may come up now may be taken first, if it yields its value in whatever world, or in every world that meets S. -/
theorem wpAnyS_first {T : World → Prop} {i : Nat} {oi : Oper} {v : Value} (hi : ops[i]? = some oi) (hsel : ∀ (j : Nat) (o : Oper) cs b, ops[j]? = some o → o.op ≠ .select cs b)
    (hQ : ∀ c a w, Q (.panic c) (a.put oi.dst v) w → Q (.panic c) a w) (hT : (∀ w, T w) ∨ (i ∈ E ∧ ∀ w, S w → T w)) :
    ∀ (fuel : Nat) (listed : Array Bool) (a : Act) (w : World), Closed md ops listed →
      (∀ j oj, ops[j]? = some oj → j ≠ i → listed.getD j true = false → (∀ e ∈ oj.after, Region.binds md e = true → e.on ≠ i) → oi.apart ops oj = true) →
      i ∈ Region.ready md ops listed → YieldsIf P ops T oi v a → ((∀ w, T w) ∨ S w) →
      wpAnyS P md ops Q S E fuel (listed.setIfInBounds i true) (a.put oi.dst v) w → wpAnyS P md ops Q S E (fuel + 1) listed a w := by
  intro fuel
  induction fuel with
  | zero =>
    intro listed a w _ _ hr hy hSw H
    have hTw : T w := hT.elim (fun h => h w) (fun h => hSw.elim (fun h => h w) (fun h' => h.2 w h'))
    refine ⟨fun h => (by rw [h] at hr; cases hr), fun j hj => ?_⟩
    by_cases hji : j = i
    · subst hji; exact hy.wpOp hi hTw ⟨fun _ h => h, H⟩
    · have := ready_mono hj hji
      rw [H.1] at this
      cases this
  | succ fuel ih =>
    intro listed a w hcl hfree hr hy hSw H
    have hTw : T w := hT.elim (fun h => h w) (fun h => hSw.elim (fun h => h w) (fun h' => h.2 w h'))
    refine ⟨fun h => (by rw [h] at hr; cases hr), fun j hj => ?_⟩
    by_cases hji : j = i
    · subst hji; exact hy.wpOp hi hTw ⟨fun _ h => h, H⟩
    · have h1 := H.2 j (ready_mono hj hji)
      obtain ⟨hjun, oj, hoj, hall⟩ := mem_ready.1 hj
      have hnot : ∀ e ∈ oj.after, Region.binds md e = true → e.on ≠ i := fun e he hb heq => by
        have h1 := hall e he hb
        rw [heq] at h1
        exact not_both (mem_ready.1 hr).1 h1
      have h2 := wpOp_putIf hoj (hfree j oj hoj hji hjun hnot) (fun cs b => hsel i oi cs b hi) (fun cs b => hsel j oj cs b hoj) hQ hy h1
      have hfree' : ∀ k ok, ops[k]? = some ok → k ≠ i → (listed.setIfInBounds j true).getD k true = false →
          (∀ e ∈ ok.after, Region.binds md e = true → e.on ≠ i) → oi.apart ops ok = true := fun k ok hk hki hun hno => by
        refine hfree k ok hk hki ?_ hno
        by_cases hjk : j = k
        · subst hjk; exact hjun
        · rw [getD_set_ne true hjk] at hun; exact hun
      refine wpOp_mono (fun a' w' h3 => ⟨h3.2.1, ?_⟩) h2
      have hH := h3.2.2
      rw [Array.setIfInBounds_comm _ _ (Ne.symm hji)] at hH
      refine ih (listed.setIfInBounds j true) a' w' (hcl.set hj) hfree' (ready_mono hr (Ne.symm hji)) h3.1 ?_ hH
      rcases hSw with h | h
      · exact .inl h
      · rcases hT with h' | h'
        · exact .inl h'
        · exact .inr (h3.2.1 (needsS_of_left hcl h'.1 (mem_ready.1 hr).1 hj) h)

/-- The operations from k on come up one behind the other, and none of them is asked for S. -/
def tailB (md : Region.Mode) (ops : Array Oper) (E : List Nat) : Nat → Nat → Array Bool → Bool
  | 0, _, listed => (Region.ready md ops listed).isEmpty
  | g + 1, k, listed => decide (Region.ready md ops listed = [k]) && !needsS md ops E k && tailB md ops E g (k + 1) (listed.setIfInBounds k true)

theorem wpAnyS_of_tail : ∀ (l : List Oper) (k : Nat) (listed : Array Bool) (a : Act) (w : World), (∀ j, l[j]? = ops[k + j]?) →
    tailB md ops E l.length k listed = true → wpList P ops Q l a w → wpAnyS P md ops Q S E l.length listed a w
  | [], _, _, _, _, _, hB, h => ⟨by simpa [tailB] using hB, h⟩
  | o :: l, k, listed, a, w, hl, hB, h => by
    have h0 : ops[k]? = some o := by simpa using (hl 0).symm
    simp only [List.length_cons, tailB, Bool.and_eq_true, decide_eq_true_eq, Bool.not_eq_true'] at hB
    refine ⟨fun h1 => (by rw [hB.1.1] at h1; cases h1), fun i hi => ?_⟩
    rw [hB.1.1] at hi
    have hik : i = k := by simpa using hi
    subst hik
    have hw : wpOp P ops Q i (wpList P ops Q l) a w := by unfold wpOp; simp only [h0]; exact h
    exact wpOp_mono (fun a' w' h' => ⟨fun hc => (by rw [hB.1.2] at hc; cases hc), wpAnyS_of_tail l (i + 1) _ a' w' (fun j => by have := hl (j + 1); simpa [Nat.add_assoc, Nat.add_comm 1 j] using this) hB.2 h'⟩) hw

/-- What a plan of the first part comes to, a row an operation: 0: early, in whatever world; 1: in its turn, S is shown anew behind it; 2: in its turn; 3: early, in every world that meets S. -/
def wpPlan (P : Program) (ops : Array Oper) (Q : Exit → Act → World → Prop) (S : World → Prop) (tail : Act → World → Prop) : List (Oper × Nat) → Act → World → Prop
  | [], a, w => tail a w
  | (o, 0) :: rest, a, w => ∃ v, YieldsIf P ops (fun _ => True) o v a ∧ wpPlan P ops Q S tail rest (a.put o.dst v) w
  | (o, 1) :: rest, a, w => ∀ K : Act → World → Prop, (∀ a' w', (S w' ∧ wpPlan P ops Q S tail rest a' w') → K a' w') →
      if Region.wanted o (yielded ops a.tmps) then o.wp P a w K Q else K (a.put o.dst undef) w
  | (o, 2) :: rest, a, w => ∀ K : Act → World → Prop, (∀ a' w', wpPlan P ops Q S tail rest a' w' → K a' w') →
      if Region.wanted o (yielded ops a.tmps) then o.wp P a w K Q else K (a.put o.dst undef) w
  | (o, _) :: rest, a, w => ∃ v, YieldsIf P ops S o v a ∧ wpPlan P ops Q S tail rest (a.put o.dst v) w

def planOps (ops : Array Oper) (plan : List (Nat × Nat)) : List (Oper × Nat) := plan.filterMap fun x => (ops[x.1]?).map fun o => (o, x.2)

def planB (ops : Array Oper) (E : List Nat) (n : Nat) : List (Nat × Nat) → Array Bool → Bool
  | [], listed => tailB .any ops E (ops.size - n) n listed
  | (i, 0) :: rest, listed => decide (i < ops.size) && (Region.ready .any ops listed).contains i && Region.free .any ops listed i && planB ops E n rest (listed.setIfInBounds i true)
  | (i, 1) :: rest, listed => decide (i < ops.size) && decide (Region.ready .any ops listed = [i]) && planB ops E n rest (listed.setIfInBounds i true)
  | (i, 2) :: rest, listed => decide (i < ops.size) && decide (Region.ready .any ops listed = [i]) && !needsS .any ops E i && !(rest.any (·.2 == 3)) && planB ops E n rest (listed.setIfInBounds i true)
  | (i, k + 3) :: rest, listed => decide (k = 0) && E.contains i && decide (i < ops.size) && (Region.ready .any ops listed).contains i && Region.free .any ops listed i && planB ops E n rest (listed.setIfInBounds i true)

/-- S is at hand as long as an early operation that wants it is left. -/
theorem wpAnyS_of_plan (l : List Oper) (n : Nat) (hsel : Region.noSelect l.toArray = true)
    (hQ : ∀ c a d v w, Q (.panic c) (Act.put a d v) w → Q (.panic c) a w) :
    ∀ (plan : List (Nat × Nat)) (listed : Array Bool) (a : Act) (w : World), Closed .any l.toArray listed → planB l.toArray E n plan listed = true → (plan.any (·.2 == 3) = true → S w) →
      wpPlan P l.toArray Q S (wpList P l.toArray Q (l.drop n)) (planOps l.toArray plan) a w → wpAnyS P .any l.toArray Q S E (plan.length + (l.toArray.size - n)) listed a w
  | [], listed, a, w, _, hB, _, h => by
    simp only [planB] at hB
    have hd : (l.drop n).length = l.toArray.size - n := by simp
    have := wpAnyS_of_tail (S := S) (l.drop n) n listed a w (fun j => by simp) (by rw [hd]; exact hB) h
    simpa using this
  | (i, 0) :: rest, listed, a, w, hcl, hB, hS, h => by
    simp only [planB, Bool.and_eq_true, decide_eq_true_eq] at hB
    obtain ⟨⟨⟨hi, hr⟩, hf⟩, hB'⟩ := hB
    have ho : l.toArray[i]? = some l.toArray[i] := by simp
    simp only [planOps, List.filterMap_cons, ho, Option.map_some, wpPlan] at h
    obtain ⟨v, hy, h⟩ := h
    have hr' : i ∈ Region.ready .any l.toArray listed := by simpa using hr
    rw [show (((i, 0) :: rest : List (Nat × Nat)).length + (l.toArray.size - n)) = (rest.length + (l.toArray.size - n)) + 1 by simp only [List.length_cons]; omega]
    exact wpAnyS_first ho (Region.noSelect_spec hsel) (fun c a w => hQ c a _ v w) (.inl fun _ => trivial) _ listed a w hcl (Region.free_spec ho hf) hr' hy (.inl fun _ => trivial)
      (wpAnyS_of_plan l n hsel hQ rest _ _ w (hcl.set hr') hB' (fun h => hS (by simpa using h)) h)
  | (i, 1) :: rest, listed, a, w, hcl, hB, hS, h => by
    simp only [planB, Bool.and_eq_true, decide_eq_true_eq] at hB
    obtain ⟨⟨hi, hr⟩, hB'⟩ := hB
    have ho : l.toArray[i]? = some l.toArray[i] := by simp
    simp only [planOps, List.filterMap_cons, ho, Option.map_some, wpPlan] at h
    rw [show (((i, 1) :: rest : List (Nat × Nat)).length + (l.toArray.size - n)) = (rest.length + (l.toArray.size - n)) + 1 by simp only [List.length_cons]; omega]
    refine ⟨fun h0 => (by rw [hr] at h0; cases h0), fun j hj => ?_⟩
    have hj' := hj
    rw [hr] at hj
    have hji : j = i := by simpa using hj
    subst hji
    have h := h _ (fun a' w' h => h)
    unfold wpOp
    rw [ho]
    simp only
    have step : ∀ a' w', (S w' ∧ wpPlan P l.toArray Q S (wpList P l.toArray Q (l.drop n)) (planOps l.toArray rest) a' w') →
        ((needsS .any l.toArray E j = true → S w → S w') ∧ wpAnyS P .any l.toArray Q S E (rest.length + (l.toArray.size - n)) (listed.setIfInBounds j true) a' w') :=
      fun a' w' ⟨hSw, hp⟩ => ⟨fun _ _ => hSw, wpAnyS_of_plan l n hsel hQ rest _ _ w' (hcl.set hj') hB' (fun _ => hSw) hp⟩
    split
    · rename_i hw
      rw [if_pos hw] at h
      exact .inl (Oper.wp_mono step h)
    · rename_i hw
      rw [if_neg hw] at h
      exact step _ _ h
  | (i, 2) :: rest, listed, a, w, hcl, hB, hS, h => by
    simp only [planB, Bool.and_eq_true, decide_eq_true_eq, Bool.not_eq_true'] at hB
    obtain ⟨⟨⟨⟨hi, hr⟩, hn⟩, hno⟩, hB'⟩ := hB
    have ho : l.toArray[i]? = some l.toArray[i] := by simp
    simp only [planOps, List.filterMap_cons, ho, Option.map_some, wpPlan] at h
    rw [show (((i, 2) :: rest : List (Nat × Nat)).length + (l.toArray.size - n)) = (rest.length + (l.toArray.size - n)) + 1 by simp only [List.length_cons]; omega]
    refine ⟨fun h0 => (by rw [hr] at h0; cases h0), fun j hj => ?_⟩
    have hj' := hj
    rw [hr] at hj
    have hji : j = i := by simpa using hj
    subst hji
    have h := h _ (fun a' w' h => h)
    unfold wpOp
    rw [ho]
    simp only
    have step : ∀ a' w', wpPlan P l.toArray Q S (wpList P l.toArray Q (l.drop n)) (planOps l.toArray rest) a' w' →
        ((needsS .any l.toArray E j = true → S w → S w') ∧ wpAnyS P .any l.toArray Q S E (rest.length + (l.toArray.size - n)) (listed.setIfInBounds j true) a' w') :=
      fun a' w' hp => ⟨fun hc => (by rw [hn] at hc; cases hc), wpAnyS_of_plan l n hsel hQ rest _ _ w' (hcl.set hj') hB' (fun hc => (by rw [hno] at hc; cases hc)) hp⟩
    split
    · rename_i hw
      rw [if_pos hw] at h
      exact .inl (Oper.wp_mono step h)
    · rename_i hw
      rw [if_neg hw] at h
      exact step _ _ h
  | (i, k + 3) :: rest, listed, a, w, hcl, hB, hS, h => by
    simp only [planB, Bool.and_eq_true, decide_eq_true_eq] at hB
    obtain ⟨⟨⟨⟨⟨hk, hE⟩, hi⟩, hr⟩, hf⟩, hB'⟩ := hB
    subst hk
    have ho : l.toArray[i]? = some l.toArray[i] := by simp
    simp only [planOps, List.filterMap_cons, ho, Option.map_some, wpPlan] at h
    obtain ⟨v, hy, h⟩ := h
    have hr' : i ∈ Region.ready .any l.toArray listed := by simpa using hr
    have hSw : S w := hS (by simp)
    rw [show (((i, 0 + 3) :: rest : List (Nat × Nat)).length + (l.toArray.size - n)) = (rest.length + (l.toArray.size - n)) + 1 by simp only [List.length_cons]; omega]
    exact wpAnyS_first (T := S) ho (Region.noSelect_spec hsel) (fun c a w => hQ c a _ v w) (.inr ⟨by simpa using hE, fun _ h => h⟩) _ listed a w hcl (Region.free_spec ho hf) hr' hy (.inr hSw)
      (wpAnyS_of_plan l n hsel hQ rest _ _ w (hcl.set hr') hB' (fun _ => hSw) h)

/-- The operations of a plan that S is for. -/
def earlyOf (plan : List (Nat × Nat)) : List Nat := plan.filterMap fun x => if x.2 == 3 then some x.1 else none

/-- THE BEGINNING: a region that draws its order, by a plan of its first operations; the others come in the text's order. -/
theorem wp_region_plan {id : Nat} {a : Act} {w : World} {l : List Oper} (plan : List (Nat × Nat)) (S : World → Prop) (hm : P.follows .mixedOrders = true)
    (hB : (Region.noSelect l.toArray && decide (plan.length ≤ l.length) && planB l.toArray (earlyOf plan) plan.length plan (Array.replicate l.toArray.size false)) = true)
    (hQ : ∀ c a d v w, Q (.panic c) (Act.put a d v) w → Q (.panic c) a w) (hS : S w.drew)
    (h : wpPlan P l.toArray Q S (wpList P l.toArray Q (l.drop plan.length)) (planOps l.toArray plan) a w.drew) : (Code.region id l.toArray true).wp P Q a w := by
  simp only [Bool.and_eq_true, decide_eq_true_eq] at hB
  obtain ⟨⟨hsel, hlen⟩, hB⟩ := hB
  refine wp_region_any hm ?_
  have hcl : Closed .any l.toArray (Array.replicate l.toArray.size false) := fun j oj _ hl => by
    rw [show (Array.replicate l.toArray.size false).getD j false = false by
      rcases Nat.lt_or_ge j l.toArray.size with h' | h' <;> (simp [Array.getD_eq_getD_getElem?, Array.getElem?_replicate]; try split <;> rfl)] at hl
    cases hl
  have := wpAnyS_of_plan (P := P) (Q := Q) (S := S) l plan.length hsel hQ plan _ a w.drew hcl hB (fun _ => hS) h
  have := wpAny_of_S _ _ _ _ this
  rw [show plan.length + (l.toArray.size - plan.length) = l.toArray.size by simp only [List.size_toArray]; omega] at this
  exact this

section steps
variable {T : Act → World → Prop} {o : Oper} {rest : List (Oper × Nat)} {a : Act} {w : World} {v : Value}
/-- An early operation: its value in whatever world. -/
theorem plan_pure (hg : Region.wanted o (yielded ops a.tmps) = true) (hy : ∀ w, (execOp a.eval o).run P w = .ok (.value v) w) (h : wpPlan P ops Q S T rest (a.put o.dst v) w) :
    wpPlan P ops Q S T ((o, 0) :: rest) a w := ⟨v, .inl ⟨hg, fun w _ => hy w⟩, h⟩
/-- An early operation whose guard says no. -/
theorem plan_pass (hg : Region.wanted o (yielded ops a.tmps) = false) (h : wpPlan P ops Q S T rest (a.put o.dst undef) w) : wpPlan P ops Q S T ((o, 0) :: rest) a w := ⟨undef, .inr ⟨hg, rfl⟩, h⟩
theorem plan_pass3 (hg : Region.wanted o (yielded ops a.tmps) = false) (h : wpPlan P ops Q S T rest (a.put o.dst undef) w) : wpPlan P ops Q S T ((o, 3) :: rest) a w := ⟨undef, .inr ⟨hg, rfl⟩, h⟩
/-- An early operation: its value in every world that meets S. -/
theorem plan_load (hg : Region.wanted o (yielded ops a.tmps) = true) (hy : ∀ w, S w → (execOp a.eval o).run P w = .ok (.value v) w) (h : wpPlan P ops Q S T rest (a.put o.dst v) w) :
    wpPlan P ops Q S T ((o, 3) :: rest) a w := ⟨v, .inl ⟨hg, hy⟩, h⟩
/-- An operation in its turn, S shown anew. -/
theorem plan_turn (hg : Region.wanted o (yielded ops a.tmps) = true)
    (h : ∀ K : Act → World → Prop, (∀ a' w', (S w' ∧ wpPlan P ops Q S T rest a' w') → K a' w') → o.wp P a w K Q) : wpPlan P ops Q S T ((o, 1) :: rest) a w :=
  fun K hK => by rw [if_pos hg]; exact h K hK
/-- An operation in its turn. -/
theorem plan_turn2 (hg : Region.wanted o (yielded ops a.tmps) = true)
    (h : ∀ K : Act → World → Prop, (∀ a' w', wpPlan P ops Q S T rest a' w' → K a' w') → o.wp P a w K Q) : wpPlan P ops Q S T ((o, 2) :: rest) a w :=
  fun K hK => by rw [if_pos hg]; exact h K hK
theorem plan_done (h : T a w) : wpPlan P ops Q S T [] a w := h
end steps
end
end Go.Proofs.YtadenjlehhopmaaDoor
