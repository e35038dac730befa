/- The steps of a walk over slots and pieces: operations, calls, results. -/
import Derived.Test.YtadenjlehhopmaaDoorJ0
namespace Go.Proofs.YtadenjlehhopmaaDoor
set_option linter.unusedSimpArgs false
set_option linter.unusedVariables false
open Go Go.RowKit
/-- The value of what neither reads nor writes memory. -/
def pureP (P : Program) {α : Type} : Sem α → Option α
  | .pure a => some a
  | .program k => pureP P (k P)
  | .mark _ k => pureP P k
  | _ => none
theorem pureP_run {P : Program} {α : Type} : ∀ {e : Sem α} {x : α} {w : World}, pureP P e = some x → e.run P w = .ok x w
  | .pure a, x, w, h => by simp only [pureP, Option.some.injEq] at h; subst h; rfl
  | .program k, x, w, h => by simp only [pureP] at h; simp only [Sem.run]; exact pureP_run h
  | .mark m k, x, w, h => by simp only [pureP] at h; simp only [Sem.run]; exact pureP_run h
  | .load .., _, _, h | .store .., _, _, h | .new .., _, _, h | .shape .., _, _, h | .freeze .., _, _, h | .frozen .., _, _, h | .getObj .., _, _, h | .setObj .., _, _, h | .choose .., _, _, h | .sys .., _, _, h | .halt .., _, _, h => by simp [pureP] at h
/-- What it halts by. -/
def haltP (P : Program) {α : Type} : Sem α → Option Halt
  | .halt h => some h
  | .program k => haltP P (k P)
  | .mark _ k => haltP P k
  | _ => none
theorem haltP_run {P : Program} {α : Type} : ∀ {e : Sem α} {x : Halt} {w : World}, haltP P e = some x → e.run P w = .halt x w
  | .halt a, x, w, h => by simp only [haltP, Option.some.injEq] at h; subst h; rfl
  | .program k, x, w, h => by simp only [haltP] at h; simp only [Sem.run]; exact haltP_run h
  | .mark m k, x, w, h => by simp only [haltP] at h; simp only [Sem.run]; exact haltP_run h
  | .load .., _, _, h | .store .., _, _, h | .new .., _, _, h | .shape .., _, _, h | .freeze .., _, _, h | .frozen .., _, _, h | .getObj .., _, _, h | .setObj .., _, _, h | .choose .., _, _, h | .sys .., _, _, h | .pure .., _, _, h => by simp [haltP] at h
theorem map_congr' {α β : Type} {f g : α → β} {xs : Array α} (h : ∀ x ∈ xs, f x = g x) : xs.map f = xs.map g := Array.map_congr_left h
def noSel : Op → Bool
  | .select .. => false
  | _ => true
theorem execOp_congr (ρ ρ' : Operand → Value) (o : Oper) (hs : noSel o.op = true) (h : ∀ x ∈ o.op.operands.toList, ρ x = ρ' x) : execOp ρ o = execOp ρ' o := by
  obtain ⟨dst, op, ty, pos, after, guard⟩ := o
  have ha : ∀ x ∈ op.operands, ρ x = ρ' x := fun x hx => h x (Array.mem_toList_iff.2 hx)
  clear h
  cases op with
  | select cs b => cases hs
  | call c =>
    obtain ⟨callee, args, argTypes⟩ := c
    have h2 : args.map ρ = args.map ρ' := map_congr' fun x hx => ha x (by cases callee <;> simp [Op.operands, Call.operands, hx])
    cases callee with
    | value f => have h1 : ρ f = ρ' f := ha f (by simp [Op.operands, Call.operands]); simp only [execOp, resolve, h1, h2]
    | invoke r m => have h1 : ρ r = ρ' r := ha r (by simp [Op.operands, Call.operands]); simp only [execOp, resolve, h1, h2]
    | builtin b => simp only [execOp, resolve, h2]
  | go c =>
    obtain ⟨callee, args, argTypes⟩ := c
    have h2 : args.map ρ = args.map ρ' := map_congr' fun x hx => ha x (by cases callee <;> simp [Op.operands, Call.operands, hx])
    cases callee with
    | value f => have h1 : ρ f = ρ' f := ha f (by simp [Op.operands, Call.operands]); simp only [execOp, resolve, h1, h2]
    | invoke r m => have h1 : ρ r = ρ' r := ha r (by simp [Op.operands, Call.operands]); simp only [execOp, resolve, h1, h2]
    | builtin b => simp only [execOp, resolve, h2]
  | defer c =>
    obtain ⟨callee, args, argTypes⟩ := c
    have h2 : args.map ρ = args.map ρ' := map_congr' fun x hx => ha x (by cases callee <;> simp [Op.operands, Call.operands, hx])
    cases callee with
    | value f => have h1 : ρ f = ρ' f := ha f (by simp [Op.operands, Call.operands]); simp only [execOp, resolve, h1, h2]
    | invoke r m => have h1 : ρ r = ρ' r := ha r (by simp [Op.operands, Call.operands]); simp only [execOp, resolve, h1, h2]
    | builtin b => simp only [execOp, resolve, h2]
  | build t ps =>
    have h1 : (ps.map fun (i, x) => (i, ρ x)) = (ps.map fun (i, x) => (i, ρ' x)) := map_congr' fun x hx => by
      obtain ⟨i, y⟩ := x
      have := ha y (by simp only [Op.operands, List.mem_toArray, List.mem_map]; exact ⟨(i, y), Array.mem_toList_iff.2 hx, rfl⟩)
      simp [this]
    simp only [execOp, h1]
  | buildSlice t n ps =>
    have h1 : (ps.map fun (i, x) => (i, ρ x)) = (ps.map fun (i, x) => (i, ρ' x)) := map_congr' fun x hx => by
      obtain ⟨i, y⟩ := x
      have := ha y (by simp only [Op.operands, List.mem_toArray, List.mem_map]; exact ⟨(i, y), Array.mem_toList_iff.2 hx, rfl⟩)
      simp [this]
    simp only [execOp, h1]
  | makeFunc fn first captured =>
    have h1 : first.map ρ = first.map ρ' := map_congr' fun x hx => ha x (by simp [Op.operands, hx])
    have h2 : captured.map ρ = captured.map ρ' := map_congr' fun x hx => ha x (by simp [Op.operands, hx])
    simp only [execOp, h1, h2]
  | makeMap t r => cases r with
    | none => rfl
    | some x => have h1 : ρ x = ρ' x := ha x (by simp [Op.operands]); simp only [execOp, Option.map_some, h1]
  | slice t x lo hi mx =>
    have h0 : ρ x = ρ' x := ha x (by simp [Op.operands])
    have h1 : lo.map ρ = lo.map ρ' := by cases lo with | none => rfl | some y => exact congrArg some (ha y (by simp [Op.operands]))
    have h2 : hi.map ρ = hi.map ρ' := by cases hi with | none => rfl | some y => exact congrArg some (ha y (by simp [Op.operands]))
    have h3 : mx.map ρ = mx.map ρ' := by cases mx with | none => rfl | some y => exact congrArg some (ha y (by simp [Op.operands]))
    simp only [execOp, h0, h1, h2, h3]
  | alloc | ready | waits => rfl
  | move x | assign x | box _ x | load _ x | nilCheck x | unOp _ _ x | convert _ _ x | sliceToArrayPointer _ x | makeInterface _ x | makeChan _ x | fieldAddr _ x _ | field _ x _ | range _ x | next x _ | entry x | typeAssert x _ _ _ | extract x _ | panic x | recv _ x _ =>
    have h1 : ρ x = ρ' x := ha x (by simp [Op.operands])
    simp only [execOp, h1]
  | pick x y z | mapUpdate _ x y z | entryStore _ x y z | insert _ x y z =>
    have h1 : ρ x = ρ' x := ha x (by simp [Op.operands])
    have h2 : ρ y = ρ' y := ha y (by simp [Op.operands])
    have h3 : ρ z = ρ' z := ha z (by simp [Op.operands])
    simp only [execOp, h1, h2, h3]
  | store _ x y | binOp _ _ x y _ | makeSlice _ x y | indexAddr _ x y | index _ x y | lookup _ x y _ | mapEntry _ x y | send x y =>
    have h1 : ρ x = ρ' x := ha x (by simp [Op.operands])
    have h2 : ρ y = ρ' y := ha y (by simp [Op.operands])
    simp only [execOp, h1, h2]
/-- Does the operation run, as its guard has it? -/
def wantE (ops : Array Oper) (env : Env) (o : Oper) : Option Bool :=
  match o.guard with
  | none => some true
  | some (j, want) =>
    match (ops[j]?).bind (·.dst) with
    | none => none
    | some d => match env.get d with
      | some (.bool b) => some (b == want)
      | some (.tuple _) => some false
      | _ => none
theorem wantE_spec {ops : Array Oper} {n : Nat} {env : Env} {a : Act} {o : Oper} {b : Bool} (ha : Holds n env a) (h : wantE ops env o = some b) : Region.wanted o (yielded ops a.tmps) = b := by
  unfold wantE at h
  unfold Region.wanted
  split at h
  · rename_i hg
    rw [hg]
    exact Option.some.inj h
  · rename_i j want hg
    rw [hg]
    split at h
    · cases h
    · rename_i d hd
      have hy : ∀ v, env.get d = some v → v ≠ undef → a.tmps[d]? = some v := fun v hv hne => by
        have := ha.at_ d v hv
        rw [Array.getD_eq_getD_getElem?] at this
        cases hq : a.tmps[d]? with
        | none => rw [hq] at this; exact absurd this.symm hne
        | some u => rw [hq] at this; exact congrArg some this
      split at h
      · rename_i b' hv
        have := hy _ hv (by intro e; cases e)
        simp only [yielded, hd, Option.bind_some, this]
        have := Option.some.inj h
        subst this
        cases b' <;> cases want <;> rfl
      · rename_i t hv
        have := ha.at_ d _ hv
        have hb := Option.some.inj h
        subst hb
        rw [Array.getD_eq_getD_getElem?] at this
        simp only [yielded, hd, Option.bind_some]
        cases hq : a.tmps[d]? with
        | none => rfl
        | some u =>
          rw [hq] at this
          simp only [Option.getD_some] at this
          subst this
          rfl
      · cases h
/-- The operations one behind the other, as long as none touches memory. -/
def stepsP (P : Program) (ops : Array Oper) (n : Nat) : List Oper → Env → Option Env
  | [], env => some env
  | o :: rest, env =>
    match wantE ops env o with
    | none => none
    | some false => match inB n o.dst with
      | true => stepsP P ops n rest (putE env o.dst undef)
      | false => none
    | some true => match noSel o.op && allB o.op.operands.toList env && inB n o.dst with
      | false => none
      | true => match pureP P (execOp (rho env) o) with
        | some (.value v) => stepsP P ops n rest (putE env o.dst v)
        | _ => none
def picks : List Nat → Env → Option (List Value)
  | [], _ => some []
  | k :: ks, env => match env.get k with
    | none => none
    | some v => (picks ks env).map (v :: ·)
theorem picks_sub : ∀ {sub : Env} {env : Env}, picks (sub.map (·.1)) env = some (sub.map (·.2)) → Sub env sub
  | [], _, _ => trivial
  | (k, v) :: r, env, h => by
    simp only [List.map_cons, picks] at h
    split at h
    · cases h
    · rename_i u hu
      cases hp : picks (r.map (·.1)) env with
      | none => rw [hp] at h; cases h
      | some vs =>
        rw [hp] at h
        simp only [Option.map_some, Option.some.injEq, List.cons.injEq] at h
        exact ⟨hu.trans (congrArg some h.1), picks_sub (hp.trans (congrArg some h.2))⟩
section
variable {A : World} {n : Nat} {env env' : Env} {l l' X : List Frag} {q : Act → World → Prop} {P : Program} {Q : Exit → Act → World → Prop} {ops : Array Oper} {os rest : List Oper} {o : Oper}
theorem kl_op (hg : wantE ops env o = some true) (h : K A n env l (fun a w => o.wp P a w (wpList P ops Q rest) Q)) : K A n env l (wpList P ops Q (o :: rest)) := fun a w ha hw => by
  unfold wpList
  rw [if_pos (wantE_spec ha hg)]
  exact .inl (h a w ha hw)
theorem op_value {v : Value} (hs : (noSel o.op && allB o.op.operands.toList env && inB n o.dst) = true) (hv : pureP P (execOp (rho env) o) = some (.value v)) {q : Act → World → Prop} (h : K A n (putE env o.dst v) l q) :
    K A n env l (fun a w => o.wp P a w q Q) := fun a w ha hw => by
  simp only [Bool.and_eq_true] at hs
  unfold Oper.wp
  rw [execOp_congr a.eval (rho env) o hs.1.1 (ha.rho hs.1.2), pureP_run hv]
  exact h _ _ (ha.putE v hs.2) hw
theorem kl_skip (hg : wantE ops env o = some false) (hd : inB n o.dst = true) (h : K A n (putE env o.dst undef) l (wpList P ops Q rest)) : K A n env l (wpList P ops Q (o :: rest)) := fun a w ha hw => by
  unfold wpList
  rw [if_neg (by rw [wantE_spec ha hg]; simp)]
  exact h _ _ (ha.putE _ hd) hw
theorem kl_all : ∀ (os : List Oper) (env : Env), stepsP P ops n os env = some env' → K A n env' l (wpList P ops Q rest) → K A n env l (wpList P ops Q (os ++ rest))
  | [], env, h, hk => by simp only [stepsP, Option.some.injEq] at h; subst h; exact hk
  | o :: os, env, h, hk => by
    simp only [stepsP] at h
    split at h
    · cases h
    · rename_i hg
      split at h
      · rename_i hd
        exact kl_skip hg hd (kl_all os _ h hk)
      · cases h
    · rename_i hg
      split at h
      · cases h
      · rename_i hs
        split at h
        · rename_i v hv
          exact kl_op hg (op_value hs hv (kl_all os _ h hk))
        · cases h
/-- The next m operations, none of which touches memory: then the slots of 'sub' are known. -/
theorem kl_steps (m : Nat) (sub : Env) (h : (stepsP P ops n (os.take m) env).bind (picks (sub.map (·.1))) = some (sub.map (·.2))) (hk : K A n sub l (wpList P ops Q (os.drop m))) : K A n env l (wpList P ops Q os) := by
  cases hs : stepsP P ops n (os.take m) env with
  | none => rw [hs] at h; cases h
  | some env1 =>
    rw [hs] at h
    have := kl_all (rest := os.drop m) (os.take m) env hs (K.weak hk (picks_sub h))
    rwa [List.take_append_drop] at this
/-- The same where the values are spelled otherwise. -/
theorem kl_steps' (m : Nat) (sub0 sub : Env) (h : (stepsP P ops n (os.take m) env).bind (picks (sub0.map (·.1))) = some (sub0.map (·.2))) (he : sub0 = sub) (hk : K A n sub l (wpList P ops Q (os.drop m))) : K A n env l (wpList P ops Q os) := by
  subst he; exact kl_steps m _ h hk
/-! ### Memory -/
inductive Orc where
  | val (v : Value)
  | num (b : Nat)
inductive Ev where
  | ld (a : Addr) (v : Value)
  | st (a : Addr) (v : Value)
  | nw (o : Obj) (b : Nat)
def follow (P : Program) {α : Type} : Sem α → List Orc → Option (α × List Ev)
  | .pure x, _ => some (x, [])
  | .program k, os => follow P (k P) os
  | .mark _ k, os => follow P k os
  | .load _ a k, .val v :: os => match follow P (k v) os with
    | some (x, es) => some (x, .ld a v :: es)
    | none => none
  | .store _ a v k, os => match follow P k os with
    | some (x, es) => some (x, .st a v :: es)
    | none => none
  | .new o k, .num b :: os => match follow P (k b) os with
    | some (x, es) => some (x, .nw o b :: es)
    | none => none
  | _, _ => none
def EvsOk : List Ev → World → World → Prop
  | [], w, w' => w = w'
  | .ld a v :: es, w, w' => w.cell? a = some v ∧ EvsOk es w w'
  | .st a v :: es, w, w' => v.oneCell' = true ∧ (∃ u, w.cell? a = some u) ∧ w.frozen? a = false ∧ EvsOk es (w.setCell a v) w'
  | .nw o b :: es, w, w' => b = w.heap.size ∧ EvsOk es (w.alloc o) w'
theorem follow_run {α : Type} : ∀ {e : Sem α} {os : List Orc} {x : α} {es : List Ev} {w w' : World}, follow P e os = some (x, es) → EvsOk es w w' → e.run P w = .ok x w'
  | .pure a, _, x, es, w, w', h, he => by
    simp only [follow, Option.some.injEq, Prod.mk.injEq] at h
    obtain ⟨rfl, rfl⟩ := h
    cases he
    rfl
  | .program k, os, x, es, w, w', h, he => by simp only [follow] at h; simp only [Sem.run]; exact follow_run h he
  | .mark m k, os, x, es, w, w', h, he => by simp only [follow] at h; simp only [Sem.run]; exact follow_run h he
  | .load m a k, [], x, es, w, w', h, he => by simp [follow] at h
  | .load m a k, .num _ :: _, x, es, w, w', h, he => by simp [follow] at h
  | .load m a k, .val v :: os, x, es, w, w', h, he => by
    simp only [follow] at h
    split at h
    · rename_i y es' hf
      simp only [Option.some.injEq, Prod.mk.injEq] at h
      obtain ⟨rfl, rfl⟩ := h
      simp only [Sem.run, he.1]
      exact follow_run hf he.2
    · cases h
  | .store m a v k, os, x, es, w, w', h, he => by
    simp only [follow] at h
    split at h
    · rename_i y es' hf
      simp only [Option.some.injEq, Prod.mk.injEq] at h
      obtain ⟨rfl, rfl⟩ := h
      obtain ⟨h1, ⟨u, h2⟩, h3, h4⟩ := he
      have := follow_run hf h4
      cases v <;> first | (simp [Value.oneCell'] at h1; done) | (simp only [Sem.run, h2, h3, Bool.false_eq_true, if_false]; exact this)
    · cases h
  | .new o k, [], x, es, w, w', h, he => by simp [follow] at h
  | .new o k, .val _ :: _, x, es, w, w', h, he => by simp [follow] at h
  | .new o k, .num b :: os, x, es, w, w', h, he => by
    simp only [follow] at h
    split at h
    · rename_i y es' hf
      simp only [Option.some.injEq, Prod.mk.injEq] at h
      obtain ⟨rfl, rfl⟩ := h
      obtain ⟨rfl, h4⟩ := he
      simp only [Sem.run]
      exact follow_run hf h4
    · cases h
  | .shape .., _, _, _, _, _, h, _ | .freeze .., _, _, _, _, _, h, _ | .frozen .., _, _, _, _, _, h, _ | .getObj .., _, _, _, _, _, h, _ | .setObj .., _, _, _, _, _, h, _ | .choose .., _, _, _, _, _, h, _ | .sys .., _, _, _, _, _, h, _ | .halt .., _, _, _, _, _, h, _ => by simp [follow] at h
/-- Loads of cells that are known. -/
def LdOk (l : List Frag) : List Ev → Prop
  | [] => True
  | .ld a v :: es => (∃ (i : Nat) (cs : Array Value) (e : TypeId) (z : Nat × Nat), l[i]? = some (blk a.block (.cells cs e z)) ∧ a.spot = none ∧ cs[a.off]? = some v) ∧ LdOk l es
  | _ => False
theorem LdOk.evs {w : World} (hw : St A l w) : ∀ {es : List Ev}, LdOk l es → EvsOk es w w
  | [], _ => rfl
  | .ld a v :: es, h => by
    obtain ⟨⟨i, cs, e, z, h1, h2, h3⟩, h4⟩ := h
    refine ⟨?_, h4.evs hw⟩
    have := hw.sat.cell (List.mem_of_getElem? h1) a.off
    rw [h3] at this
    have e' : a = ⟨a.block, a.off, none⟩ := by cases a; simp only at h2; subst h2; rfl
    rw [e']
    exact this
  | Ev.st .. :: _, h => h.elim
  | Ev.nw .. :: _, h => h.elim
theorem op_load {v : Value} {q : Act → World → Prop} (vs : List Orc) (es : List Ev) (hs : (noSel o.op && allB o.op.operands.toList env && inB n o.dst) = true) (hf : follow P (execOp (rho env) o) vs = some (.value v, es)) (hl : LdOk l es) (h : K A n (putE env o.dst v) l q) :
    K A n env l (fun a w => o.wp P a w q Q) := fun a w ha hw => by
  simp only [Bool.and_eq_true] at hs
  unfold Oper.wp
  rw [execOp_congr a.eval (rho env) o hs.1.1 (ha.rho hs.1.2), follow_run hf (hl.evs hw)]
  exact h _ _ (ha.putE v hs.2) hw
theorem kl_load {v : Value} (vs : List Orc) (es : List Ev) (hg : wantE ops env o = some true) (hs : (noSel o.op && allB o.op.operands.toList env && inB n o.dst) = true) (hf : follow P (execOp (rho env) o) vs = some (.value v, es)) (hl : LdOk l es)
    (h : K A n (putE env o.dst v) l (wpList P ops Q rest)) : K A n env l (wpList P ops Q (o :: rest)) := kl_op hg (op_load vs es hs hf hl h)
/-- Stores into the first piece. -/
def stAll (b : Nat) (e : TypeId) : List Ev → Array Value → Option (Array Value)
  | [], cs => some cs
  | .st a v :: es, cs => match a.spot, v.oneCell', Nat.blt a.off cs.size with
    | none, true, true => stAll b e es (cs.setIfInBounds a.off v)
    | _, _, _ => none
  | _, _ => none
def stAt (b : Nat) : List Ev → Prop
  | [] => True
  | .st a _ :: es => a.block = b ∧ stAt b es
  | _ => False
theorem stAll_evs {b : Nat} {e : TypeId} : ∀ {es : List Ev} {cs cs' : Array Value} {w : World}, St A (blk b (.cells cs e (0, 0)) :: l) w → stAt b es → stAll b e es cs = some cs' → ∃ w', EvsOk es w w' ∧ St A (blk b (.cells cs' e (0, 0)) :: l) w'
  | [], cs, cs', w, hw, _, h => by simp only [stAll, Option.some.injEq] at h; subst h; exact ⟨w, rfl, hw⟩
  | .st a v :: es, cs, cs', w, hw, hb, h => by
    simp only [stAll] at h
    split at h
    · rename_i h1 h2 h3
      have e' : a = ⟨b, a.off, none⟩ := by obtain ⟨x, y, z⟩ := a; simp only at h1; subst h1; have := hb.1; simp only at this; subst this; rfl
      have h3 : a.off < cs.size := by simpa [Nat.blt_eq] using h3
      obtain ⟨w', hw1, hw2⟩ := stAll_evs (hw.set a.off v) hb.2 h
      refine ⟨w', ⟨h2, ⟨cs[a.off], ?_⟩, ?_, ?_⟩, hw2⟩
      · exact (congrArg w.cell? e').trans ((hw.sat.cell (List.mem_cons_self ..) _).trans (by simp [h3]))
      · exact (congrArg w.frozen? e').trans (hw.sat.free (List.mem_cons_self ..) _)
      · rw [e']; exact hw1
    · cases h
  | Ev.ld .. :: _, _, _, _, _, h, _ => h.elim
  | Ev.nw .. :: _, _, _, _, _, h, _ => h.elim
theorem op_store {b : Nat} {e : TypeId} {cs cs' : Array Value} {q : Act → World → Prop} (es : List Ev) (hs : (noSel o.op && allB o.op.operands.toList env && inB n o.dst) = true) (hf : follow P (execOp (rho env) o) [] = some (.skip, es)) (hb : stAt b es)
    (hc : stAll b e es cs = some cs') (h : K A n (putE env o.dst undef) (blk b (.cells cs' e (0, 0)) :: l) q) : K A n env (blk b (.cells cs e (0, 0)) :: l) (fun a w => o.wp P a w q Q) := fun a w ha hw => by
  simp only [Bool.and_eq_true] at hs
  obtain ⟨w', h1, h2⟩ := stAll_evs hw hb hc
  unfold Oper.wp
  rw [execOp_congr a.eval (rho env) o hs.1.1 (ha.rho hs.1.2), follow_run hf h1]
  exact h _ _ (ha.putE _ hs.2) h2
theorem kl_store {b : Nat} {e : TypeId} {cs cs' : Array Value} (es : List Ev) (hg : wantE ops env o = some true) (hs : (noSel o.op && allB o.op.operands.toList env && inB n o.dst) = true) (hf : follow P (execOp (rho env) o) [] = some (.skip, es)) (hb : stAt b es)
    (hc : stAll b e es cs = some cs') (h : K A n (putE env o.dst undef) (blk b (.cells cs' e (0, 0)) :: l) (wpList P ops Q rest)) : K A n env (blk b (.cells cs e (0, 0)) :: l) (wpList P ops Q (o :: rest)) := kl_op hg (op_store es hs hf hb hc h)
theorem op_new {q : Act → World → Prop} (ob : Obj) (v : Nat → Value) (hs : (noSel o.op && allB o.op.operands.toList env && inB n o.dst) = true) (hf : ∀ b, follow P (execOp (rho env) o) [.num b] = some (.value (v b), [.nw ob b]))
    (h : ∀ b, K A n (putE env o.dst (v b)) (blk b ob :: l) q) : K A n env l (fun a w => o.wp P a w q Q) := fun a w ha hw => by
  simp only [Bool.and_eq_true] at hs
  unfold Oper.wp
  rw [execOp_congr a.eval (rho env) o hs.1.1 (ha.rho hs.1.2), follow_run (w' := w.alloc ob) (hf w.heap.size) ⟨rfl, rfl⟩]
  exact h _ _ _ (ha.putE _ hs.2) (hw.new ob)
theorem kl_new (ob : Obj) (v : Nat → Value) (hg : wantE ops env o = some true) (hs : (noSel o.op && allB o.op.operands.toList env && inB n o.dst) = true) (hf : ∀ b, follow P (execOp (rho env) o) [.num b] = some (.value (v b), [.nw ob b]))
    (h : ∀ b, K A n (putE env o.dst (v b)) (blk b ob :: l) (wpList P ops Q rest)) : K A n env l (wpList P ops Q (o :: rest)) := kl_op hg (op_new ob v hs hf h)
/-! ### Calls -/
/-- Pieces that are lent: they are among those that the call leaves alone. -/
def Lent : List Frag → List Frag → Prop
  | [], _ => True
  | h :: r, X => h ∈ X ∧ Lent r X
/-- A contract: called with l0 at hand (and hs lent), it comes to R, l0 being l1 then; all else is as it was. -/
def Ct (P : Program) (f : FuncId) (args : Array Value) (l0 hs : List Frag) (R : Ending → List Frag → Prop) : Prop :=
  ∀ A w X, Lent hs X → St A (l0 ++ X) w → Calls P f args w fun e w' => ∃ l1, R e l1 ∧ St A (l1 ++ X) w'
theorem Ct.mono {f : FuncId} {args : Array Value} {l0 hs : List Frag} {R R' : Ending → List Frag → Prop} (h : Ct P f args l0 hs R) (hr : ∀ e l1, R e l1 → R' e l1) : Ct P f args l0 hs R' :=
  fun A w X hh hw => (h A w X hh hw).mono fun e w' ⟨l1, h1, h2⟩ => ⟨l1, hr e l1 h1, h2⟩
/-- A contract over worlds: the call makes memory, and writes to none. -/
theorem Ct.of_below {f : FuncId} {args : Array Value} {R : Ending → Prop} (h : ∀ w, Calls P f args w fun e w' => R e ∧ Below w.heap.size w w') : Ct P f args [] [] fun e l1 => R e ∧ l1 = [] :=
  fun A w X _ hw => (h w).mono fun e w' ⟨h1, h2⟩ => ⟨[], ⟨h1, rfl⟩, hw.below h2⟩
theorem Ct.of_same {f : FuncId} {args : Array Value} {R : Ending → Prop} (h : ∀ w, Calls P f args w fun e w' => R e ∧ w = w') : Ct P f args [] [] fun e l1 => R e ∧ l1 = [] :=
  fun A w X _ hw => (h w).mono fun e w' ⟨h1, h2⟩ => ⟨[], ⟨h1, rfl⟩, by subst h2; exact hw⟩
theorem Ct.to_below {f : FuncId} {args : Array Value} {R : Ending → Prop} (h : Ct P f args [] [] fun e l1 => R e ∧ l1 = []) (w : World) : Calls P f args w fun e w' => R e ∧ Below w.heap.size w w' :=
  (h w w [old w] trivial (St.start w)).mono fun e w' ⟨l1, ⟨h1, h2⟩, h3⟩ => ⟨h1, by subst h2; exact St.end_ (l := []) h3⟩
def Nx (A : World) (n : Nat) (env : Env) (d : Option Nat) (X : List Frag) (next : Act → World → Prop) (Q : Exit → Act → World → Prop) : Ending → List Frag → Prop
  | .returned v, l1 => K A n (putE env d v) (l1 ++ X) next
  | .panicked c, l1 => K A n env (l1 ++ X) (Q (.panic c))
  | .outgrown, _ => False
theorem op_call {f : FuncId} {args : Array Value} {l0 hs : List Frag} {R : Ending → List Frag → Prop} {next : Act → World → Prop} (hg1 : (noSel o.op && allB o.op.operands.toList env && inB n o.dst) = true) (hp : pureP P (execOp (rho env) o) = some (.enter f args)) (hc : Ct P f args l0 hs R)
    (hl : l = l0 ++ X) (hh : Lent hs X) (hk : ∀ e l1, R e l1 → Nx A n env o.dst X next Q e l1) : K A n env l (fun a w => o.wp P a w next Q) := fun a w ha hw => by
  subst hl
  simp only [Bool.and_eq_true] at hg1
  unfold Oper.wp
  rw [execOp_congr a.eval (rho env) o hg1.1.1 (ha.rho hg1.1.2), pureP_run hp]
  refine (hc A w X hh hw).mono fun e w' ⟨l1, h1, h2⟩ => ?_
  have := hk e l1 h1
  cases e with
  | returned v => exact this _ _ (ha.putE v hg1.2) h2
  | panicked c => exact this _ _ ha h2
  | outgrown => exact this.elim
theorem kl_call {f : FuncId} {args : Array Value} {l0 hs : List Frag} {R : Ending → List Frag → Prop} (X : List Frag) (hg : wantE ops env o = some true) (hg1 : (noSel o.op && allB o.op.operands.toList env && inB n o.dst) = true) (hp : pureP P (execOp (rho env) o) = some (.enter f args)) (hc : Ct P f args l0 hs R)
    (hl : l = l0 ++ X) (hh : Lent hs X) (hk : ∀ e l1, R e l1 → Nx A n env o.dst X (wpList P ops Q rest) Q e l1) : K A n env l (wpList P ops Q (o :: rest)) := kl_op hg (op_call hg1 hp hc hl hh hk)
/-- A panic of the program's own. -/
theorem kl_panic {v : Value} (hg : wantE ops env o = some true) (hs : (noSel o.op && allB o.op.operands.toList env) = true) (hp : haltP P (execOp (rho env) o) = some (.panic v)) (hk : K A n env l (Q (.panic [{ v, recovered := false }]))) : K A n env l (wpList P ops Q (o :: rest)) := by
  refine kl_op hg fun a w ha hw => ?_
  simp only [Bool.and_eq_true] at hs
  unfold Oper.wp
  rw [execOp_congr a.eval (rho env) o hs.1 (ha.rho hs.2), haltP_run hp]
  exact hk a w ha hw
/-! ### In and out -/
def argEnv : Nat → List Value → Env
  | _, [] => []
  | i, v :: r => (i, v) :: argEnv (i + 1) r
theorem argEnv_get : ∀ (i : Nat) (vs : List Value) (j : Nat) (v : Value), (argEnv i vs).get j = some v → i ≤ j ∧ vs[j - i]? = some v
  | i, v :: r, j, u, h => by
    simp only [argEnv, Env.get] at h
    cases hb : Nat.beq i j with
    | true =>
      rw [hb] at h
      have := Nat.eq_of_beq_eq_true hb
      subst this
      exact ⟨Nat.le_refl _, by simpa using h⟩
    | false =>
      rw [hb] at h
      have := argEnv_get (i + 1) r j u h
      have hne := Nat.ne_of_beq_eq_false hb
      refine ⟨by omega, ?_⟩
      rw [show j - i = (j - (i + 1)) + 1 by omega, List.getElem?_cons_succ]
      exact this.2
theorem ct_enter {f : FuncId} {fn : Func} {c : Code} {args : List Value} {l0 hs : List Frag} {R : Ending → List Frag → Prop} (hf : P.funcs[f]? = some fn) (hb : fn.body = some c) (ha : args.length ≤ fn.ntmps)
    (h : ∀ A X, Lent hs X → K A fn.ntmps (argEnv 0 args) (l0 ++ X) (c.wp P (bodyPost P fn fun e w' => ∃ l1, R e l1 ∧ St A (l1 ++ X) w'))) : Ct P f args.toArray l0 hs R := fun A w X hh hw => by
  refine calls_of_wp hf hb (h A X hh _ w ⟨?_, rfl, fun i v hi => ?_⟩ hw)
  · simp; omega
  · have := argEnv_get 0 args i v hi
    simp only [Nat.sub_zero] at this
    have hlt := (List.getElem?_eq_some_iff.1 this.2).1
    simp only [Array.getD_eq_getD_getElem?]
    rw [Array.getElem?_append_left (by simpa using hlt)]
    simp [this.2]
def resGet (ρ : Nat → Value) : ResultVar → Sem Value
  | .tmp t => pure (ρ t)
  | .cell a t => do loadVar t (← asAddr (ρ a))
def resS (rs : Array ResultVar) (ρ : Nat → Value) : Sem Value := do
  let vs ← rs.mapM (resGet ρ)
  pure (if h : vs.size = 1 then vs[0] else .tuple vs)
theorem results_eq (fn : Func) (tmps : Array Value) : results fn tmps = resS fn.results (fun t => tmps.getD t undef) := rfl
def resSlots : ResultVar → Nat
  | .tmp t => t
  | .cell a _ => a
def hasAll : List ResultVar → Env → Bool
  | [], _ => true
  | r :: rs, env => match env.get (resSlots r) with | some _ => hasAll rs env | none => false
def rhoN (env : Env) (t : Nat) : Value := (env.get t).getD undef
theorem mapM_congr' {f g : ResultVar → Sem Value} : ∀ (rs : List ResultVar), (∀ r ∈ rs, f r = g r) → rs.mapM f = rs.mapM g
  | [], _ => rfl
  | r :: rs, h => by
    rw [List.mapM_cons, List.mapM_cons, h r (List.mem_cons_self ..), mapM_congr' rs fun r' hr => h r' (List.mem_cons_of_mem _ hr)]
theorem hasAll_mem {env : Env} : ∀ {rs : List ResultVar}, hasAll rs env = true → ∀ r ∈ rs, ∃ v, env.get (resSlots r) = some v
  | r0 :: rs, h, r, hr => by
    simp only [hasAll] at h
    split at h
    · rename_i v hv
      rcases List.mem_cons.1 hr with rfl | hr
      · exact ⟨v, hv⟩
      · exact hasAll_mem h r hr
    · cases h
theorem resS_congr {rs : Array ResultVar} {a : Act} (ha : Holds n env a) (h : hasAll rs.toList env = true) : resS rs (fun t => a.tmps.getD t undef) = resS rs (rhoN env) := by
  have hq : ∀ r ∈ rs.toList, a.tmps.getD (resSlots r) undef = rhoN env (resSlots r) := fun r hr => by
    obtain ⟨v, hv⟩ := hasAll_mem h r hr
    rw [ha.at_ _ v hv]; simp [rhoN, hv]
  unfold resS
  rw [Array.mapM_eq_mapM_toList, Array.mapM_eq_mapM_toList]
  rw [mapM_congr' (f := resGet fun t => a.tmps.getD t undef) (g := resGet (rhoN env)) rs.toList fun r hr => by
    have := hq r hr
    cases r with
    | tmp t => simp only [resSlots] at this; simp only [resGet, this]
    | cell a t => simp only [resSlots] at this; simp only [resGet, this]]
/-- The call returns. -/
theorem k_done {fn : Func} {R : Ending → List Frag → Prop} {v : Value} (vs : List Orc) (es : List Ev) (l1 : List Frag) (hr : hasAll fn.results.toList env = true) (hf : follow P (resS fn.results (rhoN env)) vs = some (v, es)) (hl : LdOk l es)
    (hk : K A n env l fun _ w => R (.returned v) l1 ∧ St A (l1 ++ X) w) : K A n env l (bodyPost P fn (fun e w' => ∃ l1, R e l1 ∧ St A (l1 ++ X) w') .ret) := fun a w ha hw =>
  ⟨ha.defers, v, by rw [results_eq, resS_congr ha hr]; exact follow_run hf (hl.evs hw), l1, hk a w ha hw⟩
theorem k_end {R : Prop} (h : R) : K A n env l fun _ w => R ∧ St A l w := fun _ _ _ hw => ⟨h, hw⟩
theorem k_fall {fn : Func} {R : Ending → World → Prop} (h : K A n env l (bodyPost P fn R .ret)) : K A n env l (bodyPost P fn R .normal) := h
theorem k_panicked {fn : Func} {R : Ending → List Frag → Prop} {c : List PanicEntry} (l1 : List Frag) (hk : K A n env l fun _ w => R (.panicked c) l1 ∧ St A (l1 ++ X) w) : K A n env l (bodyPost P fn (fun e w' => ∃ l1, R e l1 ∧ St A (l1 ++ X) w') (.panic c)) :=
  fun a w ha hw => ⟨ha.defers, l1, hk a w ha hw⟩
end
end Go.Proofs.YtadenjlehhopmaaDoor
