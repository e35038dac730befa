/- More steps of a walk over slots and pieces: cuts, regions that draw their order, strings. -/
import Derived.Test.YtadenjlehhopmaaDoorJ1
namespace Go.Proofs.YtadenjlehhopmaaDoor
set_option linter.unusedSimpArgs false
set_option linter.unusedVariables false
open Go Go.RowKit
theorem bindSome {α β : Type} {x : Option α} {f : α → Option β} {r : β} (h : x.bind f = some r) : ∃ a, x = some a ∧ f a = some r := by
  cases x with
  | none => cases h
  | some a => exact ⟨a, rfl, h⟩
theorem condT {α : Type} {b : Bool} {x y : Option α} {r : α} (h : cond b x y = some r) (hb : b = true) : x = some r := by subst hb; exact h
theorem condF {α : Type} {b : Bool} {x y : Option α} {r : α} (h : cond b x y = some r) (hb : b = false) : y = some r := by subst hb; exact h
theorem condN {α : Type} {b : Bool} {x : Option α} {r : α} (h : cond b x none = some r) : b = true ∧ x = some r := by
  cases b with
  | true => exact ⟨rfl, h⟩
  | false => cases h
/-- A byte of a string. -/
def sIdx (s : ByteArray) (i : Int) : Option UInt8 := if 0 ≤ i then s[i.toNat]? else none
/-- A part of a string. -/
def sSub (s : ByteArray) (lo hi : Int) : Option ByteArray := cond (decide (0 ≤ lo ∧ lo ≤ hi ∧ hi ≤ s.size)) (some (s.extract lo.toNat hi.toNat)) none
section
variable {A : World} {n : Nat} {env env' : Env} {l l' X : List Frag} {q : Act → World → Prop} {P : Program} {Q : Exit → Act → World → Prop} {ops : Array Oper} {os rest : List Oper} {o : Oper}
/-! ### Cuts -/
def Meet {τ : Type} (A : World) (n : Nat) (E : τ → Env) (L : τ → List Frag) (S : τ → Prop) (a : Act) (w : World) : Prop := ∃ t, S t ∧ Holds n (E t) a ∧ St A (L t) w
theorem k_cut {τ : Type} {x y : Code} (E : τ → Env) (L : τ → List Frag) (S : τ → Prop) (hy : ∀ t, S t → K A n (E t) (L t) (y.wp P Q)) (hx : K A n env l (x.wp P (Exit.then (Meet A n E L S) Q))) : K A n env l ((Code.seq x y).wp P Q) := fun a w ha hw =>
  wp_seq (wp_mono (hx a w ha hw) fun e a w h => by
    cases e with
    | normal => obtain ⟨t, hS, ha, hw⟩ := h; exact hy t hS a w ha hw
    | exit id => exact h
    | goto l => exact h
    | ret => exact h
    | panic ch => exact h
    | outgrown => exact h)
theorem k_meet {τ : Type} {E : τ → Env} {L : τ → List Frag} {S : τ → Prop} (t : τ) (hS : S t) (hs : Sub env (E t)) (hl : l = L t) : K A n env l (Meet A n E L S) :=
  fun _ _ ha hw => ⟨t, hS, ha.sub hs, by subst hl; exact hw⟩
/-- A cut at one frame that is known. -/
theorem k_cut1 {x y : Code} (env1 : Env) (l1 : List Frag) (hy : K A n env1 l1 (y.wp P Q)) (hx : K A n env l (x.wp P (Exit.then (fun a w => Holds n env1 a ∧ St A l1 w) Q))) : K A n env l ((Code.seq x y).wp P Q) := fun a w ha hw =>
  wp_seq (wp_mono (hx a w ha hw) fun e a w h => by
    cases e with
    | normal => exact hy a w h.1 h.2
    | exit id => exact h
    | goto l => exact h
    | ret => exact h
    | panic ch => exact h
    | outgrown => exact h)
theorem k_meet1 {env1 : Env} (hs : Sub env env1) : K A n env l (fun a w => Holds n env1 a ∧ St A l w) := fun _ _ ha hw => ⟨ha.sub hs, hw⟩
/-! ### Strings -/
theorem kl_index {s : ByteArray} {kd : IntKind} {i : Int} {c : UInt8} {t : TypeId} {x ix : Operand} (ho : o.op = .index t x ix) (hg : wantE ops env o = some true) (hd : inB n o.dst = true) (hx : evalE env x = some (.string s)) (hi : evalE env ix = some (.int kd i)) (ht : P.underlying t = some .string)
    (hc : sIdx s i = some c) (h : K A n (putE env o.dst (.int .u8 c.toNat)) l (wpList P ops Q rest)) : K A n env l (wpList P ops Q (o :: rest)) :=
  kl_op hg fun a w ha hw => by
    unfold Oper.wp execOp
    simp only [ho, ha.eval hx, ha.eval hi]
    have : (Instr.index t (.string s) (.int kd i)).run P w = .ok (.int .u8 c.toNat) w := by
      unfold sIdx at hc
      simp [Instr.index, asIntOf, run_underlying ht, hc]
    simp only [Sem.run_bind, this, Result.andThen_ok, Sem.run_pure]
    exact h _ _ (ha.putE _ hd) hw
theorem kl_sstr {s r : ByteArray} {t : TypeId} {x : Operand} {lo hi : Option Operand} (L H : Int) (ho : o.op = .slice t x lo hi none) (hg : wantE ops env o = some true) (hd : inB n o.dst = true) (hx : evalE env x = some (.string s))
    (hlo : (lo = none ∧ L = 0) ∨ ∃ y k, lo = some y ∧ evalE env y = some (.int k L)) (hhi : (hi = none ∧ H = s.size) ∨ ∃ y k, hi = some y ∧ evalE env y = some (.int k H)) (ht : P.underlying t = some .string) (hc : sSub s L H = some r)
    (h : K A n (putE env o.dst (.string r)) l (wpList P ops Q rest)) : K A n env l (wpList P ops Q (o :: rest)) := by
  unfold sSub at hc
  obtain ⟨hb, hr⟩ := condN hc
  obtain ⟨h1, h2, h3⟩ := of_decide_eq_true hb
  cases hr
  refine kl_op hg fun a w ha hw => ?_
  have hsl : ∀ (lv hv : Option Value), (lv = none ∧ L = 0 ∨ ∃ k, lv = some (.int k L)) → (hv = none ∧ H = s.size ∨ ∃ k, hv = some (.int k H)) → (Instr.sliceAt t (.string s) lv hv none).run P w = .ok (.string (s.extract L.toNat H.toNat)) w := by
    have h4 : L ≤ s.size := by omega
    have h5 : 0 ≤ H := by omega
    have h6 : L ≤ max H 0 := by omega
    rintro lv hv (⟨rfl, rfl⟩ | ⟨k, rfl⟩) (⟨rfl, rfl⟩ | ⟨k', rfl⟩)
    · simp [Instr.sliceAt, Instr.slice, Instr.sliceBounds, run_underlying ht]
    · simp [Instr.sliceAt, Instr.slice, Instr.sliceBounds, Instr.sliceBound, asIntOf, run_underlying ht, h3, h5]
    · simp [Instr.sliceAt, Instr.slice, Instr.sliceBounds, Instr.sliceBound, asIntOf, run_underlying ht, h1, h4]
    · simp [Instr.sliceAt, Instr.slice, Instr.sliceBounds, Instr.sliceBound, asIntOf, run_underlying ht, h1, h3, h5, h6, h2]
  have hrun := hsl (lo.map a.eval) (hi.map a.eval) (hlo.imp (fun ⟨e, e'⟩ => ⟨by rw [e]; rfl, e'⟩) (fun ⟨y, k, e, e'⟩ => ⟨k, by rw [e]; exact congrArg some (ha.eval e')⟩)) (hhi.imp (fun ⟨e, e'⟩ => ⟨by rw [e]; rfl, e'⟩) (fun ⟨y, k, e, e'⟩ => ⟨k, by rw [e]; exact congrArg some (ha.eval e')⟩))
  unfold Oper.wp execOp
  simp only [ho, ha.eval hx, Option.map_none, Sem.run_bind, hrun, Result.andThen_ok, Sem.run_pure]
  exact h _ _ (ha.putE _ hd) hw
/-! ### Regions that draw their order -/
theorem k_region_plan {id : Nat} {os : List Oper} (plan : List (Nat × Nat)) (S : World → Prop) (hm : P.follows .mixedOrders = true)
    (hB : (Region.noSelect os.toArray && decide (plan.length ≤ os.length) && planB os.toArray (earlyOf plan) plan.length plan (Array.replicate os.toArray.size false)) = true)
    (hQ : ∀ c a d v w, Q (.panic c) (Act.put a d v) w → Q (.panic c) a w) (hS : ∀ w, St A l w → S w)
    (h : K A n env l (wpPlan P os.toArray Q S (wpList P os.toArray Q (os.drop plan.length)) (planOps os.toArray plan))) : K A n env l ((Code.region id os.toArray true).wp P Q) := fun a w ha hw =>
  wp_region_plan plan S hm hB hQ (hS _ hw.drew) (h a _ ha hw.drew)
variable {S : World → Prop} {tail : Act → World → Prop} {pl : List (Oper × Nat)}
theorem kp_done (h : K A n env l tail) : K A n env l (wpPlan P ops Q S tail []) := h
theorem kp_pure {v : Value} (hg : wantE ops env o = some true) (hs : (noSel o.op && allB o.op.operands.toList env && inB n o.dst) = true) (hv : pureP P (execOp (rho env) o) = some (.value v)) (h : K A n (putE env o.dst v) l (wpPlan P ops Q S tail pl)) :
    K A n env l (wpPlan P ops Q S tail ((o, 0) :: pl)) := fun a w ha hw => by
  simp only [Bool.and_eq_true] at hs
  exact plan_pure (wantE_spec ha hg) (fun w' => by rw [execOp_congr a.eval (rho env) o hs.1.1 (ha.rho hs.1.2)]; exact pureP_run hv) (h _ _ (ha.putE v hs.2) hw)
theorem kp_skip (hg : wantE ops env o = some false) (hd : inB n o.dst = true) (h : K A n (putE env o.dst undef) l (wpPlan P ops Q S tail pl)) : K A n env l (wpPlan P ops Q S tail ((o, 0) :: pl)) := fun a w ha hw =>
  plan_pass (wantE_spec ha hg) (h _ _ (ha.putE _ hd) hw)
theorem kp_skip3 (hg : wantE ops env o = some false) (hd : inB n o.dst = true) (h : K A n (putE env o.dst undef) l (wpPlan P ops Q S tail pl)) : K A n env l (wpPlan P ops Q S tail ((o, 3) :: pl)) := fun a w ha hw =>
  plan_pass3 (wantE_spec ha hg) (h _ _ (ha.putE _ hd) hw)
/-- Operations that touch no memory, all of flag 0. -/
theorem kp_all : ∀ (os : List Oper) (env : Env), stepsP P ops n os env = some env' → K A n env' l (wpPlan P ops Q S tail pl) → K A n env l (wpPlan P ops Q S tail (os.map (·, 0) ++ pl))
  | [], env, h, hk => by simp only [stepsP, Option.some.injEq] at h; subst h; exact hk
  | o :: os, env, h, hk => by
    simp only [stepsP] at h
    split at h
    · cases h
    · rename_i hg
      split at h
      · rename_i hd
        exact kp_skip hg hd (kp_all os _ h hk)
      · cases h
    · rename_i hg
      split at h
      · cases h
      · rename_i hs
        split at h
        · rename_i v hv
          exact kp_pure hg hs hv (kp_all os _ h hk)
        · cases h
theorem kp_map0 : ∀ (pl : List (Oper × Nat)), (pl.all fun x => Nat.beq x.2 0) = true → pl = (pl.map (·.1)).map (·, 0)
  | [], _ => rfl
  | (o, k) :: pl, h => by
    simp only [List.all_cons, Bool.and_eq_true] at h
    have hk : k = 0 := Nat.eq_of_beq_eq_true h.1
    subst hk
    simp only [List.map_cons]
    rw [← kp_map0 pl h.2]
/-- The next m operations of the plan, none of which touches memory. -/
theorem kp_steps (m : Nat) (sub : Env) (hz : ((pl.take m).all fun x => Nat.beq x.2 0) = true) (h : (stepsP P ops n ((pl.take m).map (·.1)) env).bind (picks (sub.map (·.1))) = some (sub.map (·.2))) (hk : K A n sub l (wpPlan P ops Q S tail (pl.drop m))) :
    K A n env l (wpPlan P ops Q S tail pl) := by
  rw [← List.take_append_drop m pl, kp_map0 _ hz]
  cases hs : stepsP P ops n ((pl.take m).map (·.1)) env with
  | none => rw [hs] at h; cases h
  | some env1 =>
    rw [hs] at h
    exact kp_all _ env hs (K.weak hk (picks_sub h))
theorem kp_index {s : ByteArray} {kd : IntKind} {i : Int} {c : UInt8} {t : TypeId} {x ix : Operand} (ho : o.op = .index t x ix) (hg : wantE ops env o = some true) (hd : inB n o.dst = true) (hx : evalE env x = some (.string s)) (hi : evalE env ix = some (.int kd i)) (ht : P.underlying t = some .string)
    (hc : sIdx s i = some c) (h : K A n (putE env o.dst (.int .u8 c.toNat)) l (wpPlan P ops Q S tail pl)) : K A n env l (wpPlan P ops Q S tail ((o, 0) :: pl)) := fun a w ha hw => by
  refine plan_pure (wantE_spec ha hg) (fun w' => ?_) (h _ _ (ha.putE _ hd) hw)
  unfold execOp
  simp only [ho, ha.eval hx, ha.eval hi]
  have : (Instr.index t (.string s) (.int kd i)).run P w' = .ok (.int .u8 c.toNat) w' := by
    unfold sIdx at hc
    simp [Instr.index, asIntOf, run_underlying ht, hc]
  simp only [Sem.run_bind, this, Result.andThen_ok, Sem.run_pure]
theorem kp_sstr {s r : ByteArray} {t : TypeId} {x : Operand} {lo hi : Option Operand} (L H : Int) (ho : o.op = .slice t x lo hi none) (hg : wantE ops env o = some true) (hd : inB n o.dst = true) (hx : evalE env x = some (.string s))
    (hlo : (lo = none ∧ L = 0) ∨ ∃ y k, lo = some y ∧ evalE env y = some (.int k L)) (hhi : (hi = none ∧ H = s.size) ∨ ∃ y k, hi = some y ∧ evalE env y = some (.int k H)) (ht : P.underlying t = some .string) (hc : sSub s L H = some r)
    (h : K A n (putE env o.dst (.string r)) l (wpPlan P ops Q S tail pl)) : K A n env l (wpPlan P ops Q S tail ((o, 0) :: pl)) := by
  unfold sSub at hc
  obtain ⟨hb, hr⟩ := condN hc
  obtain ⟨h1, h2, h3⟩ := of_decide_eq_true hb
  cases hr
  intro a w ha hw
  have hsl : ∀ (w : World) (lv hv : Option Value), (lv = none ∧ L = 0 ∨ ∃ k, lv = some (.int k L)) → (hv = none ∧ H = s.size ∨ ∃ k, hv = some (.int k H)) → (Instr.sliceAt t (.string s) lv hv none).run P w = .ok (.string (s.extract L.toNat H.toNat)) w := by
    intro w
    have h4 : L ≤ s.size := by omega
    have h5 : 0 ≤ H := by omega
    have h6 : L ≤ max H 0 := by omega
    rintro lv hv (⟨rfl, rfl⟩ | ⟨k, rfl⟩) (⟨rfl, rfl⟩ | ⟨k', rfl⟩)
    · simp [Instr.sliceAt, Instr.slice, Instr.sliceBounds, run_underlying ht]
    · simp [Instr.sliceAt, Instr.slice, Instr.sliceBounds, Instr.sliceBound, asIntOf, run_underlying ht, h3, h5]
    · simp [Instr.sliceAt, Instr.slice, Instr.sliceBounds, Instr.sliceBound, asIntOf, run_underlying ht, h1, h4]
    · simp [Instr.sliceAt, Instr.slice, Instr.sliceBounds, Instr.sliceBound, asIntOf, run_underlying ht, h1, h3, h5, h6, h2]
  refine plan_pure (wantE_spec ha hg) (fun w' => ?_) (h _ _ (ha.putE _ hd) hw)
  have hrun := hsl w' (lo.map a.eval) (hi.map a.eval) (hlo.imp (fun ⟨e, e'⟩ => ⟨by rw [e]; rfl, e'⟩) (fun ⟨y, k, e, e'⟩ => ⟨k, by rw [e]; exact congrArg some (ha.eval e')⟩)) (hhi.imp (fun ⟨e, e'⟩ => ⟨by rw [e]; rfl, e'⟩) (fun ⟨y, k, e, e'⟩ => ⟨k, by rw [e]; exact congrArg some (ha.eval e')⟩))
  unfold execOp
  simp only [ho, ha.eval hx, Option.map_none, Sem.run_bind, hrun, Result.andThen_ok, Sem.run_pure]
theorem kp_load {v : Value} (vs : List Orc) (es : List Ev) (hg : wantE ops env o = some true) (hs : (noSel o.op && allB o.op.operands.toList env && inB n o.dst) = true) (hf : follow P (execOp (rho env) o) vs = some (.value v, es)) (hS : ∀ w, S w → EvsOk es w w)
    (h : K A n (putE env o.dst v) l (wpPlan P ops Q S tail pl)) : K A n env l (wpPlan P ops Q S tail ((o, 3) :: pl)) := fun a w ha hw => by
  simp only [Bool.and_eq_true] at hs
  exact plan_load (wantE_spec ha hg) (fun w' hw' => by rw [execOp_congr a.eval (rho env) o hs.1.1 (ha.rho hs.1.2)]; exact follow_run hf (hS w' hw')) (h _ _ (ha.putE v hs.2) hw)
/-- In its turn: S is shown anew. -/
theorem kp_turn (hg : wantE ops env o = some true) (h : K A n env l (fun a w => o.wp P a w (fun a w => S w ∧ wpPlan P ops Q S tail pl a w) Q)) : K A n env l (wpPlan P ops Q S tail ((o, 1) :: pl)) := fun a w ha hw =>
  plan_turn (wantE_spec ha hg) fun _ hK => Oper.wp_mono hK (h a w ha hw)
theorem kp_turn2 (hg : wantE ops env o = some true) (h : K A n env l (fun a w => o.wp P a w (wpPlan P ops Q S tail pl) Q)) : K A n env l (wpPlan P ops Q S tail ((o, 2) :: pl)) := fun a w ha hw =>
  plan_turn2 (wantE_spec ha hg) fun _ hK => Oper.wp_mono hK (h a w ha hw)
theorem k_and (hS : ∀ w, St A l w → S w) (h : K A n env l q) : K A n env l (fun a w => S w ∧ q a w) := fun a w ha hw => ⟨hS w hw, h a w ha hw⟩
/-! ### Leaving, as a program writes it -/
theorem k_then {next : Act → World → Prop} (h : K A n env l next) : K A n env l (Exit.then next Q .normal) := h
theorem k_then_exit {next : Act → World → Prop} {id : Nat} (h : K A n env l (Q (.exit id))) : K A n env l (Exit.then next Q (.exit id)) := h
theorem k_then_ret {next : Act → World → Prop} (h : K A n env l (Q .ret)) : K A n env l (Exit.then next Q .ret) := h
theorem k_then_panic {next : Act → World → Prop} {c : List PanicEntry} (h : K A n env l (Q (.panic c))) : K A n env l (Exit.then next Q (.panic c)) := h
theorem k_blk {id : Nat} (h : K A n env l (Q .normal)) : K A n env l (Exit.inBlock id Q .normal) := h
theorem k_blk_ret {id : Nat} (h : K A n env l (Q .ret)) : K A n env l (Exit.inBlock id Q .ret) := h
theorem k_blk_panic {id : Nat} {c : List PanicEntry} (h : K A n env l (Q (.panic c))) : K A n env l (Exit.inBlock id Q (.panic c)) := h
theorem op_callv {f : FuncId} {args : Array Value} {hs : List Frag} {v : Value} {next : Act → World → Prop} (hg1 : (noSel o.op && allB o.op.operands.toList env && inB n o.dst) = true) (hp : pureP P (execOp (rho env) o) = some (.enter f args))
    (hc : Ct P f args [] hs fun e l1 => e = .returned v ∧ l1 = []) (hh : Lent hs l) (hk : K A n (putE env o.dst v) l next) : K A n env l (fun a w => o.wp P a w next Q) :=
  op_call (X := l) hg1 hp hc rfl hh (by rintro e l1 ⟨rfl, rfl⟩; exact hk)
/-- A call that leaves memory as it was, and a value. -/
theorem kl_callv {f : FuncId} {args : Array Value} {hs : List Frag} {v : Value} (hg : wantE ops env o = some true) (hg1 : (noSel o.op && allB o.op.operands.toList env && inB n o.dst) = true) (hp : pureP P (execOp (rho env) o) = some (.enter f args))
    (hc : Ct P f args [] hs fun e l1 => e = .returned v ∧ l1 = []) (hh : Lent hs l) (hk : K A n (putE env o.dst v) l (wpList P ops Q rest)) : K A n env l (wpList P ops Q (o :: rest)) := kl_op hg (op_callv hg1 hp hc hh hk)
end
/-- What several ways come to goes on by one function. -/
def joinF {γ β : Type} (f : γ) (g : γ → Option β) : Option β := g f
theorem joinSplit {γ β : Type} {f : γ} {g : γ → Option β} {r : β} (h : joinF f g = some r) : ∃ J, J = f ∧ g J = some r := ⟨f, rfl, h⟩
end Go.Proofs.YtadenjlehhopmaaDoor
