/- Structs compared; strings joined. -/
import Derived.Test.YtadenjlehhopmaaDoorJ5
namespace Go.Proofs.YtadenjlehhopmaaDoor
set_option linter.unusedSimpArgs false
set_option linter.unusedVariables false
open Go Go.RowKit
/-- Are the structs' fields alike (whole numbers, strings, bools)? -/
def eqF (P : Program) (xs ys : Array Value) : List Field → Option Bool
  | [] => some true
  | f :: fs =>
    match f.name == "_", P.underlying f.type, xs[f.offset]?, ys[f.offset]? with
    | false, some (.int _), some (.int k a), some (.int k' b) => (match decide (k = k') with | true => (eqF P xs ys fs).map fun r => (a == b) && r | false => none)
    | false, some .string, some (.string a), some (.string b) => (eqF P xs ys fs).map fun r => (a.toList == b.toList) && r
    | false, some .bool, some (.bool a), some (.bool b) => (eqF P xs ys fs).map fun r => (a == b) && r
    | _, _, _, _ => none
theorem run_part1 {P : Program} {t : TypeId} (w : World) {cs : Array Value} {off : Nat} {v : Value} (ht : ∀ fs, P.underlying t ≠ some (.struct fs)) (ha : ∀ n e, P.underlying t ≠ some (.array n e)) (hd : (P.underlying t).isSome = true) (h : cs[off]? = some v) : (part t cs off).run P w = .ok v w := by
  unfold part isAgg
  cases hq : P.underlying t with
  | none => rw [hq] at hd; cases hd
  | some d =>
    cases d <;> first | exact absurd hq (ht _) | exact absurd hq (ha _ _) | simp [run_underlying hq, h]
theorem eqF_run {P : Program} {xs ys : Array Value} (d : Nat) (w : World) : ∀ (fs : List Field) (r : Bool), eqF P xs ys fs = some r → (Op.eqFields (d + 1) xs ys fs).run P w = .ok r w
  | [], r, h => by simp only [eqF, Option.some.injEq] at h; subst h; rfl
  | f :: fs, r, h => by
    simp only [eqF] at h
    split at h
    · rename_i k0 k a k' b hn hu hx hy
      split at h
      · rename_i hk
        have hk := of_decide_eq_true hk
        subst hk
        obtain ⟨r', hr', rfl⟩ := Option.map_eq_some_iff.1 h
        have hn : f.name ≠ "_" := by simpa using hn
        have h1 := run_part1 (P := P) (t := f.type) w (by intro fs e; rw [hu] at e; cases e) (by intro n e' e; rw [hu] at e; cases e) (by rw [hu]; rfl) hx
        have h2 := run_part1 (P := P) (t := f.type) w (by intro fs e; rw [hu] at e; cases e) (by intro n e' e; rw [hu] at e; cases e) (by rw [hu]; rfl) hy
        have h3 := run_equalIn_int (P := P) w d f.type k k0 a b hu
        have ih := eqF_run d w fs r' hr'
        simp only [Op.eqFields, if_pos hn, Sem.run_bind, h1, h2, h3, Result.andThen_ok]
        cases hab : (a == b) with
        | true => simp only [Bool.not_true, Bool.false_eq_true, if_false, Bool.true_and]; exact ih
        | false => simp only [Bool.not_false, if_true, Bool.false_and, Sem.run_pure]
      · cases h
    · rename_i a b hn hu hx hy
      obtain ⟨r', hr', rfl⟩ := Option.map_eq_some_iff.1 h
      have hn : f.name ≠ "_" := by simpa using hn
      have h1 := run_part1 (P := P) (t := f.type) w (by intro fs e; rw [hu] at e; cases e) (by intro n e' e; rw [hu] at e; cases e) (by rw [hu]; rfl) hx
      have h2 := run_part1 (P := P) (t := f.type) w (by intro fs e; rw [hu] at e; cases e) (by intro n e' e; rw [hu] at e; cases e) (by rw [hu]; rfl) hy
      have h3 := run_equalIn_string (P := P) w d f.type a b hu
      have ih := eqF_run d w fs r' hr'
      simp only [Op.eqFields, if_pos hn, Sem.run_bind, h1, h2, h3, Result.andThen_ok]
      cases hab : (a.toList == b.toList) with
      | true => simp only [Bool.not_true, Bool.false_eq_true, if_false, Bool.true_and]; exact ih
      | false => simp only [Bool.not_false, if_true, Bool.false_and, Sem.run_pure]
    · rename_i a b hn hu hx hy
      obtain ⟨r', hr', rfl⟩ := Option.map_eq_some_iff.1 h
      have hn : f.name ≠ "_" := by simpa using hn
      have h1 := run_part1 (P := P) (t := f.type) w (by intro fs e; rw [hu] at e; cases e) (by intro n e' e; rw [hu] at e; cases e) (by rw [hu]; rfl) hx
      have h2 := run_part1 (P := P) (t := f.type) w (by intro fs e; rw [hu] at e; cases e) (by intro n e' e; rw [hu] at e; cases e) (by rw [hu]; rfl) hy
      have h3 := run_equalIn_bool' (P := P) w d f.type a b hu
      have ih := eqF_run d w fs r' hr'
      simp only [Op.eqFields, if_pos hn, Sem.run_bind, h1, h2, h3, Result.andThen_ok]
      cases hab : (a == b) with
      | true => simp only [Bool.not_true, Bool.false_eq_true, if_false, Bool.true_and]; exact ih
      | false => simp only [Bool.not_false, if_true, Bool.false_and, Sem.run_pure]
    · cases h
def fieldsP (P : Program) (t : TypeId) : Option (List Field) :=
  match P.underlying t with
  | some (.struct fs) => some fs.toList
  | _ => none
section
variable {A : World} {n : Nat} {env env' : Env} {l l' X : List Frag} {q : Act → World → Prop} {P : Program} {Q : Exit → Act → World → Prop} {ops : Array Oper} {os rest : List Oper} {o : Oper}
theorem run_eqS {t : TypeId} {xs ys : Array Value} {r : Bool} {x y : Operand} {ty : TypeId} (hf : ((fieldsP P t).bind (eqF P xs ys)) = some r) (hp : P.stoodInHeld t = false) (hm : P.eqGuardType P.depth t = false) (w : World) :
    (Op.equal t (.agg xs) (.agg ys)).run P w = .ok r w := by
  unfold fieldsP at hf
  cases hu : P.underlying t with
  | none => rw [hu] at hf; cases hf
  | some d =>
    rw [hu] at hf
    cases d with
    | struct fs =>
      have hfs : P.fieldsOf t = fs := by unfold Program.fieldsOf; rw [hu]
      have := run_equalIn_struct (P := P) w 9999 t xs ys (by rw [hfs]; exact hu) hp
      rw [hfs] at this
      show (Op.equalIn 10000 t _ _).run P w = _
      rw [this]
      exact eqF_run 9998 w fs.toList r hf
    | _ => cases hf
/-- '==' and '!=' of structs. -/
theorem kl_eqS {bo : BinOp} {t t2 : TypeId} {xs ys : Array Value} {r : Bool} {x y : Operand} (neg : Bool) (hb : (match bo, neg with | .eql, false => true | .neq, true => true | _, _ => false) = true) (ho : o.op = .binOp bo t x y t2) (hg : wantE ops env o = some true) (hd : inB n o.dst = true) (hx : evalE env x = some (.agg xs)) (hy : evalE env y = some (.agg ys))
    (hp : P.stoodInHeld t = false) (hm : P.eqGuardType P.depth t = false) (hf : ((fieldsP P t).bind (eqF P xs ys)) = some r) (h : K A n (putE env o.dst (.bool (cond neg (!r) r))) l (wpList P ops Q rest)) : K A n env l (wpList P ops Q (o :: rest)) :=
  kl_op hg fun a w ha hw => by
    have h1 := run_eqS (P := P) (ty := 0) (x := x) (y := y) hf hp hm w
    have h2 : ∀ bo, (eqGuard bo t x y (.agg xs) (.agg ys)).run P w = .ok () w := fun bo => run_eqGuard_agg w bo t x y xs ys hm
    unfold Oper.wp execOp
    simp only [ho, ha.eval hx, ha.eval hy, Sem.run_bind, h2, Result.andThen_ok]
    split at hb
    · simp only [binOp, Sem.run_bind, h1, Result.andThen_ok, Sem.run_pure]
      exact h _ _ (ha.putE _ hd) hw
    · simp only [binOp, Sem.run_bind, h1, Result.andThen_ok, Sem.run_pure]
      exact h _ _ (ha.putE _ hd) hw
    · cases hb
def sCat (a b : ByteArray) : Option ByteArray := cond (decide (a.size + b.size ≤ 9223372036854775807)) (some (a ++ b)) none
theorem kl_cat {a b r : ByteArray} {t t2 : TypeId} {x y : Operand} (ho : o.op = .binOp .add t x y t2) (hg : wantE ops env o = some true) (hd : inB n o.dst = true) (hx : evalE env x = some (.string a)) (hy : evalE env y = some (.string b)) (hc : sCat a b = some r)
    (h : K A n (putE env o.dst (.string r)) l (wpList P ops Q rest)) : K A n env l (wpList P ops Q (o :: rest)) :=
  kl_op hg fun ac w ha hw => by
    obtain ⟨h1, h2⟩ := condN hc
    cases h2
    have h1 := of_decide_eq_true h1
    have h3 : ¬ (((a.size + b.size : Nat) : Int) > IntKind.i64.max) := by
      have : IntKind.i64.max = 9223372036854775807 := by decide
      omega
    unfold Oper.wp execOp
    simp only [ho, ha.eval hx, ha.eval hy, Sem.run_bind, eqGuard]
    simp only [binOp, Op.stringOp, if_neg h3]
    exact h _ _ (ha.putE _ hd) hw
end
end Go.Proofs.YtadenjlehhopmaaDoor
