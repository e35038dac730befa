/- Printed by a program of mine (wip/mk.py): functions with the same answers as the Go code, and the proof of it. -/
import Derived.Test.YtadenjlehhopmaaDoorJ6
import Derived.Test.YtadenjlehhopmaaDoorProg
namespace Go.Proofs.YtadenjlehhopmaaDoor
open Go Go.RowKit
set_option linter.unusedSimpArgs false
set_option linter.unusedVariables false
def r01_good.f (_k : Nat) (a0 : Int) : Option (Bool) := (cond (decide (a0 ≥ (0 : Int))) (cond (decide (a0 ≤ (1114111 : Int))) (cond (decide (a0 < (55296 : Int))) (some true) (some (decide (a0 > (57343 : Int))))) (some false)) (some false) : Option Bool).bind fun q1 => some (q1)
set_option maxRecDepth 100000 in
theorem r01_good.ok {k : Nat} {a0 : Int} {r : Bool} (h : r01_good.f k a0 = some r) : Ct Tryd.prog 29 #[.int .i64 a0] [] [] (fun e l1 => e = .returned (.bool r) ∧ l1 = []) := by
  refine ct_enter (args := [.int .i64 a0]) Tryd.func29 rfl (Nat.le_of_ble_eq_true rfl) ?_
  intro A X hh_
  unfold r01_good.f at h
  refine k_seq ?_
  refine k_region ?_
  refine kl_steps 1 [(0, .int .i64 a0)] (by kernel_rfl) ?_
  refine k_nil ?_
  refine k_then ?_
  obtain ⟨q1, hq1, h⟩ := bindSome h
  refine k_cut1 [(2, .bool q1)] (X) ?_ ?_
  · clear hq1
    refine k_ret ?_
    obtain rfl := Option.some.inj h
    refine k_done (v := .bool q1) [] [] [] (by kernel_rfl) (by kernel_rfl) trivial ?_
    exact k_end ⟨rfl, rfl⟩
  · have h := hq1
    clear hq1
    refine k_region ?_
    refine kl_steps 3 [(0, .int .i64 a0), (5, .bool (decide (a0 ≥ (0 : Int))))] (by kernel_rfl) ?_
    rcases Bool.eq_false_or_eq_true (decide (a0 ≥ (0 : Int))) with t2 | t2
    · have h := condT h t2
      refine K.weak (env' := [(0, .int .i64 a0), (5, .bool true)]) ?_ ⟨rfl, congrArg (fun b => some (Value.bool b)) t2, trivial⟩
      refine kl_steps 4 [(0, .int .i64 a0), (9, .bool (decide (a0 ≤ (1114111 : Int))))] (by kernel_rfl) ?_
      rcases Bool.eq_false_or_eq_true (decide (a0 ≤ (1114111 : Int))) with t3 | t3
      · have h := condT h t3
        refine K.weak (env' := [(0, .int .i64 a0), (9, .bool true)]) ?_ ⟨rfl, congrArg (fun b => some (Value.bool b)) t3, trivial⟩
        refine kl_steps 3 [(0, .int .i64 a0), (9, .bool true), (12, .bool (decide (a0 < (55296 : Int))))] (by kernel_rfl) ?_
        rcases Bool.eq_false_or_eq_true (decide (a0 < (55296 : Int))) with t4 | t4
        · have h := condT h t4
          refine K.weak (env' := [(0, .int .i64 a0), (9, .bool true), (12, .bool true)]) ?_ ⟨rfl, rfl, congrArg (fun b => some (Value.bool b)) t4, trivial⟩
          refine kl_steps 5 [(2, .bool true)] (by kernel_rfl) ?_
          refine k_nil ?_
          refine k_then ?_
          exact k_meet1 ⟨congrArg (fun b => some (Value.bool b)) (Option.some.inj h), trivial⟩
        · have h := condF h t4
          refine K.weak (env' := [(0, .int .i64 a0), (9, .bool true), (12, .bool false)]) ?_ ⟨rfl, rfl, congrArg (fun b => some (Value.bool b)) t4, trivial⟩
          refine kl_steps 5 [(2, .bool (decide (a0 > (57343 : Int))))] (by kernel_rfl) ?_
          refine k_nil ?_
          refine k_then ?_
          exact k_meet1 ⟨congrArg (fun b => some (Value.bool b)) (Option.some.inj h), trivial⟩
      · have h := condF h t3
        refine K.weak (env' := [(0, .int .i64 a0), (9, .bool false)]) ?_ ⟨rfl, congrArg (fun b => some (Value.bool b)) t3, trivial⟩
        refine kl_steps 8 [(2, .bool false)] (by kernel_rfl) ?_
        refine k_nil ?_
        refine k_then ?_
        exact k_meet1 ⟨congrArg (fun b => some (Value.bool b)) (Option.some.inj h), trivial⟩
    · have h := condF h t2
      refine K.weak (env' := [(0, .int .i64 a0), (5, .bool false)]) ?_ ⟨rfl, congrArg (fun b => some (Value.bool b)) t2, trivial⟩
      refine kl_steps 12 [(2, .bool false)] (by kernel_rfl) ?_
      refine k_nil ?_
      refine k_then ?_
      exact k_meet1 ⟨congrArg (fun b => some (Value.bool b)) (Option.some.inj h), trivial⟩
def r01_bytes.f (_k : Nat) (a0 : Int) : Option (Int) := joinF (fun (x1 : Int) => joinF (fun (x3 : Int) => joinF (fun (x5 : Int) => some (x5)) (fun J6 => cond (decide (a0 ≥ (65536 : Int))) (J6 (IntKind.i64.wrap (x3 + (1 : Int)))) (J6 x3))) (fun J4 => cond (decide (a0 ≥ (2048 : Int))) (J4 (IntKind.i64.wrap (x1 + (1 : Int)))) (J4 x1))) (fun J2 => cond (decide (a0 ≥ (128 : Int))) (J2 (IntKind.i64.wrap ((1 : Int) + (1 : Int)))) (J2 (1 : Int)))
set_option maxRecDepth 100000 in
theorem r01_bytes.ok {k : Nat} {a0 : Int} {r : Int} (h : r01_bytes.f k a0 = some r) : Ct Tryd.prog 30 #[.int .i64 a0] [] [] (fun e l1 => e = .returned (.int .i64 r) ∧ l1 = []) := by
  refine ct_enter (args := [.int .i64 a0]) Tryd.func30 rfl (Nat.le_of_ble_eq_true rfl) ?_
  intro A X hh_
  unfold r01_bytes.f at h
  refine k_seq ?_
  refine k_region ?_
  refine kl_steps 1 [(0, .int .i64 a0)] (by kernel_rfl) ?_
  refine k_nil ?_
  refine k_then ?_
  refine k_seq ?_
  refine k_region ?_
  refine kl_steps 1 [(0, .int .i64 a0), (3, .int .i64 (1 : Int))] (by kernel_rfl) ?_
  refine k_nil ?_
  refine k_then ?_
  obtain ⟨J2, hJ2, h⟩ := joinSplit h
  refine k_cut (τ := Int) (fun t => [(0, .int .i64 a0), (3, .int .i64 t)]) (fun t => X) (fun t => J2 t = some r) ?_ ?_
  · rintro x1 h
    subst hJ2
    obtain ⟨J4, hJ4, h⟩ := joinSplit h
    refine k_cut (τ := Int) (fun t => [(0, .int .i64 a0), (3, .int .i64 t)]) (fun t => X) (fun t => J4 t = some r) ?_ ?_
    · rintro x3 h
      subst hJ4
      obtain ⟨J6, hJ6, h⟩ := joinSplit h
      refine k_cut (τ := Int) (fun t => [(3, .int .i64 t)]) (fun t => X) (fun t => J6 t = some r) ?_ ?_
      · rintro x5 h
        subst hJ6
        refine k_seq ?_
        refine k_region ?_
        refine kl_steps 2 [(2, .int .i64 x5)] (by kernel_rfl) ?_
        refine k_nil ?_
        refine k_then ?_
        refine k_ret ?_
        obtain rfl := Option.some.inj h
        refine k_done (v := .int .i64 x5) [] [] [] (by kernel_rfl) (by kernel_rfl) trivial ?_
        exact k_end ⟨rfl, rfl⟩
      · skip
        refine k_seq ?_
        refine k_region ?_
        refine kl_steps 2 [(3, .int .i64 x3), (13, .bool (decide (a0 ≥ (65536 : Int))))] (by kernel_rfl) ?_
        refine k_nil ?_
        refine k_then ?_
        refine k_cond (t := decide (a0 ≥ (65536 : Int))) (by kernel_rfl) (fun t7 => ?_) (fun t7 => ?_)
        · have h := condT h t7
          refine k_region ?_
          refine kl_steps 3 [(3, .int .i64 (IntKind.i64.wrap (x3 + (1 : Int))))] (by kernel_rfl) ?_
          refine k_nil ?_
          refine k_then ?_
          exact k_meet (IntKind.i64.wrap (x3 + (1 : Int))) h ⟨rfl, trivial⟩ rfl
        · have h := condF h t7
          refine k_skip ?_
          refine k_then ?_
          exact k_meet x3 h ⟨rfl, trivial⟩ rfl
    · skip
      refine k_seq ?_
      refine k_region ?_
      refine kl_steps 2 [(0, .int .i64 a0), (3, .int .i64 x1), (9, .bool (decide (a0 ≥ (2048 : Int))))] (by kernel_rfl) ?_
      refine k_nil ?_
      refine k_then ?_
      refine k_cond (t := decide (a0 ≥ (2048 : Int))) (by kernel_rfl) (fun t8 => ?_) (fun t8 => ?_)
      · have h := condT h t8
        refine k_region ?_
        refine kl_steps 3 [(0, .int .i64 a0), (3, .int .i64 (IntKind.i64.wrap (x1 + (1 : Int))))] (by kernel_rfl) ?_
        refine k_nil ?_
        refine k_then ?_
        exact k_meet (IntKind.i64.wrap (x1 + (1 : Int))) h ⟨rfl, rfl, trivial⟩ rfl
      · have h := condF h t8
        refine k_skip ?_
        refine k_then ?_
        exact k_meet x1 h ⟨rfl, rfl, trivial⟩ rfl
  · skip
    refine k_seq ?_
    refine k_region ?_
    refine kl_steps 2 [(0, .int .i64 a0), (3, .int .i64 (1 : Int)), (5, .bool (decide (a0 ≥ (128 : Int))))] (by kernel_rfl) ?_
    refine k_nil ?_
    refine k_then ?_
    refine k_cond (t := decide (a0 ≥ (128 : Int))) (by kernel_rfl) (fun t9 => ?_) (fun t9 => ?_)
    · have h := condT h t9
      refine k_region ?_
      refine kl_steps 3 [(0, .int .i64 a0), (3, .int .i64 (IntKind.i64.wrap ((1 : Int) + (1 : Int))))] (by kernel_rfl) ?_
      refine k_nil ?_
      refine k_then ?_
      exact k_meet (IntKind.i64.wrap ((1 : Int) + (1 : Int))) h ⟨rfl, rfl, trivial⟩ rfl
    · have h := condF h t9
      refine k_skip ?_
      refine k_then ?_
      exact k_meet (1 : Int) h ⟨rfl, rfl, trivial⟩ rfl
def r01_Digit.f (_k : Nat) (a0 : Int) : Option (Bool) := (cond (decide (a0 ≥ (48 : Int))) (some (decide (a0 ≤ (57 : Int)))) (some false) : Option Bool).bind fun q1 => some (q1)
set_option maxRecDepth 100000 in
theorem r01_Digit.ok {k : Nat} {a0 : Int} {r : Bool} (h : r01_Digit.f k a0 = some r) : Ct Tryd.prog 25 #[.int .i64 a0] [] [] (fun e l1 => e = .returned (.bool r) ∧ l1 = []) := by
  refine ct_enter (args := [.int .i64 a0]) Tryd.func25 rfl (Nat.le_of_ble_eq_true rfl) ?_
  intro A X hh_
  unfold r01_Digit.f at h
  refine k_seq ?_
  refine k_region ?_
  refine kl_steps 1 [(0, .int .i64 a0)] (by kernel_rfl) ?_
  refine k_nil ?_
  refine k_then ?_
  obtain ⟨q1, hq1, h⟩ := bindSome h
  refine k_cut1 [(2, .bool q1)] (X) ?_ ?_
  · clear hq1
    refine k_ret ?_
    obtain rfl := Option.some.inj h
    refine k_done (v := .bool q1) [] [] [] (by kernel_rfl) (by kernel_rfl) trivial ?_
    exact k_end ⟨rfl, rfl⟩
  · have h := hq1
    clear hq1
    refine k_region ?_
    refine kl_steps 3 [(0, .int .i64 a0), (5, .bool (decide (a0 ≥ (48 : Int))))] (by kernel_rfl) ?_
    rcases Bool.eq_false_or_eq_true (decide (a0 ≥ (48 : Int))) with t2 | t2
    · have h := condT h t2
      refine K.weak (env' := [(0, .int .i64 a0), (5, .bool true)]) ?_ ⟨rfl, congrArg (fun b => some (Value.bool b)) t2, trivial⟩
      refine kl_steps 4 [(2, .bool (decide (a0 ≤ (57 : Int))))] (by kernel_rfl) ?_
      refine k_nil ?_
      refine k_then ?_
      exact k_meet1 ⟨congrArg (fun b => some (Value.bool b)) (Option.some.inj h), trivial⟩
    · have h := condF h t2
      refine K.weak (env' := [(0, .int .i64 a0), (5, .bool false)]) ?_ ⟨rfl, congrArg (fun b => some (Value.bool b)) t2, trivial⟩
      refine kl_steps 4 [(2, .bool false)] (by kernel_rfl) ?_
      refine k_nil ?_
      refine k_then ?_
      exact k_meet1 ⟨congrArg (fun b => some (Value.bool b)) (Option.some.inj h), trivial⟩
def r01_Letter.f (k : Nat) (a0 : Int) : Option (Bool) := (cond (decide (a0 ≥ (97 : Int))) (cond (decide (a0 ≤ (122 : Int))) (some true) (cond (decide (a0 ≥ (65 : Int))) (cond (decide (a0 ≤ (90 : Int))) (some true) (cond (a0 == (95 : Int)) (some true) (cond (decide (a0 ≥ (128 : Int))) (cond (a0 != (65533 : Int)) ((r01_good.f k a0).bind fun r9 => some r9) (some false)) (some false)))) (cond (a0 == (95 : Int)) (some true) (cond (decide (a0 ≥ (128 : Int))) (cond (a0 != (65533 : Int)) ((r01_good.f k a0).bind fun r13 => some r13) (some false)) (some false))))) (cond (decide (a0 ≥ (65 : Int))) (cond (decide (a0 ≤ (90 : Int))) (some true) (cond (a0 == (95 : Int)) (some true) (cond (decide (a0 ≥ (128 : Int))) (cond (a0 != (65533 : Int)) ((r01_good.f k a0).bind fun r19 => some r19) (some false)) (some false)))) (cond (a0 == (95 : Int)) (some true) (cond (decide (a0 ≥ (128 : Int))) (cond (a0 != (65533 : Int)) ((r01_good.f k a0).bind fun r23 => some r23) (some false)) (some false)))) : Option Bool).bind fun q1 => some (q1)
set_option maxRecDepth 100000 in
theorem r01_Letter.ok {k : Nat} {a0 : Int} {r : Bool} (h : r01_Letter.f k a0 = some r) : Ct Tryd.prog 15 #[.int .i64 a0] [] [] (fun e l1 => e = .returned (.bool r) ∧ l1 = []) := by
  refine ct_enter (args := [.int .i64 a0]) Tryd.func15 rfl (Nat.le_of_ble_eq_true rfl) ?_
  intro A X hh_
  unfold r01_Letter.f at h
  refine k_seq ?_
  refine k_region ?_
  refine kl_steps 1 [(0, .int .i64 a0)] (by kernel_rfl) ?_
  refine k_nil ?_
  refine k_then ?_
  obtain ⟨q1, hq1, h⟩ := bindSome h
  refine k_cut1 [(2, .bool q1)] (X) ?_ ?_
  · clear hq1
    refine k_ret ?_
    obtain rfl := Option.some.inj h
    refine k_done (v := .bool q1) [] [] [] (by kernel_rfl) (by kernel_rfl) trivial ?_
    exact k_end ⟨rfl, rfl⟩
  · have h := hq1
    clear hq1
    refine k_region ?_
    refine kl_steps 3 [(0, .int .i64 a0), (5, .bool (decide (a0 ≥ (97 : Int))))] (by kernel_rfl) ?_
    rcases Bool.eq_false_or_eq_true (decide (a0 ≥ (97 : Int))) with t2 | t2
    · have h := condT h t2
      refine K.weak (env' := [(0, .int .i64 a0), (5, .bool true)]) ?_ ⟨rfl, congrArg (fun b => some (Value.bool b)) t2, trivial⟩
      refine kl_steps 4 [(0, .int .i64 a0), (9, .bool (decide (a0 ≤ (122 : Int))))] (by kernel_rfl) ?_
      rcases Bool.eq_false_or_eq_true (decide (a0 ≤ (122 : Int))) with t3 | t3
      · have h := condT h t3
        refine K.weak (env' := [(0, .int .i64 a0), (9, .bool true)]) ?_ ⟨rfl, congrArg (fun b => some (Value.bool b)) t3, trivial⟩
        refine kl_steps 24 [(2, .bool true)] (by kernel_rfl) ?_
        refine k_nil ?_
        refine k_then ?_
        exact k_meet1 ⟨congrArg (fun b => some (Value.bool b)) (Option.some.inj h), trivial⟩
      · have h := condF h t3
        refine K.weak (env' := [(0, .int .i64 a0), (9, .bool false)]) ?_ ⟨rfl, congrArg (fun b => some (Value.bool b)) t3, trivial⟩
        refine kl_steps 3 [(0, .int .i64 a0), (9, .bool false), (12, .bool (decide (a0 ≥ (65 : Int))))] (by kernel_rfl) ?_
        rcases Bool.eq_false_or_eq_true (decide (a0 ≥ (65 : Int))) with t4 | t4
        · have h := condT h t4
          refine K.weak (env' := [(0, .int .i64 a0), (9, .bool false), (12, .bool true)]) ?_ ⟨rfl, rfl, congrArg (fun b => some (Value.bool b)) t4, trivial⟩
          refine kl_steps 5 [(0, .int .i64 a0), (17, .bool (decide (a0 ≤ (90 : Int))))] (by kernel_rfl) ?_
          rcases Bool.eq_false_or_eq_true (decide (a0 ≤ (90 : Int))) with t5 | t5
          · have h := condT h t5
            refine K.weak (env' := [(0, .int .i64 a0), (17, .bool true)]) ?_ ⟨rfl, congrArg (fun b => some (Value.bool b)) t5, trivial⟩
            refine kl_steps 16 [(2, .bool true)] (by kernel_rfl) ?_
            refine k_nil ?_
            refine k_then ?_
            exact k_meet1 ⟨congrArg (fun b => some (Value.bool b)) (Option.some.inj h), trivial⟩
          · have h := condF h t5
            refine K.weak (env' := [(0, .int .i64 a0), (17, .bool false)]) ?_ ⟨rfl, congrArg (fun b => some (Value.bool b)) t5, trivial⟩
            refine kl_steps 4 [(0, .int .i64 a0), (21, .bool (a0 == (95 : Int)))] (by kernel_rfl) ?_
            rcases Bool.eq_false_or_eq_true ((a0 == (95 : Int))) with t6 | t6
            · have h := condT h t6
              refine K.weak (env' := [(0, .int .i64 a0), (21, .bool true)]) ?_ ⟨rfl, congrArg (fun b => some (Value.bool b)) t6, trivial⟩
              refine kl_steps 12 [(2, .bool true)] (by kernel_rfl) ?_
              refine k_nil ?_
              refine k_then ?_
              exact k_meet1 ⟨congrArg (fun b => some (Value.bool b)) (Option.some.inj h), trivial⟩
            · have h := condF h t6
              refine K.weak (env' := [(0, .int .i64 a0), (21, .bool false)]) ?_ ⟨rfl, congrArg (fun b => some (Value.bool b)) t6, trivial⟩
              refine kl_steps 3 [(0, .int .i64 a0), (21, .bool false), (24, .bool (decide (a0 ≥ (128 : Int))))] (by kernel_rfl) ?_
              rcases Bool.eq_false_or_eq_true (decide (a0 ≥ (128 : Int))) with t7 | t7
              · have h := condT h t7
                refine K.weak (env' := [(0, .int .i64 a0), (21, .bool false), (24, .bool true)]) ?_ ⟨rfl, rfl, congrArg (fun b => some (Value.bool b)) t7, trivial⟩
                refine kl_steps 4 [(0, .int .i64 a0), (21, .bool false), (28, .bool (a0 != (65533 : Int)))] (by kernel_rfl) ?_
                rcases Bool.eq_false_or_eq_true ((a0 != (65533 : Int))) with t8 | t8
                · have h := condT h t8
                  refine K.weak (env' := [(0, .int .i64 a0), (21, .bool false), (28, .bool true)]) ?_ ⟨rfl, rfl, congrArg (fun b => some (Value.bool b)) t8, trivial⟩
                  refine kl_steps 1 [(21, .bool false), (28, .bool true), (29, .int .i64 a0)] (by kernel_rfl) ?_
                  obtain ⟨r9, hr9, h⟩ := bindSome h
                  refine kl_callv (by kernel_rfl) (by kernel_rfl) (by kernel_rfl) (r01_good.ok hr9) trivial ?_
                  refine kl_steps 3 [(2, .bool r9)] (by kernel_rfl) ?_
                  refine k_nil ?_
                  refine k_then ?_
                  exact k_meet1 ⟨congrArg (fun b => some (Value.bool b)) (Option.some.inj h), trivial⟩
                · have h := condF h t8
                  refine K.weak (env' := [(0, .int .i64 a0), (21, .bool false), (28, .bool false)]) ?_ ⟨rfl, rfl, congrArg (fun b => some (Value.bool b)) t8, trivial⟩
                  refine kl_steps 5 [(2, .bool false)] (by kernel_rfl) ?_
                  refine k_nil ?_
                  refine k_then ?_
                  exact k_meet1 ⟨congrArg (fun b => some (Value.bool b)) (Option.some.inj h), trivial⟩
              · have h := condF h t7
                refine K.weak (env' := [(0, .int .i64 a0), (21, .bool false), (24, .bool false)]) ?_ ⟨rfl, rfl, congrArg (fun b => some (Value.bool b)) t7, trivial⟩
                refine kl_steps 9 [(2, .bool false)] (by kernel_rfl) ?_
                refine k_nil ?_
                refine k_then ?_
                exact k_meet1 ⟨congrArg (fun b => some (Value.bool b)) (Option.some.inj h), trivial⟩
        · have h := condF h t4
          refine K.weak (env' := [(0, .int .i64 a0), (9, .bool false), (12, .bool false)]) ?_ ⟨rfl, rfl, congrArg (fun b => some (Value.bool b)) t4, trivial⟩
          refine kl_steps 9 [(0, .int .i64 a0), (21, .bool (a0 == (95 : Int)))] (by kernel_rfl) ?_
          rcases Bool.eq_false_or_eq_true ((a0 == (95 : Int))) with t10 | t10
          · have h := condT h t10
            refine K.weak (env' := [(0, .int .i64 a0), (21, .bool true)]) ?_ ⟨rfl, congrArg (fun b => some (Value.bool b)) t10, trivial⟩
            refine kl_steps 12 [(2, .bool true)] (by kernel_rfl) ?_
            refine k_nil ?_
            refine k_then ?_
            exact k_meet1 ⟨congrArg (fun b => some (Value.bool b)) (Option.some.inj h), trivial⟩
          · have h := condF h t10
            refine K.weak (env' := [(0, .int .i64 a0), (21, .bool false)]) ?_ ⟨rfl, congrArg (fun b => some (Value.bool b)) t10, trivial⟩
            refine kl_steps 3 [(0, .int .i64 a0), (21, .bool false), (24, .bool (decide (a0 ≥ (128 : Int))))] (by kernel_rfl) ?_
            rcases Bool.eq_false_or_eq_true (decide (a0 ≥ (128 : Int))) with t11 | t11
            · have h := condT h t11
              refine K.weak (env' := [(0, .int .i64 a0), (21, .bool false), (24, .bool true)]) ?_ ⟨rfl, rfl, congrArg (fun b => some (Value.bool b)) t11, trivial⟩
              refine kl_steps 4 [(0, .int .i64 a0), (21, .bool false), (28, .bool (a0 != (65533 : Int)))] (by kernel_rfl) ?_
              rcases Bool.eq_false_or_eq_true ((a0 != (65533 : Int))) with t12 | t12
              · have h := condT h t12
                refine K.weak (env' := [(0, .int .i64 a0), (21, .bool false), (28, .bool true)]) ?_ ⟨rfl, rfl, congrArg (fun b => some (Value.bool b)) t12, trivial⟩
                refine kl_steps 1 [(21, .bool false), (28, .bool true), (29, .int .i64 a0)] (by kernel_rfl) ?_
                obtain ⟨r13, hr13, h⟩ := bindSome h
                refine kl_callv (by kernel_rfl) (by kernel_rfl) (by kernel_rfl) (r01_good.ok hr13) trivial ?_
                refine kl_steps 3 [(2, .bool r13)] (by kernel_rfl) ?_
                refine k_nil ?_
                refine k_then ?_
                exact k_meet1 ⟨congrArg (fun b => some (Value.bool b)) (Option.some.inj h), trivial⟩
              · have h := condF h t12
                refine K.weak (env' := [(0, .int .i64 a0), (21, .bool false), (28, .bool false)]) ?_ ⟨rfl, rfl, congrArg (fun b => some (Value.bool b)) t12, trivial⟩
                refine kl_steps 5 [(2, .bool false)] (by kernel_rfl) ?_
                refine k_nil ?_
                refine k_then ?_
                exact k_meet1 ⟨congrArg (fun b => some (Value.bool b)) (Option.some.inj h), trivial⟩
            · have h := condF h t11
              refine K.weak (env' := [(0, .int .i64 a0), (21, .bool false), (24, .bool false)]) ?_ ⟨rfl, rfl, congrArg (fun b => some (Value.bool b)) t11, trivial⟩
              refine kl_steps 9 [(2, .bool false)] (by kernel_rfl) ?_
              refine k_nil ?_
              refine k_then ?_
              exact k_meet1 ⟨congrArg (fun b => some (Value.bool b)) (Option.some.inj h), trivial⟩
    · have h := condF h t2
      refine K.weak (env' := [(0, .int .i64 a0), (5, .bool false)]) ?_ ⟨rfl, congrArg (fun b => some (Value.bool b)) t2, trivial⟩
      refine kl_steps 7 [(0, .int .i64 a0), (9, .bool false), (12, .bool (decide (a0 ≥ (65 : Int))))] (by kernel_rfl) ?_
      rcases Bool.eq_false_or_eq_true (decide (a0 ≥ (65 : Int))) with t14 | t14
      · have h := condT h t14
        refine K.weak (env' := [(0, .int .i64 a0), (9, .bool false), (12, .bool true)]) ?_ ⟨rfl, rfl, congrArg (fun b => some (Value.bool b)) t14, trivial⟩
        refine kl_steps 5 [(0, .int .i64 a0), (17, .bool (decide (a0 ≤ (90 : Int))))] (by kernel_rfl) ?_
        rcases Bool.eq_false_or_eq_true (decide (a0 ≤ (90 : Int))) with t15 | t15
        · have h := condT h t15
          refine K.weak (env' := [(0, .int .i64 a0), (17, .bool true)]) ?_ ⟨rfl, congrArg (fun b => some (Value.bool b)) t15, trivial⟩
          refine kl_steps 16 [(2, .bool true)] (by kernel_rfl) ?_
          refine k_nil ?_
          refine k_then ?_
          exact k_meet1 ⟨congrArg (fun b => some (Value.bool b)) (Option.some.inj h), trivial⟩
        · have h := condF h t15
          refine K.weak (env' := [(0, .int .i64 a0), (17, .bool false)]) ?_ ⟨rfl, congrArg (fun b => some (Value.bool b)) t15, trivial⟩
          refine kl_steps 4 [(0, .int .i64 a0), (21, .bool (a0 == (95 : Int)))] (by kernel_rfl) ?_
          rcases Bool.eq_false_or_eq_true ((a0 == (95 : Int))) with t16 | t16
          · have h := condT h t16
            refine K.weak (env' := [(0, .int .i64 a0), (21, .bool true)]) ?_ ⟨rfl, congrArg (fun b => some (Value.bool b)) t16, trivial⟩
            refine kl_steps 12 [(2, .bool true)] (by kernel_rfl) ?_
            refine k_nil ?_
            refine k_then ?_
            exact k_meet1 ⟨congrArg (fun b => some (Value.bool b)) (Option.some.inj h), trivial⟩
          · have h := condF h t16
            refine K.weak (env' := [(0, .int .i64 a0), (21, .bool false)]) ?_ ⟨rfl, congrArg (fun b => some (Value.bool b)) t16, trivial⟩
            refine kl_steps 3 [(0, .int .i64 a0), (21, .bool false), (24, .bool (decide (a0 ≥ (128 : Int))))] (by kernel_rfl) ?_
            rcases Bool.eq_false_or_eq_true (decide (a0 ≥ (128 : Int))) with t17 | t17
            · have h := condT h t17
              refine K.weak (env' := [(0, .int .i64 a0), (21, .bool false), (24, .bool true)]) ?_ ⟨rfl, rfl, congrArg (fun b => some (Value.bool b)) t17, trivial⟩
              refine kl_steps 4 [(0, .int .i64 a0), (21, .bool false), (28, .bool (a0 != (65533 : Int)))] (by kernel_rfl) ?_
              rcases Bool.eq_false_or_eq_true ((a0 != (65533 : Int))) with t18 | t18
              · have h := condT h t18
                refine K.weak (env' := [(0, .int .i64 a0), (21, .bool false), (28, .bool true)]) ?_ ⟨rfl, rfl, congrArg (fun b => some (Value.bool b)) t18, trivial⟩
                refine kl_steps 1 [(21, .bool false), (28, .bool true), (29, .int .i64 a0)] (by kernel_rfl) ?_
                obtain ⟨r19, hr19, h⟩ := bindSome h
                refine kl_callv (by kernel_rfl) (by kernel_rfl) (by kernel_rfl) (r01_good.ok hr19) trivial ?_
                refine kl_steps 3 [(2, .bool r19)] (by kernel_rfl) ?_
                refine k_nil ?_
                refine k_then ?_
                exact k_meet1 ⟨congrArg (fun b => some (Value.bool b)) (Option.some.inj h), trivial⟩
              · have h := condF h t18
                refine K.weak (env' := [(0, .int .i64 a0), (21, .bool false), (28, .bool false)]) ?_ ⟨rfl, rfl, congrArg (fun b => some (Value.bool b)) t18, trivial⟩
                refine kl_steps 5 [(2, .bool false)] (by kernel_rfl) ?_
                refine k_nil ?_
                refine k_then ?_
                exact k_meet1 ⟨congrArg (fun b => some (Value.bool b)) (Option.some.inj h), trivial⟩
            · have h := condF h t17
              refine K.weak (env' := [(0, .int .i64 a0), (21, .bool false), (24, .bool false)]) ?_ ⟨rfl, rfl, congrArg (fun b => some (Value.bool b)) t17, trivial⟩
              refine kl_steps 9 [(2, .bool false)] (by kernel_rfl) ?_
              refine k_nil ?_
              refine k_then ?_
              exact k_meet1 ⟨congrArg (fun b => some (Value.bool b)) (Option.some.inj h), trivial⟩
      · have h := condF h t14
        refine K.weak (env' := [(0, .int .i64 a0), (9, .bool false), (12, .bool false)]) ?_ ⟨rfl, rfl, congrArg (fun b => some (Value.bool b)) t14, trivial⟩
        refine kl_steps 9 [(0, .int .i64 a0), (21, .bool (a0 == (95 : Int)))] (by kernel_rfl) ?_
        rcases Bool.eq_false_or_eq_true ((a0 == (95 : Int))) with t20 | t20
        · have h := condT h t20
          refine K.weak (env' := [(0, .int .i64 a0), (21, .bool true)]) ?_ ⟨rfl, congrArg (fun b => some (Value.bool b)) t20, trivial⟩
          refine kl_steps 12 [(2, .bool true)] (by kernel_rfl) ?_
          refine k_nil ?_
          refine k_then ?_
          exact k_meet1 ⟨congrArg (fun b => some (Value.bool b)) (Option.some.inj h), trivial⟩
        · have h := condF h t20
          refine K.weak (env' := [(0, .int .i64 a0), (21, .bool false)]) ?_ ⟨rfl, congrArg (fun b => some (Value.bool b)) t20, trivial⟩
          refine kl_steps 3 [(0, .int .i64 a0), (21, .bool false), (24, .bool (decide (a0 ≥ (128 : Int))))] (by kernel_rfl) ?_
          rcases Bool.eq_false_or_eq_true (decide (a0 ≥ (128 : Int))) with t21 | t21
          · have h := condT h t21
            refine K.weak (env' := [(0, .int .i64 a0), (21, .bool false), (24, .bool true)]) ?_ ⟨rfl, rfl, congrArg (fun b => some (Value.bool b)) t21, trivial⟩
            refine kl_steps 4 [(0, .int .i64 a0), (21, .bool false), (28, .bool (a0 != (65533 : Int)))] (by kernel_rfl) ?_
            rcases Bool.eq_false_or_eq_true ((a0 != (65533 : Int))) with t22 | t22
            · have h := condT h t22
              refine K.weak (env' := [(0, .int .i64 a0), (21, .bool false), (28, .bool true)]) ?_ ⟨rfl, rfl, congrArg (fun b => some (Value.bool b)) t22, trivial⟩
              refine kl_steps 1 [(21, .bool false), (28, .bool true), (29, .int .i64 a0)] (by kernel_rfl) ?_
              obtain ⟨r23, hr23, h⟩ := bindSome h
              refine kl_callv (by kernel_rfl) (by kernel_rfl) (by kernel_rfl) (r01_good.ok hr23) trivial ?_
              refine kl_steps 3 [(2, .bool r23)] (by kernel_rfl) ?_
              refine k_nil ?_
              refine k_then ?_
              exact k_meet1 ⟨congrArg (fun b => some (Value.bool b)) (Option.some.inj h), trivial⟩
            · have h := condF h t22
              refine K.weak (env' := [(0, .int .i64 a0), (21, .bool false), (28, .bool false)]) ?_ ⟨rfl, rfl, congrArg (fun b => some (Value.bool b)) t22, trivial⟩
              refine kl_steps 5 [(2, .bool false)] (by kernel_rfl) ?_
              refine k_nil ?_
              refine k_then ?_
              exact k_meet1 ⟨congrArg (fun b => some (Value.bool b)) (Option.some.inj h), trivial⟩
          · have h := condF h t21
            refine K.weak (env' := [(0, .int .i64 a0), (21, .bool false), (24, .bool false)]) ?_ ⟨rfl, rfl, congrArg (fun b => some (Value.bool b)) t21, trivial⟩
            refine kl_steps 9 [(2, .bool false)] (by kernel_rfl) ?_
            refine k_nil ?_
            refine k_then ?_
            exact k_meet1 ⟨congrArg (fun b => some (Value.bool b)) (Option.some.inj h), trivial⟩
def r01_At.l0 : Nat → (a0 : ByteArray) → (a1 : Int) → (x3 : Int) → (J7 : Int → Option (Int × Int × Int)) → (x13 : Int) → (x14 : Int) → Option (Int × Int × Int)
  | 0, _, _, _, _, _, _ => none
  | m15 + 1, a0, a1, x3, J7, x13, x14 => cond (decide (x14 < x3)) ((cond (decide (x3 > (IntKind.i64.wrap ((a0.size : Int) - a1)))) (some true) ((sIdx a0 (IntKind.i64.wrap (a1 + x14))).bind fun c21 : UInt8 => cond (decide ((c21.toNat : Int) < (128 : Int))) (some true) ((sIdx a0 (IntKind.i64.wrap (a1 + x14))).bind fun c23 : UInt8 => some (decide ((c23.toNat : Int) ≥ (192 : Int))))) : Option Bool).bind fun q17 => cond q17 (some (a1, (1 : Int), (65533 : Int))) ((sIdx a0 (IntKind.i64.wrap (a1 + x14))).bind fun c19 : UInt8 => r01_At.l0 m15 a0 a1 x3 J7 (IntKind.i64.wrap ((IntKind.i64.wrap ((IntKind.i64.wrap (x13 * (64 : Int))) + (IntKind.i64.wrap (c19.toNat : Int)))) - (128 : Int))) (IntKind.i64.wrap (x14 + (1 : Int))))) (J7 x13)
def r01_At.f (k : Nat) (a0 : ByteArray) (a1 : Int) : Option (Int × Int × Int) := (sIdx a0 a1).bind fun c2 : UInt8 => joinF (fun (x3 : Int) (x4 : Int) => joinF (fun (x6 : Int) => ((r01_good.f k x6).bind fun r10 => cond (!r10) (some true) ((r01_bytes.f k x6).bind fun r12 => some (r12 != x3)) : Option Bool).bind fun q8 => cond q8 (some (a1, (1 : Int), (65533 : Int))) (some (a1, x3, x6))) (fun J7 => r01_At.l0 k a0 a1 x3 J7 x4 (1 : Int))) (fun J5 => (cond (decide ((IntKind.i64.wrap (c2.toNat : Int)) ≥ (192 : Int))) (some (decide ((IntKind.i64.wrap (c2.toNat : Int)) < (224 : Int)))) (some false) : Option Bool).bind fun q24 => cond q24 (J5 (2 : Int) (IntKind.i64.wrap ((IntKind.i64.wrap (c2.toNat : Int)) - (192 : Int)))) ((cond (decide ((IntKind.i64.wrap (c2.toNat : Int)) ≥ (224 : Int))) (some (decide ((IntKind.i64.wrap (c2.toNat : Int)) < (240 : Int)))) (some false) : Option Bool).bind fun q26 => cond q26 (J5 (3 : Int) (IntKind.i64.wrap ((IntKind.i64.wrap (c2.toNat : Int)) - (224 : Int)))) ((cond (decide ((IntKind.i64.wrap (c2.toNat : Int)) ≥ (240 : Int))) (some (decide ((IntKind.i64.wrap (c2.toNat : Int)) < (248 : Int)))) (some false) : Option Bool).bind fun q28 => cond q28 (J5 (4 : Int) (IntKind.i64.wrap ((IntKind.i64.wrap (c2.toNat : Int)) - (240 : Int)))) (cond (decide ((IntKind.i64.wrap (c2.toNat : Int)) ≥ (128 : Int))) (some (a1, (1 : Int), (65533 : Int))) (J5 (1 : Int) (IntKind.i64.wrap (c2.toNat : Int)))))))
set_option maxRecDepth 100000 in
theorem r01_At.ok {k : Nat} {a0 : ByteArray} {a1 : Int} {r : Int × Int × Int} (h : r01_At.f k a0 a1 = some r) : Ct Tryd.prog 16 #[.string a0, .int .i64 a1] [] [] (fun e l1 => e = .returned (.agg #[.int .i64 r.1, .int .i64 r.2.1, .int .i64 r.2.2]) ∧ l1 = []) := by
  refine ct_enter (args := [.string a0, .int .i64 a1]) Tryd.func16 rfl (Nat.le_of_ble_eq_true rfl) ?_
  intro A X hh_
  unfold r01_At.f at h
  refine k_seq ?_
  refine k_region ?_
  refine kl_new (.cells #[.int .i64 (0 : Int), .int .i64 (0 : Int), .int .i64 (0 : Int)] 40 (0, 0)) (fun b => .pointer (some ⟨b, 0, none⟩)) (by kernel_rfl) (by kernel_rfl) (fun _ => by kernel_rfl) fun b1 => ?_
  refine k_nil ?_
  refine k_then ?_
  refine k_seq ?_
  refine k_region ?_
  refine kl_steps 2 [(0, .string a0), (1, .int .i64 a1), (4, .pointer (some ⟨b1, 0, none⟩)), (9, .string a0), (10, .int .i64 a1)] (by kernel_rfl) ?_
  obtain ⟨c2, hc2, h⟩ := bindSome h
  refine kl_index (kd := .i64) rfl (by kernel_rfl) (by kernel_rfl) (by kernel_rfl) (by kernel_rfl) (by kernel_rfl) hc2 ?_
  refine kl_steps 2 [(0, .string a0), (1, .int .i64 a1), (4, .pointer (some ⟨b1, 0, none⟩)), (5, .int .i64 (IntKind.i64.wrap (c2.toNat : Int)))] (by kernel_rfl) ?_
  refine k_nil ?_
  refine k_then ?_
  refine k_seq ?_
  refine k_region ?_
  refine kl_steps 1 [(0, .string a0), (1, .int .i64 a1), (4, .pointer (some ⟨b1, 0, none⟩)), (5, .int .i64 (IntKind.i64.wrap (c2.toNat : Int))), (6, .int .i64 (1 : Int))] (by kernel_rfl) ?_
  refine k_nil ?_
  refine k_then ?_
  refine k_seq ?_
  refine k_region ?_
  refine kl_steps 2 [(0, .string a0), (1, .int .i64 a1), (4, .pointer (some ⟨b1, 0, none⟩)), (5, .int .i64 (IntKind.i64.wrap (c2.toNat : Int))), (6, .int .i64 (1 : Int)), (7, .int .i64 (IntKind.i64.wrap (c2.toNat : Int)))] (by kernel_rfl) ?_
  refine k_nil ?_
  refine k_then ?_
  obtain ⟨J5, hJ5, h⟩ := joinSplit h
  refine k_cut (τ := Int × Int) (fun t => [(0, .string a0), (1, .int .i64 a1), (4, .pointer (some ⟨b1, 0, none⟩)), (6, .int .i64 t.1), (7, .int .i64 t.2)]) (fun t => blk b1 (.cells #[.int .i64 (0 : Int), .int .i64 (0 : Int), .int .i64 (0 : Int)] 40 (0, 0)) :: X) (fun t => J5 t.1 t.2 = some r) ?_ ?_
  · rintro ⟨x3, x4⟩ h
    subst hJ5
    obtain ⟨J7, hJ7, h⟩ := joinSplit h
    refine k_cut (τ := Int) (fun t => [(1, .int .i64 a1), (4, .pointer (some ⟨b1, 0, none⟩)), (6, .int .i64 x3), (7, .int .i64 t)]) (fun t => blk b1 (.cells #[.int .i64 (0 : Int), .int .i64 (0 : Int), .int .i64 (0 : Int)] 40 (0, 0)) :: X) (fun t => J7 t = some r) ?_ ?_
    · rintro x6 h
      subst hJ7
      refine k_seq ?_
      obtain ⟨q8, hq8, h⟩ := bindSome h
      refine k_cut1 [(1, .int .i64 a1), (4, .pointer (some ⟨b1, 0, none⟩)), (6, .int .i64 x3), (7, .int .i64 x6), (89, .bool q8)] (blk b1 (.cells #[.int .i64 (0 : Int), .int .i64 (0 : Int), .int .i64 (0 : Int)] 40 (0, 0)) :: X) ?_ ?_
      · clear hq8
        refine k_cond (t := q8) (by kernel_rfl) (fun t9 => ?_) (fun t9 => ?_)
        · have h := condT h t9
          refine k_seq ?_
          refine k_region ?_
          refine kl_steps 2 [(4, .pointer (some ⟨b1, 0, none⟩)), (91, .agg #[.int .i64 a1, .int .i64 (1 : Int), .int .i64 (65533 : Int)])] (by kernel_rfl) ?_
          refine kl_store (cs' := #[.int .i64 a1, .int .i64 (1 : Int), .int .i64 (65533 : Int)]) [.st ⟨b1, 0, none⟩ (.int .i64 a1), .st ⟨b1, 1, none⟩ (.int .i64 (1 : Int)), .st ⟨b1, 2, none⟩ (.int .i64 (65533 : Int))] (by kernel_rfl) (by kernel_rfl) (by kernel_rfl) ⟨rfl, rfl, rfl, trivial⟩ (by kernel_rfl) ?_
          refine k_nil ?_
          refine k_then ?_
          refine k_ret ?_
          refine k_then_ret ?_
          obtain rfl := Option.some.inj h
          refine k_done (v := .agg #[.int .i64 a1, .int .i64 (1 : Int), .int .i64 (65533 : Int)]) [.val (.int .i64 a1), .val (.int .i64 (1 : Int)), .val (.int .i64 (65533 : Int))] [.ld ⟨b1, 0, none⟩ (.int .i64 a1), .ld ⟨b1, 1, none⟩ (.int .i64 (1 : Int)), .ld ⟨b1, 2, none⟩ (.int .i64 (65533 : Int))] [] (by kernel_rfl) (by kernel_rfl) ⟨⟨0, _, _, _, rfl, rfl, rfl⟩, ⟨0, _, _, _, rfl, rfl, rfl⟩, ⟨0, _, _, _, rfl, rfl, rfl⟩, trivial⟩ ?_
          refine K.drop ?_
          exact k_end ⟨rfl, rfl⟩
        · have h := condF h t9
          refine k_skip ?_
          refine k_then ?_
          refine k_seq ?_
          refine k_region ?_
          refine kl_steps 4 [(4, .pointer (some ⟨b1, 0, none⟩)), (95, .agg #[.int .i64 a1, .int .i64 x3, .int .i64 x6])] (by kernel_rfl) ?_
          refine kl_store (cs' := #[.int .i64 a1, .int .i64 x3, .int .i64 x6]) [.st ⟨b1, 0, none⟩ (.int .i64 a1), .st ⟨b1, 1, none⟩ (.int .i64 x3), .st ⟨b1, 2, none⟩ (.int .i64 x6)] (by kernel_rfl) (by kernel_rfl) (by kernel_rfl) ⟨rfl, rfl, rfl, trivial⟩ (by kernel_rfl) ?_
          refine k_nil ?_
          refine k_then ?_
          refine k_ret ?_
          obtain rfl := Option.some.inj h
          refine k_done (v := .agg #[.int .i64 a1, .int .i64 x3, .int .i64 x6]) [.val (.int .i64 a1), .val (.int .i64 x3), .val (.int .i64 x6)] [.ld ⟨b1, 0, none⟩ (.int .i64 a1), .ld ⟨b1, 1, none⟩ (.int .i64 x3), .ld ⟨b1, 2, none⟩ (.int .i64 x6)] [] (by kernel_rfl) (by kernel_rfl) ⟨⟨0, _, _, _, rfl, rfl, rfl⟩, ⟨0, _, _, _, rfl, rfl, rfl⟩, ⟨0, _, _, _, rfl, rfl, rfl⟩, trivial⟩ ?_
          refine K.drop ?_
          exact k_end ⟨rfl, rfl⟩
      · have h := hq8
        clear hq8
        refine k_region ?_
        refine kl_steps 1 [(1, .int .i64 a1), (4, .pointer (some ⟨b1, 0, none⟩)), (6, .int .i64 x3), (7, .int .i64 x6), (81, .int .i64 x6)] (by kernel_rfl) ?_
        obtain ⟨r10, hr10, h⟩ := bindSome h
        refine kl_callv (by kernel_rfl) (by kernel_rfl) (by kernel_rfl) (r01_good.ok hr10) trivial ?_
        refine kl_steps 2 [(1, .int .i64 a1), (4, .pointer (some ⟨b1, 0, none⟩)), (6, .int .i64 x3), (7, .int .i64 x6), (84, .bool (!r10))] (by kernel_rfl) ?_
        rcases Bool.eq_false_or_eq_true (!r10) with t11 | t11
        · have h := condT h t11
          refine K.weak (env' := [(1, .int .i64 a1), (4, .pointer (some ⟨b1, 0, none⟩)), (6, .int .i64 x3), (7, .int .i64 x6), (84, .bool true)]) ?_ ⟨rfl, rfl, rfl, rfl, congrArg (fun b => some (Value.bool b)) t11, trivial⟩
          refine kl_steps 5 [(1, .int .i64 a1), (4, .pointer (some ⟨b1, 0, none⟩)), (6, .int .i64 x3), (7, .int .i64 x6), (89, .bool true)] (by kernel_rfl) ?_
          refine k_nil ?_
          refine k_then ?_
          exact k_meet1 ⟨rfl, rfl, rfl, rfl, congrArg (fun b => some (Value.bool b)) (Option.some.inj h), trivial⟩
        · have h := condF h t11
          refine K.weak (env' := [(1, .int .i64 a1), (4, .pointer (some ⟨b1, 0, none⟩)), (6, .int .i64 x3), (7, .int .i64 x6), (84, .bool false)]) ?_ ⟨rfl, rfl, rfl, rfl, congrArg (fun b => some (Value.bool b)) t11, trivial⟩
          refine kl_steps 1 [(1, .int .i64 a1), (4, .pointer (some ⟨b1, 0, none⟩)), (6, .int .i64 x3), (7, .int .i64 x6), (84, .bool false), (85, .int .i64 x6)] (by kernel_rfl) ?_
          obtain ⟨r12, hr12, h⟩ := bindSome h
          refine kl_callv (by kernel_rfl) (by kernel_rfl) (by kernel_rfl) (r01_bytes.ok hr12) trivial ?_
          refine kl_steps 3 [(1, .int .i64 a1), (4, .pointer (some ⟨b1, 0, none⟩)), (6, .int .i64 x3), (7, .int .i64 x6), (89, .bool (r12 != x3))] (by kernel_rfl) ?_
          refine k_nil ?_
          refine k_then ?_
          exact k_meet1 ⟨rfl, rfl, rfl, rfl, congrArg (fun b => some (Value.bool b)) (Option.some.inj h), trivial⟩
    · skip
      refine k_seq ?_
      refine k_region ?_
      refine kl_steps 1 [(0, .string a0), (1, .int .i64 a1), (4, .pointer (some ⟨b1, 0, none⟩)), (6, .int .i64 x3), (7, .int .i64 x4), (8, .int .i64 (1 : Int))] (by kernel_rfl) ?_
      refine k_nil ?_
      refine k_then ?_
      refine k_block ?_
      refine k_loop (τ := Int × Int) (fun t => [(0, .string a0), (1, .int .i64 a1), (4, .pointer (some ⟨b1, 0, none⟩)), (6, .int .i64 x3), (7, .int .i64 t.1), (8, .int .i64 t.2)]) (fun t => blk b1 (.cells #[.int .i64 (0 : Int), .int .i64 (0 : Int), .int .i64 (0 : Int)] 40 (0, 0)) :: X) (fun m t => r01_At.l0 m a0 a1 x3 J7 t.1 t.2 = some r) k (x4, (1 : Int)) h ⟨rfl, rfl, rfl, rfl, rfl, rfl, trivial⟩ rfl ?_
      clear h
      rintro m15 ⟨x13, x14⟩ h
      cases m15 with
      | zero => simp [r01_At.l0] at h
      | succ m15 =>
        simp only [r01_At.l0] at h
        refine k_seq ?_
        refine k_seq ?_
        refine k_region ?_
        refine kl_steps 3 [(0, .string a0), (1, .int .i64 a1), (4, .pointer (some ⟨b1, 0, none⟩)), (6, .int .i64 x3), (7, .int .i64 x13), (8, .int .i64 x14), (44, .bool (decide (x14 < x3)))] (by kernel_rfl) ?_
        refine k_nil ?_
        refine k_then ?_
        refine k_cond (t := decide (x14 < x3)) (by kernel_rfl) (fun t16 => ?_) (fun t16 => ?_)
        · have h := condT h t16
          refine k_skip ?_
          refine k_then ?_
          refine k_seq ?_
          refine k_block ?_
          refine k_seq ?_
          obtain ⟨q17, hq17, h⟩ := bindSome h
          refine k_cut1 [(0, .string a0), (1, .int .i64 a1), (4, .pointer (some ⟨b1, 0, none⟩)), (6, .int .i64 x3), (7, .int .i64 x13), (8, .int .i64 x14), (68, .bool q17)] (blk b1 (.cells #[.int .i64 (0 : Int), .int .i64 (0 : Int), .int .i64 (0 : Int)] 40 (0, 0)) :: X) ?_ ?_
          · clear hq17
            refine k_cond (t := q17) (by kernel_rfl) (fun t18 => ?_) (fun t18 => ?_)
            · have h := condT h t18
              refine k_seq ?_
              refine k_region ?_
              refine kl_steps 2 [(4, .pointer (some ⟨b1, 0, none⟩)), (70, .agg #[.int .i64 a1, .int .i64 (1 : Int), .int .i64 (65533 : Int)])] (by kernel_rfl) ?_
              refine kl_store (cs' := #[.int .i64 a1, .int .i64 (1 : Int), .int .i64 (65533 : Int)]) [.st ⟨b1, 0, none⟩ (.int .i64 a1), .st ⟨b1, 1, none⟩ (.int .i64 (1 : Int)), .st ⟨b1, 2, none⟩ (.int .i64 (65533 : Int))] (by kernel_rfl) (by kernel_rfl) (by kernel_rfl) ⟨rfl, rfl, rfl, trivial⟩ (by kernel_rfl) ?_
              refine k_nil ?_
              refine k_then ?_
              refine k_ret ?_
              refine k_then_ret ?_
              refine k_blk_ret ?_
              refine k_then_ret ?_
              refine k_then_ret ?_
              refine k_blk_ret ?_
              refine k_then_ret ?_
              obtain rfl := Option.some.inj h
              refine k_done (v := .agg #[.int .i64 a1, .int .i64 (1 : Int), .int .i64 (65533 : Int)]) [.val (.int .i64 a1), .val (.int .i64 (1 : Int)), .val (.int .i64 (65533 : Int))] [.ld ⟨b1, 0, none⟩ (.int .i64 a1), .ld ⟨b1, 1, none⟩ (.int .i64 (1 : Int)), .ld ⟨b1, 2, none⟩ (.int .i64 (65533 : Int))] [] (by kernel_rfl) (by kernel_rfl) ⟨⟨0, _, _, _, rfl, rfl, rfl⟩, ⟨0, _, _, _, rfl, rfl, rfl⟩, ⟨0, _, _, _, rfl, rfl, rfl⟩, trivial⟩ ?_
              refine K.drop ?_
              exact k_end ⟨rfl, rfl⟩
            · have h := condF h t18
              refine k_skip ?_
              refine k_then ?_
              refine k_region ?_
              refine kl_steps 6 [(0, .string a0), (1, .int .i64 a1), (4, .pointer (some ⟨b1, 0, none⟩)), (6, .int .i64 x3), (7, .int .i64 x13), (8, .int .i64 x14), (72, .int .i64 (IntKind.i64.wrap (x13 * (64 : Int)))), (73, .string a0), (76, .int .i64 (IntKind.i64.wrap (a1 + x14)))] (by kernel_rfl) ?_
              obtain ⟨c19, hc19, h⟩ := bindSome h
              refine kl_index (kd := .i64) rfl (by kernel_rfl) (by kernel_rfl) (by kernel_rfl) (by kernel_rfl) (by kernel_rfl) hc19 ?_
              refine kl_steps 4 [(0, .string a0), (1, .int .i64 a1), (4, .pointer (some ⟨b1, 0, none⟩)), (6, .int .i64 x3), (7, .int .i64 (IntKind.i64.wrap ((IntKind.i64.wrap ((IntKind.i64.wrap (x13 * (64 : Int))) + (IntKind.i64.wrap (c19.toNat : Int)))) - (128 : Int)))), (8, .int .i64 x14)] (by kernel_rfl) ?_
              refine k_nil ?_
              refine k_blk ?_
              refine k_then ?_
              refine k_region ?_
              refine kl_steps 3 [(0, .string a0), (1, .int .i64 a1), (4, .pointer (some ⟨b1, 0, none⟩)), (6, .int .i64 x3), (7, .int .i64 (IntKind.i64.wrap ((IntKind.i64.wrap ((IntKind.i64.wrap (x13 * (64 : Int))) + (IntKind.i64.wrap (c19.toNat : Int)))) - (128 : Int)))), (8, .int .i64 (IntKind.i64.wrap (x14 + (1 : Int))))] (by kernel_rfl) ?_
              refine k_nil ?_
              refine k_then ?_
              exact k_again m15 (IntKind.i64.wrap ((IntKind.i64.wrap ((IntKind.i64.wrap (x13 * (64 : Int))) + (IntKind.i64.wrap (c19.toNat : Int)))) - (128 : Int)), IntKind.i64.wrap (x14 + (1 : Int))) (Nat.lt_succ_self _) h ⟨rfl, rfl, rfl, rfl, rfl, rfl, trivial⟩ rfl
          · have h := hq17
            clear hq17
            refine k_region ?_
            refine kl_steps 7 [(0, .string a0), (1, .int .i64 a1), (4, .pointer (some ⟨b1, 0, none⟩)), (6, .int .i64 x3), (7, .int .i64 x13), (8, .int .i64 x14), (53, .bool (decide (x3 > (IntKind.i64.wrap ((a0.size : Int) - a1)))))] (by kernel_rfl) ?_
            rcases Bool.eq_false_or_eq_true (decide (x3 > (IntKind.i64.wrap ((a0.size : Int) - a1)))) with t20 | t20
            · have h := condT h t20
              refine K.weak (env' := [(0, .string a0), (1, .int .i64 a1), (4, .pointer (some ⟨b1, 0, none⟩)), (6, .int .i64 x3), (7, .int .i64 x13), (8, .int .i64 x14), (53, .bool true)]) ?_ ⟨rfl, rfl, rfl, rfl, rfl, rfl, congrArg (fun b => some (Value.bool b)) t20, trivial⟩
              refine kl_steps 15 [(0, .string a0), (1, .int .i64 a1), (4, .pointer (some ⟨b1, 0, none⟩)), (6, .int .i64 x3), (7, .int .i64 x13), (8, .int .i64 x14), (68, .bool true)] (by kernel_rfl) ?_
              refine k_nil ?_
              refine k_then ?_
              exact k_meet1 ⟨rfl, rfl, rfl, rfl, rfl, rfl, congrArg (fun b => some (Value.bool b)) (Option.some.inj h), trivial⟩
            · have h := condF h t20
              refine K.weak (env' := [(0, .string a0), (1, .int .i64 a1), (4, .pointer (some ⟨b1, 0, none⟩)), (6, .int .i64 x3), (7, .int .i64 x13), (8, .int .i64 x14), (53, .bool false)]) ?_ ⟨rfl, rfl, rfl, rfl, rfl, rfl, congrArg (fun b => some (Value.bool b)) t20, trivial⟩
              refine kl_steps 4 [(0, .string a0), (1, .int .i64 a1), (4, .pointer (some ⟨b1, 0, none⟩)), (6, .int .i64 x3), (7, .int .i64 x13), (8, .int .i64 x14), (53, .bool false), (54, .string a0), (57, .int .i64 (IntKind.i64.wrap (a1 + x14)))] (by kernel_rfl) ?_
              obtain ⟨c21, hc21, h⟩ := bindSome h
              refine kl_index (kd := .i64) rfl (by kernel_rfl) (by kernel_rfl) (by kernel_rfl) (by kernel_rfl) (by kernel_rfl) hc21 ?_
              refine kl_steps 3 [(0, .string a0), (1, .int .i64 a1), (4, .pointer (some ⟨b1, 0, none⟩)), (6, .int .i64 x3), (7, .int .i64 x13), (8, .int .i64 x14), (61, .bool (decide ((c21.toNat : Int) < (128 : Int))))] (by kernel_rfl) ?_
              rcases Bool.eq_false_or_eq_true (decide ((c21.toNat : Int) < (128 : Int))) with t22 | t22
              · have h := condT h t22
                refine K.weak (env' := [(0, .string a0), (1, .int .i64 a1), (4, .pointer (some ⟨b1, 0, none⟩)), (6, .int .i64 x3), (7, .int .i64 x13), (8, .int .i64 x14), (61, .bool true)]) ?_ ⟨rfl, rfl, rfl, rfl, rfl, rfl, congrArg (fun b => some (Value.bool b)) t22, trivial⟩
                refine kl_steps 7 [(0, .string a0), (1, .int .i64 a1), (4, .pointer (some ⟨b1, 0, none⟩)), (6, .int .i64 x3), (7, .int .i64 x13), (8, .int .i64 x14), (68, .bool true)] (by kernel_rfl) ?_
                refine k_nil ?_
                refine k_then ?_
                exact k_meet1 ⟨rfl, rfl, rfl, rfl, rfl, rfl, congrArg (fun b => some (Value.bool b)) (Option.some.inj h), trivial⟩
              · have h := condF h t22
                refine K.weak (env' := [(0, .string a0), (1, .int .i64 a1), (4, .pointer (some ⟨b1, 0, none⟩)), (6, .int .i64 x3), (7, .int .i64 x13), (8, .int .i64 x14), (61, .bool false)]) ?_ ⟨rfl, rfl, rfl, rfl, rfl, rfl, congrArg (fun b => some (Value.bool b)) t22, trivial⟩
                refine kl_steps 4 [(0, .string a0), (1, .int .i64 a1), (4, .pointer (some ⟨b1, 0, none⟩)), (6, .int .i64 x3), (7, .int .i64 x13), (8, .int .i64 x14), (61, .bool false), (62, .string a0), (65, .int .i64 (IntKind.i64.wrap (a1 + x14)))] (by kernel_rfl) ?_
                obtain ⟨c23, hc23, h⟩ := bindSome h
                refine kl_index (kd := .i64) rfl (by kernel_rfl) (by kernel_rfl) (by kernel_rfl) (by kernel_rfl) (by kernel_rfl) hc23 ?_
                refine kl_steps 2 [(0, .string a0), (1, .int .i64 a1), (4, .pointer (some ⟨b1, 0, none⟩)), (6, .int .i64 x3), (7, .int .i64 x13), (8, .int .i64 x14), (68, .bool (decide ((c23.toNat : Int) ≥ (192 : Int))))] (by kernel_rfl) ?_
                refine k_nil ?_
                refine k_then ?_
                exact k_meet1 ⟨rfl, rfl, rfl, rfl, rfl, rfl, congrArg (fun b => some (Value.bool b)) (Option.some.inj h), trivial⟩
        · have h := condF h t16
          refine k_exit ?_
          refine k_then_exit ?_
          refine k_then_exit ?_
          refine k_here ?_
          refine k_then ?_
          exact k_meet x13 h ⟨rfl, rfl, rfl, rfl, trivial⟩ rfl
  · skip
    obtain ⟨q24, hq24, h⟩ := bindSome h
    refine k_cut1 [(0, .string a0), (1, .int .i64 a1), (4, .pointer (some ⟨b1, 0, none⟩)), (5, .int .i64 (IntKind.i64.wrap (c2.toNat : Int))), (6, .int .i64 (1 : Int)), (7, .int .i64 (IntKind.i64.wrap (c2.toNat : Int))), (19, .bool q24)] (blk b1 (.cells #[.int .i64 (0 : Int), .int .i64 (0 : Int), .int .i64 (0 : Int)] 40 (0, 0)) :: X) ?_ ?_
    · clear hq24
      refine k_cond (t := q24) (by kernel_rfl) (fun t25 => ?_) (fun t25 => ?_)
      · have h := condT h t25
        refine k_region ?_
        refine kl_steps 4 [(0, .string a0), (1, .int .i64 a1), (4, .pointer (some ⟨b1, 0, none⟩)), (6, .int .i64 (2 : Int)), (7, .int .i64 (IntKind.i64.wrap ((IntKind.i64.wrap (c2.toNat : Int)) - (192 : Int))))] (by kernel_rfl) ?_
        refine k_nil ?_
        refine k_then ?_
        exact k_meet ((2 : Int), IntKind.i64.wrap ((IntKind.i64.wrap (c2.toNat : Int)) - (192 : Int))) h ⟨rfl, rfl, rfl, rfl, rfl, trivial⟩ rfl
      · have h := condF h t25
        obtain ⟨q26, hq26, h⟩ := bindSome h
        refine k_cut1 [(0, .string a0), (1, .int .i64 a1), (4, .pointer (some ⟨b1, 0, none⟩)), (5, .int .i64 (IntKind.i64.wrap (c2.toNat : Int))), (6, .int .i64 (1 : Int)), (7, .int .i64 (IntKind.i64.wrap (c2.toNat : Int))), (27, .bool q26)] (blk b1 (.cells #[.int .i64 (0 : Int), .int .i64 (0 : Int), .int .i64 (0 : Int)] 40 (0, 0)) :: X) ?_ ?_
        · clear hq26
          refine k_cond (t := q26) (by kernel_rfl) (fun t27 => ?_) (fun t27 => ?_)
          · have h := condT h t27
            refine k_region ?_
            refine kl_steps 4 [(0, .string a0), (1, .int .i64 a1), (4, .pointer (some ⟨b1, 0, none⟩)), (6, .int .i64 (3 : Int)), (7, .int .i64 (IntKind.i64.wrap ((IntKind.i64.wrap (c2.toNat : Int)) - (224 : Int))))] (by kernel_rfl) ?_
            refine k_nil ?_
            refine k_then ?_
            exact k_meet ((3 : Int), IntKind.i64.wrap ((IntKind.i64.wrap (c2.toNat : Int)) - (224 : Int))) h ⟨rfl, rfl, rfl, rfl, rfl, trivial⟩ rfl
          · have h := condF h t27
            obtain ⟨q28, hq28, h⟩ := bindSome h
            refine k_cut1 [(0, .string a0), (1, .int .i64 a1), (4, .pointer (some ⟨b1, 0, none⟩)), (5, .int .i64 (IntKind.i64.wrap (c2.toNat : Int))), (6, .int .i64 (1 : Int)), (7, .int .i64 (IntKind.i64.wrap (c2.toNat : Int))), (35, .bool q28)] (blk b1 (.cells #[.int .i64 (0 : Int), .int .i64 (0 : Int), .int .i64 (0 : Int)] 40 (0, 0)) :: X) ?_ ?_
            · clear hq28
              refine k_cond (t := q28) (by kernel_rfl) (fun t29 => ?_) (fun t29 => ?_)
              · have h := condT h t29
                refine k_region ?_
                refine kl_steps 4 [(0, .string a0), (1, .int .i64 a1), (4, .pointer (some ⟨b1, 0, none⟩)), (6, .int .i64 (4 : Int)), (7, .int .i64 (IntKind.i64.wrap ((IntKind.i64.wrap (c2.toNat : Int)) - (240 : Int))))] (by kernel_rfl) ?_
                refine k_nil ?_
                refine k_then ?_
                exact k_meet ((4 : Int), IntKind.i64.wrap ((IntKind.i64.wrap (c2.toNat : Int)) - (240 : Int))) h ⟨rfl, rfl, rfl, rfl, rfl, trivial⟩ rfl
              · have h := condF h t29
                refine k_seq ?_
                refine k_region ?_
                refine kl_steps 2 [(0, .string a0), (1, .int .i64 a1), (4, .pointer (some ⟨b1, 0, none⟩)), (6, .int .i64 (1 : Int)), (7, .int .i64 (IntKind.i64.wrap (c2.toNat : Int))), (39, .bool (decide ((IntKind.i64.wrap (c2.toNat : Int)) ≥ (128 : Int))))] (by kernel_rfl) ?_
                refine k_nil ?_
                refine k_then ?_
                refine k_cond (t := decide ((IntKind.i64.wrap (c2.toNat : Int)) ≥ (128 : Int))) (by kernel_rfl) (fun t30 => ?_) (fun t30 => ?_)
                · have h := condT h t30
                  refine k_seq ?_
                  refine k_region ?_
                  refine kl_steps 2 [(4, .pointer (some ⟨b1, 0, none⟩)), (41, .agg #[.int .i64 a1, .int .i64 (1 : Int), .int .i64 (65533 : Int)])] (by kernel_rfl) ?_
                  refine kl_store (cs' := #[.int .i64 a1, .int .i64 (1 : Int), .int .i64 (65533 : Int)]) [.st ⟨b1, 0, none⟩ (.int .i64 a1), .st ⟨b1, 1, none⟩ (.int .i64 (1 : Int)), .st ⟨b1, 2, none⟩ (.int .i64 (65533 : Int))] (by kernel_rfl) (by kernel_rfl) (by kernel_rfl) ⟨rfl, rfl, rfl, trivial⟩ (by kernel_rfl) ?_
                  refine k_nil ?_
                  refine k_then ?_
                  refine k_ret ?_
                  refine k_then_ret ?_
                  obtain rfl := Option.some.inj h
                  refine k_done (v := .agg #[.int .i64 a1, .int .i64 (1 : Int), .int .i64 (65533 : Int)]) [.val (.int .i64 a1), .val (.int .i64 (1 : Int)), .val (.int .i64 (65533 : Int))] [.ld ⟨b1, 0, none⟩ (.int .i64 a1), .ld ⟨b1, 1, none⟩ (.int .i64 (1 : Int)), .ld ⟨b1, 2, none⟩ (.int .i64 (65533 : Int))] [] (by kernel_rfl) (by kernel_rfl) ⟨⟨0, _, _, _, rfl, rfl, rfl⟩, ⟨0, _, _, _, rfl, rfl, rfl⟩, ⟨0, _, _, _, rfl, rfl, rfl⟩, trivial⟩ ?_
                  refine K.drop ?_
                  exact k_end ⟨rfl, rfl⟩
                · have h := condF h t30
                  refine k_skip ?_
                  refine k_then ?_
                  exact k_meet ((1 : Int), IntKind.i64.wrap (c2.toNat : Int)) h ⟨rfl, rfl, rfl, rfl, rfl, trivial⟩ rfl
            · have h := hq28
              clear hq28
              refine k_region ?_
              refine kl_steps 3 [(0, .string a0), (1, .int .i64 a1), (4, .pointer (some ⟨b1, 0, none⟩)), (5, .int .i64 (IntKind.i64.wrap (c2.toNat : Int))), (6, .int .i64 (1 : Int)), (7, .int .i64 (IntKind.i64.wrap (c2.toNat : Int))), (32, .bool (decide ((IntKind.i64.wrap (c2.toNat : Int)) ≥ (240 : Int))))] (by kernel_rfl) ?_
              rcases Bool.eq_false_or_eq_true (decide ((IntKind.i64.wrap (c2.toNat : Int)) ≥ (240 : Int))) with t31 | t31
              · have h := condT h t31
                refine K.weak (env' := [(0, .string a0), (1, .int .i64 a1), (4, .pointer (some ⟨b1, 0, none⟩)), (5, .int .i64 (IntKind.i64.wrap (c2.toNat : Int))), (6, .int .i64 (1 : Int)), (7, .int .i64 (IntKind.i64.wrap (c2.toNat : Int))), (32, .bool true)]) ?_ ⟨rfl, rfl, rfl, rfl, rfl, rfl, congrArg (fun b => some (Value.bool b)) t31, trivial⟩
                refine kl_steps 3 [(0, .string a0), (1, .int .i64 a1), (4, .pointer (some ⟨b1, 0, none⟩)), (5, .int .i64 (IntKind.i64.wrap (c2.toNat : Int))), (6, .int .i64 (1 : Int)), (7, .int .i64 (IntKind.i64.wrap (c2.toNat : Int))), (35, .bool (decide ((IntKind.i64.wrap (c2.toNat : Int)) < (248 : Int))))] (by kernel_rfl) ?_
                refine k_nil ?_
                refine k_then ?_
                exact k_meet1 ⟨rfl, rfl, rfl, rfl, rfl, rfl, congrArg (fun b => some (Value.bool b)) (Option.some.inj h), trivial⟩
              · have h := condF h t31
                refine K.weak (env' := [(0, .string a0), (1, .int .i64 a1), (4, .pointer (some ⟨b1, 0, none⟩)), (5, .int .i64 (IntKind.i64.wrap (c2.toNat : Int))), (6, .int .i64 (1 : Int)), (7, .int .i64 (IntKind.i64.wrap (c2.toNat : Int))), (32, .bool false)]) ?_ ⟨rfl, rfl, rfl, rfl, rfl, rfl, congrArg (fun b => some (Value.bool b)) t31, trivial⟩
                refine kl_steps 3 [(0, .string a0), (1, .int .i64 a1), (4, .pointer (some ⟨b1, 0, none⟩)), (5, .int .i64 (IntKind.i64.wrap (c2.toNat : Int))), (6, .int .i64 (1 : Int)), (7, .int .i64 (IntKind.i64.wrap (c2.toNat : Int))), (35, .bool false)] (by kernel_rfl) ?_
                refine k_nil ?_
                refine k_then ?_
                exact k_meet1 ⟨rfl, rfl, rfl, rfl, rfl, rfl, congrArg (fun b => some (Value.bool b)) (Option.some.inj h), trivial⟩
        · have h := hq26
          clear hq26
          refine k_region ?_
          refine kl_steps 3 [(0, .string a0), (1, .int .i64 a1), (4, .pointer (some ⟨b1, 0, none⟩)), (5, .int .i64 (IntKind.i64.wrap (c2.toNat : Int))), (6, .int .i64 (1 : Int)), (7, .int .i64 (IntKind.i64.wrap (c2.toNat : Int))), (24, .bool (decide ((IntKind.i64.wrap (c2.toNat : Int)) ≥ (224 : Int))))] (by kernel_rfl) ?_
          rcases Bool.eq_false_or_eq_true (decide ((IntKind.i64.wrap (c2.toNat : Int)) ≥ (224 : Int))) with t32 | t32
          · have h := condT h t32
            refine K.weak (env' := [(0, .string a0), (1, .int .i64 a1), (4, .pointer (some ⟨b1, 0, none⟩)), (5, .int .i64 (IntKind.i64.wrap (c2.toNat : Int))), (6, .int .i64 (1 : Int)), (7, .int .i64 (IntKind.i64.wrap (c2.toNat : Int))), (24, .bool true)]) ?_ ⟨rfl, rfl, rfl, rfl, rfl, rfl, congrArg (fun b => some (Value.bool b)) t32, trivial⟩
            refine kl_steps 3 [(0, .string a0), (1, .int .i64 a1), (4, .pointer (some ⟨b1, 0, none⟩)), (5, .int .i64 (IntKind.i64.wrap (c2.toNat : Int))), (6, .int .i64 (1 : Int)), (7, .int .i64 (IntKind.i64.wrap (c2.toNat : Int))), (27, .bool (decide ((IntKind.i64.wrap (c2.toNat : Int)) < (240 : Int))))] (by kernel_rfl) ?_
            refine k_nil ?_
            refine k_then ?_
            exact k_meet1 ⟨rfl, rfl, rfl, rfl, rfl, rfl, congrArg (fun b => some (Value.bool b)) (Option.some.inj h), trivial⟩
          · have h := condF h t32
            refine K.weak (env' := [(0, .string a0), (1, .int .i64 a1), (4, .pointer (some ⟨b1, 0, none⟩)), (5, .int .i64 (IntKind.i64.wrap (c2.toNat : Int))), (6, .int .i64 (1 : Int)), (7, .int .i64 (IntKind.i64.wrap (c2.toNat : Int))), (24, .bool false)]) ?_ ⟨rfl, rfl, rfl, rfl, rfl, rfl, congrArg (fun b => some (Value.bool b)) t32, trivial⟩
            refine kl_steps 3 [(0, .string a0), (1, .int .i64 a1), (4, .pointer (some ⟨b1, 0, none⟩)), (5, .int .i64 (IntKind.i64.wrap (c2.toNat : Int))), (6, .int .i64 (1 : Int)), (7, .int .i64 (IntKind.i64.wrap (c2.toNat : Int))), (27, .bool false)] (by kernel_rfl) ?_
            refine k_nil ?_
            refine k_then ?_
            exact k_meet1 ⟨rfl, rfl, rfl, rfl, rfl, rfl, congrArg (fun b => some (Value.bool b)) (Option.some.inj h), trivial⟩
    · have h := hq24
      clear hq24
      refine k_region ?_
      refine kl_steps 3 [(0, .string a0), (1, .int .i64 a1), (4, .pointer (some ⟨b1, 0, none⟩)), (5, .int .i64 (IntKind.i64.wrap (c2.toNat : Int))), (6, .int .i64 (1 : Int)), (7, .int .i64 (IntKind.i64.wrap (c2.toNat : Int))), (16, .bool (decide ((IntKind.i64.wrap (c2.toNat : Int)) ≥ (192 : Int))))] (by kernel_rfl) ?_
      rcases Bool.eq_false_or_eq_true (decide ((IntKind.i64.wrap (c2.toNat : Int)) ≥ (192 : Int))) with t33 | t33
      · have h := condT h t33
        refine K.weak (env' := [(0, .string a0), (1, .int .i64 a1), (4, .pointer (some ⟨b1, 0, none⟩)), (5, .int .i64 (IntKind.i64.wrap (c2.toNat : Int))), (6, .int .i64 (1 : Int)), (7, .int .i64 (IntKind.i64.wrap (c2.toNat : Int))), (16, .bool true)]) ?_ ⟨rfl, rfl, rfl, rfl, rfl, rfl, congrArg (fun b => some (Value.bool b)) t33, trivial⟩
        refine kl_steps 3 [(0, .string a0), (1, .int .i64 a1), (4, .pointer (some ⟨b1, 0, none⟩)), (5, .int .i64 (IntKind.i64.wrap (c2.toNat : Int))), (6, .int .i64 (1 : Int)), (7, .int .i64 (IntKind.i64.wrap (c2.toNat : Int))), (19, .bool (decide ((IntKind.i64.wrap (c2.toNat : Int)) < (224 : Int))))] (by kernel_rfl) ?_
        refine k_nil ?_
        refine k_then ?_
        exact k_meet1 ⟨rfl, rfl, rfl, rfl, rfl, rfl, congrArg (fun b => some (Value.bool b)) (Option.some.inj h), trivial⟩
      · have h := condF h t33
        refine K.weak (env' := [(0, .string a0), (1, .int .i64 a1), (4, .pointer (some ⟨b1, 0, none⟩)), (5, .int .i64 (IntKind.i64.wrap (c2.toNat : Int))), (6, .int .i64 (1 : Int)), (7, .int .i64 (IntKind.i64.wrap (c2.toNat : Int))), (16, .bool false)]) ?_ ⟨rfl, rfl, rfl, rfl, rfl, rfl, congrArg (fun b => some (Value.bool b)) t33, trivial⟩
        refine kl_steps 3 [(0, .string a0), (1, .int .i64 a1), (4, .pointer (some ⟨b1, 0, none⟩)), (5, .int .i64 (IntKind.i64.wrap (c2.toNat : Int))), (6, .int .i64 (1 : Int)), (7, .int .i64 (IntKind.i64.wrap (c2.toNat : Int))), (19, .bool false)] (by kernel_rfl) ?_
        refine k_nil ?_
        refine k_then ?_
        exact k_meet1 ⟨rfl, rfl, rfl, rfl, rfl, rfl, congrArg (fun b => some (Value.bool b)) (Option.some.inj h), trivial⟩
end Go.Proofs.YtadenjlehhopmaaDoor
