/- Printed by a program of mine (wip/mk.py): functions with the same answers as the Go code, and the proof of it. -/
import Derived.Test.YtadenjlehhopmaaDoorG0
namespace Go.Proofs.YtadenjlehhopmaaDoor
open Go Go.RowKit
set_option linter.unusedSimpArgs false
set_option linter.unusedVariables false
def r02_worth.f (_k : Nat) (a0 : Int) (a1 : Bool) : Option (Int) := (cond (decide (a0 ≥ (48 : Int))) (some (decide (a0 ≤ (57 : Int)))) (some false) : Option Bool).bind fun q1 => cond q1 (some (IntKind.i64.wrap ((IntKind.i64.wrap a0) - (48 : Int)))) ((cond a1 (cond (decide (a0 ≥ (97 : Int))) (some (decide (a0 ≤ (102 : Int)))) (some false)) (some false) : Option Bool).bind fun q3 => cond q3 (some (IntKind.i64.wrap ((IntKind.i64.wrap ((IntKind.i64.wrap a0) - (97 : Int))) + (10 : Int)))) ((cond a1 (cond (decide (a0 ≥ (65 : Int))) (some (decide (a0 ≤ (70 : Int)))) (some false)) (some false) : Option Bool).bind fun q5 => cond q5 (some (IntKind.i64.wrap ((IntKind.i64.wrap ((IntKind.i64.wrap a0) - (65 : Int))) + (10 : Int)))) (some ((-1 : Int)))))
set_option maxRecDepth 100000 in
theorem r02_worth.ok {k : Nat} {a0 : Int} {a1 : Bool} {r : Int} (h : r02_worth.f k a0 a1 = some r) : Ct Tryd.prog 68 #[.int .u8 a0, .bool a1] [] [] (fun e l1 => e = .returned (.int .i64 r) ∧ l1 = []) := by
  refine ct_enter (args := [.int .u8 a0, .bool a1]) Tryd.func68 rfl (Nat.le_of_ble_eq_true rfl) ?_
  intro A X hh_
  unfold r02_worth.f at h
  refine k_seq ?_
  refine k_region ?_
  refine kl_steps 1 [(0, .int .u8 a0), (1, .bool a1)] (by kernel_rfl) ?_
  refine k_nil ?_
  refine k_then ?_
  refine k_seq ?_
  obtain ⟨q1, hq1, h⟩ := bindSome h
  refine k_cut1 [(0, .int .u8 a0), (1, .bool a1), (10, .bool q1)] (X) ?_ ?_
  · clear hq1
    refine k_cond (t := q1) (by kernel_rfl) (fun t2 => ?_) (fun t2 => ?_)
    · have h := condT h t2
      refine k_seq ?_
      refine k_region ?_
      refine kl_steps 4 [(4, .int .i64 (IntKind.i64.wrap ((IntKind.i64.wrap a0) - (48 : Int))))] (by kernel_rfl) ?_
      refine k_nil ?_
      refine k_then ?_
      refine k_ret ?_
      refine k_then_ret ?_
      obtain rfl := Option.some.inj h
      refine k_done (v := .int .i64 (IntKind.i64.wrap ((IntKind.i64.wrap a0) - (48 : Int)))) [] [] [] (by kernel_rfl) (by kernel_rfl) trivial ?_
      exact k_end ⟨rfl, rfl⟩
    · have h := condF h t2
      refine k_skip ?_
      refine k_then ?_
      refine k_seq ?_
      obtain ⟨q3, hq3, h⟩ := bindSome h
      refine k_cut1 [(0, .int .u8 a0), (1, .bool a1), (22, .bool q3)] (X) ?_ ?_
      · clear hq3
        refine k_cond (t := q3) (by kernel_rfl) (fun t4 => ?_) (fun t4 => ?_)
        · have h := condT h t4
          refine k_seq ?_
          refine k_region ?_
          refine kl_steps 5 [(4, .int .i64 (IntKind.i64.wrap ((IntKind.i64.wrap ((IntKind.i64.wrap a0) - (97 : Int))) + (10 : Int))))] (by kernel_rfl) ?_
          refine k_nil ?_
          refine k_then ?_
          refine k_ret ?_
          refine k_then_ret ?_
          obtain rfl := Option.some.inj h
          refine k_done (v := .int .i64 (IntKind.i64.wrap ((IntKind.i64.wrap ((IntKind.i64.wrap a0) - (97 : Int))) + (10 : Int)))) [] [] [] (by kernel_rfl) (by kernel_rfl) trivial ?_
          exact k_end ⟨rfl, rfl⟩
        · have h := condF h t4
          refine k_skip ?_
          refine k_then ?_
          refine k_seq ?_
          obtain ⟨q5, hq5, h⟩ := bindSome h
          refine k_cut1 [(0, .int .u8 a0), (35, .bool q5)] (X) ?_ ?_
          · clear hq5
            refine k_cond (t := q5) (by kernel_rfl) (fun t6 => ?_) (fun t6 => ?_)
            · have h := condT h t6
              refine k_seq ?_
              refine k_region ?_
              refine kl_steps 5 [(4, .int .i64 (IntKind.i64.wrap ((IntKind.i64.wrap ((IntKind.i64.wrap a0) - (65 : Int))) + (10 : Int))))] (by kernel_rfl) ?_
              refine k_nil ?_
              refine k_then ?_
              refine k_ret ?_
              refine k_then_ret ?_
              obtain rfl := Option.some.inj h
              refine k_done (v := .int .i64 (IntKind.i64.wrap ((IntKind.i64.wrap ((IntKind.i64.wrap a0) - (65 : Int))) + (10 : Int)))) [] [] [] (by kernel_rfl) (by kernel_rfl) trivial ?_
              exact k_end ⟨rfl, rfl⟩
            · have h := condF h t6
              refine k_skip ?_
              refine k_then ?_
              refine k_seq ?_
              refine k_region ?_
              refine kl_steps 1 [(4, .int .i64 (-1 : Int))] (by kernel_rfl) ?_
              refine k_nil ?_
              refine k_then ?_
              refine k_ret ?_
              obtain rfl := Option.some.inj h
              refine k_done (v := .int .i64 (-1 : Int)) [] [] [] (by kernel_rfl) (by kernel_rfl) trivial ?_
              exact k_end ⟨rfl, rfl⟩
          · have h := hq5
            clear hq5
            refine k_region ?_
            refine kl_steps 2 [(0, .int .u8 a0), (28, .bool a1)] (by kernel_rfl) ?_
            rcases Bool.eq_false_or_eq_true (a1) with t7 | t7
            · have h := condT h t7
              refine K.weak (env' := [(0, .int .u8 a0), (28, .bool true)]) ?_ ⟨rfl, congrArg (fun b => some (Value.bool b)) t7, trivial⟩
              refine kl_steps 4 [(0, .int .u8 a0), (32, .bool (decide (a0 ≥ (65 : Int))))] (by kernel_rfl) ?_
              rcases Bool.eq_false_or_eq_true (decide (a0 ≥ (65 : Int))) with t8 | t8
              · have h := condT h t8
                refine K.weak (env' := [(0, .int .u8 a0), (32, .bool true)]) ?_ ⟨rfl, congrArg (fun b => some (Value.bool b)) t8, trivial⟩
                refine kl_steps 3 [(0, .int .u8 a0), (35, .bool (decide (a0 ≤ (70 : Int))))] (by kernel_rfl) ?_
                refine k_nil ?_
                refine k_then ?_
                exact k_meet1 ⟨rfl, congrArg (fun b => some (Value.bool b)) (Option.some.inj h), trivial⟩
              · have h := condF h t8
                refine K.weak (env' := [(0, .int .u8 a0), (32, .bool false)]) ?_ ⟨rfl, congrArg (fun b => some (Value.bool b)) t8, trivial⟩
                refine kl_steps 3 [(0, .int .u8 a0), (35, .bool false)] (by kernel_rfl) ?_
                refine k_nil ?_
                refine k_then ?_
                exact k_meet1 ⟨rfl, congrArg (fun b => some (Value.bool b)) (Option.some.inj h), trivial⟩
            · have h := condF h t7
              refine K.weak (env' := [(0, .int .u8 a0), (28, .bool false)]) ?_ ⟨rfl, congrArg (fun b => some (Value.bool b)) t7, trivial⟩
              refine kl_steps 7 [(0, .int .u8 a0), (35, .bool false)] (by kernel_rfl) ?_
              refine k_nil ?_
              refine k_then ?_
              exact k_meet1 ⟨rfl, congrArg (fun b => some (Value.bool b)) (Option.some.inj h), trivial⟩
      · have h := hq3
        clear hq3
        refine k_region ?_
        refine kl_steps 2 [(0, .int .u8 a0), (1, .bool a1), (15, .bool a1)] (by kernel_rfl) ?_
        rcases Bool.eq_false_or_eq_true (a1) with t9 | t9
        · have h := condT h t9
          refine K.weak (env' := [(0, .int .u8 a0), (1, .bool a1), (15, .bool true)]) ?_ ⟨rfl, rfl, congrArg (fun b => some (Value.bool b)) t9, trivial⟩
          refine kl_steps 4 [(0, .int .u8 a0), (1, .bool a1), (19, .bool (decide (a0 ≥ (97 : Int))))] (by kernel_rfl) ?_
          rcases Bool.eq_false_or_eq_true (decide (a0 ≥ (97 : Int))) with t10 | t10
          · have h := condT h t10
            refine K.weak (env' := [(0, .int .u8 a0), (1, .bool a1), (19, .bool true)]) ?_ ⟨rfl, rfl, congrArg (fun b => some (Value.bool b)) t10, trivial⟩
            refine kl_steps 3 [(0, .int .u8 a0), (1, .bool a1), (22, .bool (decide (a0 ≤ (102 : Int))))] (by kernel_rfl) ?_
            refine k_nil ?_
            refine k_then ?_
            exact k_meet1 ⟨rfl, rfl, congrArg (fun b => some (Value.bool b)) (Option.some.inj h), trivial⟩
          · have h := condF h t10
            refine K.weak (env' := [(0, .int .u8 a0), (1, .bool a1), (19, .bool false)]) ?_ ⟨rfl, rfl, congrArg (fun b => some (Value.bool b)) t10, trivial⟩
            refine kl_steps 3 [(0, .int .u8 a0), (1, .bool a1), (22, .bool false)] (by kernel_rfl) ?_
            refine k_nil ?_
            refine k_then ?_
            exact k_meet1 ⟨rfl, rfl, congrArg (fun b => some (Value.bool b)) (Option.some.inj h), trivial⟩
        · have h := condF h t9
          refine K.weak (env' := [(0, .int .u8 a0), (1, .bool a1), (15, .bool false)]) ?_ ⟨rfl, rfl, congrArg (fun b => some (Value.bool b)) t9, trivial⟩
          refine kl_steps 7 [(0, .int .u8 a0), (1, .bool a1), (22, .bool false)] (by kernel_rfl) ?_
          refine k_nil ?_
          refine k_then ?_
          exact k_meet1 ⟨rfl, rfl, congrArg (fun b => some (Value.bool b)) (Option.some.inj h), trivial⟩
  · have h := hq1
    clear hq1
    refine k_region ?_
    refine kl_steps 3 [(0, .int .u8 a0), (1, .bool a1), (7, .bool (decide (a0 ≥ (48 : Int))))] (by kernel_rfl) ?_
    rcases Bool.eq_false_or_eq_true (decide (a0 ≥ (48 : Int))) with t11 | t11
    · have h := condT h t11
      refine K.weak (env' := [(0, .int .u8 a0), (1, .bool a1), (7, .bool true)]) ?_ ⟨rfl, rfl, congrArg (fun b => some (Value.bool b)) t11, trivial⟩
      refine kl_steps 3 [(0, .int .u8 a0), (1, .bool a1), (10, .bool (decide (a0 ≤ (57 : Int))))] (by kernel_rfl) ?_
      refine k_nil ?_
      refine k_then ?_
      exact k_meet1 ⟨rfl, rfl, congrArg (fun b => some (Value.bool b)) (Option.some.inj h), trivial⟩
    · have h := condF h t11
      refine K.weak (env' := [(0, .int .u8 a0), (1, .bool a1), (7, .bool false)]) ?_ ⟨rfl, rfl, congrArg (fun b => some (Value.bool b)) t11, trivial⟩
      refine kl_steps 3 [(0, .int .u8 a0), (1, .bool a1), (10, .bool false)] (by kernel_rfl) ?_
      refine k_nil ?_
      refine k_then ?_
      exact k_meet1 ⟨rfl, rfl, congrArg (fun b => some (Value.bool b)) (Option.some.inj h), trivial⟩
def r02_read.l2 : Nat → (q1 : Bool) → (x2 : ByteArray) → (J5 : (Unit → Option (Int × Int))) → (x29 : Int) → Option (Int × Int)
  | 0, _, _, _, _ => none
  | m30 + 1, q1, x2, J5, x29 => cond (decide (x29 < (x2.size : Int))) ((sIdx x2 x29).bind fun c32 : UInt8 => (r02_worth.f m30 (c32.toNat : Int) q1).bind fun r33 => cond (decide (r33 < (0 : Int))) (some ((0 : Int), (4 : Int))) (r02_read.l2 m30 q1 x2 J5 (IntKind.i64.wrap (x29 + (1 : Int))))) (J5 ())
def r02_read.l1 : Nat → (x2 : ByteArray) → (J19 : Int → Option (Int × Int)) → (x22 : Int) → (x23 : Int) → Option (Int × Int)
  | 0, _, _, _, _ => none
  | m24 + 1, x2, J19, x22, x23 => cond (decide (x23 < (x2.size : Int))) ((sIdx x2 x23).bind fun c26 : UInt8 => (r02_worth.f m24 (c26.toNat : Int) false).bind fun r27 => cond (decide (x22 < (IntKind.i64.wrap (Int.tdiv (IntKind.i64.wrap ((-9223372036854775808 : Int) + r27)) (10 : Int))))) (some ((0 : Int), (14 : Int))) (r02_read.l1 m24 x2 J19 (IntKind.i64.wrap ((IntKind.i64.wrap (x22 * (10 : Int))) - r27)) (IntKind.i64.wrap (x23 + (1 : Int))))) (J19 x22)
def r02_read.l0 : Nat → (x2 : ByteArray) → (J8 : Int → Option (Int × Int)) → (x12 : Int) → (x13 : Int) → Option (Int × Int)
  | 0, _, _, _, _ => none
  | m14 + 1, x2, J8, x12, x13 => cond (decide (x13 < (x2.size : Int))) ((sIdx x2 x13).bind fun c16 : UInt8 => (r02_worth.f m14 (c16.toNat : Int) true).bind fun r17 => r02_read.l0 m14 x2 J8 (IntKind.i64.wrap ((IntKind.i64.wrap (x12 * (16 : Int))) + r17)) (IntKind.i64.wrap (x13 + (1 : Int)))) (J8 x12)
def r02_read.f (k : Nat) (a0 : ByteArray) (a1 : Bool) : Option (Int × Int) := (cond (decide ((a0.size : Int) ≥ (2 : Int))) ((sIdx a0 (0 : Int)).bind fun c38 : UInt8 => cond ((c38.toNat : Int) == (48 : Int)) ((sIdx a0 (1 : Int)).bind fun c40 : UInt8 => cond ((c40.toNat : Int) == (120 : Int)) (some true) ((sIdx a0 (1 : Int)).bind fun c42 : UInt8 => some ((c42.toNat : Int) == (88 : Int)))) (some false)) (some false) : Option Bool).bind fun q1 => joinF (fun (x2 : ByteArray) => cond ((x2.size : Int) == (0 : Int)) (some ((0 : Int), (4 : Int))) (joinF (fun (_ : Unit) => cond q1 (joinF (fun (x7 : Int) => joinF (fun (x9 : Int) => some (x9, (0 : Int))) (fun J10 => cond a1 (J10 (IntKind.i64.wrap (0 - x7))) (J10 x7))) (fun J8 => r02_read.l0 k x2 J8 (0 : Int) (0 : Int))) (joinF (fun (x18 : Int) => cond a1 (some (x18, (0 : Int))) (cond (x18 == (-9223372036854775808 : Int)) (some ((0 : Int), (14 : Int))) (some (IntKind.i64.wrap (0 - x18), (0 : Int))))) (fun J19 => r02_read.l1 k x2 J19 (0 : Int) (0 : Int)))) (fun J5 => r02_read.l2 k q1 x2 J5 (0 : Int)))) (fun J3 => cond q1 ((sSub a0 (2 : Int) (a0.size : Int)).bind fun s36 : ByteArray => J3 s36) (J3 a0))
set_option maxRecDepth 100000 in
theorem r02_read.ok {k : Nat} {a0 : ByteArray} {a1 : Bool} {r : Int × Int} (h : r02_read.f k a0 a1 = some r) : Ct Tryd.prog 49 #[.string a0, .bool a1] [] [] (fun e l1 => e = .returned (.tuple #[.int .i64 r.1, .int .i64 r.2]) ∧ l1 = []) := by
  refine ct_enter (args := [.string a0, .bool a1]) Tryd.func49 rfl (Nat.le_of_ble_eq_true rfl) ?_
  intro A X hh_
  unfold r02_read.f at h
  refine k_seq ?_
  refine k_region ?_
  refine kl_steps 2 [(0, .string a0), (1, .bool a1)] (by kernel_rfl) ?_
  refine k_nil ?_
  refine k_then ?_
  obtain ⟨q1, hq1, h⟩ := bindSome h
  refine k_cut1 [(0, .string a0), (1, .bool a1), (6, .bool q1)] (X) ?_ ?_
  · clear hq1
    obtain ⟨J3, hJ3, h⟩ := joinSplit h
    refine k_cut (τ := ByteArray) (fun t => [(0, .string t), (1, .bool a1), (6, .bool q1)]) (fun t => X) (fun t => J3 t = some r) ?_ ?_
    · rintro x2 h
      subst hJ3
      refine k_seq ?_
      refine k_seq ?_
      refine k_region ?_
      refine kl_steps 3 [(0, .string x2), (1, .bool a1), (6, .bool q1), (36, .bool ((x2.size : Int) == (0 : Int)))] (by kernel_rfl) ?_
      refine k_nil ?_
      refine k_then ?_
      refine k_cond (t := ((x2.size : Int) == (0 : Int))) (by kernel_rfl) (fun t4 => ?_) (fun t4 => ?_)
      · have h := condT h t4
        refine k_seq ?_
        refine k_region ?_
        refine kl_steps 2 [(4, .int .i64 (0 : Int)), (5, .int .i64 (4 : Int))] (by kernel_rfl) ?_
        refine k_nil ?_
        refine k_then ?_
        refine k_ret ?_
        refine k_then_ret ?_
        obtain rfl := Option.some.inj h
        refine k_done (v := .tuple #[.int .i64 (0 : Int), .int .i64 (4 : Int)]) [] [] [] (by kernel_rfl) (by kernel_rfl) trivial ?_
        exact k_end ⟨rfl, rfl⟩
      · have h := condF h t4
        refine k_skip ?_
        refine k_then ?_
        obtain ⟨J5, hJ5, h⟩ := joinSplit h
        refine k_cut (τ := Unit) (fun t => [(0, .string x2), (1, .bool a1), (6, .bool q1)]) (fun t => X) (fun t => J5 () = some r) ?_ ?_
        · rintro ⟨⟩ h
          subst hJ5
          refine k_seq ?_
          refine k_seq ?_
          refine k_region ?_
          refine kl_steps 1 [(0, .string x2), (1, .bool a1), (49, .bool q1)] (by kernel_rfl) ?_
          refine k_nil ?_
          refine k_then ?_
          refine k_cond (t := q1) (by kernel_rfl) (fun t6 => ?_) (fun t6 => ?_)
          · have h := condT h t6
            refine k_seq ?_
            refine k_region ?_
            refine kl_steps 1 [(0, .string x2), (1, .bool a1), (8, .int .i64 (0 : Int))] (by kernel_rfl) ?_
            refine k_nil ?_
            refine k_then ?_
            obtain ⟨J8, hJ8, h⟩ := joinSplit h
            refine k_cut (τ := Int) (fun t => [(1, .bool a1), (8, .int .i64 t)]) (fun t => X) (fun t => J8 t = some r) ?_ ?_
            · rintro x7 h
              subst hJ8
              obtain ⟨J10, hJ10, h⟩ := joinSplit h
              refine k_cut (τ := Int) (fun t => [(8, .int .i64 t)]) (fun t => X) (fun t => J10 t = some r) ?_ ?_
              · rintro x9 h
                subst hJ10
                refine k_seq ?_
                refine k_region ?_
                refine kl_steps 3 [(4, .int .i64 x9), (5, .int .i64 (0 : Int))] (by kernel_rfl) ?_
                refine k_nil ?_
                refine k_then ?_
                refine k_ret ?_
                refine k_then_ret ?_
                obtain rfl := Option.some.inj h
                refine k_done (v := .tuple #[.int .i64 x9, .int .i64 (0 : Int)]) [] [] [] (by kernel_rfl) (by kernel_rfl) trivial ?_
                exact k_end ⟨rfl, rfl⟩
              · skip
                refine k_seq ?_
                refine k_region ?_
                refine kl_steps 1 [(8, .int .i64 x7), (63, .bool a1)] (by kernel_rfl) ?_
                refine k_nil ?_
                refine k_then ?_
                refine k_cond (t := a1) (by kernel_rfl) (fun t11 => ?_) (fun t11 => ?_)
                · have h := condT h t11
                  refine k_region ?_
                  refine kl_steps 3 [(8, .int .i64 (IntKind.i64.wrap (0 - x7)))] (by kernel_rfl) ?_
                  refine k_nil ?_
                  refine k_then ?_
                  exact k_meet (IntKind.i64.wrap (0 - x7)) h ⟨rfl, trivial⟩ rfl
                · have h := condF h t11
                  refine k_skip ?_
                  refine k_then ?_
                  exact k_meet x7 h ⟨rfl, trivial⟩ rfl
            · skip
              refine k_seq ?_
              refine k_region ?_
              refine kl_steps 1 [(0, .string x2), (1, .bool a1), (8, .int .i64 (0 : Int)), (9, .int .i64 (0 : Int))] (by kernel_rfl) ?_
              refine k_nil ?_
              refine k_then ?_
              refine k_block ?_
              refine k_loop (τ := Int × Int) (fun t => [(0, .string x2), (1, .bool a1), (8, .int .i64 t.1), (9, .int .i64 t.2)]) (fun t => X) (fun m t => r02_read.l0 m x2 J8 t.1 t.2 = some r) k ((0 : Int), (0 : Int)) h ⟨rfl, rfl, rfl, rfl, trivial⟩ rfl ?_
              clear h
              rintro m14 ⟨x12, x13⟩ h
              cases m14 with
              | zero => simp [r02_read.l0] at h
              | succ m14 =>
                simp only [r02_read.l0] at h
                refine k_seq ?_
                refine k_seq ?_
                refine k_region ?_
                refine kl_steps 4 [(0, .string x2), (1, .bool a1), (8, .int .i64 x12), (9, .int .i64 x13), (53, .bool (decide (x13 < (x2.size : Int))))] (by kernel_rfl) ?_
                refine k_nil ?_
                refine k_then ?_
                refine k_cond (t := decide (x13 < (x2.size : Int))) (by kernel_rfl) (fun t15 => ?_) (fun t15 => ?_)
                · have h := condT h t15
                  refine k_skip ?_
                  refine k_then ?_
                  refine k_seq ?_
                  refine k_block ?_
                  refine k_region ?_
                  refine kl_steps 4 [(0, .string x2), (1, .bool a1), (8, .int .i64 x12), (9, .int .i64 x13), (57, .int .i64 (IntKind.i64.wrap (x12 * (16 : Int)))), (58, .string x2), (59, .int .i64 x13)] (by kernel_rfl) ?_
                  obtain ⟨c16, hc16, h⟩ := bindSome h
                  refine kl_index (kd := .i64) rfl (by kernel_rfl) (by kernel_rfl) (by kernel_rfl) (by kernel_rfl) (by kernel_rfl) hc16 ?_
                  obtain ⟨r17, hr17, h⟩ := bindSome h
                  refine kl_callv (by kernel_rfl) (by kernel_rfl) (by kernel_rfl) (r02_worth.ok hr17) trivial ?_
                  refine kl_steps 2 [(0, .string x2), (1, .bool a1), (8, .int .i64 (IntKind.i64.wrap ((IntKind.i64.wrap (x12 * (16 : Int))) + r17))), (9, .int .i64 x13)] (by kernel_rfl) ?_
                  refine k_nil ?_
                  refine k_blk ?_
                  refine k_then ?_
                  refine k_region ?_
                  refine kl_steps 3 [(0, .string x2), (1, .bool a1), (8, .int .i64 (IntKind.i64.wrap ((IntKind.i64.wrap (x12 * (16 : Int))) + r17))), (9, .int .i64 (IntKind.i64.wrap (x13 + (1 : Int))))] (by kernel_rfl) ?_
                  refine k_nil ?_
                  refine k_then ?_
                  exact k_again m14 (IntKind.i64.wrap ((IntKind.i64.wrap (x12 * (16 : Int))) + r17), IntKind.i64.wrap (x13 + (1 : Int))) (Nat.lt_succ_self _) h ⟨rfl, rfl, rfl, rfl, trivial⟩ rfl
                · have h := condF h t15
                  refine k_exit ?_
                  refine k_then_exit ?_
                  refine k_then_exit ?_
                  refine k_here ?_
                  refine k_then ?_
                  exact k_meet x12 h ⟨rfl, rfl, trivial⟩ rfl
          · have h := condF h t6
            refine k_skip ?_
            refine k_then ?_
            refine k_seq ?_
            refine k_region ?_
            refine kl_steps 1 [(0, .string x2), (1, .bool a1), (10, .int .i64 (0 : Int))] (by kernel_rfl) ?_
            refine k_nil ?_
            refine k_then ?_
            obtain ⟨J19, hJ19, h⟩ := joinSplit h
            refine k_cut (τ := Int) (fun t => [(1, .bool a1), (10, .int .i64 t)]) (fun t => X) (fun t => J19 t = some r) ?_ ?_
            · rintro x18 h
              subst hJ19
              refine k_seq ?_
              refine k_seq ?_
              refine k_region ?_
              refine kl_steps 1 [(10, .int .i64 x18), (86, .bool a1)] (by kernel_rfl) ?_
              refine k_nil ?_
              refine k_then ?_
              refine k_cond (t := a1) (by kernel_rfl) (fun t20 => ?_) (fun t20 => ?_)
              · have h := condT h t20
                refine k_seq ?_
                refine k_region ?_
                refine kl_steps 3 [(4, .int .i64 x18), (5, .int .i64 (0 : Int))] (by kernel_rfl) ?_
                refine k_nil ?_
                refine k_then ?_
                refine k_ret ?_
                refine k_then_ret ?_
                obtain rfl := Option.some.inj h
                refine k_done (v := .tuple #[.int .i64 x18, .int .i64 (0 : Int)]) [] [] [] (by kernel_rfl) (by kernel_rfl) trivial ?_
                exact k_end ⟨rfl, rfl⟩
              · have h := condF h t20
                refine k_skip ?_
                refine k_then ?_
                refine k_seq ?_
                refine k_seq ?_
                refine k_region ?_
                refine kl_steps 2 [(10, .int .i64 x18), (89, .bool (x18 == (-9223372036854775808 : Int)))] (by kernel_rfl) ?_
                refine k_nil ?_
                refine k_then ?_
                refine k_cond (t := (x18 == (-9223372036854775808 : Int))) (by kernel_rfl) (fun t21 => ?_) (fun t21 => ?_)
                · have h := condT h t21
                  refine k_seq ?_
                  refine k_region ?_
                  refine kl_steps 2 [(4, .int .i64 (0 : Int)), (5, .int .i64 (14 : Int))] (by kernel_rfl) ?_
                  refine k_nil ?_
                  refine k_then ?_
                  refine k_ret ?_
                  refine k_then_ret ?_
                  obtain rfl := Option.some.inj h
                  refine k_done (v := .tuple #[.int .i64 (0 : Int), .int .i64 (14 : Int)]) [] [] [] (by kernel_rfl) (by kernel_rfl) trivial ?_
                  exact k_end ⟨rfl, rfl⟩
                · have h := condF h t21
                  refine k_skip ?_
                  refine k_then ?_
                  refine k_seq ?_
                  refine k_region ?_
                  refine kl_steps 4 [(4, .int .i64 (IntKind.i64.wrap (0 - x18))), (5, .int .i64 (0 : Int))] (by kernel_rfl) ?_
                  refine k_nil ?_
                  refine k_then ?_
                  refine k_ret ?_
                  obtain rfl := Option.some.inj h
                  refine k_done (v := .tuple #[.int .i64 (IntKind.i64.wrap (0 - x18)), .int .i64 (0 : Int)]) [] [] [] (by kernel_rfl) (by kernel_rfl) trivial ?_
                  exact k_end ⟨rfl, rfl⟩
            · skip
              refine k_seq ?_
              refine k_region ?_
              refine kl_steps 1 [(0, .string x2), (1, .bool a1), (10, .int .i64 (0 : Int)), (11, .int .i64 (0 : Int))] (by kernel_rfl) ?_
              refine k_nil ?_
              refine k_then ?_
              refine k_block ?_
              refine k_loop (τ := Int × Int) (fun t => [(0, .string x2), (1, .bool a1), (10, .int .i64 t.1), (11, .int .i64 t.2)]) (fun t => X) (fun m t => r02_read.l1 m x2 J19 t.1 t.2 = some r) k ((0 : Int), (0 : Int)) h ⟨rfl, rfl, rfl, rfl, trivial⟩ rfl ?_
              clear h
              rintro m24 ⟨x22, x23⟩ h
              cases m24 with
              | zero => simp [r02_read.l1] at h
              | succ m24 =>
                simp only [r02_read.l1] at h
                refine k_seq ?_
                refine k_seq ?_
                refine k_region ?_
                refine kl_steps 4 [(0, .string x2), (1, .bool a1), (10, .int .i64 x22), (11, .int .i64 x23), (70, .bool (decide (x23 < (x2.size : Int))))] (by kernel_rfl) ?_
                refine k_nil ?_
                refine k_then ?_
                refine k_cond (t := decide (x23 < (x2.size : Int))) (by kernel_rfl) (fun t25 => ?_) (fun t25 => ?_)
                · have h := condT h t25
                  refine k_skip ?_
                  refine k_then ?_
                  refine k_seq ?_
                  refine k_block ?_
                  refine k_seq ?_
                  refine k_region ?_
                  refine kl_steps 2 [(0, .string x2), (1, .bool a1), (10, .int .i64 x22), (11, .int .i64 x23), (73, .string x2), (74, .int .i64 x23)] (by kernel_rfl) ?_
                  obtain ⟨c26, hc26, h⟩ := bindSome h
                  refine kl_index (kd := .i64) rfl (by kernel_rfl) (by kernel_rfl) (by kernel_rfl) (by kernel_rfl) (by kernel_rfl) hc26 ?_
                  obtain ⟨r27, hr27, h⟩ := bindSome h
                  refine kl_callv (by kernel_rfl) (by kernel_rfl) (by kernel_rfl) (r02_worth.ok hr27) trivial ?_
                  refine kl_steps 1 [(0, .string x2), (1, .bool a1), (10, .int .i64 x22), (11, .int .i64 x23), (12, .int .i64 r27)] (by kernel_rfl) ?_
                  refine k_nil ?_
                  refine k_then ?_
                  refine k_seq ?_
                  refine k_seq ?_
                  refine k_region ?_
                  refine kl_steps 5 [(0, .string x2), (1, .bool a1), (10, .int .i64 x22), (11, .int .i64 x23), (12, .int .i64 r27), (81, .bool (decide (x22 < (IntKind.i64.wrap (Int.tdiv (IntKind.i64.wrap ((-9223372036854775808 : Int) + r27)) (10 : Int))))))] (by kernel_rfl) ?_
                  refine k_nil ?_
                  refine k_then ?_
                  refine k_cond (t := decide (x22 < (IntKind.i64.wrap (Int.tdiv (IntKind.i64.wrap ((-9223372036854775808 : Int) + r27)) (10 : Int))))) (by kernel_rfl) (fun t28 => ?_) (fun t28 => ?_)
                  · have h := condT h t28
                    refine k_seq ?_
                    refine k_region ?_
                    refine kl_steps 2 [(4, .int .i64 (0 : Int)), (5, .int .i64 (14 : Int))] (by kernel_rfl) ?_
                    refine k_nil ?_
                    refine k_then ?_
                    refine k_ret ?_
                    refine k_then_ret ?_
                    refine k_blk_ret ?_
                    refine k_then_ret ?_
                    refine k_then_ret ?_
                    refine k_blk_ret ?_
                    refine k_then_ret ?_
                    obtain rfl := Option.some.inj h
                    refine k_done (v := .tuple #[.int .i64 (0 : Int), .int .i64 (14 : Int)]) [] [] [] (by kernel_rfl) (by kernel_rfl) trivial ?_
                    exact k_end ⟨rfl, rfl⟩
                  · have h := condF h t28
                    refine k_skip ?_
                    refine k_then ?_
                    refine k_region ?_
                    refine kl_steps 5 [(0, .string x2), (1, .bool a1), (10, .int .i64 (IntKind.i64.wrap ((IntKind.i64.wrap (x22 * (10 : Int))) - r27))), (11, .int .i64 x23)] (by kernel_rfl) ?_
                    refine k_nil ?_
                    refine k_blk ?_
                    refine k_then ?_
                    refine k_region ?_
                    refine kl_steps 3 [(0, .string x2), (1, .bool a1), (10, .int .i64 (IntKind.i64.wrap ((IntKind.i64.wrap (x22 * (10 : Int))) - r27))), (11, .int .i64 (IntKind.i64.wrap (x23 + (1 : Int))))] (by kernel_rfl) ?_
                    refine k_nil ?_
                    refine k_then ?_
                    exact k_again m24 (IntKind.i64.wrap ((IntKind.i64.wrap (x22 * (10 : Int))) - r27), IntKind.i64.wrap (x23 + (1 : Int))) (Nat.lt_succ_self _) h ⟨rfl, rfl, rfl, rfl, trivial⟩ rfl
                · have h := condF h t25
                  refine k_exit ?_
                  refine k_then_exit ?_
                  refine k_then_exit ?_
                  refine k_here ?_
                  refine k_then ?_
                  exact k_meet x22 h ⟨rfl, rfl, trivial⟩ rfl
        · skip
          refine k_seq ?_
          refine k_region ?_
          refine kl_steps 1 [(0, .string x2), (1, .bool a1), (6, .bool q1), (7, .int .i64 (0 : Int))] (by kernel_rfl) ?_
          refine k_nil ?_
          refine k_then ?_
          refine k_block ?_
          refine k_loop (τ := Int) (fun t => [(0, .string x2), (1, .bool a1), (6, .bool q1), (7, .int .i64 t)]) (fun t => X) (fun m t => r02_read.l2 m q1 x2 J5 t = some r) k (0 : Int) h ⟨rfl, rfl, rfl, rfl, trivial⟩ rfl ?_
          clear h
          rintro m30 x29 h
          cases m30 with
          | zero => simp [r02_read.l2] at h
          | succ m30 =>
            simp only [r02_read.l2] at h
            refine k_seq ?_
            refine k_seq ?_
            refine k_region ?_
            refine kl_steps 4 [(0, .string x2), (1, .bool a1), (6, .bool q1), (7, .int .i64 x29), (40, .bool (decide (x29 < (x2.size : Int))))] (by kernel_rfl) ?_
            refine k_nil ?_
            refine k_then ?_
            refine k_cond (t := decide (x29 < (x2.size : Int))) (by kernel_rfl) (fun t31 => ?_) (fun t31 => ?_)
            · have h := condT h t31
              refine k_skip ?_
              refine k_then ?_
              refine k_seq ?_
              refine k_block ?_
              refine k_seq ?_
              refine k_region ?_
              refine kl_steps 2 [(0, .string x2), (1, .bool a1), (6, .bool q1), (7, .int .i64 x29), (43, .string x2), (44, .int .i64 x29)] (by kernel_rfl) ?_
              obtain ⟨c32, hc32, h⟩ := bindSome h
              refine kl_index (kd := .i64) rfl (by kernel_rfl) (by kernel_rfl) (by kernel_rfl) (by kernel_rfl) (by kernel_rfl) hc32 ?_
              refine kl_steps 1 [(0, .string x2), (1, .bool a1), (6, .bool q1), (7, .int .i64 x29), (45, .int .u8 (c32.toNat : Int)), (46, .bool q1)] (by kernel_rfl) ?_
              obtain ⟨r33, hr33, h⟩ := bindSome h
              refine kl_callv (by kernel_rfl) (by kernel_rfl) (by kernel_rfl) (r02_worth.ok hr33) trivial ?_
              refine kl_steps 1 [(0, .string x2), (1, .bool a1), (6, .bool q1), (7, .int .i64 x29), (48, .bool (decide (r33 < (0 : Int))))] (by kernel_rfl) ?_
              refine k_nil ?_
              refine k_then ?_
              refine k_cond (t := decide (r33 < (0 : Int))) (by kernel_rfl) (fun t34 => ?_) (fun t34 => ?_)
              · have h := condT h t34
                refine k_seq ?_
                refine k_region ?_
                refine kl_steps 2 [(4, .int .i64 (0 : Int)), (5, .int .i64 (4 : Int))] (by kernel_rfl) ?_
                refine k_nil ?_
                refine k_then ?_
                refine k_ret ?_
                refine k_blk_ret ?_
                refine k_then_ret ?_
                refine k_then_ret ?_
                refine k_blk_ret ?_
                refine k_then_ret ?_
                obtain rfl := Option.some.inj h
                refine k_done (v := .tuple #[.int .i64 (0 : Int), .int .i64 (4 : Int)]) [] [] [] (by kernel_rfl) (by kernel_rfl) trivial ?_
                exact k_end ⟨rfl, rfl⟩
              · have h := condF h t34
                refine k_skip ?_
                refine k_blk ?_
                refine k_then ?_
                refine k_region ?_
                refine kl_steps 3 [(0, .string x2), (1, .bool a1), (6, .bool q1), (7, .int .i64 (IntKind.i64.wrap (x29 + (1 : Int))))] (by kernel_rfl) ?_
                refine k_nil ?_
                refine k_then ?_
                exact k_again m30 (IntKind.i64.wrap (x29 + (1 : Int))) (Nat.lt_succ_self _) h ⟨rfl, rfl, rfl, rfl, trivial⟩ rfl
            · have h := condF h t31
              refine k_exit ?_
              refine k_then_exit ?_
              refine k_then_exit ?_
              refine k_here ?_
              refine k_then ?_
              exact k_meet () h ⟨rfl, rfl, rfl, trivial⟩ rfl
    · skip
      refine k_seq ?_
      refine k_region ?_
      refine kl_steps 1 [(0, .string a0), (1, .bool a1), (6, .bool q1), (31, .bool q1)] (by kernel_rfl) ?_
      refine k_nil ?_
      refine k_then ?_
      refine k_cond (t := q1) (by kernel_rfl) (fun t35 => ?_) (fun t35 => ?_)
      · have h := condT h t35
        refine k_region ?_
        refine kl_steps 1 [(0, .string a0), (1, .bool a1), (6, .bool q1), (32, .string a0)] (by kernel_rfl) ?_
        obtain ⟨s36, hs36, h⟩ := bindSome h
        refine kl_sstr (2 : Int) (a0.size : Int) rfl (by kernel_rfl) (by kernel_rfl) (by kernel_rfl) (.inr ⟨_, .i64, rfl, (by kernel_rfl)⟩) (.inl ⟨rfl, rfl⟩) (by kernel_rfl) hs36 ?_
        refine kl_steps 1 [(0, .string s36), (1, .bool a1), (6, .bool q1)] (by kernel_rfl) ?_
        refine k_nil ?_
        refine k_then ?_
        exact k_meet s36 h ⟨rfl, rfl, rfl, trivial⟩ rfl
      · have h := condF h t35
        refine k_skip ?_
        refine k_then ?_
        exact k_meet a0 h ⟨rfl, rfl, rfl, trivial⟩ rfl
  · have h := hq1
    clear hq1
    refine k_region ?_
    refine kl_steps 4 [(0, .string a0), (1, .bool a1), (16, .bool (decide ((a0.size : Int) ≥ (2 : Int))))] (by kernel_rfl) ?_
    rcases Bool.eq_false_or_eq_true (decide ((a0.size : Int) ≥ (2 : Int))) with t37 | t37
    · have h := condT h t37
      refine K.weak (env' := [(0, .string a0), (1, .bool a1), (16, .bool true)]) ?_ ⟨rfl, rfl, congrArg (fun b => some (Value.bool b)) t37, trivial⟩
      refine kl_steps 1 [(0, .string a0), (1, .bool a1), (16, .bool true), (17, .string a0)] (by kernel_rfl) ?_
      obtain ⟨c38, hc38, h⟩ := bindSome h
      refine kl_index (kd := .i64) rfl (by kernel_rfl) (by kernel_rfl) (by kernel_rfl) (by kernel_rfl) (by kernel_rfl) hc38 ?_
      refine kl_steps 3 [(0, .string a0), (1, .bool a1), (21, .bool ((c38.toNat : Int) == (48 : Int)))] (by kernel_rfl) ?_
      rcases Bool.eq_false_or_eq_true (((c38.toNat : Int) == (48 : Int))) with t39 | t39
      · have h := condT h t39
        refine K.weak (env' := [(0, .string a0), (1, .bool a1), (21, .bool true)]) ?_ ⟨rfl, rfl, congrArg (fun b => some (Value.bool b)) t39, trivial⟩
        refine kl_steps 1 [(0, .string a0), (1, .bool a1), (21, .bool true), (22, .string a0)] (by kernel_rfl) ?_
        obtain ⟨c40, hc40, h⟩ := bindSome h
        refine kl_index (kd := .i64) rfl (by kernel_rfl) (by kernel_rfl) (by kernel_rfl) (by kernel_rfl) (by kernel_rfl) hc40 ?_
        refine kl_steps 2 [(0, .string a0), (1, .bool a1), (21, .bool true), (25, .bool ((c40.toNat : Int) == (120 : Int)))] (by kernel_rfl) ?_
        rcases Bool.eq_false_or_eq_true (((c40.toNat : Int) == (120 : Int))) with t41 | t41
        · have h := condT h t41
          refine K.weak (env' := [(0, .string a0), (1, .bool a1), (21, .bool true), (25, .bool true)]) ?_ ⟨rfl, rfl, rfl, congrArg (fun b => some (Value.bool b)) t41, trivial⟩
          refine kl_steps 6 [(0, .string a0), (1, .bool a1), (6, .bool true)] (by kernel_rfl) ?_
          refine k_nil ?_
          refine k_then ?_
          exact k_meet1 ⟨rfl, rfl, congrArg (fun b => some (Value.bool b)) (Option.some.inj h), trivial⟩
        · have h := condF h t41
          refine K.weak (env' := [(0, .string a0), (1, .bool a1), (21, .bool true), (25, .bool false)]) ?_ ⟨rfl, rfl, rfl, congrArg (fun b => some (Value.bool b)) t41, trivial⟩
          refine kl_steps 1 [(0, .string a0), (1, .bool a1), (21, .bool true), (25, .bool false), (26, .string a0)] (by kernel_rfl) ?_
          obtain ⟨c42, hc42, h⟩ := bindSome h
          refine kl_index (kd := .i64) rfl (by kernel_rfl) (by kernel_rfl) (by kernel_rfl) (by kernel_rfl) (by kernel_rfl) hc42 ?_
          refine kl_steps 4 [(0, .string a0), (1, .bool a1), (6, .bool ((c42.toNat : Int) == (88 : Int)))] (by kernel_rfl) ?_
          refine k_nil ?_
          refine k_then ?_
          exact k_meet1 ⟨rfl, rfl, congrArg (fun b => some (Value.bool b)) (Option.some.inj h), trivial⟩
      · have h := condF h t39
        refine K.weak (env' := [(0, .string a0), (1, .bool a1), (21, .bool false)]) ?_ ⟨rfl, rfl, congrArg (fun b => some (Value.bool b)) t39, trivial⟩
        refine kl_steps 10 [(0, .string a0), (1, .bool a1), (6, .bool false)] (by kernel_rfl) ?_
        refine k_nil ?_
        refine k_then ?_
        exact k_meet1 ⟨rfl, rfl, congrArg (fun b => some (Value.bool b)) (Option.some.inj h), trivial⟩
    · have h := condF h t37
      refine K.weak (env' := [(0, .string a0), (1, .bool a1), (16, .bool false)]) ?_ ⟨rfl, rfl, congrArg (fun b => some (Value.bool b)) t37, trivial⟩
      refine kl_steps 15 [(0, .string a0), (1, .bool a1), (6, .bool false)] (by kernel_rfl) ?_
      refine k_nil ?_
      refine k_then ?_
      exact k_meet1 ⟨rfl, rfl, congrArg (fun b => some (Value.bool b)) (Option.some.inj h), trivial⟩
def r02_Parse.f (k : Nat) (a0 : ByteArray) : Option (Int × Int) := (r02_read.f k a0 false).bind fun r1 => some (r1.1, r1.2)
set_option maxRecDepth 100000 in
theorem r02_Parse.ok {k : Nat} {a0 : ByteArray} {r : Int × Int} (h : r02_Parse.f k a0 = some r) : Ct Tryd.prog 26 #[.string a0] [] [] (fun e l1 => e = .returned (.tuple #[.int .i64 r.1, .int .i64 r.2]) ∧ l1 = []) := by
  refine ct_enter (args := [.string a0]) Tryd.func26 rfl (Nat.le_of_ble_eq_true rfl) ?_
  intro A X hh_
  unfold r02_Parse.f at h
  refine k_seq ?_
  refine k_region ?_
  refine kl_steps 2 [(0, .string a0)] (by kernel_rfl) ?_
  refine k_nil ?_
  refine k_then ?_
  refine k_seq ?_
  refine k_region ?_
  refine kl_steps 1 [(4, .string a0)] (by kernel_rfl) ?_
  obtain ⟨r1, hr1, h⟩ := bindSome h
  refine kl_callv (by kernel_rfl) (by kernel_rfl) (by kernel_rfl) (r02_read.ok hr1) trivial ?_
  refine kl_steps 4 [(2, .int .i64 r1.1), (3, .int .i64 r1.2)] (by kernel_rfl) ?_
  refine k_nil ?_
  refine k_then ?_
  refine k_ret ?_
  obtain rfl := Option.some.inj h
  refine k_done (v := .tuple #[.int .i64 r1.1, .int .i64 r1.2]) [] [] [] (by kernel_rfl) (by kernel_rfl) trivial ?_
  exact k_end ⟨rfl, rfl⟩
end Go.Proofs.YtadenjlehhopmaaDoor
