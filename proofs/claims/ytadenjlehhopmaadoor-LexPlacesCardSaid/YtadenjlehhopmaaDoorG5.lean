/- Printed by a program of mine (wip/mk.py): functions with the same answers as the Go code, and the proof of it. -/
import Derived.Test.YtadenjlehhopmaaDoorK0
namespace Go.Proofs.YtadenjlehhopmaaDoor
open Go Go.RowKit
set_option linter.unusedSimpArgs false
set_option linter.unusedVariables false
def law11_same.l0 : Nat → (a0 : List (Int × ByteArray × Int × Int)) → (a1 : List (Int × ByteArray × Int × Int)) → (J2 : (Unit → Option (Bool))) → (x3 : Int) → Option (Bool)
  | 0, _, _, _, _ => none
  | m4 + 1, a0, a1, J2, x3 => cond (decide (x3 < ((a0.length : Nat) : Int))) (((lIdx a0 x3).bind fun x8 => (lIdx a1 x3).bind fun x15 => cond (x8.1 != x15.1) (some true) ((lIdx a0 x3).bind fun x23 => (lIdx a1 x3).bind fun x30 => cond (!(x23.2.1.toList == x30.2.1.toList)) (some true) ((lIdx a0 x3).bind fun x38 => (lIdx a1 x3).bind fun x45 => cond (x38.2.2.1 != x45.2.2.1) (some true) ((lIdx a0 x3).bind fun x53 => (lIdx a1 x3).bind fun x60 => some (x53.2.2.2 != x60.2.2.2)))) : Option Bool).bind fun q6 => cond q6 (some (false)) (law11_same.l0 m4 a0 a1 J2 (IntKind.i64.wrap (x3 + (1 : Int))))) (J2 ())
def law11_same.f (k : Nat) (a0 : List (Int × ByteArray × Int × Int)) (a1 : List (Int × ByteArray × Int × Int)) : Option (Bool) := cond (((a0.length : Nat) : Int) != ((a1.length : Nat) : Int)) (some (false)) (joinF (fun (_ : Unit) => some (true)) (fun J2 => law11_same.l0 k a0 a1 J2 (0 : Int)))
set_option maxRecDepth 100000 in
theorem law11_same.ok {k : Nat} {a0 : List (Int × ByteArray × Int × Int)} {a1 : List (Int × ByteArray × Int × Int)} {H_a0 : Frag} {A_a0 : Option Addr} {c_a0 : Nat} {H_a1 : Frag} {A_a1 : Option Addr} {c_a1 : Nat} {r : Bool} (h : law11_same.f k a0 a1 = some r) (R_a0 : RdT e36 4 H_a0 (.slice A_a0 a0.length c_a0) a0) (R_a1 : RdT e50 4 H_a1 (.slice A_a1 a1.length c_a1) a1) : Ct Tryd.prog 13 #[.slice A_a0 a0.length c_a0, .slice A_a1 a1.length c_a1] [] [H_a0, H_a1] (fun e l1 => e = .returned (.bool r) ∧ l1 = []) := by
  refine ct_enter (args := [.slice A_a0 a0.length c_a0, .slice A_a1 a1.length c_a1]) Tryd.func13 rfl (Nat.le_of_ble_eq_true rfl) ?_
  intro A X hh_
  obtain ⟨hm_H_a0, hm_H_a1, _⟩ := hh_
  unfold law11_same.f at h
  refine k_seq ?_
  refine k_region ?_
  refine kl_steps 1 [(0, .slice A_a0 a0.length c_a0), (1, .slice A_a1 a1.length c_a1)] (by kernel_rfl) ?_
  refine k_nil ?_
  refine k_then ?_
  refine k_seq ?_
  refine k_seq ?_
  refine k_region ?_
  refine kl_steps 5 [(0, .slice A_a0 a0.length c_a0), (1, .slice A_a1 a1.length c_a1), (10, .bool (((a0.length : Nat) : Int) != ((a1.length : Nat) : Int)))] (by kernel_rfl) ?_
  refine k_nil ?_
  refine k_then ?_
  refine k_cond (t := (((a0.length : Nat) : Int) != ((a1.length : Nat) : Int))) (by kernel_rfl) (fun t1 => ?_) (fun t1 => ?_)
  · have h := condT h t1
    refine k_seq ?_
    refine k_region ?_
    refine kl_steps 1 [(4, .bool false)] (by kernel_rfl) ?_
    refine k_nil ?_
    refine k_then ?_
    refine k_ret ?_
    refine k_then_ret ?_
    obtain rfl := Option.some.inj h
    refine k_done (v := .bool false) [] [] [] (by kernel_rfl) (by kernel_rfl) trivial ?_
    exact k_end ⟨rfl, rfl⟩
  · have h := condF h t1
    refine k_skip ?_
    refine k_then ?_
    obtain ⟨J2, hJ2, h⟩ := joinSplit h
    refine k_cut (τ := Unit) (fun t => []) (fun t => X) (fun t => J2 () = some r) ?_ ?_
    · rintro ⟨⟩ h
      subst hJ2
      refine k_seq ?_
      refine k_region ?_
      refine kl_steps 1 [(4, .bool true)] (by kernel_rfl) ?_
      refine k_nil ?_
      refine k_then ?_
      refine k_ret ?_
      obtain rfl := Option.some.inj h
      refine k_done (v := .bool true) [] [] [] (by kernel_rfl) (by kernel_rfl) trivial ?_
      exact k_end ⟨rfl, rfl⟩
    · skip
      refine k_seq ?_
      refine k_region ?_
      refine kl_steps 1 [(0, .slice A_a0 a0.length c_a0), (1, .slice A_a1 a1.length c_a1), (5, .int .i64 (0 : Int))] (by kernel_rfl) ?_
      refine k_nil ?_
      refine k_then ?_
      refine k_block ?_
      refine k_loop (τ := Int) (fun t => [(0, .slice A_a0 a0.length c_a0), (1, .slice A_a1 a1.length c_a1), (5, .int .i64 t)]) (fun t => X) (fun m t => law11_same.l0 m a0 a1 J2 t = some r) k (0 : Int) h ⟨rfl, rfl, rfl, trivial⟩ rfl ?_
      clear h
      rintro m4 x3 h
      cases m4 with
      | zero => simp [law11_same.l0] at h
      | succ m4 =>
        simp only [law11_same.l0] at h
        refine k_seq ?_
        refine k_seq ?_
        refine k_region ?_
        refine kl_steps 4 [(0, .slice A_a0 a0.length c_a0), (1, .slice A_a1 a1.length c_a1), (5, .int .i64 x3), (14, .bool (decide (x3 < ((a0.length : Nat) : Int))))] (by kernel_rfl) ?_
        refine k_nil ?_
        refine k_then ?_
        refine k_cond (t := decide (x3 < ((a0.length : Nat) : Int))) (by kernel_rfl) (fun t5 => ?_) (fun t5 => ?_)
        · have h := condT h t5
          refine k_skip ?_
          refine k_then ?_
          refine k_seq ?_
          refine k_block ?_
          obtain ⟨q6, hq6, h⟩ := bindSome h
          refine k_cut1 [(0, .slice A_a0 a0.length c_a0), (1, .slice A_a1 a1.length c_a1), (5, .int .i64 x3), (66, .bool q6)] (X) ?_ ?_
          · clear hq6
            refine k_cond (t := q6) (by kernel_rfl) (fun t7 => ?_) (fun t7 => ?_)
            · have h := condT h t7
              refine k_seq ?_
              refine k_region ?_
              refine kl_steps 1 [(4, .bool false)] (by kernel_rfl) ?_
              refine k_nil ?_
              refine k_then ?_
              refine k_ret ?_
              refine k_blk_ret ?_
              refine k_then_ret ?_
              refine k_then_ret ?_
              refine k_blk_ret ?_
              refine k_then_ret ?_
              obtain rfl := Option.some.inj h
              refine k_done (v := .bool false) [] [] [] (by kernel_rfl) (by kernel_rfl) trivial ?_
              exact k_end ⟨rfl, rfl⟩
            · have h := condF h t7
              refine k_skip ?_
              refine k_blk ?_
              refine k_then ?_
              refine k_region ?_
              refine kl_steps 3 [(0, .slice A_a0 a0.length c_a0), (1, .slice A_a1 a1.length c_a1), (5, .int .i64 (IntKind.i64.wrap (x3 + (1 : Int))))] (by kernel_rfl) ?_
              refine k_nil ?_
              refine k_then ?_
              exact k_again m4 (IntKind.i64.wrap (x3 + (1 : Int))) (Nat.lt_succ_self _) h ⟨rfl, rfl, rfl, trivial⟩ rfl
          · have h := hq6
            clear hq6
            refine k_region_plan [(0, 0), (1, 0), (2, 0), (3, 0), (4, 3), (5, 0), (6, 0), (7, 0), (8, 0), (9, 3), (10, 0), (11, 0), (12, 0), (13, 0), (14, 0), (15, 0), (16, 3), (17, 0), (18, 0), (19, 0), (20, 0), (21, 3), (22, 0), (23, 0), (24, 0), (25, 0), (26, 0), (27, 0), (28, 0), (29, 3), (30, 0), (31, 0), (32, 0), (33, 0), (34, 3), (35, 0), (36, 0), (37, 0), (38, 0), (39, 0), (40, 0), (41, 0), (42, 3), (43, 0), (44, 0), (45, 0), (46, 0), (47, 3)] (fun w => OnAll [H_a0, H_a1] w) (by kernel_rfl) (by kernel_rfl) (fun _ _ d _ _ h => by cases d <;> exact h) (fun w h_ => ⟨h_.sat.on _ hm_H_a0, h_.sat.on _ hm_H_a1, trivial⟩) ?_
            simp only [planOps, List.filterMap_cons, List.filterMap_nil, List.getElem?_toArray, List.getElem?_cons_zero, List.getElem?_cons_succ, Option.map_some, List.drop_succ_cons, List.drop_zero, List.length_cons, List.length_nil]
            refine kp_steps 2 [(0, .slice A_a0 a0.length c_a0), (1, .slice A_a1 a1.length c_a1), (5, .int .i64 x3), (17, .slice A_a0 a0.length c_a0), (18, .int .i64 x3)] (by kernel_rfl) (by kernel_rfl) ?_
            obtain ⟨x8, hx8, h⟩ := bindSome h
            refine kp_elemP (T := 36) (kd := .i64) e36_ok rfl (by kernel_rfl) (by kernel_rfl) (by kernel_rfl) (by kernel_rfl) (by kernel_rfl) (by kernel_rfl) hx8 R_a0 fun p9 e10 y11 => ?_
            have e10 : Elem _ p9 [.int .i64 x8.1, .string x8.2.1, .int .i64 x8.2.2.1, .int .i64 x8.2.2.2] := e10
            refine kp_efieldP (off := 0) rfl (by kernel_rfl) (by kernel_rfl) (by kernel_rfl) (by kernel_rfl) e10 y11 fun p12 e13 y14 => ?_
            have e13 : Elem _ p12 [.int .i64 x8.1, .string x8.2.1, .int .i64 x8.2.2.1, .int .i64 x8.2.2.2] := e13
            refine kp_eload1 rfl (by kernel_rfl) (by kernel_rfl) (by kernel_rfl) (by kernel_rfl) e13 (fun w h_ => h_.mem _ (.head _)) ?_
            refine kp_steps 2 [(0, .slice A_a0 a0.length c_a0), (1, .slice A_a1 a1.length c_a1), (5, .int .i64 x3), (21, .int .i64 x8.1), (22, .slice A_a1 a1.length c_a1), (23, .int .i64 x3)] (by kernel_rfl) (by kernel_rfl) ?_
            obtain ⟨x15, hx15, h⟩ := bindSome h
            refine kp_elemP (T := 50) (kd := .i64) e50_ok rfl (by kernel_rfl) (by kernel_rfl) (by kernel_rfl) (by kernel_rfl) (by kernel_rfl) (by kernel_rfl) hx15 R_a1 fun p16 e17 y18 => ?_
            have e17 : Elem _ p16 [.int .i64 x15.1, .string x15.2.1, .int .i64 x15.2.2.1, .int .i64 x15.2.2.2] := e17
            refine kp_efieldP (off := 0) rfl (by kernel_rfl) (by kernel_rfl) (by kernel_rfl) (by kernel_rfl) e17 y18 fun p19 e20 y21 => ?_
            have e20 : Elem _ p19 [.int .i64 x15.1, .string x15.2.1, .int .i64 x15.2.2.1, .int .i64 x15.2.2.2] := e20
            refine kp_eload1 rfl (by kernel_rfl) (by kernel_rfl) (by kernel_rfl) (by kernel_rfl) e20 (fun w h_ => h_.mem _ (.tail _ (.head _))) ?_
            refine kp_steps 2 [(0, .slice A_a0 a0.length c_a0), (1, .slice A_a1 a1.length c_a1), (5, .int .i64 x3), (28, .bool (x8.1 != x15.1))] (by kernel_rfl) (by kernel_rfl) ?_
            rcases Bool.eq_false_or_eq_true ((x8.1 != x15.1)) with t22 | t22
            · have h := condT h t22
              refine K.weak (env' := [(0, .slice A_a0 a0.length c_a0), (1, .slice A_a1 a1.length c_a1), (5, .int .i64 x3), (28, .bool true)]) ?_ ⟨rfl, rfl, rfl, congrArg (fun b => some (Value.bool b)) t22, trivial⟩
              refine kp_steps 4 [(0, .slice A_a0 a0.length c_a0), (1, .slice A_a1 a1.length c_a1), (5, .int .i64 x3), (28, .bool true), (32, undef)] (by kernel_rfl) (by kernel_rfl) ?_
              refine kp_skip3 (by kernel_rfl) (by kernel_rfl) ?_
              refine kp_steps 4 [(0, .slice A_a0 a0.length c_a0), (1, .slice A_a1 a1.length c_a1), (5, .int .i64 x3), (28, .bool true), (33, undef), (37, undef)] (by kernel_rfl) (by kernel_rfl) ?_
              refine kp_skip3 (by kernel_rfl) (by kernel_rfl) ?_
              refine kp_steps 7 [(0, .slice A_a0 a0.length c_a0), (1, .slice A_a1 a1.length c_a1), (5, .int .i64 x3), (41, .bool true), (45, undef)] (by kernel_rfl) (by kernel_rfl) ?_
              refine kp_skip3 (by kernel_rfl) (by kernel_rfl) ?_
              refine kp_steps 4 [(0, .slice A_a0 a0.length c_a0), (1, .slice A_a1 a1.length c_a1), (5, .int .i64 x3), (41, .bool true), (46, undef), (50, undef)] (by kernel_rfl) (by kernel_rfl) ?_
              refine kp_skip3 (by kernel_rfl) (by kernel_rfl) ?_
              refine kp_steps 7 [(0, .slice A_a0 a0.length c_a0), (1, .slice A_a1 a1.length c_a1), (5, .int .i64 x3), (54, .bool true), (58, undef)] (by kernel_rfl) (by kernel_rfl) ?_
              refine kp_skip3 (by kernel_rfl) (by kernel_rfl) ?_
              refine kp_steps 4 [(0, .slice A_a0 a0.length c_a0), (1, .slice A_a1 a1.length c_a1), (5, .int .i64 x3), (54, .bool true), (59, undef), (63, undef)] (by kernel_rfl) (by kernel_rfl) ?_
              refine kp_skip3 (by kernel_rfl) (by kernel_rfl) ?_
              refine kp_done ?_
              refine kl_steps 2 [(0, .slice A_a0 a0.length c_a0), (1, .slice A_a1 a1.length c_a1), (5, .int .i64 x3), (66, .bool true)] (by kernel_rfl) ?_
              refine k_nil ?_
              refine k_then ?_
              exact k_meet1 ⟨rfl, rfl, rfl, congrArg (fun b => some (Value.bool b)) (Option.some.inj h), trivial⟩
            · have h := condF h t22
              refine K.weak (env' := [(0, .slice A_a0 a0.length c_a0), (1, .slice A_a1 a1.length c_a1), (5, .int .i64 x3), (28, .bool false)]) ?_ ⟨rfl, rfl, rfl, congrArg (fun b => some (Value.bool b)) t22, trivial⟩
              refine kp_steps 2 [(0, .slice A_a0 a0.length c_a0), (1, .slice A_a1 a1.length c_a1), (5, .int .i64 x3), (28, .bool false), (29, .slice A_a0 a0.length c_a0), (30, .int .i64 x3)] (by kernel_rfl) (by kernel_rfl) ?_
              obtain ⟨x23, hx23, h⟩ := bindSome h
              refine kp_elemP (T := 36) (kd := .i64) e36_ok rfl (by kernel_rfl) (by kernel_rfl) (by kernel_rfl) (by kernel_rfl) (by kernel_rfl) (by kernel_rfl) hx23 R_a0 fun p24 e25 y26 => ?_
              have e25 : Elem _ p24 [.int .i64 x23.1, .string x23.2.1, .int .i64 x23.2.2.1, .int .i64 x23.2.2.2] := e25
              refine kp_efieldP (off := 1) rfl (by kernel_rfl) (by kernel_rfl) (by kernel_rfl) (by kernel_rfl) e25 y26 fun p27 e28 y29 => ?_
              have e28 : Elem _ p27 [.string x23.2.1, .int .i64 x23.2.2.1, .int .i64 x23.2.2.2] := e28
              refine kp_eload1 rfl (by kernel_rfl) (by kernel_rfl) (by kernel_rfl) (by kernel_rfl) e28 (fun w h_ => h_.mem _ (.head _)) ?_
              refine kp_steps 2 [(0, .slice A_a0 a0.length c_a0), (1, .slice A_a1 a1.length c_a1), (5, .int .i64 x3), (28, .bool false), (33, .string x23.2.1), (34, .slice A_a1 a1.length c_a1), (35, .int .i64 x3)] (by kernel_rfl) (by kernel_rfl) ?_
              obtain ⟨x30, hx30, h⟩ := bindSome h
              refine kp_elemP (T := 50) (kd := .i64) e50_ok rfl (by kernel_rfl) (by kernel_rfl) (by kernel_rfl) (by kernel_rfl) (by kernel_rfl) (by kernel_rfl) hx30 R_a1 fun p31 e32 y33 => ?_
              have e32 : Elem _ p31 [.int .i64 x30.1, .string x30.2.1, .int .i64 x30.2.2.1, .int .i64 x30.2.2.2] := e32
              refine kp_efieldP (off := 1) rfl (by kernel_rfl) (by kernel_rfl) (by kernel_rfl) (by kernel_rfl) e32 y33 fun p34 e35 y36 => ?_
              have e35 : Elem _ p34 [.string x30.2.1, .int .i64 x30.2.2.1, .int .i64 x30.2.2.2] := e35
              refine kp_eload1 rfl (by kernel_rfl) (by kernel_rfl) (by kernel_rfl) (by kernel_rfl) e35 (fun w h_ => h_.mem _ (.tail _ (.head _))) ?_
              refine kp_steps 3 [(0, .slice A_a0 a0.length c_a0), (1, .slice A_a1 a1.length c_a1), (5, .int .i64 x3), (41, .bool (!(x23.2.1.toList == x30.2.1.toList)))] (by kernel_rfl) (by kernel_rfl) ?_
              rcases Bool.eq_false_or_eq_true (!(x23.2.1.toList == x30.2.1.toList)) with t37 | t37
              · have h := condT h t37
                refine K.weak (env' := [(0, .slice A_a0 a0.length c_a0), (1, .slice A_a1 a1.length c_a1), (5, .int .i64 x3), (41, .bool true)]) ?_ ⟨rfl, rfl, rfl, congrArg (fun b => some (Value.bool b)) t37, trivial⟩
                refine kp_steps 4 [(0, .slice A_a0 a0.length c_a0), (1, .slice A_a1 a1.length c_a1), (5, .int .i64 x3), (41, .bool true), (45, undef)] (by kernel_rfl) (by kernel_rfl) ?_
                refine kp_skip3 (by kernel_rfl) (by kernel_rfl) ?_
                refine kp_steps 4 [(0, .slice A_a0 a0.length c_a0), (1, .slice A_a1 a1.length c_a1), (5, .int .i64 x3), (41, .bool true), (46, undef), (50, undef)] (by kernel_rfl) (by kernel_rfl) ?_
                refine kp_skip3 (by kernel_rfl) (by kernel_rfl) ?_
                refine kp_steps 7 [(0, .slice A_a0 a0.length c_a0), (1, .slice A_a1 a1.length c_a1), (5, .int .i64 x3), (54, .bool true), (58, undef)] (by kernel_rfl) (by kernel_rfl) ?_
                refine kp_skip3 (by kernel_rfl) (by kernel_rfl) ?_
                refine kp_steps 4 [(0, .slice A_a0 a0.length c_a0), (1, .slice A_a1 a1.length c_a1), (5, .int .i64 x3), (54, .bool true), (59, undef), (63, undef)] (by kernel_rfl) (by kernel_rfl) ?_
                refine kp_skip3 (by kernel_rfl) (by kernel_rfl) ?_
                refine kp_done ?_
                refine kl_steps 2 [(0, .slice A_a0 a0.length c_a0), (1, .slice A_a1 a1.length c_a1), (5, .int .i64 x3), (66, .bool true)] (by kernel_rfl) ?_
                refine k_nil ?_
                refine k_then ?_
                exact k_meet1 ⟨rfl, rfl, rfl, congrArg (fun b => some (Value.bool b)) (Option.some.inj h), trivial⟩
              · have h := condF h t37
                refine K.weak (env' := [(0, .slice A_a0 a0.length c_a0), (1, .slice A_a1 a1.length c_a1), (5, .int .i64 x3), (41, .bool false)]) ?_ ⟨rfl, rfl, rfl, congrArg (fun b => some (Value.bool b)) t37, trivial⟩
                refine kp_steps 2 [(0, .slice A_a0 a0.length c_a0), (1, .slice A_a1 a1.length c_a1), (5, .int .i64 x3), (41, .bool false), (42, .slice A_a0 a0.length c_a0), (43, .int .i64 x3)] (by kernel_rfl) (by kernel_rfl) ?_
                obtain ⟨x38, hx38, h⟩ := bindSome h
                refine kp_elemP (T := 36) (kd := .i64) e36_ok rfl (by kernel_rfl) (by kernel_rfl) (by kernel_rfl) (by kernel_rfl) (by kernel_rfl) (by kernel_rfl) hx38 R_a0 fun p39 e40 y41 => ?_
                have e40 : Elem _ p39 [.int .i64 x38.1, .string x38.2.1, .int .i64 x38.2.2.1, .int .i64 x38.2.2.2] := e40
                refine kp_efieldP (off := 2) rfl (by kernel_rfl) (by kernel_rfl) (by kernel_rfl) (by kernel_rfl) e40 y41 fun p42 e43 y44 => ?_
                have e43 : Elem _ p42 [.int .i64 x38.2.2.1, .int .i64 x38.2.2.2] := e43
                refine kp_eload1 rfl (by kernel_rfl) (by kernel_rfl) (by kernel_rfl) (by kernel_rfl) e43 (fun w h_ => h_.mem _ (.head _)) ?_
                refine kp_steps 2 [(0, .slice A_a0 a0.length c_a0), (1, .slice A_a1 a1.length c_a1), (5, .int .i64 x3), (41, .bool false), (46, .int .i64 x38.2.2.1), (47, .slice A_a1 a1.length c_a1), (48, .int .i64 x3)] (by kernel_rfl) (by kernel_rfl) ?_
                obtain ⟨x45, hx45, h⟩ := bindSome h
                refine kp_elemP (T := 50) (kd := .i64) e50_ok rfl (by kernel_rfl) (by kernel_rfl) (by kernel_rfl) (by kernel_rfl) (by kernel_rfl) (by kernel_rfl) hx45 R_a1 fun p46 e47 y48 => ?_
                have e47 : Elem _ p46 [.int .i64 x45.1, .string x45.2.1, .int .i64 x45.2.2.1, .int .i64 x45.2.2.2] := e47
                refine kp_efieldP (off := 2) rfl (by kernel_rfl) (by kernel_rfl) (by kernel_rfl) (by kernel_rfl) e47 y48 fun p49 e50 y51 => ?_
                have e50 : Elem _ p49 [.int .i64 x45.2.2.1, .int .i64 x45.2.2.2] := e50
                refine kp_eload1 rfl (by kernel_rfl) (by kernel_rfl) (by kernel_rfl) (by kernel_rfl) e50 (fun w h_ => h_.mem _ (.tail _ (.head _))) ?_
                refine kp_steps 3 [(0, .slice A_a0 a0.length c_a0), (1, .slice A_a1 a1.length c_a1), (5, .int .i64 x3), (54, .bool (x38.2.2.1 != x45.2.2.1))] (by kernel_rfl) (by kernel_rfl) ?_
                rcases Bool.eq_false_or_eq_true ((x38.2.2.1 != x45.2.2.1)) with t52 | t52
                · have h := condT h t52
                  refine K.weak (env' := [(0, .slice A_a0 a0.length c_a0), (1, .slice A_a1 a1.length c_a1), (5, .int .i64 x3), (54, .bool true)]) ?_ ⟨rfl, rfl, rfl, congrArg (fun b => some (Value.bool b)) t52, trivial⟩
                  refine kp_steps 4 [(0, .slice A_a0 a0.length c_a0), (1, .slice A_a1 a1.length c_a1), (5, .int .i64 x3), (54, .bool true), (58, undef)] (by kernel_rfl) (by kernel_rfl) ?_
                  refine kp_skip3 (by kernel_rfl) (by kernel_rfl) ?_
                  refine kp_steps 4 [(0, .slice A_a0 a0.length c_a0), (1, .slice A_a1 a1.length c_a1), (5, .int .i64 x3), (54, .bool true), (59, undef), (63, undef)] (by kernel_rfl) (by kernel_rfl) ?_
                  refine kp_skip3 (by kernel_rfl) (by kernel_rfl) ?_
                  refine kp_done ?_
                  refine kl_steps 2 [(0, .slice A_a0 a0.length c_a0), (1, .slice A_a1 a1.length c_a1), (5, .int .i64 x3), (66, .bool true)] (by kernel_rfl) ?_
                  refine k_nil ?_
                  refine k_then ?_
                  exact k_meet1 ⟨rfl, rfl, rfl, congrArg (fun b => some (Value.bool b)) (Option.some.inj h), trivial⟩
                · have h := condF h t52
                  refine K.weak (env' := [(0, .slice A_a0 a0.length c_a0), (1, .slice A_a1 a1.length c_a1), (5, .int .i64 x3), (54, .bool false)]) ?_ ⟨rfl, rfl, rfl, congrArg (fun b => some (Value.bool b)) t52, trivial⟩
                  refine kp_steps 2 [(0, .slice A_a0 a0.length c_a0), (1, .slice A_a1 a1.length c_a1), (5, .int .i64 x3), (54, .bool false), (55, .slice A_a0 a0.length c_a0), (56, .int .i64 x3)] (by kernel_rfl) (by kernel_rfl) ?_
                  obtain ⟨x53, hx53, h⟩ := bindSome h
                  refine kp_elemP (T := 36) (kd := .i64) e36_ok rfl (by kernel_rfl) (by kernel_rfl) (by kernel_rfl) (by kernel_rfl) (by kernel_rfl) (by kernel_rfl) hx53 R_a0 fun p54 e55 y56 => ?_
                  have e55 : Elem _ p54 [.int .i64 x53.1, .string x53.2.1, .int .i64 x53.2.2.1, .int .i64 x53.2.2.2] := e55
                  refine kp_efieldP (off := 3) rfl (by kernel_rfl) (by kernel_rfl) (by kernel_rfl) (by kernel_rfl) e55 y56 fun p57 e58 y59 => ?_
                  have e58 : Elem _ p57 [.int .i64 x53.2.2.2] := e58
                  refine kp_eload1 rfl (by kernel_rfl) (by kernel_rfl) (by kernel_rfl) (by kernel_rfl) e58 (fun w h_ => h_.mem _ (.head _)) ?_
                  refine kp_steps 2 [(0, .slice A_a0 a0.length c_a0), (1, .slice A_a1 a1.length c_a1), (5, .int .i64 x3), (54, .bool false), (59, .int .i64 x53.2.2.2), (60, .slice A_a1 a1.length c_a1), (61, .int .i64 x3)] (by kernel_rfl) (by kernel_rfl) ?_
                  obtain ⟨x60, hx60, h⟩ := bindSome h
                  refine kp_elemP (T := 50) (kd := .i64) e50_ok rfl (by kernel_rfl) (by kernel_rfl) (by kernel_rfl) (by kernel_rfl) (by kernel_rfl) (by kernel_rfl) hx60 R_a1 fun p61 e62 y63 => ?_
                  have e62 : Elem _ p61 [.int .i64 x60.1, .string x60.2.1, .int .i64 x60.2.2.1, .int .i64 x60.2.2.2] := e62
                  refine kp_efieldP (off := 3) rfl (by kernel_rfl) (by kernel_rfl) (by kernel_rfl) (by kernel_rfl) e62 y63 fun p64 e65 y66 => ?_
                  have e65 : Elem _ p64 [.int .i64 x60.2.2.2] := e65
                  refine kp_eload1 rfl (by kernel_rfl) (by kernel_rfl) (by kernel_rfl) (by kernel_rfl) e65 (fun w h_ => h_.mem _ (.tail _ (.head _))) ?_
                  refine kp_done ?_
                  refine kl_steps 2 [(0, .slice A_a0 a0.length c_a0), (1, .slice A_a1 a1.length c_a1), (5, .int .i64 x3), (66, .bool (x53.2.2.2 != x60.2.2.2))] (by kernel_rfl) ?_
                  refine k_nil ?_
                  refine k_then ?_
                  exact k_meet1 ⟨rfl, rfl, rfl, congrArg (fun b => some (Value.bool b)) (Option.some.inj h), trivial⟩
        · have h := condF h t5
          refine k_exit ?_
          refine k_then_exit ?_
          refine k_then_exit ?_
          refine k_here ?_
          refine k_then ?_
          exact k_meet () h trivial rfl
def law11_LexScans.f (k : Nat) (a0 : ByteArray) : Option (Bool) := (lex_Scan.f k a0).bind fun r1 => (r11_Scan.f k a0).bind fun r7 => ((law11_fixed.f k).bind fun r14 => cond r14 (cond ((r1.2.1 == r7.2.1) && ((r1.2.2 == r7.2.2) && true)) ((law11_same.f k r1.1 r7.1).bind fun r17 => some r17) (some false)) (some false) : Option Bool).bind fun q13 => some (q13)
set_option maxRecDepth 100000 in
theorem law11_LexScans.ok {k : Nat} {a0 : ByteArray} {G : Frag} {r : Bool} (h : law11_LexScans.f k a0 = some r) (hG : GlP G) : Ct Tryd.prog 3 #[.string a0] [] [G] (fun e l1 => e = .returned (.bool r) ∧ l1 = []) := by
  refine ct_enter (args := [.string a0]) Tryd.func3 rfl (Nat.le_of_ble_eq_true rfl) ?_
  intro A X hh_
  obtain ⟨hm_G, _⟩ := hh_
  unfold law11_LexScans.f at h
  refine k_seq ?_
  refine k_region ?_
  refine kl_steps 1 [(0, .string a0)] (by kernel_rfl) ?_
  refine k_nil ?_
  refine k_then ?_
  refine k_seq ?_
  refine k_region ?_
  refine kl_steps 1 [(0, .string a0), (8, .string a0)] (by kernel_rfl) ?_
  obtain ⟨r1, hr1, h⟩ := bindSome h
  refine kl_call (X) (by kernel_rfl) (by kernel_rfl) (by kernel_rfl) (lex_Scan.ok hr1 hG) rfl ⟨hm_G, trivial⟩ ?_
  rintro _ _ ⟨h2, A3, k4, o5, rfl, rfl⟩
  refine nx_ret ?_
  refine kl_steps 3 [(0, .string a0), (10, .slice A3 r1.1.length k4), (11, .agg #[.int .i64 r1.2.1, .int .i64 r1.2.2])] (by kernel_rfl) ?_
  refine kl_new (.cells #[.int .i64 (0 : Int), .int .i64 (0 : Int)] 25 (0, 0)) (fun b => .pointer (some ⟨b, 0, none⟩)) (by kernel_rfl) (by kernel_rfl) (fun _ => by kernel_rfl) fun b6 => ?_
  refine kl_steps 1 [(0, .string a0), (11, .agg #[.int .i64 r1.2.1, .int .i64 r1.2.2]), (4, .pointer (some ⟨b6, 0, none⟩)), (3, .slice A3 r1.1.length k4)] (by kernel_rfl) ?_
  refine kl_store (cs' := #[.int .i64 r1.2.1, .int .i64 r1.2.2]) [.st ⟨b6, 0, none⟩ (.int .i64 r1.2.1), .st ⟨b6, 1, none⟩ (.int .i64 r1.2.2)] (by kernel_rfl) (by kernel_rfl) (by kernel_rfl) ⟨rfl, rfl, trivial⟩ (by kernel_rfl) ?_
  refine k_nil ?_
  refine k_then ?_
  refine k_seq ?_
  refine k_region ?_
  refine kl_steps 1 [(4, .pointer (some ⟨b6, 0, none⟩)), (3, .slice A3 r1.1.length k4), (13, .string a0)] (by kernel_rfl) ?_
  obtain ⟨r7, hr7, h⟩ := bindSome h
  refine kl_call (blk b6 (.cells #[.int .i64 r1.2.1, .int .i64 r1.2.2] 25 (0, 0)) :: h2 :: X) (by kernel_rfl) (by kernel_rfl) (by kernel_rfl) (r11_Scan.ok hr7) rfl trivial ?_
  rintro _ _ ⟨h8, A9, k10, o11, rfl, rfl⟩
  refine nx_ret ?_
  refine kl_steps 3 [(4, .pointer (some ⟨b6, 0, none⟩)), (3, .slice A3 r1.1.length k4), (15, .slice A9 r7.1.length k10), (16, .agg #[.int .i64 r7.2.1, .int .i64 r7.2.2])] (by kernel_rfl) ?_
  refine kl_new (.cells #[.int .i64 (0 : Int), .int .i64 (0 : Int)] 25 (0, 0)) (fun b => .pointer (some ⟨b, 0, none⟩)) (by kernel_rfl) (by kernel_rfl) (fun _ => by kernel_rfl) fun b12 => ?_
  refine kl_steps 1 [(4, .pointer (some ⟨b6, 0, none⟩)), (3, .slice A3 r1.1.length k4), (16, .agg #[.int .i64 r7.2.1, .int .i64 r7.2.2]), (6, .pointer (some ⟨b12, 0, none⟩)), (5, .slice A9 r7.1.length k10)] (by kernel_rfl) ?_
  refine kl_store (cs' := #[.int .i64 r7.2.1, .int .i64 r7.2.2]) [.st ⟨b12, 0, none⟩ (.int .i64 r7.2.1), .st ⟨b12, 1, none⟩ (.int .i64 r7.2.2)] (by kernel_rfl) (by kernel_rfl) (by kernel_rfl) ⟨rfl, rfl, trivial⟩ (by kernel_rfl) ?_
  refine k_nil ?_
  refine k_then ?_
  obtain ⟨q13, hq13, h⟩ := bindSome h
  refine k_cut1 [(2, .bool q13)] (X) ?_ ?_
  · clear hq13
    refine k_ret ?_
    obtain rfl := Option.some.inj h
    refine k_done (v := .bool q13) [] [] [] (by kernel_rfl) (by kernel_rfl) trivial ?_
    exact k_end ⟨rfl, rfl⟩
  · have h := hq13
    clear hq13
    refine k_region ?_
    obtain ⟨r14, hr14, h⟩ := bindSome h
    refine kl_callv (by kernel_rfl) (by kernel_rfl) (by kernel_rfl) (law11_fixed.ok hr14 hG) ⟨(.tail _ (.tail _ (.tail _ (.tail _ hm_G)))), trivial⟩ ?_
    refine kl_steps 1 [(4, .pointer (some ⟨b6, 0, none⟩)), (3, .slice A3 r1.1.length k4), (6, .pointer (some ⟨b12, 0, none⟩)), (5, .slice A9 r7.1.length k10), (18, .bool r14)] (by kernel_rfl) ?_
    rcases Bool.eq_false_or_eq_true (r14) with t15 | t15
    · have h := condT h t15
      refine K.weak (env' := [(4, .pointer (some ⟨b6, 0, none⟩)), (3, .slice A3 r1.1.length k4), (6, .pointer (some ⟨b12, 0, none⟩)), (5, .slice A9 r7.1.length k10), (18, .bool true)]) ?_ ⟨rfl, rfl, rfl, rfl, congrArg (fun b => some (Value.bool b)) t15, trivial⟩
      refine kl_load (v := .agg #[.int .i64 r1.2.1, .int .i64 r1.2.2]) [.val (.int .i64 r1.2.1), .val (.int .i64 r1.2.2)] [.ld ⟨b6, 0, none⟩ (.int .i64 r1.2.1), .ld ⟨b6, 1, none⟩ (.int .i64 r1.2.2)] (by kernel_rfl) (by kernel_rfl) (by kernel_rfl) ⟨⟨2, _, _, _, rfl, rfl, rfl⟩, ⟨2, _, _, _, rfl, rfl, rfl⟩, trivial⟩ ?_
      refine K.mv2 ?_
      refine K.drop ?_
      refine kl_load (v := .agg #[.int .i64 r7.2.1, .int .i64 r7.2.2]) [.val (.int .i64 r7.2.1), .val (.int .i64 r7.2.2)] [.ld ⟨b12, 0, none⟩ (.int .i64 r7.2.1), .ld ⟨b12, 1, none⟩ (.int .i64 r7.2.2)] (by kernel_rfl) (by kernel_rfl) (by kernel_rfl) ⟨⟨0, _, _, _, rfl, rfl, rfl⟩, ⟨0, _, _, _, rfl, rfl, rfl⟩, trivial⟩ ?_
      refine K.drop ?_
      refine kl_eqS (r := ((r1.2.1 == r7.2.1) && ((r1.2.2 == r7.2.2) && true))) (xs := #[.int .i64 r1.2.1, .int .i64 r1.2.2]) (ys := #[.int .i64 r7.2.1, .int .i64 r7.2.2]) false (by kernel_rfl) rfl (by kernel_rfl) (by kernel_rfl) (by kernel_rfl) (by kernel_rfl) (by kernel_rfl) (by kernel_rfl) (by kernel_rfl) ?_
      refine kl_steps 2 [(3, .slice A3 r1.1.length k4), (5, .slice A9 r7.1.length k10), (23, .bool ((r1.2.1 == r7.2.1) && ((r1.2.2 == r7.2.2) && true)))] (by kernel_rfl) ?_
      rcases Bool.eq_false_or_eq_true (((r1.2.1 == r7.2.1) && ((r1.2.2 == r7.2.2) && true))) with t16 | t16
      · have h := condT h t16
        refine K.weak (env' := [(3, .slice A3 r1.1.length k4), (5, .slice A9 r7.1.length k10), (23, .bool true)]) ?_ ⟨rfl, rfl, congrArg (fun b => some (Value.bool b)) t16, trivial⟩
        refine kl_steps 2 [(23, .bool true), (24, .slice A3 r1.1.length k4), (25, .slice A9 r7.1.length k10)] (by kernel_rfl) ?_
        obtain ⟨r17, hr17, h⟩ := bindSome h
        refine kl_callv (by kernel_rfl) (by kernel_rfl) (by kernel_rfl) (law11_same.ok hr17 (OwnT.rd o5) (OwnT.rd o11)) ⟨(.tail _ (.head _)), (.head _), trivial⟩ ?_
        refine K.drop ?_
        refine K.drop ?_
        refine kl_steps 2 [(2, .bool r17)] (by kernel_rfl) ?_
        refine k_nil ?_
        refine k_then ?_
        exact k_meet1 ⟨congrArg (fun b => some (Value.bool b)) (Option.some.inj h), trivial⟩
      · have h := condF h t16
        refine K.weak (env' := [(3, .slice A3 r1.1.length k4), (5, .slice A9 r7.1.length k10), (23, .bool false)]) ?_ ⟨rfl, rfl, congrArg (fun b => some (Value.bool b)) t16, trivial⟩
        refine kl_steps 5 [(2, .bool false)] (by kernel_rfl) ?_
        refine k_nil ?_
        refine k_then ?_
        refine K.drop ?_
        refine K.drop ?_
        exact k_meet1 ⟨congrArg (fun b => some (Value.bool b)) (Option.some.inj h), trivial⟩
    · have h := condF h t15
      refine K.weak (env' := [(4, .pointer (some ⟨b6, 0, none⟩)), (3, .slice A3 r1.1.length k4), (6, .pointer (some ⟨b12, 0, none⟩)), (5, .slice A9 r7.1.length k10), (18, .bool false)]) ?_ ⟨rfl, rfl, rfl, rfl, congrArg (fun b => some (Value.bool b)) t15, trivial⟩
      refine kl_steps 10 [(2, .bool false)] (by kernel_rfl) ?_
      refine k_nil ?_
      refine k_then ?_
      refine K.drop ?_
      refine K.drop ?_
      refine K.drop ?_
      refine K.drop ?_
      exact k_meet1 ⟨congrArg (fun b => some (Value.bool b)) (Option.some.inj h), trivial⟩
def law11_LexMemory.l0 : Nat → (J21 : (Unit → Option (Bool))) → (l23 : List (Int × ByteArray × Int × Int)) → (x28 : Int) → Option (Bool)
  | 0, _, _, _ => none
  | m29 + 1, J21, l23, x28 => cond (decide (x28 < ((l23.length : Nat) : Int))) ((lIdx l23 x28).bind fun x31 => (lSet l23 x28 ((9 : Int), (⟨#[33]⟩ : ByteArray), x28, (0 : Int))).bind fun l35 => law11_LexMemory.l0 m29 J21 l35 (IntKind.i64.wrap (x28 + (1 : Int)))) (J21 ())
def law11_LexMemory.f (k : Nat) (a0 : ByteArray) : Option (Bool) := (lex_Scan.f k a0).bind fun r1 => (lex_Scan.f k a0).bind fun r7 => (r11_Scan.f k a0).bind fun r13 => ((law11_fixed.f k).bind fun r39 => cond (!r39) (some true) (cond (!((r1.2.1 == r7.2.1) && ((r1.2.2 == r7.2.2) && true))) (some true) (some (((r1.1.length : Nat) : Int) != ((r7.1.length : Nat) : Int)))) : Option Bool).bind fun q19 => cond q19 (some (false)) (joinF (fun (_ : Unit) => (law11_same.f k r7.1 r13.1).bind fun r22 => some (r22)) (fun J21 => law11_LexMemory.l0 k J21 r1.1 (0 : Int)))
set_option maxRecDepth 100000 in
theorem law11_LexMemory.ok {k : Nat} {a0 : ByteArray} {G : Frag} {r : Bool} (h : law11_LexMemory.f k a0 = some r) (hG : GlP G) : Ct Tryd.prog 6 #[.string a0] [] [G] (fun e l1 => e = .returned (.bool r) ∧ l1 = []) := by
  refine ct_enter (args := [.string a0]) Tryd.func6 rfl (Nat.le_of_ble_eq_true rfl) ?_
  intro A X hh_
  obtain ⟨hm_G, _⟩ := hh_
  unfold law11_LexMemory.f at h
  refine k_seq ?_
  refine k_region ?_
  refine kl_steps 1 [(0, .string a0)] (by kernel_rfl) ?_
  refine k_nil ?_
  refine k_then ?_
  refine k_seq ?_
  refine k_region ?_
  refine kl_steps 1 [(0, .string a0), (11, .string a0)] (by kernel_rfl) ?_
  obtain ⟨r1, hr1, h⟩ := bindSome h
  refine kl_call (X) (by kernel_rfl) (by kernel_rfl) (by kernel_rfl) (lex_Scan.ok hr1 hG) rfl ⟨hm_G, trivial⟩ ?_
  rintro _ _ ⟨h2, A3, k4, o5, rfl, rfl⟩
  refine nx_ret ?_
  refine kl_steps 3 [(0, .string a0), (13, .slice A3 r1.1.length k4), (14, .agg #[.int .i64 r1.2.1, .int .i64 r1.2.2])] (by kernel_rfl) ?_
  refine kl_new (.cells #[.int .i64 (0 : Int), .int .i64 (0 : Int)] 25 (0, 0)) (fun b => .pointer (some ⟨b, 0, none⟩)) (by kernel_rfl) (by kernel_rfl) (fun _ => by kernel_rfl) fun b6 => ?_
  refine kl_steps 1 [(0, .string a0), (14, .agg #[.int .i64 r1.2.1, .int .i64 r1.2.2]), (4, .pointer (some ⟨b6, 0, none⟩)), (3, .slice A3 r1.1.length k4)] (by kernel_rfl) ?_
  refine kl_store (cs' := #[.int .i64 r1.2.1, .int .i64 r1.2.2]) [.st ⟨b6, 0, none⟩ (.int .i64 r1.2.1), .st ⟨b6, 1, none⟩ (.int .i64 r1.2.2)] (by kernel_rfl) (by kernel_rfl) (by kernel_rfl) ⟨rfl, rfl, trivial⟩ (by kernel_rfl) ?_
  refine k_nil ?_
  refine k_then ?_
  refine k_seq ?_
  refine k_region ?_
  refine kl_steps 1 [(0, .string a0), (4, .pointer (some ⟨b6, 0, none⟩)), (3, .slice A3 r1.1.length k4), (16, .string a0)] (by kernel_rfl) ?_
  obtain ⟨r7, hr7, h⟩ := bindSome h
  refine kl_call (blk b6 (.cells #[.int .i64 r1.2.1, .int .i64 r1.2.2] 25 (0, 0)) :: h2 :: X) (by kernel_rfl) (by kernel_rfl) (by kernel_rfl) (lex_Scan.ok hr7 hG) rfl ⟨(.tail _ (.tail _ hm_G)), trivial⟩ ?_
  rintro _ _ ⟨h8, A9, k10, o11, rfl, rfl⟩
  refine nx_ret ?_
  refine kl_steps 3 [(0, .string a0), (4, .pointer (some ⟨b6, 0, none⟩)), (3, .slice A3 r1.1.length k4), (18, .slice A9 r7.1.length k10), (19, .agg #[.int .i64 r7.2.1, .int .i64 r7.2.2])] (by kernel_rfl) ?_
  refine kl_new (.cells #[.int .i64 (0 : Int), .int .i64 (0 : Int)] 25 (0, 0)) (fun b => .pointer (some ⟨b, 0, none⟩)) (by kernel_rfl) (by kernel_rfl) (fun _ => by kernel_rfl) fun b12 => ?_
  refine kl_steps 1 [(0, .string a0), (4, .pointer (some ⟨b6, 0, none⟩)), (3, .slice A3 r1.1.length k4), (19, .agg #[.int .i64 r7.2.1, .int .i64 r7.2.2]), (6, .pointer (some ⟨b12, 0, none⟩)), (5, .slice A9 r7.1.length k10)] (by kernel_rfl) ?_
  refine kl_store (cs' := #[.int .i64 r7.2.1, .int .i64 r7.2.2]) [.st ⟨b12, 0, none⟩ (.int .i64 r7.2.1), .st ⟨b12, 1, none⟩ (.int .i64 r7.2.2)] (by kernel_rfl) (by kernel_rfl) (by kernel_rfl) ⟨rfl, rfl, trivial⟩ (by kernel_rfl) ?_
  refine k_nil ?_
  refine k_then ?_
  refine k_seq ?_
  refine k_region ?_
  refine kl_steps 1 [(4, .pointer (some ⟨b6, 0, none⟩)), (3, .slice A3 r1.1.length k4), (6, .pointer (some ⟨b12, 0, none⟩)), (5, .slice A9 r7.1.length k10), (21, .string a0)] (by kernel_rfl) ?_
  obtain ⟨r13, hr13, h⟩ := bindSome h
  refine kl_call (blk b12 (.cells #[.int .i64 r7.2.1, .int .i64 r7.2.2] 25 (0, 0)) :: h8 :: blk b6 (.cells #[.int .i64 r1.2.1, .int .i64 r1.2.2] 25 (0, 0)) :: h2 :: X) (by kernel_rfl) (by kernel_rfl) (by kernel_rfl) (r11_Scan.ok hr13) rfl trivial ?_
  rintro _ _ ⟨h14, A15, k16, o17, rfl, rfl⟩
  refine nx_ret ?_
  refine kl_steps 3 [(4, .pointer (some ⟨b6, 0, none⟩)), (3, .slice A3 r1.1.length k4), (6, .pointer (some ⟨b12, 0, none⟩)), (5, .slice A9 r7.1.length k10), (23, .slice A15 r13.1.length k16), (24, .agg #[.int .i64 r13.2.1, .int .i64 r13.2.2])] (by kernel_rfl) ?_
  refine kl_new (.cells #[.int .i64 (0 : Int), .int .i64 (0 : Int)] 25 (0, 0)) (fun b => .pointer (some ⟨b, 0, none⟩)) (by kernel_rfl) (by kernel_rfl) (fun _ => by kernel_rfl) fun b18 => ?_
  refine kl_steps 1 [(4, .pointer (some ⟨b6, 0, none⟩)), (3, .slice A3 r1.1.length k4), (6, .pointer (some ⟨b12, 0, none⟩)), (5, .slice A9 r7.1.length k10), (24, .agg #[.int .i64 r13.2.1, .int .i64 r13.2.2]), (8, .pointer (some ⟨b18, 0, none⟩)), (7, .slice A15 r13.1.length k16)] (by kernel_rfl) ?_
  refine kl_store (cs' := #[.int .i64 r13.2.1, .int .i64 r13.2.2]) [.st ⟨b18, 0, none⟩ (.int .i64 r13.2.1), .st ⟨b18, 1, none⟩ (.int .i64 r13.2.2)] (by kernel_rfl) (by kernel_rfl) (by kernel_rfl) ⟨rfl, rfl, trivial⟩ (by kernel_rfl) ?_
  refine K.drop ?_
  refine k_nil ?_
  refine k_then ?_
  refine k_seq ?_
  obtain ⟨q19, hq19, h⟩ := bindSome h
  refine k_cut1 [(3, .slice A3 r1.1.length k4), (5, .slice A9 r7.1.length k10), (7, .slice A15 r13.1.length k16), (38, .bool q19)] (h14 :: h8 :: h2 :: X) ?_ ?_
  · clear hq19
    refine k_cond (t := q19) (by kernel_rfl) (fun t20 => ?_) (fun t20 => ?_)
    · have h := condT h t20
      refine k_seq ?_
      refine k_region ?_
      refine kl_steps 1 [(2, .bool false)] (by kernel_rfl) ?_
      refine k_nil ?_
      refine k_then ?_
      refine k_ret ?_
      refine k_then_ret ?_
      obtain rfl := Option.some.inj h
      refine k_done (v := .bool false) [] [] [] (by kernel_rfl) (by kernel_rfl) trivial ?_
      refine K.drop ?_
      refine K.drop ?_
      refine K.drop ?_
      exact k_end ⟨rfl, rfl⟩
    · have h := condF h t20
      refine k_skip ?_
      refine k_then ?_
      obtain ⟨J21, hJ21, h⟩ := joinSplit h
      refine k_cut (τ := Unit) (fun t => [(5, .slice A9 r7.1.length k10), (7, .slice A15 r13.1.length k16)]) (fun t => h14 :: h8 :: X) (fun t => J21 () = some r) ?_ ?_
      · rintro ⟨⟩ h
        subst hJ21
        refine k_seq ?_
        refine k_region ?_
        refine kl_steps 2 [(50, .slice A9 r7.1.length k10), (51, .slice A15 r13.1.length k16)] (by kernel_rfl) ?_
        obtain ⟨r22, hr22, h⟩ := bindSome h
        refine kl_callv (by kernel_rfl) (by kernel_rfl) (by kernel_rfl) (law11_same.ok hr22 (OwnT.rd o11) (OwnT.rd o17)) ⟨(.tail _ (.head _)), (.head _), trivial⟩ ?_
        refine K.drop ?_
        refine K.drop ?_
        refine kl_steps 1 [(2, .bool r22)] (by kernel_rfl) ?_
        refine k_nil ?_
        refine k_then ?_
        refine k_ret ?_
        obtain rfl := Option.some.inj h
        refine k_done (v := .bool r22) [] [] [] (by kernel_rfl) (by kernel_rfl) trivial ?_
        exact k_end ⟨rfl, rfl⟩
      · skip
        refine k_seq ?_
        refine k_region ?_
        refine kl_steps 1 [(3, .slice A3 r1.1.length k4), (5, .slice A9 r7.1.length k10), (7, .slice A15 r13.1.length k16), (9, .int .i64 (0 : Int))] (by kernel_rfl) ?_
        refine k_nil ?_
        refine k_then ?_
        refine k_block ?_
        refine k_loop (τ := (List (Int × ByteArray × Int × Int)) × Int × Frag × (Option Addr) × Nat) (fun t => [(3, .slice t.2.2.2.1 t.1.length t.2.2.2.2), (5, .slice A9 r7.1.length k10), (7, .slice A15 r13.1.length k16), (9, .int .i64 t.2.1)]) (fun t => h14 :: h8 :: t.2.2.1 :: X) (fun m t => law11_LexMemory.l0 m J21 t.1 t.2.1 = some r ∧ OwnT e36 36 4 t.2.2.1 (.slice t.2.2.2.1 t.1.length t.2.2.2.2) t.1) k (r1.1, (0 : Int), h2, A3, k4) ⟨h, o5⟩ ⟨rfl, rfl, rfl, rfl, trivial⟩ rfl ?_
        clear h
        rintro m29 ⟨l23, x28, h24, A25, k26⟩ ⟨h, o27⟩
        cases m29 with
        | zero => simp [law11_LexMemory.l0] at h
        | succ m29 =>
          simp only [law11_LexMemory.l0] at h
          refine k_seq ?_
          refine k_seq ?_
          refine k_region ?_
          refine kl_steps 4 [(3, .slice A25 l23.length k26), (5, .slice A9 r7.1.length k10), (7, .slice A15 r13.1.length k16), (9, .int .i64 x28), (42, .bool (decide (x28 < ((l23.length : Nat) : Int))))] (by kernel_rfl) ?_
          refine k_nil ?_
          refine k_then ?_
          refine k_cond (t := decide (x28 < ((l23.length : Nat) : Int))) (by kernel_rfl) (fun t30 => ?_) (fun t30 => ?_)
          · have h := condT h t30
            refine k_skip ?_
            refine k_then ?_
            refine k_seq ?_
            refine k_block ?_
            refine k_region ?_
            refine kl_steps 4 [(3, .slice A25 l23.length k26), (5, .slice A9 r7.1.length k10), (7, .slice A15 r13.1.length k16), (9, .int .i64 x28), (45, .slice A25 l23.length k26), (46, .int .i64 x28), (48, .agg #[.int .i64 (9 : Int), .string (⟨#[33]⟩ : ByteArray), .int .i64 x28, .int .i64 (0 : Int)])] (by kernel_rfl) ?_
            obtain ⟨x31, hx31, h⟩ := bindSome h
            refine kl_elemP (T := 36) (kd := .i64) e36_ok rfl (by kernel_rfl) (by kernel_rfl) (by kernel_rfl) (by kernel_rfl) (by kernel_rfl) (by kernel_rfl) hx31 (OwnT.rd o27) fun p32 e33 y34 => ?_
            have e33 : Elem _ p32 [.int .i64 x31.1, .string x31.2.1, .int .i64 x31.2.2.1, .int .i64 x31.2.2.2] := e33
            refine K.mv2 ?_
            obtain ⟨l35, hl35, h⟩ := bindSome h
            refine kl_estore (v := .agg #[.int .i64 (9 : Int), .string (⟨#[33]⟩ : ByteArray), .int .i64 x28, .int .i64 (0 : Int)]) (off := 0) (x' := ((9 : Int), (⟨#[33]⟩ : ByteArray), x28, (0 : Int))) e36_ok rfl (by kernel_rfl) (by kernel_rfl) (by kernel_rfl) (by kernel_rfl) (by kernel_rfl) y34 o27 hx31 (by kernel_rfl) (by kernel_rfl) hl35 fun h36 o37 => ?_
            have g38 := lSet_len hl35
            refine K.weak (env' := [(3, .slice A25 l35.length k26), (5, .slice A9 r7.1.length k10), (7, .slice A15 r13.1.length k16), (9, .int .i64 x28), (48, .agg #[.int .i64 (9 : Int), .string (⟨#[33]⟩ : ByteArray), .int .i64 x28, .int .i64 (0 : Int)])]) ?_ ⟨(by first | rfl | (rw [g38]; rfl)), (by first | rfl | (rw [g38]; rfl)), (by first | rfl | (rw [g38]; rfl)), rfl, rfl, trivial⟩
            refine K.eq (l' := h36 :: h14 :: h8 :: X) rfl (by first | rfl | (rw [g38])) ?_
            refine k_nil ?_
            refine k_blk ?_
            refine k_then ?_
            refine k_region ?_
            refine kl_steps 3 [(3, .slice A25 l35.length k26), (5, .slice A9 r7.1.length k10), (7, .slice A15 r13.1.length k16), (9, .int .i64 (IntKind.i64.wrap (x28 + (1 : Int))))] (by kernel_rfl) ?_
            refine k_nil ?_
            refine k_then ?_
            refine K.mv2 ?_
            refine K.mv2 ?_
            exact k_again m29 (l35, IntKind.i64.wrap (x28 + (1 : Int)), h36, A25, k26) (Nat.lt_succ_self _) ⟨h, o37⟩ ⟨rfl, rfl, rfl, rfl, trivial⟩ rfl
          · have h := condF h t30
            refine k_exit ?_
            refine k_then_exit ?_
            refine k_then_exit ?_
            refine k_here ?_
            refine k_then ?_
            refine K.mv2 ?_
            refine K.drop ?_
            exact k_meet () h ⟨rfl, rfl, trivial⟩ rfl
  · have h := hq19
    clear hq19
    refine k_region ?_
    obtain ⟨r39, hr39, h⟩ := bindSome h
    refine kl_callv (by kernel_rfl) (by kernel_rfl) (by kernel_rfl) (law11_fixed.ok hr39 hG) ⟨(.tail _ (.tail _ (.tail _ (.tail _ (.tail _ hm_G))))), trivial⟩ ?_
    refine kl_steps 2 [(4, .pointer (some ⟨b6, 0, none⟩)), (3, .slice A3 r1.1.length k4), (6, .pointer (some ⟨b12, 0, none⟩)), (5, .slice A9 r7.1.length k10), (7, .slice A15 r13.1.length k16), (27, .bool (!r39))] (by kernel_rfl) ?_
    rcases Bool.eq_false_or_eq_true (!r39) with t40 | t40
    · have h := condT h t40
      refine K.weak (env' := [(4, .pointer (some ⟨b6, 0, none⟩)), (3, .slice A3 r1.1.length k4), (6, .pointer (some ⟨b12, 0, none⟩)), (5, .slice A9 r7.1.length k10), (7, .slice A15 r13.1.length k16), (27, .bool true)]) ?_ ⟨rfl, rfl, rfl, rfl, rfl, congrArg (fun b => some (Value.bool b)) t40, trivial⟩
      refine kl_steps 11 [(3, .slice A3 r1.1.length k4), (5, .slice A9 r7.1.length k10), (7, .slice A15 r13.1.length k16), (38, .bool true)] (by kernel_rfl) ?_
      refine k_nil ?_
      refine k_then ?_
      refine K.mv1 ?_
      refine K.drop ?_
      refine K.mv2 ?_
      refine K.drop ?_
      exact k_meet1 ⟨rfl, rfl, rfl, congrArg (fun b => some (Value.bool b)) (Option.some.inj h), trivial⟩
    · have h := condF h t40
      refine K.weak (env' := [(4, .pointer (some ⟨b6, 0, none⟩)), (3, .slice A3 r1.1.length k4), (6, .pointer (some ⟨b12, 0, none⟩)), (5, .slice A9 r7.1.length k10), (7, .slice A15 r13.1.length k16), (27, .bool false)]) ?_ ⟨rfl, rfl, rfl, rfl, rfl, congrArg (fun b => some (Value.bool b)) t40, trivial⟩
      refine kl_load (v := .agg #[.int .i64 r1.2.1, .int .i64 r1.2.2]) [.val (.int .i64 r1.2.1), .val (.int .i64 r1.2.2)] [.ld ⟨b6, 0, none⟩ (.int .i64 r1.2.1), .ld ⟨b6, 1, none⟩ (.int .i64 r1.2.2)] (by kernel_rfl) (by kernel_rfl) (by kernel_rfl) ⟨⟨3, _, _, _, rfl, rfl, rfl⟩, ⟨3, _, _, _, rfl, rfl, rfl⟩, trivial⟩ ?_
      refine K.mv3 ?_
      refine K.drop ?_
      refine kl_load (v := .agg #[.int .i64 r7.2.1, .int .i64 r7.2.2]) [.val (.int .i64 r7.2.1), .val (.int .i64 r7.2.2)] [.ld ⟨b12, 0, none⟩ (.int .i64 r7.2.1), .ld ⟨b12, 1, none⟩ (.int .i64 r7.2.2)] (by kernel_rfl) (by kernel_rfl) (by kernel_rfl) ⟨⟨1, _, _, _, rfl, rfl, rfl⟩, ⟨1, _, _, _, rfl, rfl, rfl⟩, trivial⟩ ?_
      refine K.mv1 ?_
      refine K.drop ?_
      refine kl_eqS (r := ((r1.2.1 == r7.2.1) && ((r1.2.2 == r7.2.2) && true))) (xs := #[.int .i64 r1.2.1, .int .i64 r1.2.2]) (ys := #[.int .i64 r7.2.1, .int .i64 r7.2.2]) true (by kernel_rfl) rfl (by kernel_rfl) (by kernel_rfl) (by kernel_rfl) (by kernel_rfl) (by kernel_rfl) (by kernel_rfl) (by kernel_rfl) ?_
      refine kl_steps 2 [(3, .slice A3 r1.1.length k4), (5, .slice A9 r7.1.length k10), (7, .slice A15 r13.1.length k16), (32, .bool (!((r1.2.1 == r7.2.1) && ((r1.2.2 == r7.2.2) && true))))] (by kernel_rfl) ?_
      rcases Bool.eq_false_or_eq_true (!((r1.2.1 == r7.2.1) && ((r1.2.2 == r7.2.2) && true))) with t41 | t41
      · have h := condT h t41
        refine K.weak (env' := [(3, .slice A3 r1.1.length k4), (5, .slice A9 r7.1.length k10), (7, .slice A15 r13.1.length k16), (32, .bool true)]) ?_ ⟨rfl, rfl, rfl, congrArg (fun b => some (Value.bool b)) t41, trivial⟩
        refine kl_steps 6 [(3, .slice A3 r1.1.length k4), (5, .slice A9 r7.1.length k10), (7, .slice A15 r13.1.length k16), (38, .bool true)] (by kernel_rfl) ?_
        refine k_nil ?_
        refine k_then ?_
        exact k_meet1 ⟨rfl, rfl, rfl, congrArg (fun b => some (Value.bool b)) (Option.some.inj h), trivial⟩
      · have h := condF h t41
        refine K.weak (env' := [(3, .slice A3 r1.1.length k4), (5, .slice A9 r7.1.length k10), (7, .slice A15 r13.1.length k16), (32, .bool false)]) ?_ ⟨rfl, rfl, rfl, congrArg (fun b => some (Value.bool b)) t41, trivial⟩
        refine kl_steps 6 [(3, .slice A3 r1.1.length k4), (5, .slice A9 r7.1.length k10), (7, .slice A15 r13.1.length k16), (38, .bool (((r1.1.length : Nat) : Int) != ((r7.1.length : Nat) : Int)))] (by kernel_rfl) ?_
        refine k_nil ?_
        refine k_then ?_
        exact k_meet1 ⟨rfl, rfl, rfl, congrArg (fun b => some (Value.bool b)) (Option.some.inj h), trivial⟩
end Go.Proofs.YtadenjlehhopmaaDoor
