/- Texts of mine for checkRenames_card, part 7. -/
import Derived.Test.YtdkgnlaneccioaaGreatDoorCrF
set_option linter.unusedSimpArgs false
set_option linter.unusedVariables false
set_option linter.unusedSectionVars false
namespace Go.Proofs.YtdkgnlaneccioaaGreatDoor
open Go Go.RowKit
def r08_SameVals.l0 : Nat → (a0 : List (Int × Int × ByteArray)) → (a1 : List (Int × Int × ByteArray)) → (J2 : (Unit → Option (Bool))) → (x3 : Int) → Option (Bool)
 | 0, _, _, _, _ => none
 | m4 + 1, a0, a1, J2, x3 => cond (decide (x3 < ((a0.length : Nat) : Int))) ((lIdx a0 x3).bind fun x6 => (lIdx a1 x3).bind fun x10 => cond (!((x6.1 == x10.1) && ((x6.2.1 == x10.2.1) && ((x6.2.2.toList == x10.2.2.toList) && true)))) (some (false)) (r08_SameVals.l0 m4 a0 a1 J2 (IntKind.i64.wrap (x3 + (1 : Int))))) (J2 ())
def r08_SameVals.f (k : Nat) (a0 : List (Int × Int × ByteArray)) (a1 : List (Int × Int × ByteArray)) : Option (Bool) := cond (((a0.length : Nat) : Int) != ((a1.length : Nat) : Int)) (some (false)) (joinF (fun (_ : Unit) => some (true)) (fun J2 => r08_SameVals.l0 k a0 a1 J2 (0 : Int)))
set_option maxRecDepth 100000 in
theorem r08_SameVals.ok {k : Nat} {a0 : List (Int × Int × ByteArray)} {a1 : List (Int × Int × ByteArray)} {H_a0 : Frag} {A_a0 : Option Addr} {c_a0 : Nat} {H_a1 : Frag} {A_a1 : Option Addr} {c_a1 : Nat} {r : Bool} (h : r08_SameVals.f k a0 a1 = some r) (R_a0 : RdT e53 3 H_a0 (.slice A_a0 a0.length c_a0) a0) (R_a1 : RdT e53 3 H_a1 (.slice A_a1 a1.length c_a1) a1) : Ct Tryz.prog 18 #[.slice A_a0 a0.length c_a0, .slice A_a1 a1.length c_a1] [] [H_a0, H_a1] (fun e l1 => e = .returned (.bool r) ∧ l1 = []) := by
 refine ct_enter (args := [.slice A_a0 a0.length c_a0, .slice A_a1 a1.length c_a1]) Tryz.func18 rfl (Nat.le_of_ble_eq_true rfl) ?_
 intro A X hh_
 obtain ⟨hm_H_a0, hm_H_a1, _⟩ := hh_
 unfold r08_SameVals.f at h
 refine k_seq ?_
 refine k_region ?_
 refine kl_steps 1 [(0, .slice A_a0 a0.length c_a0), (1, .slice A_a1 a1.length c_a1)] (by kernel_rfl) ?_
 refine k_nil ?_
 refine k_then ?_
 refine k_seq ?_
 refine k_seq ?_
 refine k_region ?_
 refine kl_steps 5 [(0, .slice A_a0 a0.length c_a0), (1, .slice A_a1 a1.length c_a1), (10, .bool (((a0.length : Nat) : Int) != ((a1.length : Nat) : Int)))] (by kernel_rfl) ?_
 refine k_nil ?_
 refine k_then ?_
 refine k_cond (t := (((a0.length : Nat) : Int) != ((a1.length : Nat) : Int))) (by kernel_rfl) (fun t1 => ?_) (fun t1 => ?_)
 ·have h := condT h t1
  refine k_seq ?_
  refine k_region ?_
  refine kl_steps 1 [(4, .bool false)] (by kernel_rfl) ?_
  refine k_nil ?_
  refine k_then ?_
  refine k_ret ?_
  refine k_then_ret ?_
  obtain rfl := Option.some.inj h
  refine k_done (v := .bool false) [] [] [] (by kernel_rfl) (by kernel_rfl) trivial ?_
  exact k_end ⟨rfl, rfl⟩
 ·have h := condF h t1
  refine k_skip ?_
  refine k_then ?_
  obtain ⟨J2, hJ2, h⟩ := joinSplit h
  refine k_cut (τ := Unit) (fun t => []) (fun t => X) (fun t => J2 () = some r) ?_ ?_
  ·rintro ⟨⟩ h
   subst hJ2
   refine k_seq ?_
   refine k_region ?_
   refine kl_steps 1 [(4, .bool true)] (by kernel_rfl) ?_
   refine k_nil ?_
   refine k_then ?_
   refine k_ret ?_
   obtain rfl := Option.some.inj h
   refine k_done (v := .bool true) [] [] [] (by kernel_rfl) (by kernel_rfl) trivial ?_
   exact k_end ⟨rfl, rfl⟩
  ·skip
   refine k_seq ?_
   refine k_region ?_
   refine kl_steps 1 [(0, .slice A_a0 a0.length c_a0), (1, .slice A_a1 a1.length c_a1), (5, .int .i64 (0 : Int))] (by kernel_rfl) ?_
   refine k_nil ?_
   refine k_then ?_
   refine k_block ?_
   refine k_loop (τ := Int) (fun t => [(0, .slice A_a0 a0.length c_a0), (1, .slice A_a1 a1.length c_a1), (5, .int .i64 t)]) (fun t => X) (fun m t => r08_SameVals.l0 m a0 a1 J2 t = some r) k (0 : Int) h ⟨rfl, rfl, rfl, trivial⟩ rfl ?_
   clear h
   rintro m4 x3 h
   cases m4 with
   | zero => simp [r08_SameVals.l0] at h
   | succ m4 =>
    simp only [r08_SameVals.l0] at h
    refine k_seq ?_
    refine k_seq ?_
    refine k_region ?_
    refine kl_steps 4 [(0, .slice A_a0 a0.length c_a0), (1, .slice A_a1 a1.length c_a1), (5, .int .i64 x3), (14, .bool (decide (x3 < ((a0.length : Nat) : Int))))] (by kernel_rfl) ?_
    refine k_nil ?_
    refine k_then ?_
    refine k_cond (t := decide (x3 < ((a0.length : Nat) : Int))) (by kernel_rfl) (fun t5 => ?_) (fun t5 => ?_)
    ·have h := condT h t5
     refine k_skip ?_
     refine k_then ?_
     refine k_seq ?_
     refine k_block ?_
     refine k_seq ?_
     refine k_region_plan [(0, 0), (1, 0), (2, 0), (3, 3), (4, 0), (5, 0), (6, 0), (7, 3)] (fun w => OnAll [H_a0, H_a1] w) (by kernel_rfl) (by kernel_rfl) (fun _ _ d _ _ h => by cases d <;> exact h) (fun w h_ => ⟨h_.sat.on _ hm_H_a0, h_.sat.on _ hm_H_a1, trivial⟩) ?_
     simp only [planOps, List.filterMap_cons, List.filterMap_nil, List.getElem?_toArray, List.getElem?_cons_zero, List.getElem?_cons_succ, Option.map_some, List.drop_succ_cons, List.drop_zero, List.length_cons, List.length_nil]
     refine kp_steps 2 [(0, .slice A_a0 a0.length c_a0), (1, .slice A_a1 a1.length c_a1), (5, .int .i64 x3), (17, .slice A_a0 a0.length c_a0), (18, .int .i64 x3)] (by kernel_rfl) (by kernel_rfl) ?_
     obtain ⟨x6, hx6, h⟩ := bindSome h
     refine kp_elemP (T := 53) (kd := .i64) e53_ok rfl (by kernel_rfl) (by kernel_rfl) (by kernel_rfl) (by kernel_rfl) (by kernel_rfl) (by kernel_rfl) hx6 R_a0 fun p7 e8 y9 => ?_
     have e8 : Elem _ p7 [.int .i64 x6.1, .int .i64 x6.2.1, .string x6.2.2] := e8
     refine kp_eloadN rfl (by kernel_rfl) (by kernel_rfl) (by kernel_rfl) (by kernel_rfl) (by kernel_rfl) e8 (fun w h_ => h_.mem _ (.head _)) ?_
     refine kp_steps 2 [(0, .slice A_a0 a0.length c_a0), (1, .slice A_a1 a1.length c_a1), (5, .int .i64 x3), (20, .agg #[.int .i64 x6.1, .int .i64 x6.2.1, .string x6.2.2]), (21, .slice A_a1 a1.length c_a1), (22, .int .i64 x3)] (by kernel_rfl) (by kernel_rfl) ?_
     obtain ⟨x10, hx10, h⟩ := bindSome h
     refine kp_elemP (T := 53) (kd := .i64) e53_ok rfl (by kernel_rfl) (by kernel_rfl) (by kernel_rfl) (by kernel_rfl) (by kernel_rfl) (by kernel_rfl) hx10 R_a1 fun p11 e12 y13 => ?_
     have e12 : Elem _ p11 [.int .i64 x10.1, .int .i64 x10.2.1, .string x10.2.2] := e12
     refine kp_eloadN rfl (by kernel_rfl) (by kernel_rfl) (by kernel_rfl) (by kernel_rfl) (by kernel_rfl) e12 (fun w h_ => h_.mem _ (.tail _ (.head _))) ?_
     refine kp_done ?_
     refine kl_eqS (r := ((x6.1 == x10.1) && ((x6.2.1 == x10.2.1) && ((x6.2.2.toList == x10.2.2.toList) && true)))) (xs := #[.int .i64 x6.1, .int .i64 x6.2.1, .string x6.2.2]) (ys := #[.int .i64 x10.1, .int .i64 x10.2.1, .string x10.2.2]) true (by kernel_rfl) rfl (by kernel_rfl) (by kernel_rfl) (by kernel_rfl) (by kernel_rfl) (by kernel_rfl) (by kernel_rfl) (by kernel_rfl) ?_
     refine k_nil ?_
     refine k_then ?_
     refine k_cond (t := !((x6.1 == x10.1) && ((x6.2.1 == x10.2.1) && ((x6.2.2.toList == x10.2.2.toList) && true)))) (by kernel_rfl) (fun t14 => ?_) (fun t14 => ?_)
     ·have h := condT h t14
      refine k_seq ?_
      refine k_region ?_
      refine kl_steps 1 [(4, .bool false)] (by kernel_rfl) ?_
      refine k_nil ?_
      refine k_then ?_
      refine k_ret ?_
      refine k_blk_ret ?_
      refine k_then_ret ?_
      refine k_then_ret ?_
      refine k_blk_ret ?_
      refine k_then_ret ?_
      obtain rfl := Option.some.inj h
      refine k_done (v := .bool false) [] [] [] (by kernel_rfl) (by kernel_rfl) trivial ?_
      exact k_end ⟨rfl, rfl⟩
     ·have h := condF h t14
      refine k_skip ?_
      refine k_blk ?_
      refine k_then ?_
      refine k_region ?_
      refine kl_steps 3 [(0, .slice A_a0 a0.length c_a0), (1, .slice A_a1 a1.length c_a1), (5, .int .i64 (IntKind.i64.wrap (x3 + (1 : Int))))] (by kernel_rfl) ?_
      refine k_nil ?_
      refine k_then ?_
      exact k_again m4 (IntKind.i64.wrap (x3 + (1 : Int))) (Nat.lt_succ_self _) h ⟨rfl, rfl, rfl, trivial⟩ rfl
    ·have h := condF h t5
     refine k_exit ?_
     refine k_then_exit ?_
     refine k_then_exit ?_
     refine k_here ?_
     refine k_then ?_
     exact k_meet () h trivial rfl
def law13_fields.l0 : Nat → (r1 : List (Int × ByteArray × Int × Int) × Int × Int) → (J7 : (Unit → Option (Bool))) → (x8 : Int) → Option (Bool)
 | 0, _, _, _ => none
 | m9 + 1, r1, J7, x8 => cond (decide (x8 < ((r1.1.length : Nat) : Int))) (((lIdx r1.1 x8).bind fun x13 => cond (x13.1 == (5 : Int)) ((lIdx r1.1 x8).bind fun x21 => cond (x21.2.1.toList == (⟨#[46]⟩ : ByteArray).toList) (some true) ((lIdx r1.1 x8).bind fun x29 => some (x29.2.1.toList == (⟨#[123]⟩ : ByteArray).toList))) (some false) : Option Bool).bind fun q11 => cond q11 (some (true)) (law13_fields.l0 m9 r1 J7 (IntKind.i64.wrap (x8 + (1 : Int))))) (J7 ())
def law13_fields.f (k : Nat) (a0 : ByteArray) : Option (Bool) := (lex_Scan.f k a0).bind fun r1 => joinF (fun (_ : Unit) => some (false)) (fun J7 => law13_fields.l0 k r1 J7 (0 : Int))
set_option maxRecDepth 100000 in
theorem law13_fields.ok {k : Nat} {a0 : ByteArray} {G : Frag} {r : Bool} (h : law13_fields.f k a0 = some r) (hG : GlP G) : Ct Tryz.prog 16 #[.string a0] [] [G] (fun e l1 => e = .returned (.bool r) ∧ l1 = []) := by
 refine ct_enter (args := [.string a0]) Tryz.func16 rfl (Nat.le_of_ble_eq_true rfl) ?_
 intro A X hh_
 obtain ⟨hm_G, _⟩ := hh_
 unfold law13_fields.f at h
 refine k_seq ?_
 refine k_region ?_
 refine kl_steps 1 [(0, .string a0)] (by kernel_rfl) ?_
 refine k_nil ?_
 refine k_then ?_
 refine k_seq ?_
 refine k_region ?_
 refine kl_steps 1 [(7, .string a0)] (by kernel_rfl) ?_
 obtain ⟨r1, hr1, h⟩ := bindSome h
 refine kl_call (X) (by kernel_rfl) (by kernel_rfl) (by kernel_rfl) (lex_Scan.ok hr1 hG) rfl ⟨hm_G, trivial⟩ ?_
 rintro _ _ ⟨h2, A3, k4, o5, rfl, rfl⟩
 refine nx_ret1 ?_
 refine kl_steps 3 [(9, .slice A3 r1.1.length k4), (10, .agg #[.int .i64 r1.2.1, .int .i64 r1.2.2])] (by kernel_rfl) ?_
 refine kl_new (.cells #[.int .i64 (0 : Int), .int .i64 (0 : Int)] 31 (0, 0)) (fun b => .pointer (some ⟨b, 0, none⟩)) (by kernel_rfl) (by kernel_rfl) (fun _ => by kernel_rfl) fun b6 => ?_
 refine kl_steps 1 [(10, .agg #[.int .i64 r1.2.1, .int .i64 r1.2.2]), (4, .pointer (some ⟨b6, 0, none⟩)), (3, .slice A3 r1.1.length k4)] (by kernel_rfl) ?_
 refine kl_store (cs' := #[.int .i64 r1.2.1, .int .i64 r1.2.2]) [.st ⟨b6, 0, none⟩ (.int .i64 r1.2.1), .st ⟨b6, 1, none⟩ (.int .i64 r1.2.2)] (by kernel_rfl) (by kernel_rfl) (by kernel_rfl) ⟨rfl, rfl, trivial⟩ (by kernel_rfl) ?_
 refine K.drop ?_
 refine k_nil ?_
 refine k_then ?_
 obtain ⟨J7, hJ7, h⟩ := joinSplit h
 refine k_cut (τ := Unit) (fun t => []) (fun t => X) (fun t => J7 () = some r) ?_ ?_
 ·rintro ⟨⟩ h
  subst hJ7
  refine k_seq ?_
  refine k_region ?_
  refine kl_steps 1 [(2, .bool false)] (by kernel_rfl) ?_
  refine k_nil ?_
  refine k_then ?_
  refine k_ret ?_
  obtain rfl := Option.some.inj h
  refine k_done (v := .bool false) [] [] [] (by kernel_rfl) (by kernel_rfl) trivial ?_
  exact k_end ⟨rfl, rfl⟩
 ·skip
  refine k_seq ?_
  refine k_region ?_
  refine kl_steps 1 [(3, .slice A3 r1.1.length k4), (5, .int .i64 (0 : Int))] (by kernel_rfl) ?_
  refine k_nil ?_
  refine k_then ?_
  refine k_block ?_
  refine k_loop (τ := Int) (fun t => [(3, .slice A3 r1.1.length k4), (5, .int .i64 t)]) (fun t => h2 :: X) (fun m t => law13_fields.l0 m r1 J7 t = some r) k (0 : Int) h ⟨rfl, rfl, trivial⟩ rfl ?_
  clear h
  rintro m9 x8 h
  cases m9 with
  | zero => simp [law13_fields.l0] at h
  | succ m9 =>
   simp only [law13_fields.l0] at h
   refine k_seq ?_
   refine k_seq ?_
   refine k_region ?_
   refine kl_steps 4 [(3, .slice A3 r1.1.length k4), (5, .int .i64 x8), (14, .bool (decide (x8 < ((r1.1.length : Nat) : Int))))] (by kernel_rfl) ?_
   refine k_nil ?_
   refine k_then ?_
   refine k_cond (t := decide (x8 < ((r1.1.length : Nat) : Int))) (by kernel_rfl) (fun t10 => ?_) (fun t10 => ?_)
   ·have h := condT h t10
    refine k_skip ?_
    refine k_then ?_
    refine k_seq ?_
    refine k_block ?_
    obtain ⟨q11, hq11, h⟩ := bindSome h
    refine k_cut1 [(3, .slice A3 r1.1.length k4), (5, .int .i64 x8), (38, .bool q11)] (h2 :: X) ?_ ?_
    ·clear hq11
     refine k_cond (t := q11) (by kernel_rfl) (fun t12 => ?_) (fun t12 => ?_)
     ·have h := condT h t12
      refine k_seq ?_
      refine k_region ?_
      refine kl_steps 1 [(2, .bool true)] (by kernel_rfl) ?_
      refine k_nil ?_
      refine k_then ?_
      refine k_ret ?_
      refine k_blk_ret ?_
      refine k_then_ret ?_
      refine k_then_ret ?_
      refine k_blk_ret ?_
      refine k_then_ret ?_
      obtain rfl := Option.some.inj h
      refine k_done (v := .bool true) [] [] [] (by kernel_rfl) (by kernel_rfl) trivial ?_
      refine K.drop ?_
      exact k_end ⟨rfl, rfl⟩
     ·have h := condF h t12
      refine k_skip ?_
      refine k_blk ?_
      refine k_then ?_
      refine k_region ?_
      refine kl_steps 3 [(3, .slice A3 r1.1.length k4), (5, .int .i64 (IntKind.i64.wrap (x8 + (1 : Int))))] (by kernel_rfl) ?_
      refine k_nil ?_
      refine k_then ?_
      exact k_again m9 (IntKind.i64.wrap (x8 + (1 : Int))) (Nat.lt_succ_self _) h ⟨rfl, rfl, trivial⟩ rfl
    ·have h := hq11
     clear hq11
     refine k_region ?_
     refine kl_steps 2 [(3, .slice A3 r1.1.length k4), (5, .int .i64 x8), (17, .slice A3 r1.1.length k4), (18, .int .i64 x8)] (by kernel_rfl) ?_
     obtain ⟨x13, hx13, h⟩ := bindSome h
     refine kl_elemP (T := 76) (kd := .i64) e76_ok rfl (by kernel_rfl) (by kernel_rfl) (by kernel_rfl) (by kernel_rfl) (by kernel_rfl) (by kernel_rfl) hx13 (OwnT.rd o5) fun p14 e15 y16 => ?_
     have e15 : Elem _ p14 [.int .i64 x13.1, .string x13.2.1, .int .i64 x13.2.2.1, .int .i64 x13.2.2.2] := e15
     refine kl_efieldP (off := 0) rfl (by kernel_rfl) (by kernel_rfl) (by kernel_rfl) (by kernel_rfl) e15 y16 fun p17 e18 y19 => ?_
     have e18 : Elem _ p17 [.int .i64 x13.1, .string x13.2.1, .int .i64 x13.2.2.1, .int .i64 x13.2.2.2] := e18
     refine kl_eload1 rfl (by kernel_rfl) (by kernel_rfl) (by kernel_rfl) (by kernel_rfl) e18 (.head _) ?_
     refine kl_steps 2 [(3, .slice A3 r1.1.length k4), (5, .int .i64 x8), (23, .bool (x13.1 == (5 : Int)))] (by kernel_rfl) ?_
     rcases Bool.eq_false_or_eq_true ((x13.1 == (5 : Int))) with t20 | t20
     ·have h := condT h t20
      refine K.weak (env' := [(3, .slice A3 r1.1.length k4), (5, .int .i64 x8), (23, .bool true)]) ?_ ⟨rfl, rfl, congrArg (fun b => some (Value.bool b)) t20, trivial⟩
      refine kl_steps 2 [(3, .slice A3 r1.1.length k4), (5, .int .i64 x8), (23, .bool true), (24, .slice A3 r1.1.length k4), (25, .int .i64 x8)] (by kernel_rfl) ?_
      obtain ⟨x21, hx21, h⟩ := bindSome h
      refine kl_elemP (T := 76) (kd := .i64) e76_ok rfl (by kernel_rfl) (by kernel_rfl) (by kernel_rfl) (by kernel_rfl) (by kernel_rfl) (by kernel_rfl) hx21 (OwnT.rd o5) fun p22 e23 y24 => ?_
      have e23 : Elem _ p22 [.int .i64 x21.1, .string x21.2.1, .int .i64 x21.2.2.1, .int .i64 x21.2.2.2] := e23
      refine kl_efieldP (off := 1) rfl (by kernel_rfl) (by kernel_rfl) (by kernel_rfl) (by kernel_rfl) e23 y24 fun p25 e26 y27 => ?_
      have e26 : Elem _ p25 [.string x21.2.1, .int .i64 x21.2.2.1, .int .i64 x21.2.2.2] := e26
      refine kl_eload1 rfl (by kernel_rfl) (by kernel_rfl) (by kernel_rfl) (by kernel_rfl) e26 (.head _) ?_
      refine kl_steps 2 [(3, .slice A3 r1.1.length k4), (5, .int .i64 x8), (23, .bool true), (30, .bool (x21.2.1.toList == (⟨#[46]⟩ : ByteArray).toList))] (by kernel_rfl) ?_
      rcases Bool.eq_false_or_eq_true ((x21.2.1.toList == (⟨#[46]⟩ : ByteArray).toList)) with t28 | t28
      ·have h := condT h t28
       refine K.weak (env' := [(3, .slice A3 r1.1.length k4), (5, .int .i64 x8), (23, .bool true), (30, .bool true)]) ?_ ⟨rfl, rfl, rfl, congrArg (fun b => some (Value.bool b)) t28, trivial⟩
       refine kl_steps 8 [(3, .slice A3 r1.1.length k4), (5, .int .i64 x8), (38, .bool true)] (by kernel_rfl) ?_
       refine k_nil ?_
       refine k_then ?_
       exact k_meet1 ⟨rfl, rfl, congrArg (fun b => some (Value.bool b)) (Option.some.inj h), trivial⟩
      ·have h := condF h t28
       refine K.weak (env' := [(3, .slice A3 r1.1.length k4), (5, .int .i64 x8), (23, .bool true), (30, .bool false)]) ?_ ⟨rfl, rfl, rfl, congrArg (fun b => some (Value.bool b)) t28, trivial⟩
       refine kl_steps 2 [(3, .slice A3 r1.1.length k4), (5, .int .i64 x8), (23, .bool true), (30, .bool false), (31, .slice A3 r1.1.length k4), (32, .int .i64 x8)] (by kernel_rfl) ?_
       obtain ⟨x29, hx29, h⟩ := bindSome h
       refine kl_elemP (T := 76) (kd := .i64) e76_ok rfl (by kernel_rfl) (by kernel_rfl) (by kernel_rfl) (by kernel_rfl) (by kernel_rfl) (by kernel_rfl) hx29 (OwnT.rd o5) fun p30 e31 y32 => ?_
       have e31 : Elem _ p30 [.int .i64 x29.1, .string x29.2.1, .int .i64 x29.2.2.1, .int .i64 x29.2.2.2] := e31
       refine kl_efieldP (off := 1) rfl (by kernel_rfl) (by kernel_rfl) (by kernel_rfl) (by kernel_rfl) e31 y32 fun p33 e34 y35 => ?_
       have e34 : Elem _ p33 [.string x29.2.1, .int .i64 x29.2.2.1, .int .i64 x29.2.2.2] := e34
       refine kl_eload1 rfl (by kernel_rfl) (by kernel_rfl) (by kernel_rfl) (by kernel_rfl) e34 (.head _) ?_
       refine kl_steps 3 [(3, .slice A3 r1.1.length k4), (5, .int .i64 x8), (38, .bool (x29.2.1.toList == (⟨#[123]⟩ : ByteArray).toList))] (by kernel_rfl) ?_
       refine k_nil ?_
       refine k_then ?_
       exact k_meet1 ⟨rfl, rfl, congrArg (fun b => some (Value.bool b)) (Option.some.inj h), trivial⟩
     ·have h := condF h t20
      refine K.weak (env' := [(3, .slice A3 r1.1.length k4), (5, .int .i64 x8), (23, .bool false)]) ?_ ⟨rfl, rfl, congrArg (fun b => some (Value.bool b)) t20, trivial⟩
      refine kl_steps 15 [(3, .slice A3 r1.1.length k4), (5, .int .i64 x8), (38, .bool false)] (by kernel_rfl) ?_
      refine k_nil ?_
      refine k_then ?_
      exact k_meet1 ⟨rfl, rfl, congrArg (fun b => some (Value.bool b)) (Option.some.inj h), trivial⟩
   ·have h := condF h t10
    refine k_exit ?_
    refine k_then_exit ?_
    refine k_then_exit ?_
    refine k_here ?_
    refine k_then ?_
    refine K.drop ?_
    exact k_meet () h trivial rfl
def law13_renamed.l0 : Nat → (a0 : ByteArray) → (a1 : ByteArray) → (a2 : ByteArray) → (r1 : List (Int × ByteArray × Int × Int) × Int × Int) → (J10 : ByteArray → Int → Option (ByteArray × Bool)) → (x13 : ByteArray) → (x14 : Int) → (x15 : Int) → Option (ByteArray × Bool)
 | 0, _, _, _, _, _, _, _, _ => none
 | m16 + 1, a0, a1, a2, r1, J10, x13, x14, x15 => cond (decide (x15 < ((r1.1.length : Nat) : Int))) (joinF (fun (x18 : ByteArray) (x19 : Int) => law13_renamed.l0 m16 a0 a1 a2 r1 J10 x18 x19 (IntKind.i64.wrap (x15 + (1 : Int)))) (fun J20 => ((lIdx r1.1 x15).bind fun x65 => cond (x65.1 == (1 : Int)) ((lIdx r1.1 x15).bind fun x73 => cond (x73.2.1.toList == a2.toList) (some true) ((lIdx r1.1 x15).bind fun x81 => cond (decide (x81.2.2.2 < x14)) (some true) ((lIdx r1.1 x15).bind fun x89 => some (decide (x89.2.2.2 > (a0.size : Int)))))) ((lIdx r1.1 x15).bind fun x96 => cond (decide (x96.2.2.2 < x14)) (some true) ((lIdx r1.1 x15).bind fun x104 => some (decide (x104.2.2.2 > (a0.size : Int))))) : Option Bool).bind fun q21 => cond q21 (some ((⟨#[]⟩ : ByteArray), false)) (((lIdx r1.1 x15).bind fun x42 => cond (x42.1 == (1 : Int)) ((lIdx r1.1 x15).bind fun x50 => cond (x50.2.1.toList == a1.toList) ((lIdx r1.1 x15).bind fun x58 => some (decide ((a1.size : Int) ≤ (IntKind.i64.wrap ((a0.size : Int) - x58.2.2.2))))) (some false)) (some false) : Option Bool).bind fun q23 => cond q23 ((lIdx r1.1 x15).bind fun x25 => (sSub a0 x14 x25.2.2.2).bind fun s32 : ByteArray => (sCat s32 a2).bind fun s33 : ByteArray => (sCat x13 s33).bind fun s34 : ByteArray => (lIdx r1.1 x15).bind fun x35 => J20 s34 (IntKind.i64.wrap (x35.2.2.2 + (a1.size : Int)))) (J20 x13 x14)))) (J10 x13 x14)
def law13_renamed.f (k : Nat) (a0 : ByteArray) (a1 : ByteArray) (a2 : ByteArray) : Option (ByteArray × Bool) := (lex_Scan.f k a0).bind fun r1 => cond (r1.2.1 != (0 : Int)) (some ((⟨#[]⟩ : ByteArray), false)) (joinF (fun (x8 : ByteArray) (x9 : Int) => (sSub a0 x9 (a0.size : Int)).bind fun s11 : ByteArray => (sCat x8 s11).bind fun s12 : ByteArray => some (s12, true)) (fun J10 => law13_renamed.l0 k a0 a1 a2 r1 J10 (⟨#[]⟩ : ByteArray) (0 : Int) (0 : Int)))
set_option maxRecDepth 100000 in
theorem law13_renamed.ok {k : Nat} {a0 : ByteArray} {a1 : ByteArray} {a2 : ByteArray} {G : Frag} {r : ByteArray × Bool} (h : law13_renamed.f k a0 a1 a2 = some r) (hG : GlP G) : Ct Tryz.prog 17 #[.string a0, .string a1, .string a2] [] [G] (fun e l1 => e = .returned (.tuple #[.string r.1, .bool r.2]) ∧ l1 = []) := by
 refine ct_enter (args := [.string a0, .string a1, .string a2]) Tryz.func17 rfl (Nat.le_of_ble_eq_true rfl) ?_
 intro A X hh_
 obtain ⟨hm_G, _⟩ := hh_
 unfold law13_renamed.f at h
 refine k_seq ?_
 refine k_region ?_
 refine kl_steps 2 [(0, .string a0), (1, .string a1), (2, .string a2)] (by kernel_rfl) ?_
 refine k_nil ?_
 refine k_then ?_
 refine k_seq ?_
 refine k_region ?_
 refine kl_steps 1 [(0, .string a0), (1, .string a1), (2, .string a2), (14, .string a0)] (by kernel_rfl) ?_
 obtain ⟨r1, hr1, h⟩ := bindSome h
 refine kl_call (X) (by kernel_rfl) (by kernel_rfl) (by kernel_rfl) (lex_Scan.ok hr1 hG) rfl ⟨hm_G, trivial⟩ ?_
 rintro _ _ ⟨h2, A3, k4, o5, rfl, rfl⟩
 refine nx_ret1 ?_
 refine kl_steps 3 [(0, .string a0), (1, .string a1), (2, .string a2), (16, .slice A3 r1.1.length k4), (17, .agg #[.int .i64 r1.2.1, .int .i64 r1.2.2])] (by kernel_rfl) ?_
 refine kl_new (.cells #[.int .i64 (0 : Int), .int .i64 (0 : Int)] 31 (0, 0)) (fun b => .pointer (some ⟨b, 0, none⟩)) (by kernel_rfl) (by kernel_rfl) (fun _ => by kernel_rfl) fun b6 => ?_
 refine kl_steps 1 [(0, .string a0), (1, .string a1), (2, .string a2), (17, .agg #[.int .i64 r1.2.1, .int .i64 r1.2.2]), (9, .pointer (some ⟨b6, 0, none⟩)), (8, .slice A3 r1.1.length k4)] (by kernel_rfl) ?_
 refine kl_store (cs' := #[.int .i64 r1.2.1, .int .i64 r1.2.2]) [.st ⟨b6, 0, none⟩ (.int .i64 r1.2.1), .st ⟨b6, 1, none⟩ (.int .i64 r1.2.2)] (by kernel_rfl) (by kernel_rfl) (by kernel_rfl) ⟨rfl, rfl, trivial⟩ (by kernel_rfl) ?_
 refine k_nil ?_
 refine k_then ?_
 refine k_seq ?_
 refine k_seq ?_
 refine k_region ?_
 refine kl_steps 1 [(0, .string a0), (1, .string a1), (2, .string a2), (8, .slice A3 r1.1.length k4), (18, .pointer (some ⟨b6, 0, none⟩))] (by kernel_rfl) ?_
 refine kl_load (v := .int .i64 r1.2.1) [.val (.int .i64 r1.2.1)] [.ld ⟨b6, 0, none⟩ (.int .i64 r1.2.1)] (by kernel_rfl) (by kernel_rfl) (by kernel_rfl) ⟨⟨0, _, _, _, rfl, rfl, rfl⟩, trivial⟩ ?_
 refine K.drop ?_
 refine kl_steps 1 [(0, .string a0), (1, .string a1), (2, .string a2), (8, .slice A3 r1.1.length k4), (20, .bool (r1.2.1 != (0 : Int)))] (by kernel_rfl) ?_
 refine k_nil ?_
 refine k_then ?_
 refine k_cond (t := (r1.2.1 != (0 : Int))) (by kernel_rfl) (fun t7 => ?_) (fun t7 => ?_)
 ·have h := condT h t7
  refine k_seq ?_
  refine k_region ?_
  refine kl_steps 2 [(6, .string (⟨#[]⟩ : ByteArray)), (7, .bool false)] (by kernel_rfl) ?_
  refine k_nil ?_
  refine k_then ?_
  refine k_ret ?_
  refine k_then_ret ?_
  obtain rfl := Option.some.inj h
  refine k_done (v := .tuple #[.string (⟨#[]⟩ : ByteArray), .bool false]) [] [] [] (by kernel_rfl) (by kernel_rfl) trivial ?_
  refine K.drop ?_
  exact k_end ⟨rfl, rfl⟩
 ·have h := condF h t7
  refine k_skip ?_
  refine k_then ?_
  refine k_seq ?_
  refine k_region ?_
  refine kl_steps 1 [(0, .string a0), (1, .string a1), (2, .string a2), (8, .slice A3 r1.1.length k4), (10, .string (⟨#[]⟩ : ByteArray))] (by kernel_rfl) ?_
  refine k_nil ?_
  refine k_then ?_
  refine k_seq ?_
  refine k_region ?_
  refine kl_steps 1 [(0, .string a0), (1, .string a1), (2, .string a2), (8, .slice A3 r1.1.length k4), (10, .string (⟨#[]⟩ : ByteArray)), (11, .int .i64 (0 : Int))] (by kernel_rfl) ?_
  refine k_nil ?_
  refine k_then ?_
  obtain ⟨J10, hJ10, h⟩ := joinSplit h
  refine k_cut (τ := ByteArray × Int) (fun t => [(0, .string a0), (10, .string t.1), (11, .int .i64 t.2)]) (fun t => X) (fun t => J10 t.1 t.2 = some r) ?_ ?_
  ·rintro ⟨x8, x9⟩ h
   subst hJ10
   refine k_seq ?_
   refine k_region ?_
   refine kl_steps 3 [(109, .string x8), (110, .string a0), (111, .int .i64 x9)] (by kernel_rfl) ?_
   obtain ⟨s11, hs11, h⟩ := bindSome h
   refine kl_sstr x9 (a0.size : Int) rfl (by kernel_rfl) (by kernel_rfl) (by kernel_rfl) (.inr ⟨_, .i64, rfl, (by kernel_rfl)⟩) (.inl ⟨rfl, rfl⟩) (by kernel_rfl) hs11 ?_
   obtain ⟨s12, hs12, h⟩ := bindSome h
   refine kl_cat rfl (by kernel_rfl) (by kernel_rfl) (by kernel_rfl) (by kernel_rfl) hs12 ?_
   refine kl_steps 2 [(6, .string s12), (7, .bool true)] (by kernel_rfl) ?_
   refine k_nil ?_
   refine k_then ?_
   refine k_ret ?_
   obtain rfl := Option.some.inj h
   refine k_done (v := .tuple #[.string s12, .bool true]) [] [] [] (by kernel_rfl) (by kernel_rfl) trivial ?_
   exact k_end ⟨rfl, rfl⟩
  ·skip
   refine k_seq ?_
   refine k_region ?_
   refine kl_steps 1 [(0, .string a0), (1, .string a1), (2, .string a2), (8, .slice A3 r1.1.length k4), (10, .string (⟨#[]⟩ : ByteArray)), (11, .int .i64 (0 : Int)), (12, .int .i64 (0 : Int))] (by kernel_rfl) ?_
   refine k_nil ?_
   refine k_then ?_
   refine k_block ?_
   refine k_loop (τ := ByteArray × Int × Int) (fun t => [(0, .string a0), (1, .string a1), (2, .string a2), (8, .slice A3 r1.1.length k4), (10, .string t.1), (11, .int .i64 t.2.1), (12, .int .i64 t.2.2)]) (fun t => h2 :: X) (fun m t => law13_renamed.l0 m a0 a1 a2 r1 J10 t.1 t.2.1 t.2.2 = some r) k ((⟨#[]⟩ : ByteArray), (0 : Int), (0 : Int)) h ⟨rfl, rfl, rfl, rfl, rfl, rfl, rfl, trivial⟩ rfl ?_
   clear h
   rintro m16 ⟨x13, x14, x15⟩ h
   cases m16 with
   | zero => simp [law13_renamed.l0] at h
   | succ m16 =>
    simp only [law13_renamed.l0] at h
    refine k_seq ?_
    refine k_seq ?_
    refine k_region ?_
    refine kl_steps 4 [(0, .string a0), (1, .string a1), (2, .string a2), (8, .slice A3 r1.1.length k4), (10, .string x13), (11, .int .i64 x14), (12, .int .i64 x15), (24, .bool (decide (x15 < ((r1.1.length : Nat) : Int))))] (by kernel_rfl) ?_
    refine k_nil ?_
    refine k_then ?_
    refine k_cond (t := decide (x15 < ((r1.1.length : Nat) : Int))) (by kernel_rfl) (fun t17 => ?_) (fun t17 => ?_)
    ·have h := condT h t17
     refine k_skip ?_
     refine k_then ?_
     obtain ⟨J20, hJ20, h⟩ := joinSplit h
     refine k_cut (τ := ByteArray × Int) (fun t => [(0, .string a0), (1, .string a1), (2, .string a2), (8, .slice A3 r1.1.length k4), (10, .string t.1), (11, .int .i64 t.2), (12, .int .i64 x15)]) (fun t => h2 :: X) (fun t => J20 t.1 t.2 = some r) ?_ ?_
     ·rintro ⟨x18, x19⟩ h
      subst hJ20
      refine k_region ?_
      refine kl_steps 3 [(0, .string a0), (1, .string a1), (2, .string a2), (8, .slice A3 r1.1.length k4), (10, .string x18), (11, .int .i64 x19), (12, .int .i64 (IntKind.i64.wrap (x15 + (1 : Int))))] (by kernel_rfl) ?_
      refine k_nil ?_
      refine k_then ?_
      exact k_again m16 (x18, x19, IntKind.i64.wrap (x15 + (1 : Int))) (Nat.lt_succ_self _) h ⟨rfl, rfl, rfl, rfl, rfl, rfl, rfl, trivial⟩ rfl
     ·skip
      refine k_block ?_
      refine k_seq ?_
      obtain ⟨q21, hq21, h⟩ := bindSome h
      refine k_cut1 [(0, .string a0), (1, .string a1), (2, .string a2), (8, .slice A3 r1.1.length k4), (10, .string x13), (11, .int .i64 x14), (12, .int .i64 x15), (60, .bool q21)] (h2 :: X) ?_ ?_
      ·clear hq21
       refine k_cond (t := q21) (by kernel_rfl) (fun t22 => ?_) (fun t22 => ?_)
       ·have h := condT h t22
        refine k_seq ?_
        refine k_region ?_
        refine kl_steps 2 [(6, .string (⟨#[]⟩ : ByteArray)), (7, .bool false)] (by kernel_rfl) ?_
        refine k_nil ?_
        refine k_then ?_
        refine k_ret ?_
        refine k_then_ret ?_
        refine k_blk_ret ?_
        refine k_then_ret ?_
        refine k_then_ret ?_
        refine k_blk_ret ?_
        refine k_then_ret ?_
        obtain rfl := Option.some.inj h
        refine k_done (v := .tuple #[.string (⟨#[]⟩ : ByteArray), .bool false]) [] [] [] (by kernel_rfl) (by kernel_rfl) trivial ?_
        refine K.drop ?_
        exact k_end ⟨rfl, rfl⟩
       ·have h := condF h t22
        refine k_skip ?_
        refine k_then ?_
        obtain ⟨q23, hq23, h⟩ := bindSome h
        refine k_cut1 [(0, .string a0), (1, .string a1), (2, .string a2), (8, .slice A3 r1.1.length k4), (10, .string x13), (11, .int .i64 x14), (12, .int .i64 x15), (88, .bool q23)] (h2 :: X) ?_ ?_
        ·clear hq23
         refine k_cond (t := q23) (by kernel_rfl) (fun t24 => ?_) (fun t24 => ?_)
         ·have h := condT h t24
          refine k_seq ?_
          refine k_region ?_
          refine kl_steps 5 [(0, .string a0), (1, .string a1), (2, .string a2), (8, .slice A3 r1.1.length k4), (10, .string x13), (12, .int .i64 x15), (89, .string x13), (90, .string a0), (91, .int .i64 x14), (92, .slice A3 r1.1.length k4), (93, .int .i64 x15)] (by kernel_rfl) ?_
          obtain ⟨x25, hx25, h⟩ := bindSome h
          refine kl_elemP (T := 76) (kd := .i64) e76_ok rfl (by kernel_rfl) (by kernel_rfl) (by kernel_rfl) (by kernel_rfl) (by kernel_rfl) (by kernel_rfl) hx25 (OwnT.rd o5) fun p26 e27 y28 => ?_
          have e27 : Elem _ p26 [.int .i64 x25.1, .string x25.2.1, .int .i64 x25.2.2.1, .int .i64 x25.2.2.2] := e27
          refine kl_efieldP (off := 3) rfl (by kernel_rfl) (by kernel_rfl) (by kernel_rfl) (by kernel_rfl) e27 y28 fun p29 e30 y31 => ?_
          have e30 : Elem _ p29 [.int .i64 x25.2.2.2] := e30
          refine kl_eload1 rfl (by kernel_rfl) (by kernel_rfl) (by kernel_rfl) (by kernel_rfl) e30 (.head _) ?_
          obtain ⟨s32, hs32, h⟩ := bindSome h
          refine kl_sstr x14 x25.2.2.2 rfl (by kernel_rfl) (by kernel_rfl) (by kernel_rfl) (.inr ⟨_, .i64, rfl, (by kernel_rfl)⟩) (.inr ⟨_, .i64, rfl, (by kernel_rfl)⟩) (by kernel_rfl) hs32 ?_
          refine kl_steps 1 [(0, .string a0), (1, .string a1), (2, .string a2), (8, .slice A3 r1.1.length k4), (10, .string x13), (12, .int .i64 x15), (89, .string x13), (97, .string s32), (98, .string a2)] (by kernel_rfl) ?_
          obtain ⟨s33, hs33, h⟩ := bindSome h
          refine kl_cat rfl (by kernel_rfl) (by kernel_rfl) (by kernel_rfl) (by kernel_rfl) hs33 ?_
          obtain ⟨s34, hs34, h⟩ := bindSome h
          refine kl_cat rfl (by kernel_rfl) (by kernel_rfl) (by kernel_rfl) (by kernel_rfl) hs34 ?_
          refine kl_steps 1 [(0, .string a0), (1, .string a1), (2, .string a2), (8, .slice A3 r1.1.length k4), (10, .string s34), (12, .int .i64 x15)] (by kernel_rfl) ?_
          refine k_nil ?_
          refine k_then ?_
          refine k_region ?_
          refine kl_steps 2 [(0, .string a0), (1, .string a1), (2, .string a2), (8, .slice A3 r1.1.length k4), (10, .string s34), (12, .int .i64 x15), (101, .slice A3 r1.1.length k4), (102, .int .i64 x15)] (by kernel_rfl) ?_
          obtain ⟨x35, hx35, h⟩ := bindSome h
          refine kl_elemP (T := 76) (kd := .i64) e76_ok rfl (by kernel_rfl) (by kernel_rfl) (by kernel_rfl) (by kernel_rfl) (by kernel_rfl) (by kernel_rfl) hx35 (OwnT.rd o5) fun p36 e37 y38 => ?_
          have e37 : Elem _ p36 [.int .i64 x35.1, .string x35.2.1, .int .i64 x35.2.2.1, .int .i64 x35.2.2.2] := e37
          refine kl_efieldP (off := 3) rfl (by kernel_rfl) (by kernel_rfl) (by kernel_rfl) (by kernel_rfl) e37 y38 fun p39 e40 y41 => ?_
          have e40 : Elem _ p39 [.int .i64 x35.2.2.2] := e40
          refine kl_eload1 rfl (by kernel_rfl) (by kernel_rfl) (by kernel_rfl) (by kernel_rfl) e40 (.head _) ?_
          refine kl_steps 4 [(0, .string a0), (1, .string a1), (2, .string a2), (8, .slice A3 r1.1.length k4), (10, .string s34), (12, .int .i64 x15), (11, .int .i64 (IntKind.i64.wrap (x35.2.2.2 + (a1.size : Int))))] (by kernel_rfl) ?_
          refine k_nil ?_
          refine k_blk ?_
          refine k_then ?_
          exact k_meet (s34, IntKind.i64.wrap (x35.2.2.2 + (a1.size : Int))) h ⟨rfl, rfl, rfl, rfl, rfl, rfl, rfl, trivial⟩ rfl
         ·have h := condF h t24
          refine k_skip ?_
          refine k_blk ?_
          refine k_then ?_
          exact k_meet (x13, x14) h ⟨rfl, rfl, rfl, rfl, rfl, rfl, rfl, trivial⟩ rfl
        ·have h := hq23
         clear hq23
         refine k_region ?_
         refine kl_steps 2 [(0, .string a0), (1, .string a1), (2, .string a2), (8, .slice A3 r1.1.length k4), (10, .string x13), (11, .int .i64 x14), (12, .int .i64 x15), (61, .slice A3 r1.1.length k4), (62, .int .i64 x15)] (by kernel_rfl) ?_
         obtain ⟨x42, hx42, h⟩ := bindSome h
         refine kl_elemP (T := 76) (kd := .i64) e76_ok rfl (by kernel_rfl) (by kernel_rfl) (by kernel_rfl) (by kernel_rfl) (by kernel_rfl) (by kernel_rfl) hx42 (OwnT.rd o5) fun p43 e44 y45 => ?_
         have e44 : Elem _ p43 [.int .i64 x42.1, .string x42.2.1, .int .i64 x42.2.2.1, .int .i64 x42.2.2.2] := e44
         refine kl_efieldP (off := 0) rfl (by kernel_rfl) (by kernel_rfl) (by kernel_rfl) (by kernel_rfl) e44 y45 fun p46 e47 y48 => ?_
         have e47 : Elem _ p46 [.int .i64 x42.1, .string x42.2.1, .int .i64 x42.2.2.1, .int .i64 x42.2.2.2] := e47
         refine kl_eload1 rfl (by kernel_rfl) (by kernel_rfl) (by kernel_rfl) (by kernel_rfl) e47 (.head _) ?_
         refine kl_steps 2 [(0, .string a0), (1, .string a1), (2, .string a2), (8, .slice A3 r1.1.length k4), (10, .string x13), (11, .int .i64 x14), (12, .int .i64 x15), (67, .bool (x42.1 == (1 : Int)))] (by kernel_rfl) ?_
         rcases Bool.eq_false_or_eq_true ((x42.1 == (1 : Int))) with t49 | t49
         ·have h := condT h t49
          refine K.weak (env' := [(0, .string a0), (1, .string a1), (2, .string a2), (8, .slice A3 r1.1.length k4), (10, .string x13), (11, .int .i64 x14), (12, .int .i64 x15), (67, .bool true)]) ?_ ⟨rfl, rfl, rfl, rfl, rfl, rfl, rfl, congrArg (fun b => some (Value.bool b)) t49, trivial⟩
          refine kl_steps 2 [(0, .string a0), (1, .string a1), (2, .string a2), (8, .slice A3 r1.1.length k4), (10, .string x13), (11, .int .i64 x14), (12, .int .i64 x15), (67, .bool true), (68, .slice A3 r1.1.length k4), (69, .int .i64 x15)] (by kernel_rfl) ?_
          obtain ⟨x50, hx50, h⟩ := bindSome h
          refine kl_elemP (T := 76) (kd := .i64) e76_ok rfl (by kernel_rfl) (by kernel_rfl) (by kernel_rfl) (by kernel_rfl) (by kernel_rfl) (by kernel_rfl) hx50 (OwnT.rd o5) fun p51 e52 y53 => ?_
          have e52 : Elem _ p51 [.int .i64 x50.1, .string x50.2.1, .int .i64 x50.2.2.1, .int .i64 x50.2.2.2] := e52
          refine kl_efieldP (off := 1) rfl (by kernel_rfl) (by kernel_rfl) (by kernel_rfl) (by kernel_rfl) e52 y53 fun p54 e55 y56 => ?_
          have e55 : Elem _ p54 [.string x50.2.1, .int .i64 x50.2.2.1, .int .i64 x50.2.2.2] := e55
          refine kl_eload1 rfl (by kernel_rfl) (by kernel_rfl) (by kernel_rfl) (by kernel_rfl) e55 (.head _) ?_
          refine kl_steps 4 [(0, .string a0), (1, .string a1), (2, .string a2), (8, .slice A3 r1.1.length k4), (10, .string x13), (11, .int .i64 x14), (12, .int .i64 x15), (76, .bool (x50.2.1.toList == a1.toList))] (by kernel_rfl) ?_
          rcases Bool.eq_false_or_eq_true ((x50.2.1.toList == a1.toList)) with t57 | t57
          ·have h := condT h t57
           refine K.weak (env' := [(0, .string a0), (1, .string a1), (2, .string a2), (8, .slice A3 r1.1.length k4), (10, .string x13), (11, .int .i64 x14), (12, .int .i64 x15), (76, .bool true)]) ?_ ⟨rfl, rfl, rfl, rfl, rfl, rfl, rfl, congrArg (fun b => some (Value.bool b)) t57, trivial⟩
           refine kl_steps 6 [(0, .string a0), (1, .string a1), (2, .string a2), (8, .slice A3 r1.1.length k4), (10, .string x13), (11, .int .i64 x14), (12, .int .i64 x15), (76, .bool true), (78, .int .i64 (a1.size : Int)), (80, .int .i64 (a0.size : Int)), (81, .slice A3 r1.1.length k4), (82, .int .i64 x15)] (by kernel_rfl) ?_
           obtain ⟨x58, hx58, h⟩ := bindSome h
           refine kl_elemP (T := 76) (kd := .i64) e76_ok rfl (by kernel_rfl) (by kernel_rfl) (by kernel_rfl) (by kernel_rfl) (by kernel_rfl) (by kernel_rfl) hx58 (OwnT.rd o5) fun p59 e60 y61 => ?_
           have e60 : Elem _ p59 [.int .i64 x58.1, .string x58.2.1, .int .i64 x58.2.2.1, .int .i64 x58.2.2.2] := e60
           refine kl_efieldP (off := 3) rfl (by kernel_rfl) (by kernel_rfl) (by kernel_rfl) (by kernel_rfl) e60 y61 fun p62 e63 y64 => ?_
           have e63 : Elem _ p62 [.int .i64 x58.2.2.2] := e63
           refine kl_eload1 rfl (by kernel_rfl) (by kernel_rfl) (by kernel_rfl) (by kernel_rfl) e63 (.head _) ?_
           refine kl_steps 3 [(0, .string a0), (1, .string a1), (2, .string a2), (8, .slice A3 r1.1.length k4), (10, .string x13), (11, .int .i64 x14), (12, .int .i64 x15), (88, .bool (decide ((a1.size : Int) ≤ (IntKind.i64.wrap ((a0.size : Int) - x58.2.2.2)))))] (by kernel_rfl) ?_
           refine k_nil ?_
           refine k_then ?_
           exact k_meet1 ⟨rfl, rfl, rfl, rfl, rfl, rfl, rfl, congrArg (fun b => some (Value.bool b)) (Option.some.inj h), trivial⟩
          ·have h := condF h t57
           refine K.weak (env' := [(0, .string a0), (1, .string a1), (2, .string a2), (8, .slice A3 r1.1.length k4), (10, .string x13), (11, .int .i64 x14), (12, .int .i64 x15), (76, .bool false)]) ?_ ⟨rfl, rfl, rfl, rfl, rfl, rfl, rfl, congrArg (fun b => some (Value.bool b)) t57, trivial⟩
           refine kl_steps 12 [(0, .string a0), (1, .string a1), (2, .string a2), (8, .slice A3 r1.1.length k4), (10, .string x13), (11, .int .i64 x14), (12, .int .i64 x15), (88, .bool false)] (by kernel_rfl) ?_
           refine k_nil ?_
           refine k_then ?_
           exact k_meet1 ⟨rfl, rfl, rfl, rfl, rfl, rfl, rfl, congrArg (fun b => some (Value.bool b)) (Option.some.inj h), trivial⟩
         ·have h := condF h t49
          refine K.weak (env' := [(0, .string a0), (1, .string a1), (2, .string a2), (8, .slice A3 r1.1.length k4), (10, .string x13), (11, .int .i64 x14), (12, .int .i64 x15), (67, .bool false)]) ?_ ⟨rfl, rfl, rfl, rfl, rfl, rfl, rfl, congrArg (fun b => some (Value.bool b)) t49, trivial⟩
          refine kl_steps 21 [(0, .string a0), (1, .string a1), (2, .string a2), (8, .slice A3 r1.1.length k4), (10, .string x13), (11, .int .i64 x14), (12, .int .i64 x15), (88, .bool false)] (by kernel_rfl) ?_
          refine k_nil ?_
          refine k_then ?_
          exact k_meet1 ⟨rfl, rfl, rfl, rfl, rfl, rfl, rfl, congrArg (fun b => some (Value.bool b)) (Option.some.inj h), trivial⟩
      ·have h := hq21
       clear hq21
       refine k_region ?_
       refine kl_steps 2 [(0, .string a0), (1, .string a1), (2, .string a2), (8, .slice A3 r1.1.length k4), (10, .string x13), (11, .int .i64 x14), (12, .int .i64 x15), (27, .slice A3 r1.1.length k4), (28, .int .i64 x15)] (by kernel_rfl) ?_
       obtain ⟨x65, hx65, h⟩ := bindSome h
       refine kl_elemP (T := 76) (kd := .i64) e76_ok rfl (by kernel_rfl) (by kernel_rfl) (by kernel_rfl) (by kernel_rfl) (by kernel_rfl) (by kernel_rfl) hx65 (OwnT.rd o5) fun p66 e67 y68 => ?_
       have e67 : Elem _ p66 [.int .i64 x65.1, .string x65.2.1, .int .i64 x65.2.2.1, .int .i64 x65.2.2.2] := e67
       refine kl_efieldP (off := 0) rfl (by kernel_rfl) (by kernel_rfl) (by kernel_rfl) (by kernel_rfl) e67 y68 fun p69 e70 y71 => ?_
       have e70 : Elem _ p69 [.int .i64 x65.1, .string x65.2.1, .int .i64 x65.2.2.1, .int .i64 x65.2.2.2] := e70
       refine kl_eload1 rfl (by kernel_rfl) (by kernel_rfl) (by kernel_rfl) (by kernel_rfl) e70 (.head _) ?_
       refine kl_steps 2 [(0, .string a0), (1, .string a1), (2, .string a2), (8, .slice A3 r1.1.length k4), (10, .string x13), (11, .int .i64 x14), (12, .int .i64 x15), (33, .bool (x65.1 == (1 : Int)))] (by kernel_rfl) ?_
       rcases Bool.eq_false_or_eq_true ((x65.1 == (1 : Int))) with t72 | t72
       ·have h := condT h t72
        refine K.weak (env' := [(0, .string a0), (1, .string a1), (2, .string a2), (8, .slice A3 r1.1.length k4), (10, .string x13), (11, .int .i64 x14), (12, .int .i64 x15), (33, .bool true)]) ?_ ⟨rfl, rfl, rfl, rfl, rfl, rfl, rfl, congrArg (fun b => some (Value.bool b)) t72, trivial⟩
        refine kl_steps 2 [(0, .string a0), (1, .string a1), (2, .string a2), (8, .slice A3 r1.1.length k4), (10, .string x13), (11, .int .i64 x14), (12, .int .i64 x15), (33, .bool true), (34, .slice A3 r1.1.length k4), (35, .int .i64 x15)] (by kernel_rfl) ?_
        obtain ⟨x73, hx73, h⟩ := bindSome h
        refine kl_elemP (T := 76) (kd := .i64) e76_ok rfl (by kernel_rfl) (by kernel_rfl) (by kernel_rfl) (by kernel_rfl) (by kernel_rfl) (by kernel_rfl) hx73 (OwnT.rd o5) fun p74 e75 y76 => ?_
        have e75 : Elem _ p74 [.int .i64 x73.1, .string x73.2.1, .int .i64 x73.2.2.1, .int .i64 x73.2.2.2] := e75
        refine kl_efieldP (off := 1) rfl (by kernel_rfl) (by kernel_rfl) (by kernel_rfl) (by kernel_rfl) e75 y76 fun p77 e78 y79 => ?_
        have e78 : Elem _ p77 [.string x73.2.1, .int .i64 x73.2.2.1, .int .i64 x73.2.2.2] := e78
        refine kl_eload1 rfl (by kernel_rfl) (by kernel_rfl) (by kernel_rfl) (by kernel_rfl) e78 (.head _) ?_
        refine kl_steps 4 [(0, .string a0), (1, .string a1), (2, .string a2), (8, .slice A3 r1.1.length k4), (10, .string x13), (11, .int .i64 x14), (12, .int .i64 x15), (42, .bool (x73.2.1.toList == a2.toList))] (by kernel_rfl) ?_
        rcases Bool.eq_false_or_eq_true ((x73.2.1.toList == a2.toList)) with t80 | t80
        ·have h := condT h t80
         refine K.weak (env' := [(0, .string a0), (1, .string a1), (2, .string a2), (8, .slice A3 r1.1.length k4), (10, .string x13), (11, .int .i64 x14), (12, .int .i64 x15), (42, .bool true)]) ?_ ⟨rfl, rfl, rfl, rfl, rfl, rfl, rfl, congrArg (fun b => some (Value.bool b)) t80, trivial⟩
         refine kl_steps 18 [(0, .string a0), (1, .string a1), (2, .string a2), (8, .slice A3 r1.1.length k4), (10, .string x13), (11, .int .i64 x14), (12, .int .i64 x15), (60, .bool true)] (by kernel_rfl) ?_
         refine k_nil ?_
         refine k_then ?_
         exact k_meet1 ⟨rfl, rfl, rfl, rfl, rfl, rfl, rfl, congrArg (fun b => some (Value.bool b)) (Option.some.inj h), trivial⟩
        ·have h := condF h t80
         refine K.weak (env' := [(0, .string a0), (1, .string a1), (2, .string a2), (8, .slice A3 r1.1.length k4), (10, .string x13), (11, .int .i64 x14), (12, .int .i64 x15), (42, .bool false)]) ?_ ⟨rfl, rfl, rfl, rfl, rfl, rfl, rfl, congrArg (fun b => some (Value.bool b)) t80, trivial⟩
         refine kl_steps 2 [(0, .string a0), (1, .string a1), (2, .string a2), (8, .slice A3 r1.1.length k4), (10, .string x13), (11, .int .i64 x14), (12, .int .i64 x15), (42, .bool false), (43, .slice A3 r1.1.length k4), (44, .int .i64 x15)] (by kernel_rfl) ?_
         obtain ⟨x81, hx81, h⟩ := bindSome h
         refine kl_elemP (T := 76) (kd := .i64) e76_ok rfl (by kernel_rfl) (by kernel_rfl) (by kernel_rfl) (by kernel_rfl) (by kernel_rfl) (by kernel_rfl) hx81 (OwnT.rd o5) fun p82 e83 y84 => ?_
         have e83 : Elem _ p82 [.int .i64 x81.1, .string x81.2.1, .int .i64 x81.2.2.1, .int .i64 x81.2.2.2] := e83
         refine kl_efieldP (off := 3) rfl (by kernel_rfl) (by kernel_rfl) (by kernel_rfl) (by kernel_rfl) e83 y84 fun p85 e86 y87 => ?_
         have e86 : Elem _ p85 [.int .i64 x81.2.2.2] := e86
         refine kl_eload1 rfl (by kernel_rfl) (by kernel_rfl) (by kernel_rfl) (by kernel_rfl) e86 (.head _) ?_
         refine kl_steps 4 [(0, .string a0), (1, .string a1), (2, .string a2), (8, .slice A3 r1.1.length k4), (10, .string x13), (11, .int .i64 x14), (12, .int .i64 x15), (51, .bool (decide (x81.2.2.2 < x14)))] (by kernel_rfl) ?_
         rcases Bool.eq_false_or_eq_true (decide (x81.2.2.2 < x14)) with t88 | t88
         ·have h := condT h t88
          refine K.weak (env' := [(0, .string a0), (1, .string a1), (2, .string a2), (8, .slice A3 r1.1.length k4), (10, .string x13), (11, .int .i64 x14), (12, .int .i64 x15), (51, .bool true)]) ?_ ⟨rfl, rfl, rfl, rfl, rfl, rfl, rfl, congrArg (fun b => some (Value.bool b)) t88, trivial⟩
          refine kl_steps 9 [(0, .string a0), (1, .string a1), (2, .string a2), (8, .slice A3 r1.1.length k4), (10, .string x13), (11, .int .i64 x14), (12, .int .i64 x15), (60, .bool true)] (by kernel_rfl) ?_
          refine k_nil ?_
          refine k_then ?_
          exact k_meet1 ⟨rfl, rfl, rfl, rfl, rfl, rfl, rfl, congrArg (fun b => some (Value.bool b)) (Option.some.inj h), trivial⟩
         ·have h := condF h t88
          refine K.weak (env' := [(0, .string a0), (1, .string a1), (2, .string a2), (8, .slice A3 r1.1.length k4), (10, .string x13), (11, .int .i64 x14), (12, .int .i64 x15), (51, .bool false)]) ?_ ⟨rfl, rfl, rfl, rfl, rfl, rfl, rfl, congrArg (fun b => some (Value.bool b)) t88, trivial⟩
          refine kl_steps 2 [(0, .string a0), (1, .string a1), (2, .string a2), (8, .slice A3 r1.1.length k4), (10, .string x13), (11, .int .i64 x14), (12, .int .i64 x15), (51, .bool false), (52, .slice A3 r1.1.length k4), (53, .int .i64 x15)] (by kernel_rfl) ?_
          obtain ⟨x89, hx89, h⟩ := bindSome h
          refine kl_elemP (T := 76) (kd := .i64) e76_ok rfl (by kernel_rfl) (by kernel_rfl) (by kernel_rfl) (by kernel_rfl) (by kernel_rfl) (by kernel_rfl) hx89 (OwnT.rd o5) fun p90 e91 y92 => ?_
          have e91 : Elem _ p90 [.int .i64 x89.1, .string x89.2.1, .int .i64 x89.2.2.1, .int .i64 x89.2.2.2] := e91
          refine kl_efieldP (off := 3) rfl (by kernel_rfl) (by kernel_rfl) (by kernel_rfl) (by kernel_rfl) e91 y92 fun p93 e94 y95 => ?_
          have e94 : Elem _ p93 [.int .i64 x89.2.2.2] := e94
          refine kl_eload1 rfl (by kernel_rfl) (by kernel_rfl) (by kernel_rfl) (by kernel_rfl) e94 (.head _) ?_
          refine kl_steps 4 [(0, .string a0), (1, .string a1), (2, .string a2), (8, .slice A3 r1.1.length k4), (10, .string x13), (11, .int .i64 x14), (12, .int .i64 x15), (60, .bool (decide (x89.2.2.2 > (a0.size : Int))))] (by kernel_rfl) ?_
          refine k_nil ?_
          refine k_then ?_
          exact k_meet1 ⟨rfl, rfl, rfl, rfl, rfl, rfl, rfl, congrArg (fun b => some (Value.bool b)) (Option.some.inj h), trivial⟩
       ·have h := condF h t72
        refine K.weak (env' := [(0, .string a0), (1, .string a1), (2, .string a2), (8, .slice A3 r1.1.length k4), (10, .string x13), (11, .int .i64 x14), (12, .int .i64 x15), (33, .bool false)]) ?_ ⟨rfl, rfl, rfl, rfl, rfl, rfl, rfl, congrArg (fun b => some (Value.bool b)) t72, trivial⟩
        refine kl_steps 11 [(0, .string a0), (1, .string a1), (2, .string a2), (8, .slice A3 r1.1.length k4), (10, .string x13), (11, .int .i64 x14), (12, .int .i64 x15), (42, .bool false), (43, .slice A3 r1.1.length k4), (44, .int .i64 x15)] (by kernel_rfl) ?_
        obtain ⟨x96, hx96, h⟩ := bindSome h
        refine kl_elemP (T := 76) (kd := .i64) e76_ok rfl (by kernel_rfl) (by kernel_rfl) (by kernel_rfl) (by kernel_rfl) (by kernel_rfl) (by kernel_rfl) hx96 (OwnT.rd o5) fun p97 e98 y99 => ?_
        have e98 : Elem _ p97 [.int .i64 x96.1, .string x96.2.1, .int .i64 x96.2.2.1, .int .i64 x96.2.2.2] := e98
        refine kl_efieldP (off := 3) rfl (by kernel_rfl) (by kernel_rfl) (by kernel_rfl) (by kernel_rfl) e98 y99 fun p100 e101 y102 => ?_
        have e101 : Elem _ p100 [.int .i64 x96.2.2.2] := e101
        refine kl_eload1 rfl (by kernel_rfl) (by kernel_rfl) (by kernel_rfl) (by kernel_rfl) e101 (.head _) ?_
        refine kl_steps 4 [(0, .string a0), (1, .string a1), (2, .string a2), (8, .slice A3 r1.1.length k4), (10, .string x13), (11, .int .i64 x14), (12, .int .i64 x15), (51, .bool (decide (x96.2.2.2 < x14)))] (by kernel_rfl) ?_
        rcases Bool.eq_false_or_eq_true (decide (x96.2.2.2 < x14)) with t103 | t103
        ·have h := condT h t103
         refine K.weak (env' := [(0, .string a0), (1, .string a1), (2, .string a2), (8, .slice A3 r1.1.length k4), (10, .string x13), (11, .int .i64 x14), (12, .int .i64 x15), (51, .bool true)]) ?_ ⟨rfl, rfl, rfl, rfl, rfl, rfl, rfl, congrArg (fun b => some (Value.bool b)) t103, trivial⟩
         refine kl_steps 9 [(0, .string a0), (1, .string a1), (2, .string a2), (8, .slice A3 r1.1.length k4), (10, .string x13), (11, .int .i64 x14), (12, .int .i64 x15), (60, .bool true)] (by kernel_rfl) ?_
         refine k_nil ?_
         refine k_then ?_
         exact k_meet1 ⟨rfl, rfl, rfl, rfl, rfl, rfl, rfl, congrArg (fun b => some (Value.bool b)) (Option.some.inj h), trivial⟩
        ·have h := condF h t103
         refine K.weak (env' := [(0, .string a0), (1, .string a1), (2, .string a2), (8, .slice A3 r1.1.length k4), (10, .string x13), (11, .int .i64 x14), (12, .int .i64 x15), (51, .bool false)]) ?_ ⟨rfl, rfl, rfl, rfl, rfl, rfl, rfl, congrArg (fun b => some (Value.bool b)) t103, trivial⟩
         refine kl_steps 2 [(0, .string a0), (1, .string a1), (2, .string a2), (8, .slice A3 r1.1.length k4), (10, .string x13), (11, .int .i64 x14), (12, .int .i64 x15), (51, .bool false), (52, .slice A3 r1.1.length k4), (53, .int .i64 x15)] (by kernel_rfl) ?_
         obtain ⟨x104, hx104, h⟩ := bindSome h
         refine kl_elemP (T := 76) (kd := .i64) e76_ok rfl (by kernel_rfl) (by kernel_rfl) (by kernel_rfl) (by kernel_rfl) (by kernel_rfl) (by kernel_rfl) hx104 (OwnT.rd o5) fun p105 e106 y107 => ?_
         have e106 : Elem _ p105 [.int .i64 x104.1, .string x104.2.1, .int .i64 x104.2.2.1, .int .i64 x104.2.2.2] := e106
         refine kl_efieldP (off := 3) rfl (by kernel_rfl) (by kernel_rfl) (by kernel_rfl) (by kernel_rfl) e106 y107 fun p108 e109 y110 => ?_
         have e109 : Elem _ p108 [.int .i64 x104.2.2.2] := e109
         refine kl_eload1 rfl (by kernel_rfl) (by kernel_rfl) (by kernel_rfl) (by kernel_rfl) e109 (.head _) ?_
         refine kl_steps 4 [(0, .string a0), (1, .string a1), (2, .string a2), (8, .slice A3 r1.1.length k4), (10, .string x13), (11, .int .i64 x14), (12, .int .i64 x15), (60, .bool (decide (x104.2.2.2 > (a0.size : Int))))] (by kernel_rfl) ?_
         refine k_nil ?_
         refine k_then ?_
         exact k_meet1 ⟨rfl, rfl, rfl, rfl, rfl, rfl, rfl, congrArg (fun b => some (Value.bool b)) (Option.some.inj h), trivial⟩
    ·have h := condF h t17
     refine k_exit ?_
     refine k_then_exit ?_
     refine k_then_exit ?_
     refine k_here ?_
     refine k_then ?_
     refine K.drop ?_
     exact k_meet (x13, x14) h ⟨rfl, rfl, rfl, trivial⟩ rfl
def law13_CheckRenames.l1 : Nat → (r5 : List (ByteArray × Int × Int × Int × List (Int × Int × ByteArray)) × List ByteArray × Int × Int) → (r20 : List (ByteArray × Int × Int × Int × List (Int × Int × ByteArray)) × List ByteArray × Int × Int) → (J33 : (Unit → Option (Bool))) → (x72 : Int) → Option (Bool)
 | 0, _, _, _, _ => none
 | m73 + 1, r5, r20, J33, x72 => cond (decide (x72 < ((r5.1.length : Nat) : Int))) (((lIdx r20.1 x72).bind fun x77 => (lIdx r5.1 x72).bind fun x89 => cond (x77.2.2.2.1 != x89.2.2.2.1) (some true) ((lIdx r20.1 x72).bind fun x102 => (lIdx r5.1 x72).bind fun x114 => cond (x102.2.2.1 != x114.2.2.1) (some true) ((lIdx r20.1 x72).bind fun x127 => (lIdx r5.1 x72).bind fun x139 => (r08_SameVals.f m73 x127.2.2.2.2 x139.2.2.2.2).bind fun r151 => some (!r151))) : Option Bool).bind fun q75 => cond q75 (some (false)) (law13_CheckRenames.l1 m73 r5 r20 J33 (IntKind.i64.wrap (x72 + (1 : Int))))) (J33 ())
def law13_CheckRenames.l0 : Nat → (r5 : List (ByteArray × Int × Int × Int × List (Int × Int × ByteArray)) × List ByteArray × Int × Int) → (r20 : List (ByteArray × Int × Int × Int × List (Int × Int × ByteArray)) × List ByteArray × Int × Int) → (J34 : (Unit → Option (Bool))) → (x35 : Int) → Option (Bool)
 | 0, _, _, _, _ => none
 | m36 + 1, r5, r20, J34, x35 => cond (decide (x35 < ((r5.2.1.length : Nat) : Int))) (((lIdx r5.2.1 x35).bind fun x40 => cond (!(x40.toList == (⟨#[97]⟩ : ByteArray).toList)) ((lIdx r20.2.1 x35).bind fun x45 => (lIdx r5.2.1 x35).bind fun x49 => cond (!(x45.toList == x49.toList)) (some true) ((lIdx r5.2.1 x35).bind fun x54 => cond (x54.toList == (⟨#[97]⟩ : ByteArray).toList) ((lIdx r20.2.1 x35).bind fun x59 => some (!(x59.toList == (⟨#[122, 122, 122]⟩ : ByteArray).toList))) (some false))) ((lIdx r5.2.1 x35).bind fun x63 => cond (x63.toList == (⟨#[97]⟩ : ByteArray).toList) ((lIdx r20.2.1 x35).bind fun x68 => some (!(x68.toList == (⟨#[122, 122, 122]⟩ : ByteArray).toList))) (some false)) : Option Bool).bind fun q38 => cond q38 (some (false)) (law13_CheckRenames.l0 m36 r5 r20 J34 (IntKind.i64.wrap (x35 + (1 : Int))))) (J34 ())
def law13_CheckRenames.f (k : Nat) (a0 : ByteArray) : Option (Bool) := (law13_fixed.f k).bind fun r1 => cond (!r1) (some (false)) (joinF (fun (x3 : ByteArray) => (check_Check.f k x3).bind fun r5 => (cond (r5.2.2.1 != (0 : Int)) (some true) ((law13_fields.f k x3).bind fun r155 => some r155) : Option Bool).bind fun q16 => cond q16 (some (true)) ((law13_renamed.f k x3 (⟨#[97]⟩ : ByteArray) (⟨#[122, 122, 122]⟩ : ByteArray)).bind fun r18 => cond (!r18.2) (some (true)) ((check_Check.f k r18.1).bind fun r20 => (cond (r20.2.2.1 != (0 : Int)) (some true) (cond (((r20.1.length : Nat) : Int) != ((r5.1.length : Nat) : Int)) (some true) (some (((r20.2.1.length : Nat) : Int) != ((r5.2.1.length : Nat) : Int)))) : Option Bool).bind fun q31 => cond q31 (some (false)) (joinF (fun (_ : Unit) => joinF (fun (_ : Unit) => some (true)) (fun J34 => law13_CheckRenames.l0 k r5 r20 J34 (0 : Int))) (fun J33 => law13_CheckRenames.l1 k r5 r20 J33 (0 : Int)))))) (fun J4 => cond (decide ((a0.size : Int) > (3000 : Int))) ((sSub a0 (0 : Int) (3000 : Int)).bind fun s157 : ByteArray => J4 s157) (J4 a0)))
set_option maxRecDepth 100000 in
theorem law13_CheckRenames.ok {k : Nat} {a0 : ByteArray} {G : Frag} {r : Bool} (h : law13_CheckRenames.f k a0 = some r) (hG : GlP G) : Ct Tryz.prog 5 #[.string a0] [] [G] (fun e l1 => e = .returned (.bool r) ∧ l1 = []) := by
 refine ct_enter (args := [.string a0]) Tryz.func5 rfl (Nat.le_of_ble_eq_true rfl) ?_
 intro A X hh_
 obtain ⟨hm_G, _⟩ := hh_
 unfold law13_CheckRenames.f at h
 refine k_seq ?_
 refine k_region ?_
 refine kl_steps 1 [(0, .string a0)] (by kernel_rfl) ?_
 refine k_nil ?_
 refine k_then ?_
 refine k_seq ?_
 refine k_seq ?_
 refine k_region ?_
 obtain ⟨r1, hr1, h⟩ := bindSome h
 refine kl_callv (by kernel_rfl) (by kernel_rfl) (by kernel_rfl) (law13_fixed.ok hr1 hG) ⟨hm_G, trivial⟩ ?_
 refine kl_steps 1 [(0, .string a0), (12, .bool (!r1))] (by kernel_rfl) ?_
 refine k_nil ?_
 refine k_then ?_
 refine k_cond (t := !r1) (by kernel_rfl) (fun t2 => ?_) (fun t2 => ?_)
 ·have h := condT h t2
  refine k_seq ?_
  refine k_region ?_
  refine kl_steps 1 [(2, .bool false)] (by kernel_rfl) ?_
  refine k_nil ?_
  refine k_then ?_
  refine k_ret ?_
  refine k_then_ret ?_
  obtain rfl := Option.some.inj h
  refine k_done (v := .bool false) [] [] [] (by kernel_rfl) (by kernel_rfl) trivial ?_
  exact k_end ⟨rfl, rfl⟩
 ·have h := condF h t2
  refine k_skip ?_
  refine k_then ?_
  obtain ⟨J4, hJ4, h⟩ := joinSplit h
  refine k_cut (τ := ByteArray) (fun t => [(0, .string t)]) (fun t => X) (fun t => J4 t = some r) ?_ ?_
  ·rintro x3 h
   subst hJ4
   refine k_seq ?_
   refine k_region ?_
   refine kl_steps 1 [(0, .string x3), (19, .string x3)] (by kernel_rfl) ?_
   obtain ⟨r5, hr5, h⟩ := bindSome h
   refine kl_call (X) (by kernel_rfl) (by kernel_rfl) (by kernel_rfl) (check_Check.ok hr5 hG) rfl ⟨hm_G, trivial⟩ ?_
   rintro _ _ ⟨h6, A7, k8, h10, A11, k12, o9, o13, rfl, rfl⟩
   refine nx_ret2 ?_
   refine kl_steps 3 [(0, .string x3), (21, .agg #[.slice A7 r5.1.length k8, .slice A11 r5.2.1.length k12]), (22, .agg #[.int .i64 r5.2.2.1, .int .i64 r5.2.2.2])] (by kernel_rfl) ?_
   refine kl_new (.cells #[.slice none 0 0, .slice none 0 0] 28 (0, 0)) (fun b => .pointer (some ⟨b, 0, none⟩)) (by kernel_rfl) (by kernel_rfl) (fun _ => by kernel_rfl) fun b14 => ?_
   refine kl_new (.cells #[.int .i64 (0 : Int), .int .i64 (0 : Int)] 31 (0, 0)) (fun b => .pointer (some ⟨b, 0, none⟩)) (by kernel_rfl) (by kernel_rfl) (fun _ => by kernel_rfl) fun b15 => ?_
   refine K.mv1 ?_
   refine kl_store (cs' := #[.slice A7 r5.1.length k8, .slice A11 r5.2.1.length k12]) [.st ⟨b14, 0, none⟩ (.slice A7 r5.1.length k8), .st ⟨b14, 1, none⟩ (.slice A11 r5.2.1.length k12)] (by kernel_rfl) (by kernel_rfl) (by kernel_rfl) ⟨rfl, rfl, trivial⟩ (by kernel_rfl) ?_
   refine K.mv1 ?_
   refine kl_store (cs' := #[.int .i64 r5.2.2.1, .int .i64 r5.2.2.2]) [.st ⟨b15, 0, none⟩ (.int .i64 r5.2.2.1), .st ⟨b15, 1, none⟩ (.int .i64 r5.2.2.2)] (by kernel_rfl) (by kernel_rfl) (by kernel_rfl) ⟨rfl, rfl, trivial⟩ (by kernel_rfl) ?_
   refine k_nil ?_
   refine k_then ?_
   refine k_seq ?_
   obtain ⟨q16, hq16, h⟩ := bindSome h
   refine k_cut1 [(0, .string x3), (3, .pointer (some ⟨b14, 0, none⟩)), (29, .bool q16)] (blk b14 (.cells #[.slice A7 r5.1.length k8, .slice A11 r5.2.1.length k12] 28 (0, 0)) :: h6 :: h10 :: X) ?_ ?_
   ·clear hq16
    refine k_cond (t := q16) (by kernel_rfl) (fun t17 => ?_) (fun t17 => ?_)
    ·have h := condT h t17
     refine k_seq ?_
     refine k_region ?_
     refine kl_steps 1 [(2, .bool true)] (by kernel_rfl) ?_
     refine k_nil ?_
     refine k_then ?_
     refine k_ret ?_
     refine k_then_ret ?_
     obtain rfl := Option.some.inj h
     refine k_done (v := .bool true) [] [] [] (by kernel_rfl) (by kernel_rfl) trivial ?_
     refine K.drop ?_
     refine K.drop ?_
     refine K.drop ?_
     exact k_end ⟨rfl, rfl⟩
    ·have h := condF h t17
     refine k_skip ?_
     refine k_then ?_
     refine k_seq ?_
     refine k_region ?_
     refine kl_steps 1 [(3, .pointer (some ⟨b14, 0, none⟩)), (31, .string x3)] (by kernel_rfl) ?_
     obtain ⟨r18, hr18, h⟩ := bindSome h
     refine kl_callv (by kernel_rfl) (by kernel_rfl) (by kernel_rfl) (law13_renamed.ok hr18 hG) ⟨(.tail _ (.tail _ (.tail _ hm_G))), trivial⟩ ?_
     refine kl_steps 5 [(3, .pointer (some ⟨b14, 0, none⟩)), (5, .string r18.1), (6, .bool r18.2)] (by kernel_rfl) ?_
     refine k_nil ?_
     refine k_then ?_
     refine k_seq ?_
     refine k_seq ?_
     refine k_region ?_
     refine kl_steps 2 [(3, .pointer (some ⟨b14, 0, none⟩)), (5, .string r18.1), (36, .bool (!r18.2))] (by kernel_rfl) ?_
     refine k_nil ?_
     refine k_then ?_
     refine k_cond (t := !r18.2) (by kernel_rfl) (fun t19 => ?_) (fun t19 => ?_)
     ·have h := condT h t19
      refine k_seq ?_
      refine k_region ?_
      refine kl_steps 1 [(2, .bool true)] (by kernel_rfl) ?_
      refine k_nil ?_
      refine k_then ?_
      refine k_ret ?_
      refine k_then_ret ?_
      obtain rfl := Option.some.inj h
      refine k_done (v := .bool true) [] [] [] (by kernel_rfl) (by kernel_rfl) trivial ?_
      refine K.drop ?_
      refine K.drop ?_
      refine K.drop ?_
      exact k_end ⟨rfl, rfl⟩
     ·have h := condF h t19
      refine k_skip ?_
      refine k_then ?_
      refine k_seq ?_
      refine k_region ?_
      refine kl_steps 1 [(3, .pointer (some ⟨b14, 0, none⟩)), (38, .string r18.1)] (by kernel_rfl) ?_
      obtain ⟨r20, hr20, h⟩ := bindSome h
      refine kl_call (blk b14 (.cells #[.slice A7 r5.1.length k8, .slice A11 r5.2.1.length k12] 28 (0, 0)) :: h6 :: h10 :: X) (by kernel_rfl) (by kernel_rfl) (by kernel_rfl) (check_Check.ok hr20 hG) rfl ⟨(.tail _ (.tail _ (.tail _ hm_G))), trivial⟩ ?_
      rintro _ _ ⟨h21, A22, k23, h25, A26, k27, o24, o28, rfl, rfl⟩
      refine nx_ret2 ?_
      refine kl_steps 3 [(3, .pointer (some ⟨b14, 0, none⟩)), (40, .agg #[.slice A22 r20.1.length k23, .slice A26 r20.2.1.length k27]), (41, .agg #[.int .i64 r20.2.2.1, .int .i64 r20.2.2.2])] (by kernel_rfl) ?_
      refine kl_new (.cells #[.slice none 0 0, .slice none 0 0] 28 (0, 0)) (fun b => .pointer (some ⟨b, 0, none⟩)) (by kernel_rfl) (by kernel_rfl) (fun _ => by kernel_rfl) fun b29 => ?_
      refine kl_new (.cells #[.int .i64 (0 : Int), .int .i64 (0 : Int)] 31 (0, 0)) (fun b => .pointer (some ⟨b, 0, none⟩)) (by kernel_rfl) (by kernel_rfl) (fun _ => by kernel_rfl) fun b30 => ?_
      refine K.mv1 ?_
      refine kl_store (cs' := #[.slice A22 r20.1.length k23, .slice A26 r20.2.1.length k27]) [.st ⟨b29, 0, none⟩ (.slice A22 r20.1.length k23), .st ⟨b29, 1, none⟩ (.slice A26 r20.2.1.length k27)] (by kernel_rfl) (by kernel_rfl) (by kernel_rfl) ⟨rfl, rfl, trivial⟩ (by kernel_rfl) ?_
      refine K.mv1 ?_
      refine kl_store (cs' := #[.int .i64 r20.2.2.1, .int .i64 r20.2.2.2]) [.st ⟨b30, 0, none⟩ (.int .i64 r20.2.2.1), .st ⟨b30, 1, none⟩ (.int .i64 r20.2.2.2)] (by kernel_rfl) (by kernel_rfl) (by kernel_rfl) ⟨rfl, rfl, trivial⟩ (by kernel_rfl) ?_
      refine k_nil ?_
      refine k_then ?_
      refine k_seq ?_
      obtain ⟨q31, hq31, h⟩ := bindSome h
      refine k_cut1 [(3, .pointer (some ⟨b14, 0, none⟩)), (7, .pointer (some ⟨b29, 0, none⟩)), (62, .bool q31)] (blk b29 (.cells #[.slice A22 r20.1.length k23, .slice A26 r20.2.1.length k27] 28 (0, 0)) :: h21 :: h25 :: blk b14 (.cells #[.slice A7 r5.1.length k8, .slice A11 r5.2.1.length k12] 28 (0, 0)) :: h6 :: h10 :: X) ?_ ?_
      ·clear hq31
       refine k_cond (t := q31) (by kernel_rfl) (fun t32 => ?_) (fun t32 => ?_)
       ·have h := condT h t32
        refine k_seq ?_
        refine k_region ?_
        refine kl_steps 1 [(2, .bool false)] (by kernel_rfl) ?_
        refine k_nil ?_
        refine k_then ?_
        refine k_ret ?_
        refine k_then_ret ?_
        obtain rfl := Option.some.inj h
        refine k_done (v := .bool false) [] [] [] (by kernel_rfl) (by kernel_rfl) trivial ?_
        refine K.drop ?_
        refine K.drop ?_
        refine K.drop ?_
        refine K.drop ?_
        refine K.drop ?_
        refine K.drop ?_
        exact k_end ⟨rfl, rfl⟩
       ·have h := condF h t32
        refine k_skip ?_
        refine k_then ?_
        obtain ⟨J33, hJ33, h⟩ := joinSplit h
        refine k_cut (τ := Unit) (fun t => [(3, .pointer (some ⟨b14, 0, none⟩)), (7, .pointer (some ⟨b29, 0, none⟩))]) (fun t => blk b29 (.cells #[.slice A22 r20.1.length k23, .slice A26 r20.2.1.length k27] 28 (0, 0)) :: h21 :: h25 :: blk b14 (.cells #[.slice A7 r5.1.length k8, .slice A11 r5.2.1.length k12] 28 (0, 0)) :: h6 :: h10 :: X) (fun t => J33 () = some r) ?_ ?_
        ·rintro ⟨⟩ h
         subst hJ33
         obtain ⟨J34, hJ34, h⟩ := joinSplit h
         refine k_cut (τ := Unit) (fun t => []) (fun t => X) (fun t => J34 () = some r) ?_ ?_
         ·rintro ⟨⟩ h
          subst hJ34
          refine k_seq ?_
          refine k_region ?_
          refine kl_steps 1 [(2, .bool true)] (by kernel_rfl) ?_
          refine k_nil ?_
          refine k_then ?_
          refine k_ret ?_
          obtain rfl := Option.some.inj h
          refine k_done (v := .bool true) [] [] [] (by kernel_rfl) (by kernel_rfl) trivial ?_
          exact k_end ⟨rfl, rfl⟩
         ·skip
          refine k_seq ?_
          refine k_region ?_
          refine kl_steps 1 [(3, .pointer (some ⟨b14, 0, none⟩)), (7, .pointer (some ⟨b29, 0, none⟩)), (10, .int .i64 (0 : Int))] (by kernel_rfl) ?_
          refine k_nil ?_
          refine k_then ?_
          refine k_block ?_
          refine k_loop (τ := Int) (fun t => [(3, .pointer (some ⟨b14, 0, none⟩)), (7, .pointer (some ⟨b29, 0, none⟩)), (10, .int .i64 t)]) (fun t => blk b29 (.cells #[.slice A22 r20.1.length k23, .slice A26 r20.2.1.length k27] 28 (0, 0)) :: h21 :: h25 :: blk b14 (.cells #[.slice A7 r5.1.length k8, .slice A11 r5.2.1.length k12] 28 (0, 0)) :: h6 :: h10 :: X) (fun m t => law13_CheckRenames.l0 m r5 r20 J34 t = some r) k (0 : Int) h ⟨rfl, rfl, rfl, trivial⟩ rfl ?_
          clear h
          rintro m36 x35 h
          cases m36 with
          | zero => simp [law13_CheckRenames.l0] at h
          | succ m36 =>
           simp only [law13_CheckRenames.l0] at h
           refine k_seq ?_
           refine k_seq ?_
           refine k_region ?_
           refine kl_steps 2 [(3, .pointer (some ⟨b14, 0, none⟩)), (7, .pointer (some ⟨b29, 0, none⟩)), (10, .int .i64 x35), (114, .int .i64 x35), (115, .pointer (some ⟨b14, 1, none⟩))] (by kernel_rfl) ?_
           refine kl_load (v := .slice A11 r5.2.1.length k12) [.val (.slice A11 r5.2.1.length k12)] [.ld ⟨b14, 1, none⟩ (.slice A11 r5.2.1.length k12)] (by kernel_rfl) (by kernel_rfl) (by kernel_rfl) ⟨⟨3, _, _, _, rfl, rfl, rfl⟩, trivial⟩ ?_
           refine kl_steps 2 [(3, .pointer (some ⟨b14, 0, none⟩)), (7, .pointer (some ⟨b29, 0, none⟩)), (10, .int .i64 x35), (118, .bool (decide (x35 < ((r5.2.1.length : Nat) : Int))))] (by kernel_rfl) ?_
           refine k_nil ?_
           refine k_then ?_
           refine k_cond (t := decide (x35 < ((r5.2.1.length : Nat) : Int))) (by kernel_rfl) (fun t37 => ?_) (fun t37 => ?_)
           ·have h := condT h t37
            refine k_skip ?_
            refine k_then ?_
            refine k_seq ?_
            refine k_block ?_
            obtain ⟨q38, hq38, h⟩ := bindSome h
            refine k_cut1 [(3, .pointer (some ⟨b14, 0, none⟩)), (7, .pointer (some ⟨b29, 0, none⟩)), (10, .int .i64 x35), (155, .bool q38)] (blk b29 (.cells #[.slice A22 r20.1.length k23, .slice A26 r20.2.1.length k27] 28 (0, 0)) :: h21 :: h25 :: blk b14 (.cells #[.slice A7 r5.1.length k8, .slice A11 r5.2.1.length k12] 28 (0, 0)) :: h6 :: h10 :: X) ?_ ?_
            ·clear hq38
             refine k_cond (t := q38) (by kernel_rfl) (fun t39 => ?_) (fun t39 => ?_)
             ·have h := condT h t39
              refine k_seq ?_
              refine k_region ?_
              refine kl_steps 1 [(2, .bool false)] (by kernel_rfl) ?_
              refine k_nil ?_
              refine k_then ?_
              refine k_ret ?_
              refine k_blk_ret ?_
              refine k_then_ret ?_
              refine k_then_ret ?_
              refine k_blk_ret ?_
              refine k_then_ret ?_
              obtain rfl := Option.some.inj h
              refine k_done (v := .bool false) [] [] [] (by kernel_rfl) (by kernel_rfl) trivial ?_
              refine K.drop ?_
              refine K.drop ?_
              refine K.drop ?_
              refine K.drop ?_
              refine K.drop ?_
              refine K.drop ?_
              exact k_end ⟨rfl, rfl⟩
             ·have h := condF h t39
              refine k_skip ?_
              refine k_blk ?_
              refine k_then ?_
              refine k_region ?_
              refine kl_steps 3 [(3, .pointer (some ⟨b14, 0, none⟩)), (7, .pointer (some ⟨b29, 0, none⟩)), (10, .int .i64 (IntKind.i64.wrap (x35 + (1 : Int))))] (by kernel_rfl) ?_
              refine k_nil ?_
              refine k_then ?_
              exact k_again m36 (IntKind.i64.wrap (x35 + (1 : Int))) (Nat.lt_succ_self _) h ⟨rfl, rfl, rfl, trivial⟩ rfl
            ·have h := hq38
             clear hq38
             refine k_region_plan [(0, 0), (1, 3), (2, 0), (3, 0), (4, 3), (5, 0), (6, 0), (7, 0), (8, 3), (9, 0), (10, 0), (11, 3), (12, 0), (13, 3), (14, 0), (15, 0), (16, 3), (17, 0), (18, 0), (19, 0), (20, 0), (21, 3), (22, 0), (23, 0), (24, 3), (25, 0), (26, 0), (27, 0), (28, 3), (29, 0)] (fun w => OnAll [blk b29 (.cells #[.slice A22 r20.1.length k23, .slice A26 r20.2.1.length k27] 28 (0, 0)), h25, blk b14 (.cells #[.slice A7 r5.1.length k8, .slice A11 r5.2.1.length k12] 28 (0, 0)), h10] w) (by kernel_rfl) (by kernel_rfl) (fun _ _ d _ _ h => by cases d <;> exact h) (fun w h_ => ⟨h_.sat.on _ (.head _), h_.sat.on _ (.tail _ (.tail _ (.head _))), h_.sat.on _ (.tail _ (.tail _ (.tail _ (.head _)))), h_.sat.on _ (.tail _ (.tail _ (.tail _ (.tail _ (.tail _ (.head _)))))), trivial⟩) ?_
             simp only [planOps, List.filterMap_cons, List.filterMap_nil, List.getElem?_toArray, List.getElem?_cons_zero, List.getElem?_cons_succ, Option.map_some, List.drop_succ_cons, List.drop_zero, List.length_cons, List.length_nil]
             refine kp_steps 1 [(3, .pointer (some ⟨b14, 0, none⟩)), (7, .pointer (some ⟨b29, 0, none⟩)), (10, .int .i64 x35), (121, .pointer (some ⟨b14, 1, none⟩))] (by kernel_rfl) (by kernel_rfl) ?_
             refine kp_loadS (v := .slice A11 r5.2.1.length k12) [blk b29 (.cells #[.slice A22 r20.1.length k23, .slice A26 r20.2.1.length k27] 28 (0, 0)), h25, blk b14 (.cells #[.slice A7 r5.1.length k8, .slice A11 r5.2.1.length k12] 28 (0, 0)), h10] [.val (.slice A11 r5.2.1.length k12)] [.ld ⟨b14, 1, none⟩ (.slice A11 r5.2.1.length k12)] (by kernel_rfl) (by kernel_rfl) (by kernel_rfl) (fun _ h => h) ⟨⟨2, _, _, _, rfl, rfl, rfl⟩, trivial⟩ ?_
             refine kp_steps 1 [(3, .pointer (some ⟨b14, 0, none⟩)), (7, .pointer (some ⟨b29, 0, none⟩)), (10, .int .i64 x35), (122, .slice A11 r5.2.1.length k12), (123, .int .i64 x35)] (by kernel_rfl) (by kernel_rfl) ?_
             obtain ⟨x40, hx40, h⟩ := bindSome h
             refine kp_elemP (T := 9) (kd := .i64) encS_ok rfl (by kernel_rfl) (by kernel_rfl) (by kernel_rfl) (by kernel_rfl) (by kernel_rfl) (by kernel_rfl) hx40 (OwnT.rd o13) fun p41 e42 y43 => ?_
             have e42 : Elem _ p41 [.string x40] := e42
             refine kp_eload1 rfl (by kernel_rfl) (by kernel_rfl) (by kernel_rfl) (by kernel_rfl) e42 (fun w h_ => h_.mem _ (.tail _ (.tail _ (.tail _ (.head _))))) ?_
             refine kp_steps 2 [(3, .pointer (some ⟨b14, 0, none⟩)), (7, .pointer (some ⟨b29, 0, none⟩)), (10, .int .i64 x35), (127, .bool (!(x40.toList == (⟨#[97]⟩ : ByteArray).toList)))] (by kernel_rfl) (by kernel_rfl) ?_
             rcases Bool.eq_false_or_eq_true (!(x40.toList == (⟨#[97]⟩ : ByteArray).toList)) with t44 | t44
             ·have h := condT h t44
              refine K.weak (env' := [(3, .pointer (some ⟨b14, 0, none⟩)), (7, .pointer (some ⟨b29, 0, none⟩)), (10, .int .i64 x35), (127, .bool true)]) ?_ ⟨rfl, rfl, rfl, congrArg (fun b => some (Value.bool b)) t44, trivial⟩
              refine kp_steps 1 [(3, .pointer (some ⟨b14, 0, none⟩)), (7, .pointer (some ⟨b29, 0, none⟩)), (10, .int .i64 x35), (127, .bool true), (128, .pointer (some ⟨b29, 1, none⟩))] (by kernel_rfl) (by kernel_rfl) ?_
              refine kp_loadS (v := .slice A26 r20.2.1.length k27) [blk b29 (.cells #[.slice A22 r20.1.length k23, .slice A26 r20.2.1.length k27] 28 (0, 0)), h25, blk b14 (.cells #[.slice A7 r5.1.length k8, .slice A11 r5.2.1.length k12] 28 (0, 0)), h10] [.val (.slice A26 r20.2.1.length k27)] [.ld ⟨b29, 1, none⟩ (.slice A26 r20.2.1.length k27)] (by kernel_rfl) (by kernel_rfl) (by kernel_rfl) (fun _ h => h) ⟨⟨0, _, _, _, rfl, rfl, rfl⟩, trivial⟩ ?_
              refine kp_steps 1 [(3, .pointer (some ⟨b14, 0, none⟩)), (7, .pointer (some ⟨b29, 0, none⟩)), (10, .int .i64 x35), (127, .bool true), (129, .slice A26 r20.2.1.length k27), (130, .int .i64 x35)] (by kernel_rfl) (by kernel_rfl) ?_
              obtain ⟨x45, hx45, h⟩ := bindSome h
              refine kp_elemP (T := 9) (kd := .i64) encS_ok rfl (by kernel_rfl) (by kernel_rfl) (by kernel_rfl) (by kernel_rfl) (by kernel_rfl) (by kernel_rfl) hx45 (OwnT.rd o28) fun p46 e47 y48 => ?_
              have e47 : Elem _ p46 [.string x45] := e47
              refine kp_eload1 rfl (by kernel_rfl) (by kernel_rfl) (by kernel_rfl) (by kernel_rfl) e47 (fun w h_ => h_.mem _ (.tail _ (.head _))) ?_
              refine kp_steps 1 [(3, .pointer (some ⟨b14, 0, none⟩)), (7, .pointer (some ⟨b29, 0, none⟩)), (10, .int .i64 x35), (127, .bool true), (132, .string x45), (133, .pointer (some ⟨b14, 1, none⟩))] (by kernel_rfl) (by kernel_rfl) ?_
              refine kp_loadS (v := .slice A11 r5.2.1.length k12) [blk b29 (.cells #[.slice A22 r20.1.length k23, .slice A26 r20.2.1.length k27] 28 (0, 0)), h25, blk b14 (.cells #[.slice A7 r5.1.length k8, .slice A11 r5.2.1.length k12] 28 (0, 0)), h10] [.val (.slice A11 r5.2.1.length k12)] [.ld ⟨b14, 1, none⟩ (.slice A11 r5.2.1.length k12)] (by kernel_rfl) (by kernel_rfl) (by kernel_rfl) (fun _ h => h) ⟨⟨2, _, _, _, rfl, rfl, rfl⟩, trivial⟩ ?_
              refine kp_steps 1 [(3, .pointer (some ⟨b14, 0, none⟩)), (7, .pointer (some ⟨b29, 0, none⟩)), (10, .int .i64 x35), (127, .bool true), (132, .string x45), (134, .slice A11 r5.2.1.length k12), (135, .int .i64 x35)] (by kernel_rfl) (by kernel_rfl) ?_
              obtain ⟨x49, hx49, h⟩ := bindSome h
              refine kp_elemP (T := 9) (kd := .i64) encS_ok rfl (by kernel_rfl) (by kernel_rfl) (by kernel_rfl) (by kernel_rfl) (by kernel_rfl) (by kernel_rfl) hx49 (OwnT.rd o13) fun p50 e51 y52 => ?_
              have e51 : Elem _ p50 [.string x49] := e51
              refine kp_eload1 rfl (by kernel_rfl) (by kernel_rfl) (by kernel_rfl) (by kernel_rfl) e51 (fun w h_ => h_.mem _ (.tail _ (.tail _ (.tail _ (.head _))))) ?_
              refine kp_steps 3 [(3, .pointer (some ⟨b14, 0, none⟩)), (7, .pointer (some ⟨b29, 0, none⟩)), (10, .int .i64 x35), (140, .bool (!(x45.toList == x49.toList)))] (by kernel_rfl) (by kernel_rfl) ?_
              rcases Bool.eq_false_or_eq_true (!(x45.toList == x49.toList)) with t53 | t53
              ·have h := condT h t53
               refine K.weak (env' := [(3, .pointer (some ⟨b14, 0, none⟩)), (7, .pointer (some ⟨b29, 0, none⟩)), (10, .int .i64 x35), (140, .bool true)]) ?_ ⟨rfl, rfl, rfl, congrArg (fun b => some (Value.bool b)) t53, trivial⟩
               refine kp_steps 1 [(3, .pointer (some ⟨b14, 0, none⟩)), (7, .pointer (some ⟨b29, 0, none⟩)), (10, .int .i64 x35), (140, .bool true), (141, undef)] (by kernel_rfl) (by kernel_rfl) ?_
               refine kp_skip3 (by kernel_rfl) (by kernel_rfl) ?_
               refine kp_steps 2 [(3, .pointer (some ⟨b14, 0, none⟩)), (7, .pointer (some ⟨b29, 0, none⟩)), (10, .int .i64 x35), (140, .bool true), (144, undef)] (by kernel_rfl) (by kernel_rfl) ?_
               refine kp_skip3 (by kernel_rfl) (by kernel_rfl) ?_
               refine kp_steps 3 [(3, .pointer (some ⟨b14, 0, none⟩)), (7, .pointer (some ⟨b29, 0, none⟩)), (10, .int .i64 x35), (140, .bool true), (147, undef), (148, undef)] (by kernel_rfl) (by kernel_rfl) ?_
               refine kp_skip3 (by kernel_rfl) (by kernel_rfl) ?_
               refine kp_steps 1 [(3, .pointer (some ⟨b14, 0, none⟩)), (7, .pointer (some ⟨b29, 0, none⟩)), (10, .int .i64 x35), (140, .bool true), (147, undef), (149, undef), (150, undef)] (by kernel_rfl) (by kernel_rfl) ?_
               refine kp_done ?_
               refine kl_steps 5 [(3, .pointer (some ⟨b14, 0, none⟩)), (7, .pointer (some ⟨b29, 0, none⟩)), (10, .int .i64 x35), (155, .bool true)] (by kernel_rfl) ?_
               refine k_nil ?_
               refine k_then ?_
               exact k_meet1 ⟨rfl, rfl, rfl, congrArg (fun b => some (Value.bool b)) (Option.some.inj h), trivial⟩
              ·have h := condF h t53
               refine K.weak (env' := [(3, .pointer (some ⟨b14, 0, none⟩)), (7, .pointer (some ⟨b29, 0, none⟩)), (10, .int .i64 x35), (140, .bool false)]) ?_ ⟨rfl, rfl, rfl, congrArg (fun b => some (Value.bool b)) t53, trivial⟩
               refine kp_steps 1 [(3, .pointer (some ⟨b14, 0, none⟩)), (7, .pointer (some ⟨b29, 0, none⟩)), (10, .int .i64 x35), (140, .bool false), (141, .pointer (some ⟨b14, 1, none⟩))] (by kernel_rfl) (by kernel_rfl) ?_
               refine kp_loadS (v := .slice A11 r5.2.1.length k12) [blk b29 (.cells #[.slice A22 r20.1.length k23, .slice A26 r20.2.1.length k27] 28 (0, 0)), h25, blk b14 (.cells #[.slice A7 r5.1.length k8, .slice A11 r5.2.1.length k12] 28 (0, 0)), h10] [.val (.slice A11 r5.2.1.length k12)] [.ld ⟨b14, 1, none⟩ (.slice A11 r5.2.1.length k12)] (by kernel_rfl) (by kernel_rfl) (by kernel_rfl) (fun _ h => h) ⟨⟨2, _, _, _, rfl, rfl, rfl⟩, trivial⟩ ?_
               refine kp_steps 1 [(3, .pointer (some ⟨b14, 0, none⟩)), (7, .pointer (some ⟨b29, 0, none⟩)), (10, .int .i64 x35), (140, .bool false), (142, .slice A11 r5.2.1.length k12), (143, .int .i64 x35)] (by kernel_rfl) (by kernel_rfl) ?_
               obtain ⟨x54, hx54, h⟩ := bindSome h
               refine kp_elemP (T := 9) (kd := .i64) encS_ok rfl (by kernel_rfl) (by kernel_rfl) (by kernel_rfl) (by kernel_rfl) (by kernel_rfl) (by kernel_rfl) hx54 (OwnT.rd o13) fun p55 e56 y57 => ?_
               have e56 : Elem _ p55 [.string x54] := e56
               refine kp_eload1 rfl (by kernel_rfl) (by kernel_rfl) (by kernel_rfl) (by kernel_rfl) e56 (fun w h_ => h_.mem _ (.tail _ (.tail _ (.tail _ (.head _))))) ?_
               refine kp_steps 2 [(3, .pointer (some ⟨b14, 0, none⟩)), (7, .pointer (some ⟨b29, 0, none⟩)), (10, .int .i64 x35), (140, .bool false), (147, .bool (x54.toList == (⟨#[97]⟩ : ByteArray).toList))] (by kernel_rfl) (by kernel_rfl) ?_
               rcases Bool.eq_false_or_eq_true ((x54.toList == (⟨#[97]⟩ : ByteArray).toList)) with t58 | t58
               ·have h := condT h t58
                refine K.weak (env' := [(3, .pointer (some ⟨b14, 0, none⟩)), (7, .pointer (some ⟨b29, 0, none⟩)), (10, .int .i64 x35), (140, .bool false), (147, .bool true)]) ?_ ⟨rfl, rfl, rfl, rfl, congrArg (fun b => some (Value.bool b)) t58, trivial⟩
                refine kp_steps 1 [(3, .pointer (some ⟨b14, 0, none⟩)), (7, .pointer (some ⟨b29, 0, none⟩)), (10, .int .i64 x35), (140, .bool false), (147, .bool true), (148, .pointer (some ⟨b29, 1, none⟩))] (by kernel_rfl) (by kernel_rfl) ?_
                refine kp_loadS (v := .slice A26 r20.2.1.length k27) [blk b29 (.cells #[.slice A22 r20.1.length k23, .slice A26 r20.2.1.length k27] 28 (0, 0)), h25, blk b14 (.cells #[.slice A7 r5.1.length k8, .slice A11 r5.2.1.length k12] 28 (0, 0)), h10] [.val (.slice A26 r20.2.1.length k27)] [.ld ⟨b29, 1, none⟩ (.slice A26 r20.2.1.length k27)] (by kernel_rfl) (by kernel_rfl) (by kernel_rfl) (fun _ h => h) ⟨⟨0, _, _, _, rfl, rfl, rfl⟩, trivial⟩ ?_
                refine kp_steps 1 [(3, .pointer (some ⟨b14, 0, none⟩)), (7, .pointer (some ⟨b29, 0, none⟩)), (10, .int .i64 x35), (140, .bool false), (147, .bool true), (149, .slice A26 r20.2.1.length k27), (150, .int .i64 x35)] (by kernel_rfl) (by kernel_rfl) ?_
                refine kp_done ?_
                obtain ⟨x59, hx59, h⟩ := bindSome h
                refine kl_elemP (T := 9) (kd := .i64) encS_ok rfl (by kernel_rfl) (by kernel_rfl) (by kernel_rfl) (by kernel_rfl) (by kernel_rfl) (by kernel_rfl) hx59 (OwnT.rd o28) fun p60 e61 y62 => ?_
                have e61 : Elem _ p60 [.string x59] := e61
                refine kl_eload1 rfl (by kernel_rfl) (by kernel_rfl) (by kernel_rfl) (by kernel_rfl) e61 (.tail _ (.tail _ (.head _))) ?_
                refine kl_steps 3 [(3, .pointer (some ⟨b14, 0, none⟩)), (7, .pointer (some ⟨b29, 0, none⟩)), (10, .int .i64 x35), (155, .bool (!(x59.toList == (⟨#[122, 122, 122]⟩ : ByteArray).toList)))] (by kernel_rfl) ?_
                refine k_nil ?_
                refine k_then ?_
                exact k_meet1 ⟨rfl, rfl, rfl, congrArg (fun b => some (Value.bool b)) (Option.some.inj h), trivial⟩
               ·have h := condF h t58
                refine K.weak (env' := [(3, .pointer (some ⟨b14, 0, none⟩)), (7, .pointer (some ⟨b29, 0, none⟩)), (10, .int .i64 x35), (140, .bool false), (147, .bool false)]) ?_ ⟨rfl, rfl, rfl, rfl, congrArg (fun b => some (Value.bool b)) t58, trivial⟩
                refine kp_steps 1 [(3, .pointer (some ⟨b14, 0, none⟩)), (7, .pointer (some ⟨b29, 0, none⟩)), (10, .int .i64 x35), (140, .bool false), (147, .bool false), (148, undef)] (by kernel_rfl) (by kernel_rfl) ?_
                refine kp_skip3 (by kernel_rfl) (by kernel_rfl) ?_
                refine kp_steps 1 [(3, .pointer (some ⟨b14, 0, none⟩)), (7, .pointer (some ⟨b29, 0, none⟩)), (10, .int .i64 x35), (140, .bool false), (147, .bool false), (149, undef), (150, undef)] (by kernel_rfl) (by kernel_rfl) ?_
                refine kp_done ?_
                refine kl_steps 5 [(3, .pointer (some ⟨b14, 0, none⟩)), (7, .pointer (some ⟨b29, 0, none⟩)), (10, .int .i64 x35), (155, .bool false)] (by kernel_rfl) ?_
                refine k_nil ?_
                refine k_then ?_
                exact k_meet1 ⟨rfl, rfl, rfl, congrArg (fun b => some (Value.bool b)) (Option.some.inj h), trivial⟩
             ·have h := condF h t44
              refine K.weak (env' := [(3, .pointer (some ⟨b14, 0, none⟩)), (7, .pointer (some ⟨b29, 0, none⟩)), (10, .int .i64 x35), (127, .bool false)]) ?_ ⟨rfl, rfl, rfl, congrArg (fun b => some (Value.bool b)) t44, trivial⟩
              refine kp_steps 1 [(3, .pointer (some ⟨b14, 0, none⟩)), (7, .pointer (some ⟨b29, 0, none⟩)), (10, .int .i64 x35), (127, .bool false), (128, undef)] (by kernel_rfl) (by kernel_rfl) ?_
              refine kp_skip3 (by kernel_rfl) (by kernel_rfl) ?_
              refine kp_steps 2 [(3, .pointer (some ⟨b14, 0, none⟩)), (7, .pointer (some ⟨b29, 0, none⟩)), (10, .int .i64 x35), (127, .bool false), (131, undef)] (by kernel_rfl) (by kernel_rfl) ?_
              refine kp_skip3 (by kernel_rfl) (by kernel_rfl) ?_
              refine kp_steps 1 [(3, .pointer (some ⟨b14, 0, none⟩)), (7, .pointer (some ⟨b29, 0, none⟩)), (10, .int .i64 x35), (127, .bool false), (132, undef), (133, undef)] (by kernel_rfl) (by kernel_rfl) ?_
              refine kp_skip3 (by kernel_rfl) (by kernel_rfl) ?_
              refine kp_steps 2 [(3, .pointer (some ⟨b14, 0, none⟩)), (7, .pointer (some ⟨b29, 0, none⟩)), (10, .int .i64 x35), (127, .bool false), (132, undef), (136, undef)] (by kernel_rfl) (by kernel_rfl) ?_
              refine kp_skip3 (by kernel_rfl) (by kernel_rfl) ?_
              refine kp_steps 4 [(3, .pointer (some ⟨b14, 0, none⟩)), (7, .pointer (some ⟨b29, 0, none⟩)), (10, .int .i64 x35), (140, .bool false), (141, .pointer (some ⟨b14, 1, none⟩))] (by kernel_rfl) (by kernel_rfl) ?_
              refine kp_loadS (v := .slice A11 r5.2.1.length k12) [blk b29 (.cells #[.slice A22 r20.1.length k23, .slice A26 r20.2.1.length k27] 28 (0, 0)), h25, blk b14 (.cells #[.slice A7 r5.1.length k8, .slice A11 r5.2.1.length k12] 28 (0, 0)), h10] [.val (.slice A11 r5.2.1.length k12)] [.ld ⟨b14, 1, none⟩ (.slice A11 r5.2.1.length k12)] (by kernel_rfl) (by kernel_rfl) (by kernel_rfl) (fun _ h => h) ⟨⟨2, _, _, _, rfl, rfl, rfl⟩, trivial⟩ ?_
              refine kp_steps 1 [(3, .pointer (some ⟨b14, 0, none⟩)), (7, .pointer (some ⟨b29, 0, none⟩)), (10, .int .i64 x35), (140, .bool false), (142, .slice A11 r5.2.1.length k12), (143, .int .i64 x35)] (by kernel_rfl) (by kernel_rfl) ?_
              obtain ⟨x63, hx63, h⟩ := bindSome h
              refine kp_elemP (T := 9) (kd := .i64) encS_ok rfl (by kernel_rfl) (by kernel_rfl) (by kernel_rfl) (by kernel_rfl) (by kernel_rfl) (by kernel_rfl) hx63 (OwnT.rd o13) fun p64 e65 y66 => ?_
              have e65 : Elem _ p64 [.string x63] := e65
              refine kp_eload1 rfl (by kernel_rfl) (by kernel_rfl) (by kernel_rfl) (by kernel_rfl) e65 (fun w h_ => h_.mem _ (.tail _ (.tail _ (.tail _ (.head _))))) ?_
              refine kp_steps 2 [(3, .pointer (some ⟨b14, 0, none⟩)), (7, .pointer (some ⟨b29, 0, none⟩)), (10, .int .i64 x35), (140, .bool false), (147, .bool (x63.toList == (⟨#[97]⟩ : ByteArray).toList))] (by kernel_rfl) (by kernel_rfl) ?_
              rcases Bool.eq_false_or_eq_true ((x63.toList == (⟨#[97]⟩ : ByteArray).toList)) with t67 | t67
              ·have h := condT h t67
               refine K.weak (env' := [(3, .pointer (some ⟨b14, 0, none⟩)), (7, .pointer (some ⟨b29, 0, none⟩)), (10, .int .i64 x35), (140, .bool false), (147, .bool true)]) ?_ ⟨rfl, rfl, rfl, rfl, congrArg (fun b => some (Value.bool b)) t67, trivial⟩
               refine kp_steps 1 [(3, .pointer (some ⟨b14, 0, none⟩)), (7, .pointer (some ⟨b29, 0, none⟩)), (10, .int .i64 x35), (140, .bool false), (147, .bool true), (148, .pointer (some ⟨b29, 1, none⟩))] (by kernel_rfl) (by kernel_rfl) ?_
               refine kp_loadS (v := .slice A26 r20.2.1.length k27) [blk b29 (.cells #[.slice A22 r20.1.length k23, .slice A26 r20.2.1.length k27] 28 (0, 0)), h25, blk b14 (.cells #[.slice A7 r5.1.length k8, .slice A11 r5.2.1.length k12] 28 (0, 0)), h10] [.val (.slice A26 r20.2.1.length k27)] [.ld ⟨b29, 1, none⟩ (.slice A26 r20.2.1.length k27)] (by kernel_rfl) (by kernel_rfl) (by kernel_rfl) (fun _ h => h) ⟨⟨0, _, _, _, rfl, rfl, rfl⟩, trivial⟩ ?_
               refine kp_steps 1 [(3, .pointer (some ⟨b14, 0, none⟩)), (7, .pointer (some ⟨b29, 0, none⟩)), (10, .int .i64 x35), (140, .bool false), (147, .bool true), (149, .slice A26 r20.2.1.length k27), (150, .int .i64 x35)] (by kernel_rfl) (by kernel_rfl) ?_
               refine kp_done ?_
               obtain ⟨x68, hx68, h⟩ := bindSome h
               refine kl_elemP (T := 9) (kd := .i64) encS_ok rfl (by kernel_rfl) (by kernel_rfl) (by kernel_rfl) (by kernel_rfl) (by kernel_rfl) (by kernel_rfl) hx68 (OwnT.rd o28) fun p69 e70 y71 => ?_
               have e70 : Elem _ p69 [.string x68] := e70
               refine kl_eload1 rfl (by kernel_rfl) (by kernel_rfl) (by kernel_rfl) (by kernel_rfl) e70 (.tail _ (.tail _ (.head _))) ?_
               refine kl_steps 3 [(3, .pointer (some ⟨b14, 0, none⟩)), (7, .pointer (some ⟨b29, 0, none⟩)), (10, .int .i64 x35), (155, .bool (!(x68.toList == (⟨#[122, 122, 122]⟩ : ByteArray).toList)))] (by kernel_rfl) ?_
               refine k_nil ?_
               refine k_then ?_
               exact k_meet1 ⟨rfl, rfl, rfl, congrArg (fun b => some (Value.bool b)) (Option.some.inj h), trivial⟩
              ·have h := condF h t67
               refine K.weak (env' := [(3, .pointer (some ⟨b14, 0, none⟩)), (7, .pointer (some ⟨b29, 0, none⟩)), (10, .int .i64 x35), (140, .bool false), (147, .bool false)]) ?_ ⟨rfl, rfl, rfl, rfl, congrArg (fun b => some (Value.bool b)) t67, trivial⟩
               refine kp_steps 1 [(3, .pointer (some ⟨b14, 0, none⟩)), (7, .pointer (some ⟨b29, 0, none⟩)), (10, .int .i64 x35), (140, .bool false), (147, .bool false), (148, undef)] (by kernel_rfl) (by kernel_rfl) ?_
               refine kp_skip3 (by kernel_rfl) (by kernel_rfl) ?_
               refine kp_steps 1 [(3, .pointer (some ⟨b14, 0, none⟩)), (7, .pointer (some ⟨b29, 0, none⟩)), (10, .int .i64 x35), (140, .bool false), (147, .bool false), (149, undef), (150, undef)] (by kernel_rfl) (by kernel_rfl) ?_
               refine kp_done ?_
               refine kl_steps 5 [(3, .pointer (some ⟨b14, 0, none⟩)), (7, .pointer (some ⟨b29, 0, none⟩)), (10, .int .i64 x35), (155, .bool false)] (by kernel_rfl) ?_
               refine k_nil ?_
               refine k_then ?_
               exact k_meet1 ⟨rfl, rfl, rfl, congrArg (fun b => some (Value.bool b)) (Option.some.inj h), trivial⟩
           ·have h := condF h t37
            refine k_exit ?_
            refine k_then_exit ?_
            refine k_then_exit ?_
            refine k_here ?_
            refine k_then ?_
            refine K.drop ?_
            refine K.drop ?_
            refine K.drop ?_
            refine K.drop ?_
            refine K.drop ?_
            refine K.drop ?_
            exact k_meet () h trivial rfl
        ·skip
         refine k_seq ?_
         refine k_region ?_
         refine kl_steps 1 [(3, .pointer (some ⟨b14, 0, none⟩)), (7, .pointer (some ⟨b29, 0, none⟩)), (9, .int .i64 (0 : Int))] (by kernel_rfl) ?_
         refine k_nil ?_
         refine k_then ?_
         refine k_block ?_
         refine k_loop (τ := Int) (fun t => [(3, .pointer (some ⟨b14, 0, none⟩)), (7, .pointer (some ⟨b29, 0, none⟩)), (9, .int .i64 t)]) (fun t => blk b29 (.cells #[.slice A22 r20.1.length k23, .slice A26 r20.2.1.length k27] 28 (0, 0)) :: h21 :: h25 :: blk b14 (.cells #[.slice A7 r5.1.length k8, .slice A11 r5.2.1.length k12] 28 (0, 0)) :: h6 :: h10 :: X) (fun m t => law13_CheckRenames.l1 m r5 r20 J33 t = some r) k (0 : Int) h ⟨rfl, rfl, rfl, trivial⟩ rfl ?_
         clear h
         rintro m73 x72 h
         cases m73 with
         | zero => simp [law13_CheckRenames.l1] at h
         | succ m73 =>
          simp only [law13_CheckRenames.l1] at h
          refine k_seq ?_
          refine k_seq ?_
          refine k_region ?_
          refine kl_steps 2 [(3, .pointer (some ⟨b14, 0, none⟩)), (7, .pointer (some ⟨b29, 0, none⟩)), (9, .int .i64 x72), (63, .int .i64 x72), (64, .pointer (some ⟨b14, 0, none⟩))] (by kernel_rfl) ?_
          refine kl_load (v := .slice A7 r5.1.length k8) [.val (.slice A7 r5.1.length k8)] [.ld ⟨b14, 0, none⟩ (.slice A7 r5.1.length k8)] (by kernel_rfl) (by kernel_rfl) (by kernel_rfl) ⟨⟨3, _, _, _, rfl, rfl, rfl⟩, trivial⟩ ?_
          refine kl_steps 2 [(3, .pointer (some ⟨b14, 0, none⟩)), (7, .pointer (some ⟨b29, 0, none⟩)), (9, .int .i64 x72), (67, .bool (decide (x72 < ((r5.1.length : Nat) : Int))))] (by kernel_rfl) ?_
          refine k_nil ?_
          refine k_then ?_
          refine k_cond (t := decide (x72 < ((r5.1.length : Nat) : Int))) (by kernel_rfl) (fun t74 => ?_) (fun t74 => ?_)
          ·have h := condT h t74
           refine k_skip ?_
           refine k_then ?_
           refine k_seq ?_
           refine k_block ?_
           obtain ⟨q75, hq75, h⟩ := bindSome h
           refine k_cut1 [(3, .pointer (some ⟨b14, 0, none⟩)), (7, .pointer (some ⟨b29, 0, none⟩)), (9, .int .i64 x72), (113, .bool q75)] (blk b29 (.cells #[.slice A22 r20.1.length k23, .slice A26 r20.2.1.length k27] 28 (0, 0)) :: h21 :: h25 :: blk b14 (.cells #[.slice A7 r5.1.length k8, .slice A11 r5.2.1.length k12] 28 (0, 0)) :: h6 :: h10 :: X) ?_ ?_
           ·clear hq75
            refine k_cond (t := q75) (by kernel_rfl) (fun t76 => ?_) (fun t76 => ?_)
            ·have h := condT h t76
             refine k_seq ?_
             refine k_region ?_
             refine kl_steps 1 [(2, .bool false)] (by kernel_rfl) ?_
             refine k_nil ?_
             refine k_then ?_
             refine k_ret ?_
             refine k_blk_ret ?_
             refine k_then_ret ?_
             refine k_then_ret ?_
             refine k_blk_ret ?_
             refine k_then_ret ?_
             obtain rfl := Option.some.inj h
             refine k_done (v := .bool false) [] [] [] (by kernel_rfl) (by kernel_rfl) trivial ?_
             refine K.drop ?_
             refine K.drop ?_
             refine K.drop ?_
             refine K.drop ?_
             refine K.drop ?_
             refine K.drop ?_
             exact k_end ⟨rfl, rfl⟩
            ·have h := condF h t76
             refine k_skip ?_
             refine k_blk ?_
             refine k_then ?_
             refine k_region ?_
             refine kl_steps 3 [(3, .pointer (some ⟨b14, 0, none⟩)), (7, .pointer (some ⟨b29, 0, none⟩)), (9, .int .i64 (IntKind.i64.wrap (x72 + (1 : Int))))] (by kernel_rfl) ?_
             refine k_nil ?_
             refine k_then ?_
             exact k_again m73 (IntKind.i64.wrap (x72 + (1 : Int))) (Nat.lt_succ_self _) h ⟨rfl, rfl, rfl, trivial⟩ rfl
           ·have h := hq75
            clear hq75
            refine k_region_plan [(0, 0), (1, 3), (2, 0), (3, 0), (4, 0), (5, 3), (6, 0), (7, 3), (8, 0), (9, 0), (10, 0), (11, 3), (12, 0), (13, 0), (14, 0), (15, 3), (16, 0), (17, 0), (18, 0), (19, 3), (20, 0), (21, 3), (22, 0), (23, 0), (24, 0), (25, 3), (26, 0), (27, 0), (28, 0), (29, 0), (30, 3), (31, 0), (32, 0), (33, 0), (34, 3), (35, 0), (36, 3), (37, 0), (38, 0), (39, 0), (40, 3)] (fun w => OnAll [blk b29 (.cells #[.slice A22 r20.1.length k23, .slice A26 r20.2.1.length k27] 28 (0, 0)), h21, blk b14 (.cells #[.slice A7 r5.1.length k8, .slice A11 r5.2.1.length k12] 28 (0, 0)), h6] w) (by kernel_rfl) (by kernel_rfl) (fun _ _ d _ _ h => by cases d <;> exact h) (fun w h_ => ⟨h_.sat.on _ (.head _), h_.sat.on _ (.tail _ (.head _)), h_.sat.on _ (.tail _ (.tail _ (.tail _ (.head _)))), h_.sat.on _ (.tail _ (.tail _ (.tail _ (.tail _ (.head _))))), trivial⟩) ?_
            simp only [planOps, List.filterMap_cons, List.filterMap_nil, List.getElem?_toArray, List.getElem?_cons_zero, List.getElem?_cons_succ, Option.map_some, List.drop_succ_cons, List.drop_zero, List.length_cons, List.length_nil]
            refine kp_steps 1 [(3, .pointer (some ⟨b14, 0, none⟩)), (7, .pointer (some ⟨b29, 0, none⟩)), (9, .int .i64 x72), (70, .pointer (some ⟨b29, 0, none⟩))] (by kernel_rfl) (by kernel_rfl) ?_
            refine kp_loadS (v := .slice A22 r20.1.length k23) [blk b29 (.cells #[.slice A22 r20.1.length k23, .slice A26 r20.2.1.length k27] 28 (0, 0)), h21, blk b14 (.cells #[.slice A7 r5.1.length k8, .slice A11 r5.2.1.length k12] 28 (0, 0)), h6] [.val (.slice A22 r20.1.length k23)] [.ld ⟨b29, 0, none⟩ (.slice A22 r20.1.length k23)] (by kernel_rfl) (by kernel_rfl) (by kernel_rfl) (fun _ h => h) ⟨⟨0, _, _, _, rfl, rfl, rfl⟩, trivial⟩ ?_
            refine kp_steps 1 [(3, .pointer (some ⟨b14, 0, none⟩)), (7, .pointer (some ⟨b29, 0, none⟩)), (9, .int .i64 x72), (71, .slice A22 r20.1.length k23), (72, .int .i64 x72)] (by kernel_rfl) (by kernel_rfl) ?_
            obtain ⟨x77, hx77, h⟩ := bindSome h
            refine kp_elemR (T := 42) (kd := .i64) (R := rs42) rfl (by kernel_rfl) (by kernel_rfl) (by kernel_rfl) (by kernel_rfl) (by kernel_rfl) (by kernel_rfl) hx77 (OwnR.rd o24) fun p78 u81 q82 e79 y80 => ?_
            obtain ⟨A83, k84, rfl, o85⟩ := rs42_r q82
            refine kp_efieldP (off := 3) rfl (by kernel_rfl) (by kernel_rfl) (by kernel_rfl) (by kernel_rfl) e79 y80 fun p86 e87 y88 => ?_
            have e87 : Elem _ p86 [.int .i64 x77.2.2.2.1, .slice A83 x77.2.2.2.2.length k84] := e87
            refine kp_eload1 rfl (by kernel_rfl) (by kernel_rfl) (by kernel_rfl) (by kernel_rfl) e87 (fun w h_ => h_.mem _ (.tail _ (.head _))) ?_
            refine kp_steps 1 [(3, .pointer (some ⟨b14, 0, none⟩)), (7, .pointer (some ⟨b29, 0, none⟩)), (9, .int .i64 x72), (75, .int .i64 x77.2.2.2.1), (76, .pointer (some ⟨b14, 0, none⟩))] (by kernel_rfl) (by kernel_rfl) ?_
            refine kp_loadS (v := .slice A7 r5.1.length k8) [blk b29 (.cells #[.slice A22 r20.1.length k23, .slice A26 r20.2.1.length k27] 28 (0, 0)), h21, blk b14 (.cells #[.slice A7 r5.1.length k8, .slice A11 r5.2.1.length k12] 28 (0, 0)), h6] [.val (.slice A7 r5.1.length k8)] [.ld ⟨b14, 0, none⟩ (.slice A7 r5.1.length k8)] (by kernel_rfl) (by kernel_rfl) (by kernel_rfl) (fun _ h => h) ⟨⟨2, _, _, _, rfl, rfl, rfl⟩, trivial⟩ ?_
            refine kp_steps 1 [(3, .pointer (some ⟨b14, 0, none⟩)), (7, .pointer (some ⟨b29, 0, none⟩)), (9, .int .i64 x72), (75, .int .i64 x77.2.2.2.1), (77, .slice A7 r5.1.length k8), (78, .int .i64 x72)] (by kernel_rfl) (by kernel_rfl) ?_
            obtain ⟨x89, hx89, h⟩ := bindSome h
            refine kp_elemR (T := 42) (kd := .i64) (R := rs42) rfl (by kernel_rfl) (by kernel_rfl) (by kernel_rfl) (by kernel_rfl) (by kernel_rfl) (by kernel_rfl) hx89 (OwnR.rd o9) fun p90 u93 q94 e91 y92 => ?_
            obtain ⟨A95, k96, rfl, o97⟩ := rs42_r q94
            refine kp_efieldP (off := 3) rfl (by kernel_rfl) (by kernel_rfl) (by kernel_rfl) (by kernel_rfl) e91 y92 fun p98 e99 y100 => ?_
            have e99 : Elem _ p98 [.int .i64 x89.2.2.2.1, .slice A95 x89.2.2.2.2.length k96] := e99
            refine kp_eload1 rfl (by kernel_rfl) (by kernel_rfl) (by kernel_rfl) (by kernel_rfl) e99 (fun w h_ => h_.mem _ (.tail _ (.tail _ (.tail _ (.head _))))) ?_
            refine kp_steps 2 [(3, .pointer (some ⟨b14, 0, none⟩)), (7, .pointer (some ⟨b29, 0, none⟩)), (9, .int .i64 x72), (83, .bool (x77.2.2.2.1 != x89.2.2.2.1))] (by kernel_rfl) (by kernel_rfl) ?_
            rcases Bool.eq_false_or_eq_true ((x77.2.2.2.1 != x89.2.2.2.1)) with t101 | t101
            ·have h := condT h t101
             refine K.weak (env' := [(3, .pointer (some ⟨b14, 0, none⟩)), (7, .pointer (some ⟨b29, 0, none⟩)), (9, .int .i64 x72), (83, .bool true)]) ?_ ⟨rfl, rfl, rfl, congrArg (fun b => some (Value.bool b)) t101, trivial⟩
             refine kp_steps 1 [(3, .pointer (some ⟨b14, 0, none⟩)), (7, .pointer (some ⟨b29, 0, none⟩)), (9, .int .i64 x72), (83, .bool true), (84, undef)] (by kernel_rfl) (by kernel_rfl) ?_
             refine kp_skip3 (by kernel_rfl) (by kernel_rfl) ?_
             refine kp_steps 3 [(3, .pointer (some ⟨b14, 0, none⟩)), (7, .pointer (some ⟨b29, 0, none⟩)), (9, .int .i64 x72), (83, .bool true), (88, undef)] (by kernel_rfl) (by kernel_rfl) ?_
             refine kp_skip3 (by kernel_rfl) (by kernel_rfl) ?_
             refine kp_steps 1 [(3, .pointer (some ⟨b14, 0, none⟩)), (7, .pointer (some ⟨b29, 0, none⟩)), (9, .int .i64 x72), (83, .bool true), (89, undef), (90, undef)] (by kernel_rfl) (by kernel_rfl) ?_
             refine kp_skip3 (by kernel_rfl) (by kernel_rfl) ?_
             refine kp_steps 3 [(3, .pointer (some ⟨b14, 0, none⟩)), (7, .pointer (some ⟨b29, 0, none⟩)), (9, .int .i64 x72), (83, .bool true), (89, undef), (94, undef)] (by kernel_rfl) (by kernel_rfl) ?_
             refine kp_skip3 (by kernel_rfl) (by kernel_rfl) ?_
             refine kp_steps 4 [(3, .pointer (some ⟨b14, 0, none⟩)), (7, .pointer (some ⟨b29, 0, none⟩)), (9, .int .i64 x72), (98, .bool true), (99, undef)] (by kernel_rfl) (by kernel_rfl) ?_
             refine kp_skip3 (by kernel_rfl) (by kernel_rfl) ?_
             refine kp_steps 3 [(3, .pointer (some ⟨b14, 0, none⟩)), (7, .pointer (some ⟨b29, 0, none⟩)), (9, .int .i64 x72), (98, .bool true), (103, undef)] (by kernel_rfl) (by kernel_rfl) ?_
             refine kp_skip3 (by kernel_rfl) (by kernel_rfl) ?_
             refine kp_steps 1 [(3, .pointer (some ⟨b14, 0, none⟩)), (7, .pointer (some ⟨b29, 0, none⟩)), (9, .int .i64 x72), (98, .bool true), (104, undef), (105, undef)] (by kernel_rfl) (by kernel_rfl) ?_
             refine kp_skip3 (by kernel_rfl) (by kernel_rfl) ?_
             refine kp_steps 3 [(3, .pointer (some ⟨b14, 0, none⟩)), (7, .pointer (some ⟨b29, 0, none⟩)), (9, .int .i64 x72), (98, .bool true), (104, undef), (109, undef)] (by kernel_rfl) (by kernel_rfl) ?_
             refine kp_skip3 (by kernel_rfl) (by kernel_rfl) ?_
             refine kp_done ?_
             refine kl_steps 3 [(3, .pointer (some ⟨b14, 0, none⟩)), (7, .pointer (some ⟨b29, 0, none⟩)), (9, .int .i64 x72), (113, .bool true)] (by kernel_rfl) ?_
             refine k_nil ?_
             refine k_then ?_
             exact k_meet1 ⟨rfl, rfl, rfl, congrArg (fun b => some (Value.bool b)) (Option.some.inj h), trivial⟩
            ·have h := condF h t101
             refine K.weak (env' := [(3, .pointer (some ⟨b14, 0, none⟩)), (7, .pointer (some ⟨b29, 0, none⟩)), (9, .int .i64 x72), (83, .bool false)]) ?_ ⟨rfl, rfl, rfl, congrArg (fun b => some (Value.bool b)) t101, trivial⟩
             refine kp_steps 1 [(3, .pointer (some ⟨b14, 0, none⟩)), (7, .pointer (some ⟨b29, 0, none⟩)), (9, .int .i64 x72), (83, .bool false), (84, .pointer (some ⟨b29, 0, none⟩))] (by kernel_rfl) (by kernel_rfl) ?_
             refine kp_loadS (v := .slice A22 r20.1.length k23) [blk b29 (.cells #[.slice A22 r20.1.length k23, .slice A26 r20.2.1.length k27] 28 (0, 0)), h21, blk b14 (.cells #[.slice A7 r5.1.length k8, .slice A11 r5.2.1.length k12] 28 (0, 0)), h6] [.val (.slice A22 r20.1.length k23)] [.ld ⟨b29, 0, none⟩ (.slice A22 r20.1.length k23)] (by kernel_rfl) (by kernel_rfl) (by kernel_rfl) (fun _ h => h) ⟨⟨0, _, _, _, rfl, rfl, rfl⟩, trivial⟩ ?_
             refine kp_steps 1 [(3, .pointer (some ⟨b14, 0, none⟩)), (7, .pointer (some ⟨b29, 0, none⟩)), (9, .int .i64 x72), (83, .bool false), (85, .slice A22 r20.1.length k23), (86, .int .i64 x72)] (by kernel_rfl) (by kernel_rfl) ?_
             obtain ⟨x102, hx102, h⟩ := bindSome h
             refine kp_elemR (T := 42) (kd := .i64) (R := rs42) rfl (by kernel_rfl) (by kernel_rfl) (by kernel_rfl) (by kernel_rfl) (by kernel_rfl) (by kernel_rfl) hx102 (OwnR.rd o24) fun p103 u106 q107 e104 y105 => ?_
             obtain ⟨A108, k109, rfl, o110⟩ := rs42_r q107
             refine kp_efieldP (off := 2) rfl (by kernel_rfl) (by kernel_rfl) (by kernel_rfl) (by kernel_rfl) e104 y105 fun p111 e112 y113 => ?_
             have e112 : Elem _ p111 [.int .i64 x102.2.2.1, .int .i64 x102.2.2.2.1, .slice A108 x102.2.2.2.2.length k109] := e112
             refine kp_eload1 rfl (by kernel_rfl) (by kernel_rfl) (by kernel_rfl) (by kernel_rfl) e112 (fun w h_ => h_.mem _ (.tail _ (.head _))) ?_
             refine kp_steps 1 [(3, .pointer (some ⟨b14, 0, none⟩)), (7, .pointer (some ⟨b29, 0, none⟩)), (9, .int .i64 x72), (83, .bool false), (89, .int .i64 x102.2.2.1), (90, .pointer (some ⟨b14, 0, none⟩))] (by kernel_rfl) (by kernel_rfl) ?_
             refine kp_loadS (v := .slice A7 r5.1.length k8) [blk b29 (.cells #[.slice A22 r20.1.length k23, .slice A26 r20.2.1.length k27] 28 (0, 0)), h21, blk b14 (.cells #[.slice A7 r5.1.length k8, .slice A11 r5.2.1.length k12] 28 (0, 0)), h6] [.val (.slice A7 r5.1.length k8)] [.ld ⟨b14, 0, none⟩ (.slice A7 r5.1.length k8)] (by kernel_rfl) (by kernel_rfl) (by kernel_rfl) (fun _ h => h) ⟨⟨2, _, _, _, rfl, rfl, rfl⟩, trivial⟩ ?_
             refine kp_steps 1 [(3, .pointer (some ⟨b14, 0, none⟩)), (7, .pointer (some ⟨b29, 0, none⟩)), (9, .int .i64 x72), (83, .bool false), (89, .int .i64 x102.2.2.1), (91, .slice A7 r5.1.length k8), (92, .int .i64 x72)] (by kernel_rfl) (by kernel_rfl) ?_
             obtain ⟨x114, hx114, h⟩ := bindSome h
             refine kp_elemR (T := 42) (kd := .i64) (R := rs42) rfl (by kernel_rfl) (by kernel_rfl) (by kernel_rfl) (by kernel_rfl) (by kernel_rfl) (by kernel_rfl) hx114 (OwnR.rd o9) fun p115 u118 q119 e116 y117 => ?_
             obtain ⟨A120, k121, rfl, o122⟩ := rs42_r q119
             refine kp_efieldP (off := 2) rfl (by kernel_rfl) (by kernel_rfl) (by kernel_rfl) (by kernel_rfl) e116 y117 fun p123 e124 y125 => ?_
             have e124 : Elem _ p123 [.int .i64 x114.2.2.1, .int .i64 x114.2.2.2.1, .slice A120 x114.2.2.2.2.length k121] := e124
             refine kp_eload1 rfl (by kernel_rfl) (by kernel_rfl) (by kernel_rfl) (by kernel_rfl) e124 (fun w h_ => h_.mem _ (.tail _ (.tail _ (.tail _ (.head _))))) ?_
             refine kp_steps 3 [(3, .pointer (some ⟨b14, 0, none⟩)), (7, .pointer (some ⟨b29, 0, none⟩)), (9, .int .i64 x72), (98, .bool (x102.2.2.1 != x114.2.2.1))] (by kernel_rfl) (by kernel_rfl) ?_
             rcases Bool.eq_false_or_eq_true ((x102.2.2.1 != x114.2.2.1)) with t126 | t126
             ·have h := condT h t126
              refine K.weak (env' := [(3, .pointer (some ⟨b14, 0, none⟩)), (7, .pointer (some ⟨b29, 0, none⟩)), (9, .int .i64 x72), (98, .bool true)]) ?_ ⟨rfl, rfl, rfl, congrArg (fun b => some (Value.bool b)) t126, trivial⟩
              refine kp_steps 1 [(3, .pointer (some ⟨b14, 0, none⟩)), (7, .pointer (some ⟨b29, 0, none⟩)), (9, .int .i64 x72), (98, .bool true), (99, undef)] (by kernel_rfl) (by kernel_rfl) ?_
              refine kp_skip3 (by kernel_rfl) (by kernel_rfl) ?_
              refine kp_steps 3 [(3, .pointer (some ⟨b14, 0, none⟩)), (7, .pointer (some ⟨b29, 0, none⟩)), (9, .int .i64 x72), (98, .bool true), (103, undef)] (by kernel_rfl) (by kernel_rfl) ?_
              refine kp_skip3 (by kernel_rfl) (by kernel_rfl) ?_
              refine kp_steps 1 [(3, .pointer (some ⟨b14, 0, none⟩)), (7, .pointer (some ⟨b29, 0, none⟩)), (9, .int .i64 x72), (98, .bool true), (104, undef), (105, undef)] (by kernel_rfl) (by kernel_rfl) ?_
              refine kp_skip3 (by kernel_rfl) (by kernel_rfl) ?_
              refine kp_steps 3 [(3, .pointer (some ⟨b14, 0, none⟩)), (7, .pointer (some ⟨b29, 0, none⟩)), (9, .int .i64 x72), (98, .bool true), (104, undef), (109, undef)] (by kernel_rfl) (by kernel_rfl) ?_
              refine kp_skip3 (by kernel_rfl) (by kernel_rfl) ?_
              refine kp_done ?_
              refine kl_steps 3 [(3, .pointer (some ⟨b14, 0, none⟩)), (7, .pointer (some ⟨b29, 0, none⟩)), (9, .int .i64 x72), (113, .bool true)] (by kernel_rfl) ?_
              refine k_nil ?_
              refine k_then ?_
              exact k_meet1 ⟨rfl, rfl, rfl, congrArg (fun b => some (Value.bool b)) (Option.some.inj h), trivial⟩
             ·have h := condF h t126
              refine K.weak (env' := [(3, .pointer (some ⟨b14, 0, none⟩)), (7, .pointer (some ⟨b29, 0, none⟩)), (9, .int .i64 x72), (98, .bool false)]) ?_ ⟨rfl, rfl, rfl, congrArg (fun b => some (Value.bool b)) t126, trivial⟩
              refine kp_steps 1 [(3, .pointer (some ⟨b14, 0, none⟩)), (7, .pointer (some ⟨b29, 0, none⟩)), (9, .int .i64 x72), (98, .bool false), (99, .pointer (some ⟨b29, 0, none⟩))] (by kernel_rfl) (by kernel_rfl) ?_
              refine kp_loadS (v := .slice A22 r20.1.length k23) [blk b29 (.cells #[.slice A22 r20.1.length k23, .slice A26 r20.2.1.length k27] 28 (0, 0)), h21, blk b14 (.cells #[.slice A7 r5.1.length k8, .slice A11 r5.2.1.length k12] 28 (0, 0)), h6] [.val (.slice A22 r20.1.length k23)] [.ld ⟨b29, 0, none⟩ (.slice A22 r20.1.length k23)] (by kernel_rfl) (by kernel_rfl) (by kernel_rfl) (fun _ h => h) ⟨⟨0, _, _, _, rfl, rfl, rfl⟩, trivial⟩ ?_
              refine kp_steps 1 [(3, .pointer (some ⟨b14, 0, none⟩)), (7, .pointer (some ⟨b29, 0, none⟩)), (9, .int .i64 x72), (98, .bool false), (100, .slice A22 r20.1.length k23), (101, .int .i64 x72)] (by kernel_rfl) (by kernel_rfl) ?_
              obtain ⟨x127, hx127, h⟩ := bindSome h
              refine kp_elemR (T := 42) (kd := .i64) (R := rs42) rfl (by kernel_rfl) (by kernel_rfl) (by kernel_rfl) (by kernel_rfl) (by kernel_rfl) (by kernel_rfl) hx127 (OwnR.rd o24) fun p128 u131 q132 e129 y130 => ?_
              obtain ⟨A133, k134, rfl, o135⟩ := rs42_r q132
              refine kp_efieldP (off := 4) rfl (by kernel_rfl) (by kernel_rfl) (by kernel_rfl) (by kernel_rfl) e129 y130 fun p136 e137 y138 => ?_
              have e137 : Elem _ p136 [.slice A133 x127.2.2.2.2.length k134] := e137
              refine kp_eload1 rfl (by kernel_rfl) (by kernel_rfl) (by kernel_rfl) (by kernel_rfl) e137 (fun w h_ => h_.mem _ (.tail _ (.head _))) ?_
              refine kp_steps 1 [(3, .pointer (some ⟨b14, 0, none⟩)), (7, .pointer (some ⟨b29, 0, none⟩)), (9, .int .i64 x72), (98, .bool false), (104, .slice A133 x127.2.2.2.2.length k134), (105, .pointer (some ⟨b14, 0, none⟩))] (by kernel_rfl) (by kernel_rfl) ?_
              refine kp_loadS (v := .slice A7 r5.1.length k8) [blk b29 (.cells #[.slice A22 r20.1.length k23, .slice A26 r20.2.1.length k27] 28 (0, 0)), h21, blk b14 (.cells #[.slice A7 r5.1.length k8, .slice A11 r5.2.1.length k12] 28 (0, 0)), h6] [.val (.slice A7 r5.1.length k8)] [.ld ⟨b14, 0, none⟩ (.slice A7 r5.1.length k8)] (by kernel_rfl) (by kernel_rfl) (by kernel_rfl) (fun _ h => h) ⟨⟨2, _, _, _, rfl, rfl, rfl⟩, trivial⟩ ?_
              refine kp_steps 1 [(3, .pointer (some ⟨b14, 0, none⟩)), (7, .pointer (some ⟨b29, 0, none⟩)), (9, .int .i64 x72), (98, .bool false), (104, .slice A133 x127.2.2.2.2.length k134), (106, .slice A7 r5.1.length k8), (107, .int .i64 x72)] (by kernel_rfl) (by kernel_rfl) ?_
              obtain ⟨x139, hx139, h⟩ := bindSome h
              refine kp_elemR (T := 42) (kd := .i64) (R := rs42) rfl (by kernel_rfl) (by kernel_rfl) (by kernel_rfl) (by kernel_rfl) (by kernel_rfl) (by kernel_rfl) hx139 (OwnR.rd o9) fun p140 u143 q144 e141 y142 => ?_
              obtain ⟨A145, k146, rfl, o147⟩ := rs42_r q144
              refine kp_efieldP (off := 4) rfl (by kernel_rfl) (by kernel_rfl) (by kernel_rfl) (by kernel_rfl) e141 y142 fun p148 e149 y150 => ?_
              have e149 : Elem _ p148 [.slice A145 x139.2.2.2.2.length k146] := e149
              refine kp_eload1 rfl (by kernel_rfl) (by kernel_rfl) (by kernel_rfl) (by kernel_rfl) e149 (fun w h_ => h_.mem _ (.tail _ (.tail _ (.tail _ (.head _))))) ?_
              refine kp_done ?_
              obtain ⟨r151, hr151, h⟩ := bindSome h
              refine kl_callv (by kernel_rfl) (by kernel_rfl) (by kernel_rfl) (r08_SameVals.ok hr151 o135 o147) ⟨(.tail _ (.head _)), (.tail _ (.tail _ (.tail _ (.tail _ (.head _))))), trivial⟩ ?_
              refine kl_steps 2 [(3, .pointer (some ⟨b14, 0, none⟩)), (7, .pointer (some ⟨b29, 0, none⟩)), (9, .int .i64 x72), (113, .bool (!r151))] (by kernel_rfl) ?_
              refine k_nil ?_
              refine k_then ?_
              exact k_meet1 ⟨rfl, rfl, rfl, congrArg (fun b => some (Value.bool b)) (Option.some.inj h), trivial⟩
          ·have h := condF h t74
           refine k_exit ?_
           refine k_then_exit ?_
           refine k_then_exit ?_
           refine k_here ?_
           refine k_then ?_
           exact k_meet () h ⟨rfl, rfl, trivial⟩ rfl
      ·have h := hq31
       clear hq31
       refine k_region ?_
       refine kl_steps 1 [(3, .pointer (some ⟨b14, 0, none⟩)), (7, .pointer (some ⟨b29, 0, none⟩)), (42, .pointer (some ⟨b30, 0, none⟩))] (by kernel_rfl) ?_
       refine kl_load (v := .int .i64 r20.2.2.1) [.val (.int .i64 r20.2.2.1)] [.ld ⟨b30, 0, none⟩ (.int .i64 r20.2.2.1)] (by kernel_rfl) (by kernel_rfl) (by kernel_rfl) ⟨⟨0, _, _, _, rfl, rfl, rfl⟩, trivial⟩ ?_
       refine K.drop ?_
       refine kl_steps 2 [(3, .pointer (some ⟨b14, 0, none⟩)), (7, .pointer (some ⟨b29, 0, none⟩)), (45, .bool (r20.2.2.1 != (0 : Int)))] (by kernel_rfl) ?_
       rcases Bool.eq_false_or_eq_true ((r20.2.2.1 != (0 : Int))) with t152 | t152
       ·have h := condT h t152
        refine K.weak (env' := [(3, .pointer (some ⟨b14, 0, none⟩)), (7, .pointer (some ⟨b29, 0, none⟩)), (45, .bool true)]) ?_ ⟨rfl, rfl, congrArg (fun b => some (Value.bool b)) t152, trivial⟩
        refine kl_steps 17 [(3, .pointer (some ⟨b14, 0, none⟩)), (7, .pointer (some ⟨b29, 0, none⟩)), (62, .bool true)] (by kernel_rfl) ?_
        refine k_nil ?_
        refine k_then ?_
        exact k_meet1 ⟨rfl, rfl, congrArg (fun b => some (Value.bool b)) (Option.some.inj h), trivial⟩
       ·have h := condF h t152
        refine K.weak (env' := [(3, .pointer (some ⟨b14, 0, none⟩)), (7, .pointer (some ⟨b29, 0, none⟩)), (45, .bool false)]) ?_ ⟨rfl, rfl, congrArg (fun b => some (Value.bool b)) t152, trivial⟩
        refine kl_steps 1 [(3, .pointer (some ⟨b14, 0, none⟩)), (7, .pointer (some ⟨b29, 0, none⟩)), (45, .bool false), (46, .pointer (some ⟨b29, 0, none⟩))] (by kernel_rfl) ?_
        refine kl_load (v := .slice A22 r20.1.length k23) [.val (.slice A22 r20.1.length k23)] [.ld ⟨b29, 0, none⟩ (.slice A22 r20.1.length k23)] (by kernel_rfl) (by kernel_rfl) (by kernel_rfl) ⟨⟨0, _, _, _, rfl, rfl, rfl⟩, trivial⟩ ?_
        refine kl_steps 2 [(3, .pointer (some ⟨b14, 0, none⟩)), (7, .pointer (some ⟨b29, 0, none⟩)), (45, .bool false), (48, .int .i64 ((r20.1.length : Nat) : Int)), (49, .pointer (some ⟨b14, 0, none⟩))] (by kernel_rfl) ?_
        refine kl_load (v := .slice A7 r5.1.length k8) [.val (.slice A7 r5.1.length k8)] [.ld ⟨b14, 0, none⟩ (.slice A7 r5.1.length k8)] (by kernel_rfl) (by kernel_rfl) (by kernel_rfl) ⟨⟨3, _, _, _, rfl, rfl, rfl⟩, trivial⟩ ?_
        refine kl_steps 4 [(3, .pointer (some ⟨b14, 0, none⟩)), (7, .pointer (some ⟨b29, 0, none⟩)), (54, .bool (((r20.1.length : Nat) : Int) != ((r5.1.length : Nat) : Int)))] (by kernel_rfl) ?_
        rcases Bool.eq_false_or_eq_true ((((r20.1.length : Nat) : Int) != ((r5.1.length : Nat) : Int))) with t153 | t153
        ·have h := condT h t153
         refine K.weak (env' := [(3, .pointer (some ⟨b14, 0, none⟩)), (7, .pointer (some ⟨b29, 0, none⟩)), (54, .bool true)]) ?_ ⟨rfl, rfl, congrArg (fun b => some (Value.bool b)) t153, trivial⟩
         refine kl_steps 8 [(3, .pointer (some ⟨b14, 0, none⟩)), (7, .pointer (some ⟨b29, 0, none⟩)), (62, .bool true)] (by kernel_rfl) ?_
         refine k_nil ?_
         refine k_then ?_
         exact k_meet1 ⟨rfl, rfl, congrArg (fun b => some (Value.bool b)) (Option.some.inj h), trivial⟩
        ·have h := condF h t153
         refine K.weak (env' := [(3, .pointer (some ⟨b14, 0, none⟩)), (7, .pointer (some ⟨b29, 0, none⟩)), (54, .bool false)]) ?_ ⟨rfl, rfl, congrArg (fun b => some (Value.bool b)) t153, trivial⟩
         refine kl_steps 1 [(3, .pointer (some ⟨b14, 0, none⟩)), (7, .pointer (some ⟨b29, 0, none⟩)), (54, .bool false), (55, .pointer (some ⟨b29, 1, none⟩))] (by kernel_rfl) ?_
         refine kl_load (v := .slice A26 r20.2.1.length k27) [.val (.slice A26 r20.2.1.length k27)] [.ld ⟨b29, 1, none⟩ (.slice A26 r20.2.1.length k27)] (by kernel_rfl) (by kernel_rfl) (by kernel_rfl) ⟨⟨0, _, _, _, rfl, rfl, rfl⟩, trivial⟩ ?_
         refine kl_steps 2 [(3, .pointer (some ⟨b14, 0, none⟩)), (7, .pointer (some ⟨b29, 0, none⟩)), (54, .bool false), (57, .int .i64 ((r20.2.1.length : Nat) : Int)), (58, .pointer (some ⟨b14, 1, none⟩))] (by kernel_rfl) ?_
         refine kl_load (v := .slice A11 r5.2.1.length k12) [.val (.slice A11 r5.2.1.length k12)] [.ld ⟨b14, 1, none⟩ (.slice A11 r5.2.1.length k12)] (by kernel_rfl) (by kernel_rfl) (by kernel_rfl) ⟨⟨3, _, _, _, rfl, rfl, rfl⟩, trivial⟩ ?_
         refine kl_steps 3 [(3, .pointer (some ⟨b14, 0, none⟩)), (7, .pointer (some ⟨b29, 0, none⟩)), (62, .bool (((r20.2.1.length : Nat) : Int) != ((r5.2.1.length : Nat) : Int)))] (by kernel_rfl) ?_
         refine k_nil ?_
         refine k_then ?_
         exact k_meet1 ⟨rfl, rfl, congrArg (fun b => some (Value.bool b)) (Option.some.inj h), trivial⟩
   ·have h := hq16
    clear hq16
    refine k_region ?_
    refine kl_steps 1 [(0, .string x3), (3, .pointer (some ⟨b14, 0, none⟩)), (23, .pointer (some ⟨b15, 0, none⟩))] (by kernel_rfl) ?_
    refine kl_load (v := .int .i64 r5.2.2.1) [.val (.int .i64 r5.2.2.1)] [.ld ⟨b15, 0, none⟩ (.int .i64 r5.2.2.1)] (by kernel_rfl) (by kernel_rfl) (by kernel_rfl) ⟨⟨0, _, _, _, rfl, rfl, rfl⟩, trivial⟩ ?_
    refine K.drop ?_
    refine kl_steps 2 [(0, .string x3), (3, .pointer (some ⟨b14, 0, none⟩)), (26, .bool (r5.2.2.1 != (0 : Int)))] (by kernel_rfl) ?_
    rcases Bool.eq_false_or_eq_true ((r5.2.2.1 != (0 : Int))) with t154 | t154
    ·have h := condT h t154
     refine K.weak (env' := [(0, .string x3), (3, .pointer (some ⟨b14, 0, none⟩)), (26, .bool true)]) ?_ ⟨rfl, rfl, congrArg (fun b => some (Value.bool b)) t154, trivial⟩
     refine kl_steps 3 [(0, .string x3), (3, .pointer (some ⟨b14, 0, none⟩)), (29, .bool true)] (by kernel_rfl) ?_
     refine k_nil ?_
     refine k_then ?_
     exact k_meet1 ⟨rfl, rfl, congrArg (fun b => some (Value.bool b)) (Option.some.inj h), trivial⟩
    ·have h := condF h t154
     refine K.weak (env' := [(0, .string x3), (3, .pointer (some ⟨b14, 0, none⟩)), (26, .bool false)]) ?_ ⟨rfl, rfl, congrArg (fun b => some (Value.bool b)) t154, trivial⟩
     refine kl_steps 1 [(0, .string x3), (3, .pointer (some ⟨b14, 0, none⟩)), (26, .bool false), (27, .string x3)] (by kernel_rfl) ?_
     obtain ⟨r155, hr155, h⟩ := bindSome h
     refine kl_callv (by kernel_rfl) (by kernel_rfl) (by kernel_rfl) (law13_fields.ok hr155 hG) ⟨(.tail _ (.tail _ (.tail _ hm_G))), trivial⟩ ?_
     refine kl_steps 1 [(0, .string x3), (3, .pointer (some ⟨b14, 0, none⟩)), (29, .bool r155)] (by kernel_rfl) ?_
     refine k_nil ?_
     refine k_then ?_
     exact k_meet1 ⟨rfl, rfl, congrArg (fun b => some (Value.bool b)) (Option.some.inj h), trivial⟩
  ·skip
   refine k_seq ?_
   refine k_region ?_
   refine kl_steps 3 [(0, .string a0), (15, .bool (decide ((a0.size : Int) > (3000 : Int))))] (by kernel_rfl) ?_
   refine k_nil ?_
   refine k_then ?_
   refine k_cond (t := decide ((a0.size : Int) > (3000 : Int))) (by kernel_rfl) (fun t156 => ?_) (fun t156 => ?_)
   ·have h := condT h t156
    refine k_region ?_
    refine kl_steps 1 [(0, .string a0), (16, .string a0)] (by kernel_rfl) ?_
    obtain ⟨s157, hs157, h⟩ := bindSome h
    refine kl_sstr (0 : Int) (3000 : Int) rfl (by kernel_rfl) (by kernel_rfl) (by kernel_rfl) (.inl ⟨rfl, rfl⟩) (.inr ⟨_, .i64, rfl, (by kernel_rfl)⟩) (by kernel_rfl) hs157 ?_
    refine kl_steps 1 [(0, .string s157)] (by kernel_rfl) ?_
    refine k_nil ?_
    refine k_then ?_
    exact k_meet s157 h ⟨rfl, trivial⟩ rfl
   ·have h := condF h t156
    refine k_skip ?_
    refine k_then ?_
    exact k_meet a0 h ⟨rfl, trivial⟩ rfl
end Go.Proofs.YtdkgnlaneccioaaGreatDoor
namespace Go.Proofs.YtdkgnlaneccioaaGreatDoor
open Go Go.RowKit Lx
theorem str_toL (l : Bs) : (str l).toList = l := by rw [Lib.toList_data]; exact bs_str l
theorem sSubC (s : ByteArray) (a b : Nat) (h1 : a ≤ b) (h2 : b ≤ s.size) : sSub s (a : Int) (b : Int) = some (str (((bs s).drop a).take (b - a))) := by
 unfold sSub
 rw [decide_eq_true (by omega)]
 simp only [cond_true, Int.toNat_natCast]
 rw [← bs_extract, str_bs]
def fldB (x : Tk) : Bool := x.1 == 5 && (x.2.1.toList == bDot.toList || x.2.1.toList == kLc.toList)
theorem fields_loop (c a : Int) : ∀ (t pre : List Tk) (m : Nat), pre.length + t.length ≤ 1000000 → t.length + 1 ≤ m → law13_fields.l0 m (pre ++ t, c, a) (fun _ => some false) (pre.length : Int) = some (t.any fldB)
 | [], pre, m, hl, hm => by
  obtain ⟨m, rfl⟩ : ∃ m', m = m' + 1 := ⟨m - 1, by omega⟩
  simp only [law13_fields.l0]
  rw [ltF (by simp)]
  rfl
 | x :: t, pre, m, hl, hm => by
  obtain ⟨m, rfl⟩ : ∃ m', m = m' + 1 := ⟨m - 1, by omega⟩
  simp only [List.length_cons] at hl hm
  simp only [law13_fields.l0]
  rw [ltT (by simp; omega), midC]
  simp only [cond_true, Option.bind_some]
  rw [List.any_cons]
  have ih := fields_loop c a t (pre ++ [x]) m (by simp; omega) (by omega)
  rw [List.append_assoc, List.length_append] at ih
  rw [wiC _ (by omega) (by omega)]
  unfold fldB
  cases x.1 == 5 with
  | false => exact ih
  | true =>
   simp only [cond_true, Bool.true_and]
   cases x.2.1.toList == bDot.toList with
   | true => rfl
   | false =>
    simp only [cond_false, Bool.false_or, Option.bind_some]
    show (cond (x.2.1.toList == kLc.toList) _ _) = _
    cases x.2.1.toList == kLc.toList with
    | true => rfl
    | false => exact ih
def zTok (x : Tok) : Bool := x.kind == 1 && x.text == zzz
def Ups (n : Nat) : Nat → List Tok → Prop
 | _, [] => True
 | a, x :: T => a ≤ x.at_ ∧ x.at_ ≤ n ∧ (x.kind = 6 ∨ x.at_ + 1 ≤ n) ∧ Ups n (x.at_ + 1) T
theorem Ups.weak {n a b : Nat} {T : List Tok} (h : Ups n b T) (hab : a ≤ b) : Ups n a T := by
 cases T with
 | nil => trivial
 | cons x T => exact ⟨Nat.le_trans hab h.1, h.2⟩
theorem rise_ups {n : Nat} : ∀ {T : List Tok} {lo : Nat}, Rise lo n T → Ups n lo T
 | [], _, h => h.elim
 | x :: T, lo, ⟨h1, h2, h3⟩ => by
  refine ⟨h1, h2, ?_, ?_⟩
  ·rcases h3 with ⟨h, _⟩ | ⟨_, h⟩
   ·exact .inl h
   ·right
    cases T with
    | nil => exact h.elim
    | cons y T => have := h.1; have := h.2.1; omega
  ·rcases h3 with ⟨_, rfl⟩ | ⟨_, h⟩
   ·trivial
   ·exact rise_ups h
theorem renS_up : ∀ (T : List Tok) (l : Bs) (p : Nat), (renS T l p).length ≤ l.length + 3 * T.length
 | [], l, p => by simp [renS]
 | x :: T, l, p => by
  unfold renS
  split
  ·by_cases hl : x.at_ - p < l.length
   ·have := renS_up T (l.drop (x.at_ - p + 1)) (x.at_ + 1)
    simp only [List.length_append, List.length_take, List.length_cons, List.length_nil, List.length_drop] at this ⊢
    omega
   ·have := renS_up T (l.drop (x.at_ - p + 1)) (x.at_ + 1)
    simp only [List.length_append, List.length_take, List.length_cons, List.length_nil, List.length_drop] at this ⊢
    omega
  ·have := renS_up T l p
   simp only [List.length_cons]
   omega
theorem renamed_loop (s : ByteArray) (hs : s.size ≤ 3000) (c p : Int) (tk : List Tk) (J : ByteArray → Int → Option (ByteArray × Bool)) : ∀ (T : List Tok) (pre : List Tk) (o : Bs) (a m : Nat), tk = pre ++ T.map tokT → pre.length + T.length ≤ 1000000 → T.length + 1 ≤ m → a ≤ s.size → Ups s.size a T → o.length + 4000 * T.length ≤ 1000000000 →
  ((∃ x ∈ T, zTok x = true) ∧ law13_renamed.l0 m s bA bZ (tk, c, p) J (str o) (a : Int) (pre.length : Int) = some (⟨#[]⟩, false)) ∨
  ((∀ x ∈ T, zTok x = false) ∧ ∃ o' a', law13_renamed.l0 m s bA bZ (tk, c, p) J (str o) (a : Int) (pre.length : Int) = J (str o') ((a' : Nat) : Int) ∧ a' ≤ s.size ∧ o'.length ≤ 1000000000 ∧ o' ++ (bs s).drop a' = o ++ renS T ((bs s).drop a) a)
 | [], pre, o, a, m, htk, hl, hm, ha, hu, ho => by
  obtain ⟨m, rfl⟩ : ∃ m', m = m' + 1 := ⟨m - 1, by omega⟩
  refine .inr ⟨fun x hx => absurd hx List.not_mem_nil, o, a, ?_, ha, by omega, rfl⟩
  simp only [law13_renamed.l0]
  rw [ltF (by rw [htk]; simp)]
  rfl
 | x :: T, pre, o, a, m, htk, hl, hm, ha, hu, ho => by
  obtain ⟨m, rfl⟩ : ∃ m', m = m' + 1 := ⟨m - 1, by omega⟩
  simp only [List.length_cons] at hl hm ho
  obtain ⟨u1, u2, u3, u4⟩ := hu
  have hx : lIdx tk (pre.length : Int) = some (tokT x) := by rw [htk, List.map_cons]; exact midC pre (tokT x) _
  have hat : (tokT x).2.2.2 = (x.at_ : Int) := rfl
  have hbl : (bs s).length = s.size := bs_length s
  have next : ∀ (o1 : Bs) (a1 : Nat), a ≤ a1 → a1 ≤ s.size → Ups s.size a1 T → o1.length ≤ o.length + 3003 → o1 ++ renS T ((bs s).drop a1) a1 = o ++ renS (x :: T) ((bs s).drop a) a → zTok x = false →
    ((∃ y ∈ x :: T, zTok y = true) ∧ law13_renamed.l0 m s bA bZ (tk, c, p) J (str o1) (a1 : Int) (IntKind.i64.wrap ((pre.length : Int) + 1)) = some (⟨#[]⟩, false)) ∨
    ((∀ y ∈ x :: T, zTok y = false) ∧ ∃ o' a', law13_renamed.l0 m s bA bZ (tk, c, p) J (str o1) (a1 : Int) (IntKind.i64.wrap ((pre.length : Int) + 1)) = J (str o') ((a' : Nat) : Int) ∧ a' ≤ s.size ∧ o'.length ≤ 1000000000 ∧ o' ++ (bs s).drop a' = o ++ renS (x :: T) ((bs s).drop a) a) := fun o1 a1 h1 h2 h3 h4 h5 hz => by
   have ih := renamed_loop s hs c p tk J T (pre ++ [tokT x]) o1 a1 m (by rw [htk, List.append_assoc]; rfl) (by simp; omega) (by omega) h2 h3 (by omega)
   rw [wiC _ (by omega) (by omega)]
   rw [List.length_append] at ih
   rcases ih with ⟨⟨y, hy, hyz⟩, e⟩ | ⟨hno, o', a', e, g1, g2, g3⟩
   ·exact .inl ⟨⟨y, List.mem_cons_of_mem _ hy, hyz⟩, e⟩
   ·refine .inr ⟨fun y hy => ?_, o', a', e, g1, g2, by rw [g3, h5]⟩
    rcases List.mem_cons.1 hy with rfl | hy
    ·exact hz
    ·exact hno y hy
  simp only [law13_renamed.l0]
  rw [ltT (by rw [htk]; simp; omega), hx]
  simp only [cond_true, joinF, Option.bind_some, hat]
  rw [decide_eq_false (p := (x.at_ : Int) < a) (by omega), decide_eq_false (p := (x.at_ : Int) > s.size) (by omega)]
  have eZ : (tokT x).2.1.toList = x.text := str_toL x.text
  have eK : (tokT x).1 = x.kind := rfl
  rw [eZ, eK]
  by_cases hk : x.kind = 1
  ·rw [eqC hk]
   simp only [cond_true, Option.bind_some]
   have eb : bZ.toList = zzz := str_toL zzz
   have ea : bA.toList = [97] := str_toL [97]
   rw [eb, ea]
   cases hz : x.text == zzz with
   | true =>
    refine .inl ⟨⟨x, List.mem_cons_self .., ?_⟩, rfl⟩
    unfold zTok
    rw [hz, eqC hk]; rfl
   | false =>
    have hz' : zTok x = false := by unfold zTok; rw [hz, Bool.and_false]
    simp only [cond_false, Option.bind_some]
    cases hA : x.text == [97] with
    | true =>
     have hx6 : x.at_ + 1 ≤ s.size := u3.elim (fun h => by omega) id
     have hAt : isATok x = true := by unfold isATok; rw [hA, eqC hk]; rfl
     simp only [cond_true, Option.bind_some]
     rw [wiC ((s.size : Int) - x.at_) (by omega) (by omega), show ((⟨#[97]⟩ : ByteArray).size : Int) = 1 from rfl, decide_eq_true (by omega)]
     simp only [cond_true]
     rw [sSubC s a x.at_ u1 u2, Option.bind_some, catE (by rw [str_size]; show _ + 3 ≤ _; simp only [List.length_take, List.length_drop]; omega), Option.bind_some]
     simp only [bs_str]
     rw [catE (by rw [str_size, str_size]; simp only [List.length_append, List.length_take, List.length_drop]; show _ + (_ + 3) ≤ _; omega), Option.bind_some]
     simp only [bs_str]
     rw [wiC ((x.at_ : Int) + 1) (by omega) (by omega), show (x.at_ : Int) + 1 = ((x.at_ + 1 : Nat) : Int) by omega]
     refine next _ (x.at_ + 1) (by omega) hx6 u4 (by simp only [List.length_append, List.length_take, List.length_drop]; show _ + (_ + 3) ≤ _; omega) ?_ hz'
     rw [renS, if_pos hAt, List.drop_drop, show a + (x.at_ - a + 1) = x.at_ + 1 by omega]
     simp only [List.append_assoc]
     rfl
    | false =>
     have hAt : ¬ isATok x = true := by unfold isATok; rw [hA]; simp
     simp only [cond_false, Option.bind_some]
     exact next o a (Nat.le_refl _) ha (u4.weak (by omega)) (by omega) (by rw [renS.eq_2, if_neg hAt]) hz'
  ·have hAt : ¬ isATok x = true := by unfold isATok; rw [neC hk]; simp
   have hz' : zTok x = false := by unfold zTok; rw [neC hk]; rfl
   rw [neC hk]
   simp only [cond_false, Option.bind_some]
   exact next o a (Nat.le_refl _) ha (u4.weak (by omega)) (by omega) (by rw [renS.eq_2, if_neg hAt]) hz'
end Go.Proofs.YtdkgnlaneccioaaGreatDoor
namespace Go.Proofs.YtdkgnlaneccioaaGreatDoor
open Go Go.RowKit Lx
theorem renamed_eq (s : ByteArray) (hs : s.size ≤ 3000) (T : List Tok) (hT : scanF (bs s) = .inr T) (k : Nat) (hk : 500000 ≤ k) :
  law13_renamed.f k s bA bZ = some (⟨#[]⟩, false) ∨ ((∀ x ∈ T, zTok x = false) ∧ law13_renamed.f k s bA bZ = some (str (renS T (bs s) 0), true)) := by
 have hl : (bs s).length = s.size := bs_length s
 have hsc : scanL (bs s) 0 [] = .inr T := by rw [← scanF_small _ (by omega)]; exact hT
 obtain ⟨T', e, hR⟩ := scan_rise _ _ _ _ _ (Nat.lt_succ_self _) hsc
 rw [List.nil_append] at e
 subst e
 rw [Nat.zero_add, hl] at hR
 have hn := (scan_count _ _ _ _ _ (Nat.le_refl _) hsc).2.1
 simp only [List.length_nil] at hn
 unfold law13_renamed.f lex_Scan.f lexR joinF
 rw [hT]
 simp only [Option.bind_some, bne_self_eq_false, cond_false]
 have h := renamed_loop s hs 0 0 (T.map tokT) (fun x8 x9 => (sSub s x9 (s.size : Int)).bind fun s11 : ByteArray => (sCat x8 s11).bind fun s12 : ByteArray => some (s12, true)) T [] [] 0 k rfl (by simp; omega) (by omega) (Nat.zero_le _) (rise_ups hR) (by simp; omega)
 rcases h with ⟨_, e⟩ | ⟨hno, o', a', e, g1, g2, g3⟩
 ·exact .inl e
 ·refine .inr ⟨hno, e.trans ?_⟩
  rw [sSubC s a' s.size g1 (Nat.le_refl _), Option.bind_some, List.take_of_length_le (by rw [List.length_drop, hl]; omega), catE (by rw [str_size, str_size, List.length_drop]; omega), Option.bind_some]
  simp only [bs_str]
  rw [g3]
  rfl
theorem ren_fields (s : ByteArray) (T : List Tok) (hT : scanF (bs s) = .inr T) (k : Nat) (hk : 500000 ≤ k) (hn : T.length ≤ 100000) : law13_fields.f k s = some ((T.map tokT).any fldB) := by
 unfold law13_fields.f lex_Scan.f lexR joinF
 rw [hT]
 exact fields_loop 0 0 (T.map tokT) [] k (by simp; omega) (by rw [List.length_map]; omega)
theorem step_word {l : Bs} {t : Bs} {n : Int} {len : Nat} (h : stepF l = .tok 2 t n len) : isWordF t = true := by
 unfold stepF at h
 dsimp only at h
 split at h
 ·cases h
 split at h
 ·cases h
 split at h
 ·split at h
  ·cases h
  ·simp only [Step.tok.injEq] at h
   obtain ⟨h1, h2, _⟩ := h
   rw [← h2]
   split at h1
   ·assumption
   ·cases h1
 split at h
 ·split at h
  ·cases h
  ·simp only [Step.tok.injEq] at h
   exact absurd h.1 (by decide)
 split at h
 ·split at h
  ·cases h
  ·simp only [Step.tok.injEq] at h
   exact absurd h.1 (by decide)
 ·split at h
  ·cases h
  ·simp only [Step.tok.injEq] at h
   exact absurd h.1 (by decide)
theorem scan_words : ∀ (n : Nat) (l : Bs) (p : Nat) (T : List Tok), l.length ≤ n → scanL l p [] = .inr T → ∀ x ∈ T, x.kind = 2 → isWordF x.text = true := by
 intro n
 induction n with
 | zero =>
  intro l p T hn h x hx hk
  have : l = [] := List.eq_nil_of_length_eq_zero (by omega)
  subst this
  rcases scan_next h with ⟨_, rfl⟩ | ⟨n, hn, _⟩ | ⟨k, tx, x, n, T2, hn, _⟩
  ·obtain rfl := List.mem_singleton.1 hx; cases hk
  ·cases hn
  ·cases hn
 | succ n ih =>
  intro l p T hn h x hx hk
  rcases scan_next h with ⟨h0, rfl⟩ | ⟨m, hm, h2⟩ | ⟨k, tx, y, m, T2, hm, rfl, h2⟩
  ·obtain rfl := List.mem_singleton.1 hx; cases hk
  ·have hlen := (stepF_take _).1 _ hm
   rw [List.length_drop] at hlen
   exact ih _ _ T (by rw [List.length_drop, List.length_drop]; omega) h2 x hx hk
  ·have hlen := (stepF_take _).2 _ _ _ _ hm
   rw [List.length_drop] at hlen
   rcases List.mem_cons.1 hx with rfl | hx
   ·have hk : k = 2 := hk
    subst hk
    exact step_word hm
   ·exact ih _ _ T2 (by rw [List.length_drop, List.length_drop]; omega) h2 x hx hk
theorem rts_TR : ∀ {T T' : List Tok}, RTs T T' → (∀ x ∈ T, zTok x = false) → (∀ x ∈ T, x.kind = 2 → isWordF x.text = true) → (T.map tokT).any fldB = false → TR (T.map tokT) (T'.map tokT)
 | [], [], _, _, _, _ => trivial
 | x :: T, x' :: T', ⟨h1, h2⟩, hz, hwd, hf => by
  rw [List.map_cons, List.any_cons, Bool.or_eq_false_iff] at hf
  refine ⟨?_, rts_TR h2 (fun y hy => hz y (List.mem_cons_of_mem _ hy)) (fun y hy => hwd y (List.mem_cons_of_mem _ hy)) hf.2⟩
  have hzx := hz x (List.mem_cons_self ..)
  have hwx := hwd x (List.mem_cons_self ..)
  have e : (str x.text).toList = x.text := str_toL x.text
  have eZ : bZ.toList = zzz := str_toL zzz
  have eA : bA.toList = [97] := str_toL [97]
  have eD : kDot.toList = [46] := str_toL [46]
  have eL : kLc.toList = [123] := str_toL [123]
  have hf1 : (x.kind == 5 && ((str x.text).toList == [46] || (str x.text).toList == [123])) = false := by
   have := hf.1
   unfold fldB at this
   rw [show bDot.toList = [46] from str_toL [46], eL] at this
   exact this
  rw [e] at hf1
  have noT : ∀ w : Bs, isWordF w = false → (x.kind = 5 → (x.text == w) = false) → ((x.kind == 2 || x.kind == 5) && x.text == w) = false := fun w hw h5 => by
   by_cases k5 : x.kind = 5
   ·rw [h5 k5, Bool.and_false]
   ·by_cases k2 : x.kind = 2
    ·have : (x.text == w) = false := by
      rw [beq_eq_false_iff_ne]
      rintro e
      have := hwx k2
      rw [e, hw] at this
      cases this
     rw [this, Bool.and_false]
    ·rw [neC k2, neC k5]; rfl
  refine ⟨h1.kind, h1.n, fun hk => ?_, fun hk => ?_, ?_, ?_⟩
  ·have hk : x.kind = 1 := hk
   constructor
   ·show str x'.text = reName (str x.text)
    rw [h1.text]
    unfold reName isATok
    rw [e, eA, eqC hk, Bool.true_and]
    split <;> rfl
   ·show isZ (str x.text) = false
    unfold isZ
    rw [e, eZ]
    unfold zTok at hzx
    rw [eqC hk, Bool.true_and] at hzx
    exact hzx
  ·have hk : x.kind ≠ 1 := hk
   show str x'.text = str x.text
   rw [h1.text, if_neg]
   unfold isATok
   rw [neC hk]
   simp
  ·show ((x.kind == 2 || x.kind == 5) && (str x.text).toList == kDot.toList) = false
   rw [e, eD]
   refine noT [46] (by decide) fun k5 => ?_
   rw [eqC k5, Bool.true_and, Bool.or_eq_false_iff] at hf1
   exact hf1.1
  ·show ((x.kind == 2 || x.kind == 5) && (str x.text).toList == kLc.toList) = false
   rw [e, eL]
   refine noT [123] (by decide) fun k5 => ?_
   rw [eqC k5, Bool.true_and, Bool.or_eq_false_iff] at hf1
   exact hf1.2
 | [], _ :: _, h, _, _, _ => h.elim
 | _ :: _, [], h, _, _, _ => h.elim
theorem RTs.len : ∀ {T T' : List Tok}, RTs T T' → T'.length = T.length
 | [], [], _ => rfl
 | _ :: _, _ :: _, h => congrArg (· + 1) (RTs.len h.2)
theorem vAll_rn {ts ts' : List Tk} (h : TR ts ts') (hl : ts'.length = ts.length) {n : Tree} {r : List Tk} (hv : vAll ts = .ok n r) : ∃ n' r', vAll ts' = .ok n' r' ∧ rnT n n' := by
 unfold vAll at hv ⊢
 cases hb : vBlock true ts with
 | bad i => rw [hb] at hv; cases hv
 | ok b s =>
  rw [hb] at hv
  simp only [PV.then] at hv
  split at hv
  ·rename_i h6
   cases hv
   obtain ⟨b', s', e, hr, hs⟩ := (qS (fu ts)).block true ts ts' h _ _ (val_ok hb)
   have hf : fu ts' = fu ts := by unfold fu; rw [hl]
   have hb' : vBlock true ts' = .ok b' s' := by unfold vBlock; rw [hf, e]; rfl
   rw [hb']
   simp only [PV.then]
   rw [if_pos (by rw [hs.h1.kind]; exact h6)]
   exact ⟨b', s', rfl, hr⟩
  ·cases hv
theorem same_loopV : ∀ (t pre : List V3) (m : Nat), pre.length + t.length ≤ 1000000 → t.length + 1 ≤ m → r08_SameVals.l0 m (pre ++ t) (pre ++ t) (fun _ => some true) (pre.length : Int) = some true
 | [], pre, m, hl, hm => by
  obtain ⟨m, rfl⟩ : ∃ m', m = m' + 1 := ⟨m - 1, by omega⟩
  simp only [r08_SameVals.l0]
  rw [ltF (by simp)]
  rfl
 | x :: t, pre, m, hl, hm => by
  obtain ⟨m, rfl⟩ : ∃ m', m = m' + 1 := ⟨m - 1, by omega⟩
  simp only [List.length_cons] at hl hm
  simp only [r08_SameVals.l0]
  rw [ltT (by simp; omega), midC]
  simp only [cond_true, Option.bind_some, beq_self_eq_true, Bool.and_true, Bool.not_true, cond_false]
  rw [wiC _ (by omega) (by omega)]
  have ih := same_loopV t (pre ++ [x]) m (by simp; omega) (by omega)
  rw [List.append_assoc, List.length_append] at ih
  exact ih
theorem same_vals (k : Nat) (l : List V3) (hl : l.length ≤ 400000) (hk : 450000 ≤ k) : r08_SameVals.f k l l = some true := by
 unfold r08_SameVals.f joinF
 simp only [bne_self_eq_false, cond_false]
 exact same_loopV l [] k (by simp; omega) (by omega)
theorem rows_loop (r q : Rep) (J : Unit → Option Bool) : ∀ (t t' pre pre' : List FRow) (m : Nat), r.1 = pre ++ t → q.1 = pre' ++ t' → pre'.length = pre.length → t'.map (·.2.2) = t.map (·.2.2) → (∀ x ∈ t, x.2.2.2.2.length ≤ 400000) → pre.length + t.length ≤ 1000000 → t.length + 450001 ≤ m →
  law13_CheckRenames.l1 m r q J (pre.length : Int) = J ()
 | [], t', pre, pre', m, hr, hq, hp, he, hc, hl, hm => by
  obtain ⟨m, rfl⟩ : ∃ m', m = m' + 1 := ⟨m - 1, by omega⟩
  simp only [law13_CheckRenames.l1]
  rw [ltF (by rw [hr]; simp)]
  rfl
 | x :: t, [], pre, pre', m, hr, hq, hp, he, hc, hl, hm => by cases he
 | x :: t, x' :: t', pre, pre', m, hr, hq, hp, he, hc, hl, hm => by
  obtain ⟨m, rfl⟩ : ∃ m', m = m' + 1 := ⟨m - 1, by omega⟩
  simp only [List.length_cons] at hl hm
  simp only [List.map_cons, List.cons.injEq] at he
  have e1 : lIdx r.1 (pre.length : Int) = some x := by rw [hr]; exact midC pre x t
  have e2 : lIdx q.1 (pre.length : Int) = some x' := by rw [hq, ← hp]; exact midC pre' x' t'
  simp only [law13_CheckRenames.l1]
  rw [ltT (by rw [hr]; simp; omega), e1, e2]
  simp only [cond_true, Option.bind_some]
  rw [he.1, same_vals m _ (hc x (List.mem_cons_self ..)) (by omega)]
  simp only [bne_self_eq_false, cond_false, Option.bind_some, Bool.not_true]
  rw [wiC _ (by omega) (by omega)]
  have ih := rows_loop r q J t t' (pre ++ [x]) (pre' ++ [x']) m (by rw [hr, List.append_assoc]; rfl) (by rw [hq, List.append_assoc]; rfl) (by simp [hp]) he.2 (fun y hy => hc y (List.mem_cons_of_mem _ hy)) (by simp; omega) (by omega)
  rw [List.length_append] at ih
  exact ih
theorem globs_loop (r q : Rep) (J : Unit → Option Bool) : ∀ (t pre : List ByteArray) (m : Nat), r.2.1 = pre ++ t → q.2.1 = (pre ++ t).map reName → pre.length + t.length ≤ 1000000 → t.length + 1 ≤ m →
  law13_CheckRenames.l0 m r q J (pre.length : Int) = J ()
 | [], pre, m, hr, hq, hl, hm => by
  obtain ⟨m, rfl⟩ : ∃ m', m = m' + 1 := ⟨m - 1, by omega⟩
  simp only [law13_CheckRenames.l0]
  rw [ltF (by rw [hr]; simp)]
  rfl
 | x :: t, pre, m, hr, hq, hl, hm => by
  obtain ⟨m, rfl⟩ : ∃ m', m = m' + 1 := ⟨m - 1, by omega⟩
  simp only [List.length_cons] at hl hm
  have e1 : lIdx r.2.1 (pre.length : Int) = some x := by rw [hr]; exact midC pre x t
  have e2 : lIdx q.2.1 (pre.length : Int) = some (reName x) := by
   rw [hq, List.map_append, List.map_cons]
   have := midC (pre.map reName) (reName x) (t.map reName)
   rw [List.length_map] at this
   exact this
  simp only [law13_CheckRenames.l0]
  rw [ltT (by rw [hr]; simp; omega), e1, e2]
  simp only [cond_true, Option.bind_some]
  have ih := globs_loop r q J t (pre ++ [x]) m (by rw [hr, List.append_assoc]; rfl) (by rw [hq, List.append_assoc]; rfl) (by simp; omega) (by omega)
  rw [List.length_append] at ih
  rw [wiC _ (by omega) (by omega)]
  show Option.bind (cond (!(x.toList == bA.toList)) (cond (!((reName x).toList == x.toList)) (some true) (cond (x.toList == bA.toList) (some (!((reName x).toList == bZ.toList))) (some false))) (cond (x.toList == bA.toList) (some (!((reName x).toList == bZ.toList))) (some false))) _ = _
  cases hA : x.toList == bA.toList with
  | true =>
   have : reName x = bZ := by unfold reName; rw [hA]; rfl
   rw [this]
   simp only [Bool.not_true, cond_false, cond_true, beq_self_eq_true, Option.bind_some]
   exact ih
  | false =>
   rw [rho_same hA]
   simp only [Bool.not_false, cond_true, beq_self_eq_true, Bool.not_true, cond_false, Option.bind_some]
   exact ih
theorem cut_law (F : ByteArray → Option Bool) (s : ByteArray) (h : ∀ x : ByteArray, x.size ≤ 3000 → F x = some true) : cond (decide ((s.size : Int) > 3000)) ((sSub s (0 : Int) (3000 : Int)).bind fun y => F y) (F s) = some true := by
 by_cases hs : s.size > 3000
 ·rw [decide_eq_true (by omega), cond_true]
  have := sSubC s 0 3000 (by omega) (by omega)
  have this : sSub s (0 : Int) (3000 : Int) = some (str (((bs s).drop 0).take (3000 - 0))) := this
  rw [this, Option.bind_some]
  refine h _ ?_
  rw [str_size, List.length_take]
  omega
 ·rw [decide_eq_false (by omega), cond_false]
  exact h s (by omega)
end Go.Proofs.YtdkgnlaneccioaaGreatDoor
namespace Go.Proofs.YtdkgnlaneccioaaGreatDoor
open Go Go.RowKit Lx
def Small (s : CSt) : Prop := s.cs.length ≤ 250 ∧ ∀ x ∈ s.fs, x.2.2.2.2.length ≤ 250
theorem const_small {a : Int} {cs cs1 : List V3} {v : V3} (hc : cs.length ≤ 250) (h : constC a cs v = .ok cs1) : cs1.length ≤ 250 := by
 unfold constC at h
 split at h
 ·cases h; exact hc
 ·obtain ⟨_, h1, h⟩ := th_ok h
  cases h
  unfold fewC at h1
  split at h1
  ·cases h1
  ·simp only [List.length_append, List.length_cons, List.length_nil]; omega
theorem node_small : ∀ {d : Nat} {ab : List ByteArray} {s s' : CSt} {t : Tree} {tg : Bool}, Small s → nodeC d ab s t tg = .ok s' → Small s' := by
 intro d
 induction d with
 | zero => intro ab s s' t tg _ h; unfold nodeC at h; cases h
 | succ d ih =>
  have hN : ∀ {m : List Tree} {ab s s'}, Small s → nodesC (fun s x => nodeC d ab s x false) s m = .ok s' → Small s' := by
   intro m
   induction m with
   | nil => intro ab s s' hs h; cases h; exact hs
   | cons x m ihm =>
    intro ab s s' hs h
    unfold nodesC at h
    obtain ⟨s1, h1, h⟩ := th_ok h
    exact ihm (ih hs h1) h
  have hA : ∀ {m : List Tree} {n i ab s s'}, Small s → asgC (fun s x b => nodeC d ab s x b) n i s m = .ok s' → Small s' := by
   intro m
   induction m with
   | nil => intro n i ab s s' hs h; cases h; exact hs
   | cons x m ihm =>
    intro n i ab s s' hs h
    unfold asgC at h
    obtain ⟨s1, h1, h⟩ := th_ok h
    exact ihm (ih hs h1) h
  have hP : ∀ {a : Int} {names : List Tree} {b : Tree} {more : Nat} {ab s s'}, Small s → loopC (fun s x => nodeC d ab s x false) a s names b more = .ok s' → Small s' := by
   intro a names b more ab s s' hs h
   unfold loopC at h
   obtain ⟨r, _, h⟩ := th_ok h
   obtain ⟨s1, h1, h⟩ := th_ok h
   cases h
   have h2 := ih (s := { s with sl := r.1, lo := r.2, lp := s.lp + 1 }) hs (show nodeC d ab _ b false = _ from h1)
   exact h2
  intro ab s s' t tg hs h
  cases t with
  | mk k t n a l =>
   unfold nodeC at h
   split at h
   ·obtain ⟨s1, h1, h⟩ := th_ok h; cases h; have h2 := hN hs h1; exact h2
   split at h
   ·obtain ⟨_, _, h⟩ := th_ok h
    split at h
    ·cases h
    obtain ⟨_, _, h⟩ := th_ok h
    obtain ⟨r, _, h⟩ := th_ok h
    obtain ⟨s1, h1, h⟩ := th_ok h
    cases h
    have h2 := ih (s := ⟨s.fs, addG s.gl t, r.1, [], r.2, 0⟩) ⟨Nat.zero_le _, hs.2⟩ h1
    refine ⟨hs.1, fun x hx => ?_⟩
    rcases List.mem_append.1 hx with hx | hx
    ·exact h2.2 x hx
    ·obtain rfl := List.mem_singleton.1 hx; exact h2.1
   split at h
   ·obtain ⟨_, _, h⟩ := th_ok h
    obtain ⟨_, _, h⟩ := th_ok h
    obtain ⟨s1, h1, h⟩ := th_ok h
    obtain ⟨r, _, h⟩ := th_ok h
    cases h; have h2 := hN hs h1; exact h2
   split at h
   ·obtain ⟨_, _, h⟩ := th_ok h
    obtain ⟨_, _, h⟩ := th_ok h
    exact hA hs h
   split at h
   ·obtain ⟨s1, h1, h⟩ := th_ok h; exact hP (ih hs h1) h
   split at h
   ·obtain ⟨s1, h1, h⟩ := th_ok h; exact hP (hN hs h1) h
   split at h
   ·obtain ⟨_, _, h⟩ := th_ok h
    obtain ⟨_, _, h⟩ := th_ok h
    obtain ⟨s1, h1, h⟩ := th_ok h; exact hP (hN hs h1) h
   split at h
   ·split at h
    ·cases h
    ·cases h; exact hs
   ·unfold expC at h
    split at h
    ·obtain ⟨_, _, h⟩ := th_ok h; exact hN hs h
    split at h
    ·obtain ⟨_, _, h⟩ := th_ok h; exact hN hs h
    split at h
    ·obtain ⟨_, _, h⟩ := th_ok h; exact hN hs h
    split at h
    ·obtain ⟨cs, h1, h⟩ := th_ok h; exact hN (s := { s with cs := cs }) ⟨const_small hs.1 h1, hs.2⟩ h
    split at h
    ·obtain ⟨cs, h1, h⟩ := th_ok h; exact hN (s := { s with cs := cs }) ⟨const_small hs.1 h1, hs.2⟩ h
    split at h
    ·obtain ⟨gl, h1, h⟩ := th_ok h; exact hN (s := { s with gl := gl }) hs h
    split at h
    ·split at h
     ·cases h
     ·cases h; exact hs
    ·exact hN hs h
theorem treeV_inj {n m : Tree} (h : treeV n = treeV m) : n = m := by
 cases n; cases m
 simp only [treeV, Prod.mk.injEq, Tree.kind, Tree.text, Tree.n, Tree.at_, Tree.kids] at h
 obtain ⟨rfl, rfl, rfl, rfl, rfl, _⟩ := h
 rfl
theorem SR0 : SR st0 st0 := ⟨rfl, rfl, rfl, rfl, rfl, rfl, fun _ h => absurd h List.not_mem_nil, fun _ h => absurd h List.not_mem_nil⟩
theorem check_tree (k : Nat) (hk : 900000 ≤ k) (s : ByteArray) {n : Tree} (h : parseV s = treeV n) : check_Check.f k s = some (repC n.at_ (treeC 100000 n)) := by
 rw [check_eq k hk, h]
 unfold treeV
 have e : Tree.mk n.kind n.text n.n n.at_ n.kids = n := by cases n; rfl
 simp only [ne_eq, not_true_eq_false, if_false, e]
theorem check_out (k : Nat) (hk : 900000 ≤ k) (s : ByteArray) {c p : Int} (hc : c ≠ 0) (h : parseV s = outV c p) : check_Check.f k s = some ([], [], c, p) := by
 rw [check_eq k hk, h]
 unfold outV
 simp only [if_pos hc]
theorem checkRenames_k (s : ByteArray) (k : Nat) (hk : 1000000 ≤ k) (hfx : law13_fixed.f k = some true) : law13_CheckRenames.f k s = some true := by
 unfold law13_CheckRenames.f joinF
 rw [hfx]
 simp only [Option.bind_some, Bool.not_true, cond_false]
 refine cut_law _ s fun x hx => ?_
 have hlx : (bs x).length = x.size := bs_length x
 cases hs : scanF (bs x) with
 | inl e =>
  obtain ⟨c, p⟩ := e
  have hc := scanF_ne' _ _ _ hs
  rw [check_out k (by omega) x hc (parseV_inl hs)]
  simp only [Option.bind_some]
  rw [show (c != 0) = true from bne_iff_ne.2 hc]
  rfl
 | inr T =>
  cases hv : vAll (T.map tokT) with
  | bad i =>
   rw [check_out k (by omega) x (by decide) (parseV_bad hs hv)]
   rfl
  | ok n r =>
   have hp := parseV_ok hs hv
   rw [check_tree k (by omega) x hp]
   simp only [Option.bind_some]
   cases ht : treeC 100000 n with
   | bad e =>
    have he : e.1 ≠ 0 := by
     unfold treeC at ht
     split at ht
     ·cases ht; show (6 : Int) ≠ 0; decide
     ·rcases parseV_shape x with ⟨c, p, hc, h⟩ | ⟨m, h, hw, hz⟩
      ·rw [hp] at h
       simp only [treeV, outV, Prod.mk.injEq] at h
       exact absurd h.2.2.2.2.2.1.symm hc
      ·rw [hp] at h
       have := treeV_inj h
       subst this
       have := (node_bad (by omega) (wfC_gw hw).1 ht).1
       omega
    simp only [repC]
    rw [show (e.1 != 0) = true from bne_iff_ne.2 he]
    rfl
   | ok s1 =>
    have hT : scanL (bs x) 0 [] = .inr T := by rw [← scanF_small _ (by omega)]; exact hs
    have hTn := (scan_count _ _ _ _ _ (Nat.le_refl _) hT).2.1
    simp only [List.length_nil] at hTn
    simp only [repC, bne_self_eq_false, cond_false]
    rw [ren_fields x T hs k (by omega) (by omega)]
    simp only [Option.bind_some]
    cases hf : (T.map tokT).any fldB with
    | true => rfl
    | false =>
     simp only [cond_false]
     rcases renamed_eq x hx T hs k (by omega) with e | ⟨hz, e⟩
     ·rw [show law13_renamed.f k x ⟨#[97]⟩ ⟨#[122, 122, 122]⟩ = some (⟨#[]⟩, false) from e]
      rfl
     ·rw [show law13_renamed.f k x ⟨#[97]⟩ ⟨#[122, 122, 122]⟩ = some (str (renS T (bs x) 0), true) from e]
      simp only [Option.bind_some, Bool.not_true, cond_false]
      obtain ⟨T', hT', hR⟩ := ren_scan _ (bs x) 0 T (Nat.le_refl _) hT 0
      have hup := renS_up T (bs x) 0
      have hs' : scanF (bs (str (renS T (bs x) 0))) = .inr T' := by rw [bs_str, scanF_small _ (by omega)]; exact hT'
      have hTR := rts_TR hR hz (scan_words _ (bs x) 0 T (Nat.le_refl _) hT) hf
      obtain ⟨n', r', hv', hn⟩ := vAll_rn hTR (by rw [List.length_map, List.length_map]; exact hR.len) hv
      rw [check_tree k (by omega) _ (parseV_ok hs' hv')]
      have hh : ¬ htT n > 100 := fun h => by unfold treeC at ht; rw [if_pos h] at ht; cases ht
      have ht1 : nodeC 100000 [] st0 n false = .ok s1 := by unfold treeC at ht; rw [if_neg hh] at ht; exact ht
      obtain ⟨s1', h1', hsr⟩ := node_rho (d := 100000) (ab := []) (tg := false) (fun _ h => absurd h List.not_mem_nil) hn st0 st0 s1 SR0 ht1
      have h1' : nodeC 100000 [] st0 n' false = .ok s1' := h1'
      have ht' : treeC 100000 n' = .ok s1' := by unfold treeC; rw [rn_ht hn, if_neg hh]; exact h1'
      rw [ht']
      have hsm := node_small (s := st0) ⟨Nat.zero_le _, fun x hx => by obtain rfl := List.mem_singleton.1 hx; exact Nat.zero_le _⟩ ht1
      rcases parseV_shape x with ⟨c, p, hc, h⟩ | ⟨m, h, hw, hzm⟩
      ·rw [hp] at h
       simp only [treeV, outV, Prod.mk.injEq] at h
       exact absurd h.2.2.2.2.2.1.symm hc
      rw [hp] at h
      have := treeV_inj h
      subst this
      have hpo := (node_post (wfC_gw hw).1 ht1).pot
      have hb : s1.fs.length ≤ 400000 ∧ s1.gl.length ≤ 400000 := by
       simp only [pot, st0, List.length_cons, List.length_nil] at hpo
       omega
      have hrows : ((⟨#[]⟩, n'.at_, 0, s1'.sl, s1'.cs) :: s1'.fs.tail : List FRow).map (·.2.2) = ((⟨#[]⟩, n.at_, 0, s1.sl, s1.cs) :: s1.fs.tail : List FRow).map (·.2.2) := by
       rw [List.map_cons, List.map_cons, hsr.sl, hsr.cs, List.map_tail, List.map_tail, hsr.fs]
      have hlen := congrArg List.length hrows
      simp only [List.length_map] at hlen
      have hL1 := rows_loop (repC n.at_ (.ok s1)) (repC n'.at_ (.ok s1')) (fun _ => law13_CheckRenames.l0 k (repC n.at_ (.ok s1)) (repC n'.at_ (.ok s1')) (fun _ => some true) 0) _ _ [] [] k rfl rfl rfl hrows (fun y hy => by
       rcases List.mem_cons.1 hy with rfl | hy
       ·have := hsm.1; show s1.cs.length ≤ 400000; omega
       ·have := hsm.2 y (List.mem_of_mem_tail hy); omega) (by simp only [List.length_nil, List.length_cons, List.length_tail]; omega) (by simp only [List.length_cons, List.length_tail]; omega)
      have hL0 := globs_loop (repC n.at_ (.ok s1)) (repC n'.at_ (.ok s1')) (fun _ => some true) s1.gl [] k rfl (by show s1'.gl = _; rw [hsr.gl]; rfl) (by simp only [List.length_nil]; omega) (by omega)
      have hL1 : law13_CheckRenames.l1 k (repC n.at_ (.ok s1)) (repC n'.at_ (.ok s1')) (fun _ => law13_CheckRenames.l0 k (repC n.at_ (.ok s1)) (repC n'.at_ (.ok s1')) (fun _ => some true) 0) 0 = _ := hL1
      have hL0 : law13_CheckRenames.l0 k (repC n.at_ (.ok s1)) (repC n'.at_ (.ok s1')) (fun _ => some true) 0 = _ := hL0
      simp only [Option.bind_some]
      have hc0 : ((repC n'.at_ (.ok s1')).2.2.1 != 0) = false := rfl
      have hc1 : (((repC n'.at_ (.ok s1')).1.length : Int) != (((⟨#[]⟩, n.at_, 0, s1.sl, s1.cs) :: s1.fs.tail : List FRow).length : Int)) = false := by
       show ((((⟨#[]⟩, n'.at_, 0, s1'.sl, s1'.cs) :: s1'.fs.tail : List FRow).length : Int) != _) = false
       rw [hlen]; simp
      have hc2 : (((repC n'.at_ (.ok s1')).2.1.length : Int) != (s1.gl.length : Int)) = false := by
       show ((s1'.gl.length : Int) != _) = false
       rw [hsr.gl, List.length_map]; simp
      rw [hc0, hc1, hc2]
      simp only [cond_false, Option.bind_some]
      exact hL1.trans hL0
theorem fixedR : law13_fixed.f 1000000 = some true := by kernel_rfl
theorem checkRenames_true (s : ByteArray) : law13_CheckRenames.f 1000000 s = some true := checkRenames_k s 1000000 (Nat.le_refl _) fixedR
end Go.Proofs.YtdkgnlaneccioaaGreatDoor
