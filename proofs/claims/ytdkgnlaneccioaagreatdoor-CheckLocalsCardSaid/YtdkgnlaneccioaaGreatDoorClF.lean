/- Texts of mine for checkLocals_card, part 6. -/
import Derived.Test.YtdkgnlaneccioaaGreatDoorClE
set_option linter.unusedSimpArgs false
set_option linter.unusedVariables false
set_option linter.unusedSectionVars false
namespace Go.Proofs.YtdkgnlaneccioaaGreatDoor
open Go Go.RowKit
def r03_I.f (_k : Nat) (a0 : Int) : Option (Int × Int × ByteArray) := some ((2 : Int), a0, (⟨#[]⟩ : ByteArray))
set_option maxRecDepth 100000 in
theorem r03_I.ok {k : Nat} {a0 : Int} {r : Int × Int × ByteArray} (h : r03_I.f k a0 = some r) : Ct Tryz.prog 22 #[.int .i64 a0] [] [] (fun e l1 => e = .returned (.agg #[.int .i64 r.1, .int .i64 r.2.1, .string r.2.2]) ∧ l1 = []) := by
 refine ct_enter (args := [.int .i64 a0]) Tryz.func22 rfl (Nat.le_of_ble_eq_true rfl) ?_
 intro A X hh_
 unfold r03_I.f at h
 refine k_seq ?_
 refine k_region ?_
 refine kl_new (.cells #[.int .i64 (0 : Int), .int .i64 (0 : Int), .string (⟨#[]⟩ : ByteArray)] 53 (0, 0)) (fun b => .pointer (some ⟨b, 0, none⟩)) (by kernel_rfl) (by kernel_rfl) (fun _ => by kernel_rfl) fun b1 => ?_
 refine k_nil ?_
 refine k_then ?_
 refine k_seq ?_
 refine k_region ?_
 refine kl_steps 2 [(2, .pointer (some ⟨b1, 0, none⟩)), (4, .agg #[.int .i64 (2 : Int), .int .i64 a0, .string (⟨#[]⟩ : ByteArray)])] (by kernel_rfl) ?_
 refine kl_store (cs' := #[.int .i64 (2 : Int), .int .i64 a0, .string (⟨#[]⟩ : ByteArray)]) [.st ⟨b1, 0, none⟩ (.int .i64 (2 : Int)), .st ⟨b1, 1, none⟩ (.int .i64 a0), .st ⟨b1, 2, none⟩ (.string (⟨#[]⟩ : ByteArray))] (by kernel_rfl) (by kernel_rfl) (by kernel_rfl) ⟨rfl, rfl, rfl, trivial⟩ (by kernel_rfl) ?_
 refine k_nil ?_
 refine k_then ?_
 refine k_ret ?_
 obtain rfl := Option.some.inj h
 refine k_done (v := .agg #[.int .i64 (2 : Int), .int .i64 a0, .string (⟨#[]⟩ : ByteArray)]) [.val (.int .i64 (2 : Int)), .val (.int .i64 a0), .val (.string (⟨#[]⟩ : ByteArray))] [.ld ⟨b1, 0, none⟩ (.int .i64 (2 : Int)), .ld ⟨b1, 1, none⟩ (.int .i64 a0), .ld ⟨b1, 2, none⟩ (.string (⟨#[]⟩ : ByteArray))] [] (by kernel_rfl) (by kernel_rfl) ⟨⟨0, _, _, _, rfl, rfl, rfl⟩, ⟨0, _, _, _, rfl, rfl, rfl⟩, ⟨0, _, _, _, rfl, rfl, rfl⟩, trivial⟩ ?_
 refine K.drop ?_
 exact k_end ⟨rfl, rfl⟩
def law13_t2.f (k : Nat) (a0 : List (Int × Int × ByteArray)) : Option (Bool) := (cond (((a0.length : Nat) : Int) == (2 : Int)) ((lIdx a0 (0 : Int)).bind fun x3 => (r03_I.f k (1 : Int)).bind fun r7 => cond ((x3.1 == r7.1) && ((x3.2.1 == r7.2.1) && ((x3.2.2.toList == r7.2.2.toList) && true))) ((lIdx a0 (1 : Int)).bind fun x9 => (r03_I.f k (2 : Int)).bind fun r13 => some ((x9.1 == r13.1) && ((x9.2.1 == r13.2.1) && ((x9.2.2.toList == r13.2.2.toList) && true)))) (some false)) (some false) : Option Bool).bind fun q1 => some (q1)
set_option maxRecDepth 100000 in
theorem law13_t2.ok {k : Nat} {a0 : List (Int × Int × ByteArray)} {H_a0 : Frag} {A_a0 : Option Addr} {c_a0 : Nat} {r : Bool} (h : law13_t2.f k a0 = some r) (R_a0 : RdT e53 3 H_a0 (.slice A_a0 a0.length c_a0) a0) : Ct Tryz.prog 20 #[.slice A_a0 a0.length c_a0] [] [H_a0] (fun e l1 => e = .returned (.bool r) ∧ l1 = []) := by
 refine ct_enter (args := [.slice A_a0 a0.length c_a0]) Tryz.func20 rfl (Nat.le_of_ble_eq_true rfl) ?_
 intro A X hh_
 obtain ⟨hm_H_a0, _⟩ := hh_
 unfold law13_t2.f at h
 refine k_seq ?_
 refine k_region ?_
 refine kl_steps 1 [(0, .slice A_a0 a0.length c_a0)] (by kernel_rfl) ?_
 refine k_nil ?_
 refine k_then ?_
 obtain ⟨q1, hq1, h⟩ := bindSome h
 refine k_cut1 [(2, .bool q1)] (X) ?_ ?_
 ·clear hq1
  refine k_ret ?_
  obtain rfl := Option.some.inj h
  refine k_done (v := .bool q1) [] [] [] (by kernel_rfl) (by kernel_rfl) trivial ?_
  exact k_end ⟨rfl, rfl⟩
 ·have h := hq1
  clear hq1
  refine k_region_plan [(0, 0), (1, 0), (2, 0), (3, 0), (4, 0), (5, 0), (6, 3), (7, 1), (8, 0), (9, 0), (10, 0), (11, 0), (12, 0), (13, 3), (14, 1)] (fun w => OnAll [H_a0] w) (by kernel_rfl) (by kernel_rfl) (fun _ _ d _ _ h => by cases d <;> exact h) (fun w h_ => ⟨h_.sat.on _ hm_H_a0, trivial⟩) ?_
  simp only [planOps, List.filterMap_cons, List.filterMap_nil, List.getElem?_toArray, List.getElem?_cons_zero, List.getElem?_cons_succ, Option.map_some, List.drop_succ_cons, List.drop_zero, List.length_cons, List.length_nil]
  refine kp_steps 4 [(0, .slice A_a0 a0.length c_a0), (6, .bool (((a0.length : Nat) : Int) == (2 : Int)))] (by kernel_rfl) (by kernel_rfl) ?_
  rcases Bool.eq_false_or_eq_true ((((a0.length : Nat) : Int) == (2 : Int))) with t2 | t2
  ·have h := condT h t2
   refine K.weak (env' := [(0, .slice A_a0 a0.length c_a0), (6, .bool true)]) ?_ ⟨rfl, congrArg (fun b => some (Value.bool b)) t2, trivial⟩
   refine kp_steps 1 [(0, .slice A_a0 a0.length c_a0), (6, .bool true), (7, .slice A_a0 a0.length c_a0)] (by kernel_rfl) (by kernel_rfl) ?_
   obtain ⟨x3, hx3, h⟩ := bindSome h
   refine kp_elemP (T := 53) (kd := .i64) e53_ok rfl (by kernel_rfl) (by kernel_rfl) (by kernel_rfl) (by kernel_rfl) (by kernel_rfl) (by kernel_rfl) hx3 R_a0 fun p4 e5 y6 => ?_
   have e5 : Elem _ p4 [.int .i64 x3.1, .int .i64 x3.2.1, .string x3.2.2] := e5
   refine kp_eloadN rfl (by kernel_rfl) (by kernel_rfl) (by kernel_rfl) (by kernel_rfl) (by kernel_rfl) e5 (fun w h_ => h_.mem _ (.head _)) ?_
   refine kp_turn (by kernel_rfl) ?_
   obtain ⟨r7, hr7, h⟩ := bindSome h
   refine op_callv (by kernel_rfl) (by kernel_rfl) (r03_I.ok hr7) trivial ?_
   refine k_and (fun w h_ => ⟨h_.sat.on _ hm_H_a0, trivial⟩) ?_
   refine kp_eqS (r := ((x3.1 == r7.1) && ((x3.2.1 == r7.2.1) && ((x3.2.2.toList == r7.2.2.toList) && true)))) (xs := #[.int .i64 x3.1, .int .i64 x3.2.1, .string x3.2.2]) (ys := #[.int .i64 r7.1, .int .i64 r7.2.1, .string r7.2.2]) false (by kernel_rfl) rfl (by kernel_rfl) (by kernel_rfl) (by kernel_rfl) (by kernel_rfl) (by kernel_rfl) (by kernel_rfl) (by kernel_rfl) ?_
   refine kp_steps 2 [(0, .slice A_a0 a0.length c_a0), (13, .bool ((x3.1 == r7.1) && ((x3.2.1 == r7.2.1) && ((x3.2.2.toList == r7.2.2.toList) && true))))] (by kernel_rfl) (by kernel_rfl) ?_
   rcases Bool.eq_false_or_eq_true (((x3.1 == r7.1) && ((x3.2.1 == r7.2.1) && ((x3.2.2.toList == r7.2.2.toList) && true)))) with t8 | t8
   ·have h := condT h t8
    refine K.weak (env' := [(0, .slice A_a0 a0.length c_a0), (13, .bool true)]) ?_ ⟨rfl, congrArg (fun b => some (Value.bool b)) t8, trivial⟩
    refine kp_steps 1 [(13, .bool true), (14, .slice A_a0 a0.length c_a0)] (by kernel_rfl) (by kernel_rfl) ?_
    obtain ⟨x9, hx9, h⟩ := bindSome h
    refine kp_elemP (T := 53) (kd := .i64) e53_ok rfl (by kernel_rfl) (by kernel_rfl) (by kernel_rfl) (by kernel_rfl) (by kernel_rfl) (by kernel_rfl) hx9 R_a0 fun p10 e11 y12 => ?_
    have e11 : Elem _ p10 [.int .i64 x9.1, .int .i64 x9.2.1, .string x9.2.2] := e11
    refine kp_eloadN rfl (by kernel_rfl) (by kernel_rfl) (by kernel_rfl) (by kernel_rfl) (by kernel_rfl) e11 (fun w h_ => h_.mem _ (.head _)) ?_
    refine kp_turn (by kernel_rfl) ?_
    obtain ⟨r13, hr13, h⟩ := bindSome h
    refine op_callv (by kernel_rfl) (by kernel_rfl) (r03_I.ok hr13) trivial ?_
    refine k_and (fun w h_ => ⟨h_.sat.on _ hm_H_a0, trivial⟩) ?_
    refine kp_done ?_
    refine kl_eqS (r := ((x9.1 == r13.1) && ((x9.2.1 == r13.2.1) && ((x9.2.2.toList == r13.2.2.toList) && true)))) (xs := #[.int .i64 x9.1, .int .i64 x9.2.1, .string x9.2.2]) (ys := #[.int .i64 r13.1, .int .i64 r13.2.1, .string r13.2.2]) false (by kernel_rfl) rfl (by kernel_rfl) (by kernel_rfl) (by kernel_rfl) (by kernel_rfl) (by kernel_rfl) (by kernel_rfl) (by kernel_rfl) ?_
    refine kl_steps 2 [(2, .bool ((x9.1 == r13.1) && ((x9.2.1 == r13.2.1) && ((x9.2.2.toList == r13.2.2.toList) && true))))] (by kernel_rfl) ?_
    refine k_nil ?_
    refine k_then ?_
    exact k_meet1 ⟨congrArg (fun b => some (Value.bool b)) (Option.some.inj h), trivial⟩
   ·have h := condF h t8
    refine K.weak (env' := [(0, .slice A_a0 a0.length c_a0), (13, .bool false)]) ?_ ⟨rfl, congrArg (fun b => some (Value.bool b)) t8, trivial⟩
    refine kp_steps 2 [(13, .bool false), (15, undef)] (by kernel_rfl) (by kernel_rfl) ?_
    refine kp_skip3 (by kernel_rfl) (by kernel_rfl) ?_
    refine kp_skip1 (by kernel_rfl) (by kernel_rfl) ?_
    refine k_and (fun w h_ => ⟨h_.sat.on _ hm_H_a0, trivial⟩) ?_
    refine kp_done ?_
    refine kl_steps 3 [(2, .bool false)] (by kernel_rfl) ?_
    refine k_nil ?_
    refine k_then ?_
    exact k_meet1 ⟨congrArg (fun b => some (Value.bool b)) (Option.some.inj h), trivial⟩
  ·have h := condF h t2
   refine K.weak (env' := [(0, .slice A_a0 a0.length c_a0), (6, .bool false)]) ?_ ⟨rfl, congrArg (fun b => some (Value.bool b)) t2, trivial⟩
   refine kp_steps 2 [(0, .slice A_a0 a0.length c_a0), (6, .bool false), (8, undef)] (by kernel_rfl) (by kernel_rfl) ?_
   refine kp_skip3 (by kernel_rfl) (by kernel_rfl) ?_
   refine kp_skip1 (by kernel_rfl) (by kernel_rfl) ?_
   refine k_and (fun w h_ => ⟨h_.sat.on _ hm_H_a0, trivial⟩) ?_
   refine kp_steps 5 [(13, .bool false), (15, undef)] (by kernel_rfl) (by kernel_rfl) ?_
   refine kp_skip3 (by kernel_rfl) (by kernel_rfl) ?_
   refine kp_skip1 (by kernel_rfl) (by kernel_rfl) ?_
   refine k_and (fun w h_ => ⟨h_.sat.on _ hm_H_a0, trivial⟩) ?_
   refine kp_done ?_
   refine kl_steps 3 [(2, .bool false)] (by kernel_rfl) ?_
   refine k_nil ?_
   refine k_then ?_
   exact k_meet1 ⟨congrArg (fun b => some (Value.bool b)) (Option.some.inj h), trivial⟩
theorem ety79 : ElemTy Tryz.prog 79 5 1 1 Tryz.t5 (.int .u8 (0 : Int)) := ⟨by kernel_rfl, by kernel_rfl, by kernel_rfl, by kernel_rfl, by kernel_rfl, by kernel_rfl, by decide⟩
def r02_Format.l1 : Nat → (J7 : (List Int) → Option (ByteArray)) → (l59 : List Int) → (x64 : Int) → Option (ByteArray)
 | 0, _, _, _ => none
 | m65 + 1, J7, l59, x64 => cond (x64 != (0 : Int)) (joinF (fun (x67 : Int) => (apd 1 l59 [IntKind.u8.wrap (IntKind.i64.wrap ((48 : Int) + x67))]).bind fun l70 => r02_Format.l1 m65 J7 l70 (IntKind.i64.wrap (Int.tdiv x64 (10 : Int)))) (fun J68 => cond (decide ((Int.tmod x64 (10 : Int)) < (0 : Int))) (J68 (IntKind.i64.wrap (0 - (Int.tmod x64 (10 : Int))))) (J68 (Int.tmod x64 (10 : Int))))) (J7 l59)
def r02_Format.l0 : Nat → (J19 : (List Int) → Option (ByteArray)) → (l20 : List Int) → (x25 : Int) → Option (ByteArray)
 | 0, _, _, _ => none
 | m26 + 1, J19, l20, x25 => cond (decide (x25 < (IntKind.i64.wrap (Int.tdiv ((l20.length : Nat) : Int) (2 : Int))))) ((lIdx l20 (IntKind.i64.wrap ((IntKind.i64.wrap (((l20.length : Nat) : Int) - (1 : Int))) - x25))).bind fun x28 => (lIdx l20 x25).bind fun x32 => (lIdx l20 x25).bind fun x36 => (lSet l20 x25 x28).bind fun l40 => (lIdx l40 (IntKind.i64.wrap ((IntKind.i64.wrap (((l20.length : Nat) : Int) - (1 : Int))) - x25))).bind fun x44 => (lSet l40 (IntKind.i64.wrap ((IntKind.i64.wrap (((l20.length : Nat) : Int) - (1 : Int))) - x25)) x32).bind fun l48 => r02_Format.l0 m26 J19 l48 (IntKind.i64.wrap (x25 + (1 : Int)))) (J19 l20)
def r02_Format.f (k : Nat) (a0 : Int) : Option (ByteArray) := cond (a0 == (0 : Int)) (some ((⟨#[48]⟩ : ByteArray))) (joinF (fun (l2 : List Int) => joinF (fun (l8 : List Int) => joinF (fun (l14 : List Int) => some ((strOfNums l14))) (fun J19 => r02_Format.l0 k J19 l8 (0 : Int))) (fun J13 => cond (decide (a0 < (0 : Int))) ((apd 1 l2 [(45 : Int)]).bind fun l54 => J13 l54) (J13 l2))) (fun J7 => r02_Format.l1 k J7 ([]) a0))
set_option maxRecDepth 100000 in
theorem r02_Format.ok {k : Nat} {a0 : Int} {r : ByteArray} (h : r02_Format.f k a0 = some r) : Ct Tryz.prog 21 #[.int .i64 a0] [] [] (fun e l1 => e = .returned (.string r) ∧ l1 = []) := by
 refine ct_enter (args := [.int .i64 a0]) Tryz.func21 rfl (Nat.le_of_ble_eq_true rfl) ?_
 intro A X hh_
 unfold r02_Format.f at h
 refine k_seq ?_
 refine k_region ?_
 refine kl_steps 1 [(0, .int .i64 a0)] (by kernel_rfl) ?_
 refine k_nil ?_
 refine k_then ?_
 refine k_seq ?_
 refine k_seq ?_
 refine k_region ?_
 refine kl_steps 2 [(0, .int .i64 a0), (8, .bool (a0 == (0 : Int)))] (by kernel_rfl) ?_
 refine k_nil ?_
 refine k_then ?_
 refine k_cond (t := (a0 == (0 : Int))) (by kernel_rfl) (fun t1 => ?_) (fun t1 => ?_)
 ·have h := condT h t1
  refine k_seq ?_
  refine k_region ?_
  refine kl_steps 1 [(2, .string (⟨#[48]⟩ : ByteArray))] (by kernel_rfl) ?_
  refine k_nil ?_
  refine k_then ?_
  refine k_ret ?_
  refine k_then_ret ?_
  obtain rfl := Option.some.inj h
  refine k_done (v := .string (⟨#[48]⟩ : ByteArray)) [] [] [] (by kernel_rfl) (by kernel_rfl) trivial ?_
  exact k_end ⟨rfl, rfl⟩
 ·have h := condF h t1
  refine k_skip ?_
  refine k_then ?_
  refine k_seq ?_
  refine k_region ?_
  refine kl_steps 1 [(0, .int .i64 a0), (3, .slice none 0 0)] (by kernel_rfl) ?_
  refine k_nil ?_
  refine k_then ?_
  obtain ⟨J7, hJ7, h⟩ := joinSplit h
  refine k_cut (τ := (List Int) × Frag × (Option Addr) × Nat) (fun t => [(0, .int .i64 a0), (3, .slice t.2.2.1 t.1.length t.2.2.2)]) (fun t => t.2.1 :: X) (fun t => J7 t.1 = some r ∧ OwnT (encI .u8) 5 1 t.2.1 (.slice t.2.2.1 t.1.length t.2.2.2) t.1) ?_ ?_
  ·rintro ⟨l2, h3, A4, k5⟩ ⟨h, o6⟩
   subst hJ7
   obtain ⟨J13, hJ13, h⟩ := joinSplit h
   refine k_cut (τ := (List Int) × Frag × (Option Addr) × Nat) (fun t => [(3, .slice t.2.2.1 t.1.length t.2.2.2)]) (fun t => t.2.1 :: X) (fun t => J13 t.1 = some r ∧ OwnT (encI .u8) 5 1 t.2.1 (.slice t.2.2.1 t.1.length t.2.2.2) t.1) ?_ ?_
   ·rintro ⟨l8, h9, A10, k11⟩ ⟨h, o12⟩
    subst hJ13
    obtain ⟨J19, hJ19, h⟩ := joinSplit h
    refine k_cut (τ := (List Int) × Frag × (Option Addr) × Nat) (fun t => [(3, .slice t.2.2.1 t.1.length t.2.2.2)]) (fun t => t.2.1 :: X) (fun t => J19 t.1 = some r ∧ OwnT (encI .u8) 5 1 t.2.1 (.slice t.2.2.1 t.1.length t.2.2.2) t.1) ?_ ?_
    ·rintro ⟨l14, h15, A16, k17⟩ ⟨h, o18⟩
     subst hJ19
     refine k_seq ?_
     refine k_region ?_
     refine kl_steps 1 [(60, .slice A16 l14.length k17)] (by kernel_rfl) ?_
     refine kl_string (U := 5) (xs := l14) rfl (by kernel_rfl) (by kernel_rfl) (by kernel_rfl) (by kernel_rfl) (by kernel_rfl) (by kernel_rfl) (OwnT.rd o18) (.head _) ?_
     refine K.drop ?_
     refine kl_steps 1 [(2, .string (strOfNums l14))] (by kernel_rfl) ?_
     refine k_nil ?_
     refine k_then ?_
     refine k_ret ?_
     obtain rfl := Option.some.inj h
     refine k_done (v := .string (strOfNums l14)) [] [] [] (by kernel_rfl) (by kernel_rfl) trivial ?_
     exact k_end ⟨rfl, rfl⟩
    ·skip
     refine k_seq ?_
     refine k_region ?_
     refine kl_steps 1 [(3, .slice A10 l8.length k11), (6, .int .i64 (0 : Int))] (by kernel_rfl) ?_
     refine k_nil ?_
     refine k_then ?_
     refine k_block ?_
     refine k_loop (τ := (List Int) × Int × Frag × (Option Addr) × Nat) (fun t => [(3, .slice t.2.2.2.1 t.1.length t.2.2.2.2), (6, .int .i64 t.2.1)]) (fun t => t.2.2.1 :: X) (fun m t => r02_Format.l0 m J19 t.1 t.2.1 = some r ∧ OwnT (encI .u8) 5 1 t.2.2.1 (.slice t.2.2.2.1 t.1.length t.2.2.2.2) t.1) k (l8, (0 : Int), h9, A10, k11) ⟨h, o12⟩ ⟨rfl, rfl, trivial⟩ rfl ?_
     clear h
     rintro m26 ⟨l20, x25, h21, A22, k23⟩ ⟨h, o24⟩
     cases m26 with
     | zero => simp [r02_Format.l0] at h
     | succ m26 =>
      simp only [r02_Format.l0] at h
      refine k_seq ?_
      refine k_seq ?_
      refine k_region ?_
      refine kl_steps 5 [(3, .slice A22 l20.length k23), (6, .int .i64 x25), (35, .bool (decide (x25 < (IntKind.i64.wrap (Int.tdiv ((l20.length : Nat) : Int) (2 : Int))))))] (by kernel_rfl) ?_
      refine k_nil ?_
      refine k_then ?_
      refine k_cond (t := decide (x25 < (IntKind.i64.wrap (Int.tdiv ((l20.length : Nat) : Int) (2 : Int))))) (by kernel_rfl) (fun t27 => ?_) (fun t27 => ?_)
      ·have h := condT h t27
       refine k_skip ?_
       refine k_then ?_
       refine k_seq ?_
       refine k_block ?_
       refine k_region_plan [(0, 0), (1, 0), (2, 0), (3, 0), (4, 0), (5, 0), (6, 0), (7, 0), (8, 0), (9, 0), (10, 0), (11, 0), (12, 0), (13, 0), (14, 0), (15, 3), (16, 0), (17, 0), (18, 0), (19, 3)] (fun w => OnAll [h21] w) (by kernel_rfl) (by kernel_rfl) (fun _ _ d _ _ h => by cases d <;> exact h) (fun w h_ => ⟨h_.sat.on _ (.head _), trivial⟩) ?_
       simp only [planOps, List.filterMap_cons, List.filterMap_nil, List.getElem?_toArray, List.getElem?_cons_zero, List.getElem?_cons_succ, Option.map_some, List.drop_succ_cons, List.drop_zero, List.length_cons, List.length_nil]
       refine kp_steps 14 [(3, .slice A22 l20.length k23), (6, .int .i64 x25), (38, .slice A22 l20.length k23), (39, .int .i64 x25), (40, .slice A22 l20.length k23), (45, .int .i64 (IntKind.i64.wrap ((IntKind.i64.wrap (((l20.length : Nat) : Int) - (1 : Int))) - x25))), (46, .slice A22 l20.length k23), (51, .int .i64 (IntKind.i64.wrap ((IntKind.i64.wrap (((l20.length : Nat) : Int) - (1 : Int))) - x25)))] (by kernel_rfl) (by kernel_rfl) ?_
       obtain ⟨x28, hx28, h⟩ := bindSome h
       refine kp_elemP (T := 5) (kd := .i64) (encI_ok .u8) rfl (by kernel_rfl) (by kernel_rfl) (by kernel_rfl) (by kernel_rfl) (by kernel_rfl) (by kernel_rfl) hx28 (OwnT.rd o24) fun p29 e30 y31 => ?_
       have e30 : Elem _ p29 [.int .u8 x28] := e30
       refine kp_eload1 rfl (by kernel_rfl) (by kernel_rfl) (by kernel_rfl) (by kernel_rfl) e30 (fun w h_ => h_.mem _ (.head _)) ?_
       refine kp_steps 2 [(3, .slice A22 l20.length k23), (6, .int .i64 x25), (38, .slice A22 l20.length k23), (39, .int .i64 x25), (40, .slice A22 l20.length k23), (45, .int .i64 (IntKind.i64.wrap ((IntKind.i64.wrap (((l20.length : Nat) : Int) - (1 : Int))) - x25))), (53, .int .u8 x28), (54, .slice A22 l20.length k23), (55, .int .i64 x25)] (by kernel_rfl) (by kernel_rfl) ?_
       obtain ⟨x32, hx32, h⟩ := bindSome h
       refine kp_elemP (T := 5) (kd := .i64) (encI_ok .u8) rfl (by kernel_rfl) (by kernel_rfl) (by kernel_rfl) (by kernel_rfl) (by kernel_rfl) (by kernel_rfl) hx32 (OwnT.rd o24) fun p33 e34 y35 => ?_
       have e34 : Elem _ p33 [.int .u8 x32] := e34
       refine kp_eload1 rfl (by kernel_rfl) (by kernel_rfl) (by kernel_rfl) (by kernel_rfl) e34 (fun w h_ => h_.mem _ (.head _)) ?_
       refine kp_done ?_
       obtain ⟨x36, hx36, h⟩ := bindSome h
       refine kl_elemP (T := 5) (kd := .i64) (encI_ok .u8) rfl (by kernel_rfl) (by kernel_rfl) (by kernel_rfl) (by kernel_rfl) (by kernel_rfl) (by kernel_rfl) hx36 (OwnT.rd o24) fun p37 e38 y39 => ?_
       have e38 : Elem _ p37 [.int .u8 x36] := e38
       obtain ⟨l40, hl40, h⟩ := bindSome h
       refine kl_estore (v := .int .u8 x28) (off := 0) (x' := x28) (encI_ok .u8) rfl (by kernel_rfl) (by kernel_rfl) (by kernel_rfl) (by kernel_rfl) (by kernel_rfl) y39 o24 hx36 (by kernel_rfl) (by kernel_rfl) hl40 fun h41 o42 => ?_
       have g43 := lSet_len hl40
       refine K.weak (env' := [(3, .slice A22 l40.length k23), (6, .int .i64 x25), (40, .slice A22 l40.length k23), (45, .int .i64 (IntKind.i64.wrap ((IntKind.i64.wrap (((l20.length : Nat) : Int) - (1 : Int))) - x25))), (53, .int .u8 x28), (57, .int .u8 x32)]) ?_ ⟨(by first | rfl | (rw [g43]; rfl)), rfl, (by first | rfl | (rw [g43]; rfl)), rfl, rfl, rfl, trivial⟩
       refine K.eq (l' := h41 :: X) rfl (by first | rfl | (rw [g43])) ?_
       obtain ⟨x44, hx44, h⟩ := bindSome h
       refine kl_elemP (T := 5) (kd := .i64) (encI_ok .u8) rfl (by kernel_rfl) (by kernel_rfl) (by kernel_rfl) (by kernel_rfl) (by kernel_rfl) (by kernel_rfl) hx44 (OwnT.rd o42) fun p45 e46 y47 => ?_
       have e46 : Elem _ p45 [.int .u8 x44] := e46
       obtain ⟨l48, hl48, h⟩ := bindSome h
       refine kl_estore (v := .int .u8 x32) (off := 0) (x' := x32) (encI_ok .u8) rfl (by kernel_rfl) (by kernel_rfl) (by kernel_rfl) (by kernel_rfl) (by kernel_rfl) y47 o42 hx44 (by kernel_rfl) (by kernel_rfl) hl48 fun h49 o50 => ?_
       have g51 := lSet_len hl48
       refine K.weak (env' := [(3, .slice A22 l48.length k23), (6, .int .i64 x25), (57, .int .u8 x32)]) ?_ ⟨(by first | rfl | (rw [g51]; rfl)), rfl, rfl, trivial⟩
       refine K.eq (l' := h49 :: X) rfl (by first | rfl | (rw [g51])) ?_
       refine k_nil ?_
       refine k_blk ?_
       refine k_then ?_
       refine k_region ?_
       refine kl_steps 3 [(3, .slice A22 l48.length k23), (6, .int .i64 (IntKind.i64.wrap (x25 + (1 : Int))))] (by kernel_rfl) ?_
       refine k_nil ?_
       refine k_then ?_
       exact k_again m26 (l48, IntKind.i64.wrap (x25 + (1 : Int)), h49, A22, k23) (Nat.lt_succ_self _) ⟨h, o50⟩ ⟨rfl, rfl, trivial⟩ rfl
      ·have h := condF h t27
       refine k_exit ?_
       refine k_then_exit ?_
       refine k_then_exit ?_
       refine k_here ?_
       refine k_then ?_
       exact k_meet (l20, h21, A22, k23) ⟨h, o24⟩ ⟨rfl, trivial⟩ rfl
   ·skip
    refine k_seq ?_
    refine k_region ?_
    refine kl_steps 2 [(3, .slice A4 l2.length k5), (27, .bool (decide (a0 < (0 : Int))))] (by kernel_rfl) ?_
    refine k_nil ?_
    refine k_then ?_
    refine k_cond (t := decide (a0 < (0 : Int))) (by kernel_rfl) (fun t52 => ?_) (fun t52 => ?_)
    ·have h := condT h t52
     refine k_region ?_
     refine kl_steps 1 [(3, .slice A4 l2.length k5), (28, .slice A4 l2.length k5)] (by kernel_rfl) ?_
     refine kl_new (.cells #[.int .u8 (45 : Int)] 5 (0, 0)) (fun b => .slice (some ⟨b, 0, none⟩) 1 1) (by kernel_rfl) (by kernel_rfl) (fun _ => by kernel_rfl) fun b53 => ?_
     refine K.mv1 ?_
     obtain ⟨l54, hl54, h⟩ := bindSome h
     refine kl_apd (ys := [(45 : Int)]) (encI_ok .u8) rfl ety79 (by kernel_rfl) (by kernel_rfl) (by kernel_rfl) (by kernel_rfl) (by kernel_rfl) hl54 o6 (src_blk (n := 1) (encI_ok .u8) [(45 : Int)] (by kernel_rfl) rfl (by decide) 1 rfl) fun h55 A56 k57 o58 => ?_
     refine K.mv1 ?_
     refine K.drop ?_
     refine kl_steps 1 [(3, .slice A56 l54.length k57)] (by kernel_rfl) ?_
     refine k_nil ?_
     refine k_then ?_
     exact k_meet (l54, h55, A56, k57) ⟨h, o58⟩ ⟨rfl, trivial⟩ rfl
    ·have h := condF h t52
     refine k_skip ?_
     refine k_then ?_
     exact k_meet (l2, h3, A4, k5) ⟨h, o6⟩ ⟨rfl, trivial⟩ rfl
  ·skip
   refine k_seq ?_
   refine k_region ?_
   refine kl_steps 2 [(0, .int .i64 a0), (3, .slice none 0 0), (4, .int .i64 a0)] (by kernel_rfl) ?_
   refine k_nil ?_
   refine k_then ?_
   refine k_block ?_
   refine k_none ?_
   refine k_loop (τ := (List Int) × Int × Frag × (Option Addr) × Nat) (fun t => [(0, .int .i64 a0), (3, .slice t.2.2.2.1 t.1.length t.2.2.2.2), (4, .int .i64 t.2.1)]) (fun t => t.2.2.1 :: X) (fun m t => r02_Format.l1 m J7 t.1 t.2.1 = some r ∧ OwnT (encI .u8) 5 1 t.2.2.1 (.slice t.2.2.2.1 t.1.length t.2.2.2.2) t.1) k ([], a0, none_, none, 0) ⟨h, (OwnT.nil (encI .u8) 5 1 none_)⟩ ⟨rfl, rfl, rfl, trivial⟩ rfl ?_
   clear h
   rintro m65 ⟨l59, x64, h60, A61, k62⟩ ⟨h, o63⟩
   cases m65 with
   | zero => simp [r02_Format.l1] at h
   | succ m65 =>
    simp only [r02_Format.l1] at h
    refine k_seq ?_
    refine k_seq ?_
    refine k_region ?_
    refine kl_steps 2 [(0, .int .i64 a0), (3, .slice A61 l59.length k62), (4, .int .i64 x64), (11, .bool (x64 != (0 : Int)))] (by kernel_rfl) ?_
    refine k_nil ?_
    refine k_then ?_
    refine k_cond (t := (x64 != (0 : Int))) (by kernel_rfl) (fun t66 => ?_) (fun t66 => ?_)
    ·have h := condT h t66
     refine k_skip ?_
     refine k_then ?_
     refine k_seq ?_
     refine k_block ?_
     refine k_seq ?_
     refine k_region ?_
     refine kl_steps 3 [(0, .int .i64 a0), (3, .slice A61 l59.length k62), (4, .int .i64 x64), (5, .int .i64 (Int.tmod x64 (10 : Int)))] (by kernel_rfl) ?_
     refine k_nil ?_
     refine k_then ?_
     obtain ⟨J68, hJ68, h⟩ := joinSplit h
     refine k_cut (τ := Int) (fun t => [(0, .int .i64 a0), (3, .slice A61 l59.length k62), (4, .int .i64 x64), (5, .int .i64 t)]) (fun t => h60 :: X) (fun t => J68 t = some r) ?_ ?_
     ·rintro x67 h
      subst hJ68
      refine k_region ?_
      refine kl_steps 4 [(0, .int .i64 a0), (3, .slice A61 l59.length k62), (4, .int .i64 x64), (20, .slice A61 l59.length k62), (23, .int .u8 (IntKind.u8.wrap (IntKind.i64.wrap ((48 : Int) + x67))))] (by kernel_rfl) ?_
      refine kl_new (.cells #[.int .u8 (IntKind.u8.wrap (IntKind.i64.wrap ((48 : Int) + x67)))] 5 (0, 0)) (fun b => .slice (some ⟨b, 0, none⟩) 1 1) (by kernel_rfl) (by kernel_rfl) (fun _ => by kernel_rfl) fun b69 => ?_
      refine K.mv1 ?_
      obtain ⟨l70, hl70, h⟩ := bindSome h
      refine kl_apd (ys := [IntKind.u8.wrap (IntKind.i64.wrap ((48 : Int) + x67))]) (encI_ok .u8) rfl ety79 (by kernel_rfl) (by kernel_rfl) (by kernel_rfl) (by kernel_rfl) (by kernel_rfl) hl70 o63 (src_blk (n := 1) (encI_ok .u8) [IntKind.u8.wrap (IntKind.i64.wrap ((48 : Int) + x67))] (by kernel_rfl) rfl (by decide) 1 rfl) fun h71 A72 k73 o74 => ?_
      refine K.mv1 ?_
      refine K.drop ?_
      refine kl_steps 1 [(0, .int .i64 a0), (3, .slice A72 l70.length k73), (4, .int .i64 x64)] (by kernel_rfl) ?_
      refine k_nil ?_
      refine k_blk ?_
      refine k_then ?_
      refine k_region ?_
      refine kl_steps 3 [(0, .int .i64 a0), (3, .slice A72 l70.length k73), (4, .int .i64 (IntKind.i64.wrap (Int.tdiv x64 (10 : Int))))] (by kernel_rfl) ?_
      refine k_nil ?_
      refine k_then ?_
      exact k_again m65 (l70, IntKind.i64.wrap (Int.tdiv x64 (10 : Int)), h71, A72, k73) (Nat.lt_succ_self _) ⟨h, o74⟩ ⟨rfl, rfl, rfl, trivial⟩ rfl
     ·skip
      refine k_seq ?_
      refine k_region ?_
      refine kl_steps 2 [(0, .int .i64 a0), (3, .slice A61 l59.length k62), (4, .int .i64 x64), (5, .int .i64 (Int.tmod x64 (10 : Int))), (17, .bool (decide ((Int.tmod x64 (10 : Int)) < (0 : Int))))] (by kernel_rfl) ?_
      refine k_nil ?_
      refine k_then ?_
      refine k_cond (t := decide ((Int.tmod x64 (10 : Int)) < (0 : Int))) (by kernel_rfl) (fun t75 => ?_) (fun t75 => ?_)
      ·have h := condT h t75
       refine k_region ?_
       refine kl_steps 3 [(0, .int .i64 a0), (3, .slice A61 l59.length k62), (4, .int .i64 x64), (5, .int .i64 (IntKind.i64.wrap (0 - (Int.tmod x64 (10 : Int)))))] (by kernel_rfl) ?_
       refine k_nil ?_
       refine k_then ?_
       exact k_meet (IntKind.i64.wrap (0 - (Int.tmod x64 (10 : Int)))) h ⟨rfl, rfl, rfl, rfl, trivial⟩ rfl
      ·have h := condF h t75
       refine k_skip ?_
       refine k_then ?_
       exact k_meet (Int.tmod x64 (10 : Int)) h ⟨rfl, rfl, rfl, rfl, trivial⟩ rfl
    ·have h := condF h t66
     refine k_exit ?_
     refine k_then_exit ?_
     refine k_then_exit ?_
     refine k_here ?_
     refine k_then ?_
     exact k_meet (l59, h60, A61, k62) ⟨h, o63⟩ ⟨rfl, rfl, trivial⟩ rfl
def law13_many.l0 : Nat → (a0 : Int) → (a1 : ByteArray) → (J2 : ByteArray → Option (ByteArray)) → (x3 : ByteArray) → (x4 : Int) → Option (ByteArray)
 | 0, _, _, _, _, _ => none
 | m5 + 1, a0, a1, J2, x3, x4 => cond (decide (x4 < a0)) (joinF (fun (x7 : ByteArray) => (r02_Format.f m5 x4).bind fun r9 => (sCat a1 r9).bind fun s10 : ByteArray => (sCat x7 s10).bind fun s11 : ByteArray => law13_many.l0 m5 a0 a1 J2 s11 (IntKind.i64.wrap (x4 + (1 : Int)))) (fun J8 => cond (decide (x4 > (0 : Int))) ((sCat x3 (⟨#[44, 32]⟩ : ByteArray)).bind fun s13 : ByteArray => J8 s13) (J8 x3))) (J2 x3)
def law13_many.f (k : Nat) (a0 : Int) (a1 : ByteArray) : Option (ByteArray) := joinF (fun (x1 : ByteArray) => some (x1)) (fun J2 => law13_many.l0 k a0 a1 J2 (⟨#[]⟩ : ByteArray) (0 : Int))
set_option maxRecDepth 100000 in
theorem law13_many.ok {k : Nat} {a0 : Int} {a1 : ByteArray} {r : ByteArray} (h : law13_many.f k a0 a1 = some r) : Ct Tryz.prog 19 #[.int .i64 a0, .string a1] [] [] (fun e l1 => e = .returned (.string r) ∧ l1 = []) := by
 refine ct_enter (args := [.int .i64 a0, .string a1]) Tryz.func19 rfl (Nat.le_of_ble_eq_true rfl) ?_
 intro A X hh_
 unfold law13_many.f at h
 refine k_seq ?_
 refine k_region ?_
 refine kl_steps 1 [(0, .int .i64 a0), (1, .string a1)] (by kernel_rfl) ?_
 refine k_nil ?_
 refine k_then ?_
 refine k_seq ?_
 refine k_region ?_
 refine kl_steps 1 [(0, .int .i64 a0), (1, .string a1), (5, .string (⟨#[]⟩ : ByteArray))] (by kernel_rfl) ?_
 refine k_nil ?_
 refine k_then ?_
 obtain ⟨J2, hJ2, h⟩ := joinSplit h
 refine k_cut (τ := ByteArray) (fun t => [(5, .string t)]) (fun t => X) (fun t => J2 t = some r) ?_ ?_
 ·rintro x1 h
  subst hJ2
  refine k_seq ?_
  refine k_region ?_
  refine kl_steps 2 [(4, .string x1)] (by kernel_rfl) ?_
  refine k_nil ?_
  refine k_then ?_
  refine k_ret ?_
  obtain rfl := Option.some.inj h
  refine k_done (v := .string x1) [] [] [] (by kernel_rfl) (by kernel_rfl) trivial ?_
  exact k_end ⟨rfl, rfl⟩
 ·skip
  refine k_seq ?_
  refine k_region ?_
  refine kl_steps 1 [(0, .int .i64 a0), (1, .string a1), (5, .string (⟨#[]⟩ : ByteArray)), (6, .int .i64 (0 : Int))] (by kernel_rfl) ?_
  refine k_nil ?_
  refine k_then ?_
  refine k_block ?_
  refine k_loop (τ := ByteArray × Int) (fun t => [(0, .int .i64 a0), (1, .string a1), (5, .string t.1), (6, .int .i64 t.2)]) (fun t => X) (fun m t => law13_many.l0 m a0 a1 J2 t.1 t.2 = some r) k ((⟨#[]⟩ : ByteArray), (0 : Int)) h ⟨rfl, rfl, rfl, rfl, trivial⟩ rfl ?_
  clear h
  rintro m5 ⟨x3, x4⟩ h
  cases m5 with
  | zero => simp [law13_many.l0] at h
  | succ m5 =>
   simp only [law13_many.l0] at h
   refine k_seq ?_
   refine k_seq ?_
   refine k_region ?_
   refine kl_steps 3 [(0, .int .i64 a0), (1, .string a1), (5, .string x3), (6, .int .i64 x4), (9, .bool (decide (x4 < a0)))] (by kernel_rfl) ?_
   refine k_nil ?_
   refine k_then ?_
   refine k_cond (t := decide (x4 < a0)) (by kernel_rfl) (fun t6 => ?_) (fun t6 => ?_)
   ·have h := condT h t6
    refine k_skip ?_
    refine k_then ?_
    refine k_seq ?_
    refine k_block ?_
    obtain ⟨J8, hJ8, h⟩ := joinSplit h
    refine k_cut (τ := ByteArray) (fun t => [(0, .int .i64 a0), (1, .string a1), (5, .string t), (6, .int .i64 x4)]) (fun t => X) (fun t => J8 t = some r) ?_ ?_
    ·rintro x7 h
     subst hJ8
     refine k_region ?_
     refine kl_steps 3 [(0, .int .i64 a0), (1, .string a1), (5, .string x7), (6, .int .i64 x4), (16, .string x7), (17, .string a1), (18, .int .i64 x4)] (by kernel_rfl) ?_
     obtain ⟨r9, hr9, h⟩ := bindSome h
     refine kl_callv (by kernel_rfl) (by kernel_rfl) (by kernel_rfl) (r02_Format.ok hr9) trivial ?_
     obtain ⟨s10, hs10, h⟩ := bindSome h
     refine kl_cat rfl (by kernel_rfl) (by kernel_rfl) (by kernel_rfl) (by kernel_rfl) hs10 ?_
     obtain ⟨s11, hs11, h⟩ := bindSome h
     refine kl_cat rfl (by kernel_rfl) (by kernel_rfl) (by kernel_rfl) (by kernel_rfl) hs11 ?_
     refine kl_steps 1 [(0, .int .i64 a0), (1, .string a1), (5, .string s11), (6, .int .i64 x4)] (by kernel_rfl) ?_
     refine k_nil ?_
     refine k_blk ?_
     refine k_then ?_
     refine k_region ?_
     refine kl_steps 3 [(0, .int .i64 a0), (1, .string a1), (5, .string s11), (6, .int .i64 (IntKind.i64.wrap (x4 + (1 : Int))))] (by kernel_rfl) ?_
     refine k_nil ?_
     refine k_then ?_
     exact k_again m5 (s11, IntKind.i64.wrap (x4 + (1 : Int))) (Nat.lt_succ_self _) h ⟨rfl, rfl, rfl, rfl, trivial⟩ rfl
    ·skip
     refine k_seq ?_
     refine k_region ?_
     refine kl_steps 2 [(0, .int .i64 a0), (1, .string a1), (5, .string x3), (6, .int .i64 x4), (13, .bool (decide (x4 > (0 : Int))))] (by kernel_rfl) ?_
     refine k_nil ?_
     refine k_then ?_
     refine k_cond (t := decide (x4 > (0 : Int))) (by kernel_rfl) (fun t12 => ?_) (fun t12 => ?_)
     ·have h := condT h t12
      refine k_region ?_
      refine kl_steps 1 [(0, .int .i64 a0), (1, .string a1), (5, .string x3), (6, .int .i64 x4), (14, .string x3)] (by kernel_rfl) ?_
      obtain ⟨s13, hs13, h⟩ := bindSome h
      refine kl_cat rfl (by kernel_rfl) (by kernel_rfl) (by kernel_rfl) (by kernel_rfl) hs13 ?_
      refine kl_steps 1 [(0, .int .i64 a0), (1, .string a1), (5, .string s13), (6, .int .i64 x4)] (by kernel_rfl) ?_
      refine k_nil ?_
      refine k_then ?_
      exact k_meet s13 h ⟨rfl, rfl, rfl, rfl, trivial⟩ rfl
     ·have h := condF h t12
      refine k_skip ?_
      refine k_then ?_
      exact k_meet x3 h ⟨rfl, rfl, rfl, rfl, trivial⟩ rfl
   ·have h := condF h t6
    refine k_exit ?_
    refine k_then_exit ?_
    refine k_then_exit ?_
    refine k_here ?_
    refine k_then ?_
    exact k_meet x3 h ⟨rfl, trivial⟩ rfl
def law13_CheckLocals.f (k : Nat) (a0 : Int) (a1 : Int) : Option (Bool) := (law13_fixed.f k).bind fun r1 => cond (!r1) (some (false)) ((law13_many.f k (IntKind.i64.wrap ((1 : Int) + (IntKind.i64.wrap (Int.tmod (IntKind.u64.wrap a0) (50 : Int))))) (⟨#[97]⟩ : ByteArray)).bind fun r3 => (sCat (⟨#[108, 111, 99, 97, 108, 32]⟩ : ByteArray) r3).bind fun s4 : ByteArray => (sCat s4 (⟨#[32]⟩ : ByteArray)).bind fun s5 : ByteArray => (sCat s5 (⟨#[102, 111, 114, 32, 105, 32, 61, 32, 49, 44, 32, 50, 32, 100, 111, 32]⟩ : ByteArray)).bind fun s6 : ByteArray => (sCat s6 (⟨#[108, 111, 99, 97, 108, 32]⟩ : ByteArray)).bind fun s7 : ByteArray => (law13_many.f k (IntKind.i64.wrap ((1 : Int) + (IntKind.i64.wrap (Int.tmod (IntKind.u64.wrap a1) (50 : Int))))) (⟨#[98]⟩ : ByteArray)).bind fun r8 => (sCat s7 r8).bind fun s9 : ByteArray => (sCat s9 (⟨#[32, 101, 110, 100]⟩ : ByteArray)).bind fun s10 : ByteArray => (check_Check.f k s10).bind fun r11 => cond (decide ((IntKind.i64.wrap ((IntKind.i64.wrap ((1 : Int) + (IntKind.i64.wrap (Int.tmod (IntKind.u64.wrap a0) (50 : Int))))) + (4 : Int))) > (60 : Int))) (some ((r11.2.2.1 == (6 : Int)))) (cond (decide ((IntKind.i64.wrap ((IntKind.i64.wrap ((IntKind.i64.wrap ((1 : Int) + (IntKind.i64.wrap (Int.tmod (IntKind.u64.wrap a0) (50 : Int))))) + (4 : Int))) + (IntKind.i64.wrap ((1 : Int) + (IntKind.i64.wrap (Int.tmod (IntKind.u64.wrap a1) (50 : Int))))))) > (60 : Int))) (some (((r11.2.2.1 == (6 : Int)) && ((r11.2.2.2 == (IntKind.i64.wrap ((s5.size : Int) + ((⟨#[102, 111, 114, 32, 105, 32, 61, 32, 49, 44, 32, 50, 32, 100, 111, 32]⟩ : ByteArray).size : Int)))) && true)))) ((cond (r11.2.2.1 == (0 : Int)) (cond (((r11.1.length : Nat) : Int) == (1 : Int)) ((lIdx r11.1 (0 : Int)).bind fun x27 => cond (x27.2.2.2.1 == (IntKind.i64.wrap ((IntKind.i64.wrap ((IntKind.i64.wrap ((1 : Int) + (IntKind.i64.wrap (Int.tmod (IntKind.u64.wrap a0) (50 : Int))))) + (4 : Int))) + (IntKind.i64.wrap ((1 : Int) + (IntKind.i64.wrap (Int.tmod (IntKind.u64.wrap a1) (50 : Int)))))))) ((lIdx r11.1 (0 : Int)).bind fun x40 => (law13_t2.f k x40.2.2.2.2).bind fun r52 => some r52) (some false)) (some false)) (some false) : Option Bool).bind fun q24 => some (q24))))
set_option maxRecDepth 100000 in
theorem law13_CheckLocals.ok {k : Nat} {a0 : Int} {a1 : Int} {G : Frag} {r : Bool} (h : law13_CheckLocals.f k a0 a1 = some r) (hG : GlP G) : Ct Tryz.prog 6 #[.int .i64 a0, .int .i64 a1] [] [G] (fun e l1 => e = .returned (.bool r) ∧ l1 = []) := by
 refine ct_enter (args := [.int .i64 a0, .int .i64 a1]) Tryz.func6 rfl (Nat.le_of_ble_eq_true rfl) ?_
 intro A X hh_
 obtain ⟨hm_G, _⟩ := hh_
 unfold law13_CheckLocals.f at h
 refine k_seq ?_
 refine k_region ?_
 refine kl_steps 1 [(0, .int .i64 a0), (1, .int .i64 a1)] (by kernel_rfl) ?_
 refine k_nil ?_
 refine k_then ?_
 refine k_seq ?_
 refine k_seq ?_
 refine k_region ?_
 obtain ⟨r1, hr1, h⟩ := bindSome h
 refine kl_callv (by kernel_rfl) (by kernel_rfl) (by kernel_rfl) (law13_fixed.ok hr1 hG) ⟨hm_G, trivial⟩ ?_
 refine kl_steps 1 [(0, .int .i64 a0), (1, .int .i64 a1), (10, .bool (!r1))] (by kernel_rfl) ?_
 refine k_nil ?_
 refine k_then ?_
 refine k_cond (t := !r1) (by kernel_rfl) (fun t2 => ?_) (fun t2 => ?_)
 ·have h := condT h t2
  refine k_seq ?_
  refine k_region ?_
  refine kl_steps 1 [(4, .bool false)] (by kernel_rfl) ?_
  refine k_nil ?_
  refine k_then ?_
  refine k_ret ?_
  refine k_then_ret ?_
  obtain rfl := Option.some.inj h
  refine k_done (v := .bool false) [] [] [] (by kernel_rfl) (by kernel_rfl) trivial ?_
  exact k_end ⟨rfl, rfl⟩
 ·have h := condF h t2
  refine k_skip ?_
  refine k_then ?_
  refine k_seq ?_
  refine k_region ?_
  refine kl_steps 12 [(0, .int .i64 (IntKind.i64.wrap ((1 : Int) + (IntKind.i64.wrap (Int.tmod (IntKind.u64.wrap a0) (50 : Int)))))), (1, .int .i64 (IntKind.i64.wrap ((1 : Int) + (IntKind.i64.wrap (Int.tmod (IntKind.u64.wrap a1) (50 : Int))))))] (by kernel_rfl) ?_
  refine k_nil ?_
  refine k_then ?_
  refine k_seq ?_
  refine k_region ?_
  refine kl_steps 1 [(0, .int .i64 (IntKind.i64.wrap ((1 : Int) + (IntKind.i64.wrap (Int.tmod (IntKind.u64.wrap a0) (50 : Int)))))), (1, .int .i64 (IntKind.i64.wrap ((1 : Int) + (IntKind.i64.wrap (Int.tmod (IntKind.u64.wrap a1) (50 : Int)))))), (21, .int .i64 (IntKind.i64.wrap ((1 : Int) + (IntKind.i64.wrap (Int.tmod (IntKind.u64.wrap a0) (50 : Int))))))] (by kernel_rfl) ?_
  obtain ⟨r3, hr3, h⟩ := bindSome h
  refine kl_callv (by kernel_rfl) (by kernel_rfl) (by kernel_rfl) (law13_many.ok hr3) trivial ?_
  obtain ⟨s4, hs4, h⟩ := bindSome h
  refine kl_cat rfl (by kernel_rfl) (by kernel_rfl) (by kernel_rfl) (by kernel_rfl) hs4 ?_
  obtain ⟨s5, hs5, h⟩ := bindSome h
  refine kl_cat rfl (by kernel_rfl) (by kernel_rfl) (by kernel_rfl) (by kernel_rfl) hs5 ?_
  refine kl_steps 1 [(0, .int .i64 (IntKind.i64.wrap ((1 : Int) + (IntKind.i64.wrap (Int.tmod (IntKind.u64.wrap a0) (50 : Int)))))), (1, .int .i64 (IntKind.i64.wrap ((1 : Int) + (IntKind.i64.wrap (Int.tmod (IntKind.u64.wrap a1) (50 : Int)))))), (5, .string s5)] (by kernel_rfl) ?_
  refine k_nil ?_
  refine k_then ?_
  refine k_seq ?_
  refine k_region ?_
  refine kl_steps 1 [(0, .int .i64 (IntKind.i64.wrap ((1 : Int) + (IntKind.i64.wrap (Int.tmod (IntKind.u64.wrap a0) (50 : Int)))))), (1, .int .i64 (IntKind.i64.wrap ((1 : Int) + (IntKind.i64.wrap (Int.tmod (IntKind.u64.wrap a1) (50 : Int)))))), (5, .string s5), (6, .string (⟨#[102, 111, 114, 32, 105, 32, 61, 32, 49, 44, 32, 50, 32, 100, 111, 32]⟩ : ByteArray))] (by kernel_rfl) ?_
  refine k_nil ?_
  refine k_then ?_
  refine k_seq ?_
  refine k_region ?_
  refine kl_steps 2 [(0, .int .i64 (IntKind.i64.wrap ((1 : Int) + (IntKind.i64.wrap (Int.tmod (IntKind.u64.wrap a0) (50 : Int)))))), (1, .int .i64 (IntKind.i64.wrap ((1 : Int) + (IntKind.i64.wrap (Int.tmod (IntKind.u64.wrap a1) (50 : Int)))))), (5, .string s5), (6, .string (⟨#[102, 111, 114, 32, 105, 32, 61, 32, 49, 44, 32, 50, 32, 100, 111, 32]⟩ : ByteArray)), (26, .string s5), (27, .string (⟨#[102, 111, 114, 32, 105, 32, 61, 32, 49, 44, 32, 50, 32, 100, 111, 32]⟩ : ByteArray))] (by kernel_rfl) ?_
  obtain ⟨s6, hs6, h⟩ := bindSome h
  refine kl_cat rfl (by kernel_rfl) (by kernel_rfl) (by kernel_rfl) (by kernel_rfl) hs6 ?_
  obtain ⟨s7, hs7, h⟩ := bindSome h
  refine kl_cat rfl (by kernel_rfl) (by kernel_rfl) (by kernel_rfl) (by kernel_rfl) hs7 ?_
  refine kl_steps 1 [(0, .int .i64 (IntKind.i64.wrap ((1 : Int) + (IntKind.i64.wrap (Int.tmod (IntKind.u64.wrap a0) (50 : Int)))))), (1, .int .i64 (IntKind.i64.wrap ((1 : Int) + (IntKind.i64.wrap (Int.tmod (IntKind.u64.wrap a1) (50 : Int)))))), (5, .string s5), (6, .string (⟨#[102, 111, 114, 32, 105, 32, 61, 32, 49, 44, 32, 50, 32, 100, 111, 32]⟩ : ByteArray)), (29, .string s7), (30, .int .i64 (IntKind.i64.wrap ((1 : Int) + (IntKind.i64.wrap (Int.tmod (IntKind.u64.wrap a1) (50 : Int))))))] (by kernel_rfl) ?_
  obtain ⟨r8, hr8, h⟩ := bindSome h
  refine kl_callv (by kernel_rfl) (by kernel_rfl) (by kernel_rfl) (law13_many.ok hr8) trivial ?_
  obtain ⟨s9, hs9, h⟩ := bindSome h
  refine kl_cat rfl (by kernel_rfl) (by kernel_rfl) (by kernel_rfl) (by kernel_rfl) hs9 ?_
  obtain ⟨s10, hs10, h⟩ := bindSome h
  refine kl_cat rfl (by kernel_rfl) (by kernel_rfl) (by kernel_rfl) (by kernel_rfl) hs10 ?_
  obtain ⟨r11, hr11, h⟩ := bindSome h
  refine kl_call (X) (by kernel_rfl) (by kernel_rfl) (by kernel_rfl) (check_Check.ok hr11 hG) rfl ⟨hm_G, trivial⟩ ?_
  rintro _ _ ⟨h12, A13, k14, h16, A17, k18, o15, o19, rfl, rfl⟩
  refine nx_ret2 ?_
  refine kl_steps 3 [(0, .int .i64 (IntKind.i64.wrap ((1 : Int) + (IntKind.i64.wrap (Int.tmod (IntKind.u64.wrap a0) (50 : Int)))))), (1, .int .i64 (IntKind.i64.wrap ((1 : Int) + (IntKind.i64.wrap (Int.tmod (IntKind.u64.wrap a1) (50 : Int)))))), (5, .string s5), (6, .string (⟨#[102, 111, 114, 32, 105, 32, 61, 32, 49, 44, 32, 50, 32, 100, 111, 32]⟩ : ByteArray)), (35, .agg #[.slice A13 r11.1.length k14, .slice A17 r11.2.1.length k18]), (36, .agg #[.int .i64 r11.2.2.1, .int .i64 r11.2.2.2])] (by kernel_rfl) ?_
  refine kl_new (.cells #[.slice none 0 0, .slice none 0 0] 28 (0, 0)) (fun b => .pointer (some ⟨b, 0, none⟩)) (by kernel_rfl) (by kernel_rfl) (fun _ => by kernel_rfl) fun b20 => ?_
  refine kl_new (.cells #[.int .i64 (0 : Int), .int .i64 (0 : Int)] 31 (0, 0)) (fun b => .pointer (some ⟨b, 0, none⟩)) (by kernel_rfl) (by kernel_rfl) (fun _ => by kernel_rfl) fun b21 => ?_
  refine K.mv1 ?_
  refine kl_store (cs' := #[.slice A13 r11.1.length k14, .slice A17 r11.2.1.length k18]) [.st ⟨b20, 0, none⟩ (.slice A13 r11.1.length k14), .st ⟨b20, 1, none⟩ (.slice A17 r11.2.1.length k18)] (by kernel_rfl) (by kernel_rfl) (by kernel_rfl) ⟨rfl, rfl, trivial⟩ (by kernel_rfl) ?_
  refine K.mv1 ?_
  refine kl_store (cs' := #[.int .i64 r11.2.2.1, .int .i64 r11.2.2.2]) [.st ⟨b21, 0, none⟩ (.int .i64 r11.2.2.1), .st ⟨b21, 1, none⟩ (.int .i64 r11.2.2.2)] (by kernel_rfl) (by kernel_rfl) (by kernel_rfl) ⟨rfl, rfl, trivial⟩ (by kernel_rfl) ?_
  refine k_nil ?_
  refine k_then ?_
  refine k_seq ?_
  refine k_seq ?_
  refine k_region ?_
  refine kl_steps 3 [(0, .int .i64 (IntKind.i64.wrap ((1 : Int) + (IntKind.i64.wrap (Int.tmod (IntKind.u64.wrap a0) (50 : Int)))))), (1, .int .i64 (IntKind.i64.wrap ((1 : Int) + (IntKind.i64.wrap (Int.tmod (IntKind.u64.wrap a1) (50 : Int)))))), (5, .string s5), (6, .string (⟨#[102, 111, 114, 32, 105, 32, 61, 32, 49, 44, 32, 50, 32, 100, 111, 32]⟩ : ByteArray)), (7, .pointer (some ⟨b20, 0, none⟩)), (8, .pointer (some ⟨b21, 0, none⟩)), (39, .bool (decide ((IntKind.i64.wrap ((IntKind.i64.wrap ((1 : Int) + (IntKind.i64.wrap (Int.tmod (IntKind.u64.wrap a0) (50 : Int))))) + (4 : Int))) > (60 : Int))))] (by kernel_rfl) ?_
  refine k_nil ?_
  refine k_then ?_
  refine k_cond (t := decide ((IntKind.i64.wrap ((IntKind.i64.wrap ((1 : Int) + (IntKind.i64.wrap (Int.tmod (IntKind.u64.wrap a0) (50 : Int))))) + (4 : Int))) > (60 : Int))) (by kernel_rfl) (fun t22 => ?_) (fun t22 => ?_)
  ·have h := condT h t22
   refine k_seq ?_
   refine k_region ?_
   refine kl_steps 1 [(40, .pointer (some ⟨b21, 0, none⟩))] (by kernel_rfl) ?_
   refine kl_load (v := .int .i64 r11.2.2.1) [.val (.int .i64 r11.2.2.1)] [.ld ⟨b21, 0, none⟩ (.int .i64 r11.2.2.1)] (by kernel_rfl) (by kernel_rfl) (by kernel_rfl) ⟨⟨0, _, _, _, rfl, rfl, rfl⟩, trivial⟩ ?_
   refine K.drop ?_
   refine K.drop ?_
   refine K.drop ?_
   refine K.drop ?_
   refine kl_steps 2 [(4, .bool (r11.2.2.1 == (6 : Int)))] (by kernel_rfl) ?_
   refine k_nil ?_
   refine k_then ?_
   refine k_ret ?_
   refine k_then_ret ?_
   obtain rfl := Option.some.inj h
   refine k_done (v := .bool (r11.2.2.1 == (6 : Int))) [] [] [] (by kernel_rfl) (by kernel_rfl) trivial ?_
   exact k_end ⟨rfl, rfl⟩
  ·have h := condF h t22
   refine k_skip ?_
   refine k_then ?_
   refine k_seq ?_
   refine k_seq ?_
   refine k_region ?_
   refine kl_steps 5 [(0, .int .i64 (IntKind.i64.wrap ((1 : Int) + (IntKind.i64.wrap (Int.tmod (IntKind.u64.wrap a0) (50 : Int)))))), (1, .int .i64 (IntKind.i64.wrap ((1 : Int) + (IntKind.i64.wrap (Int.tmod (IntKind.u64.wrap a1) (50 : Int)))))), (5, .string s5), (6, .string (⟨#[102, 111, 114, 32, 105, 32, 61, 32, 49, 44, 32, 50, 32, 100, 111, 32]⟩ : ByteArray)), (7, .pointer (some ⟨b20, 0, none⟩)), (8, .pointer (some ⟨b21, 0, none⟩)), (47, .bool (decide ((IntKind.i64.wrap ((IntKind.i64.wrap ((IntKind.i64.wrap ((1 : Int) + (IntKind.i64.wrap (Int.tmod (IntKind.u64.wrap a0) (50 : Int))))) + (4 : Int))) + (IntKind.i64.wrap ((1 : Int) + (IntKind.i64.wrap (Int.tmod (IntKind.u64.wrap a1) (50 : Int))))))) > (60 : Int))))] (by kernel_rfl) ?_
   refine k_nil ?_
   refine k_then ?_
   refine k_cond (t := decide ((IntKind.i64.wrap ((IntKind.i64.wrap ((IntKind.i64.wrap ((1 : Int) + (IntKind.i64.wrap (Int.tmod (IntKind.u64.wrap a0) (50 : Int))))) + (4 : Int))) + (IntKind.i64.wrap ((1 : Int) + (IntKind.i64.wrap (Int.tmod (IntKind.u64.wrap a1) (50 : Int))))))) > (60 : Int))) (by kernel_rfl) (fun t23 => ?_) (fun t23 => ?_)
   ·have h := condT h t23
    refine k_seq ?_
    refine k_region ?_
    refine kl_load (v := .agg #[.int .i64 r11.2.2.1, .int .i64 r11.2.2.2]) [.val (.int .i64 r11.2.2.1), .val (.int .i64 r11.2.2.2)] [.ld ⟨b21, 0, none⟩ (.int .i64 r11.2.2.1), .ld ⟨b21, 1, none⟩ (.int .i64 r11.2.2.2)] (by kernel_rfl) (by kernel_rfl) (by kernel_rfl) ⟨⟨0, _, _, _, rfl, rfl, rfl⟩, ⟨0, _, _, _, rfl, rfl, rfl⟩, trivial⟩ ?_
    refine K.drop ?_
    refine K.drop ?_
    refine K.drop ?_
    refine K.drop ?_
    refine kl_steps 6 [(48, .agg #[.int .i64 r11.2.2.1, .int .i64 r11.2.2.2]), (54, .agg #[.int .i64 (6 : Int), .int .i64 (IntKind.i64.wrap ((s5.size : Int) + ((⟨#[102, 111, 114, 32, 105, 32, 61, 32, 49, 44, 32, 50, 32, 100, 111, 32]⟩ : ByteArray).size : Int)))])] (by kernel_rfl) ?_
    refine kl_eqS (r := ((r11.2.2.1 == (6 : Int)) && ((r11.2.2.2 == (IntKind.i64.wrap ((s5.size : Int) + ((⟨#[102, 111, 114, 32, 105, 32, 61, 32, 49, 44, 32, 50, 32, 100, 111, 32]⟩ : ByteArray).size : Int)))) && true))) (xs := #[.int .i64 r11.2.2.1, .int .i64 r11.2.2.2]) (ys := #[.int .i64 (6 : Int), .int .i64 (IntKind.i64.wrap ((s5.size : Int) + ((⟨#[102, 111, 114, 32, 105, 32, 61, 32, 49, 44, 32, 50, 32, 100, 111, 32]⟩ : ByteArray).size : Int)))]) false (by kernel_rfl) rfl (by kernel_rfl) (by kernel_rfl) (by kernel_rfl) (by kernel_rfl) (by kernel_rfl) (by kernel_rfl) (by kernel_rfl) ?_
    refine kl_steps 1 [(4, .bool ((r11.2.2.1 == (6 : Int)) && ((r11.2.2.2 == (IntKind.i64.wrap ((s5.size : Int) + ((⟨#[102, 111, 114, 32, 105, 32, 61, 32, 49, 44, 32, 50, 32, 100, 111, 32]⟩ : ByteArray).size : Int)))) && true)))] (by kernel_rfl) ?_
    refine k_nil ?_
    refine k_then ?_
    refine k_ret ?_
    refine k_then_ret ?_
    obtain rfl := Option.some.inj h
    refine k_done (v := .bool ((r11.2.2.1 == (6 : Int)) && ((r11.2.2.2 == (IntKind.i64.wrap ((s5.size : Int) + ((⟨#[102, 111, 114, 32, 105, 32, 61, 32, 49, 44, 32, 50, 32, 100, 111, 32]⟩ : ByteArray).size : Int)))) && true))) [] [] [] (by kernel_rfl) (by kernel_rfl) trivial ?_
    exact k_end ⟨rfl, rfl⟩
   ·have h := condF h t23
    refine k_skip ?_
    refine k_then ?_
    obtain ⟨q24, hq24, h⟩ := bindSome h
    refine k_cut1 [(4, .bool q24)] (X) ?_ ?_
    ·clear hq24
     refine k_ret ?_
     obtain rfl := Option.some.inj h
     refine k_done (v := .bool q24) [] [] [] (by kernel_rfl) (by kernel_rfl) trivial ?_
     exact k_end ⟨rfl, rfl⟩
    ·have h := hq24
     clear hq24
     refine k_region ?_
     refine kl_steps 1 [(0, .int .i64 (IntKind.i64.wrap ((1 : Int) + (IntKind.i64.wrap (Int.tmod (IntKind.u64.wrap a0) (50 : Int)))))), (1, .int .i64 (IntKind.i64.wrap ((1 : Int) + (IntKind.i64.wrap (Int.tmod (IntKind.u64.wrap a1) (50 : Int)))))), (7, .pointer (some ⟨b20, 0, none⟩)), (56, .pointer (some ⟨b21, 0, none⟩))] (by kernel_rfl) ?_
     refine kl_load (v := .int .i64 r11.2.2.1) [.val (.int .i64 r11.2.2.1)] [.ld ⟨b21, 0, none⟩ (.int .i64 r11.2.2.1)] (by kernel_rfl) (by kernel_rfl) (by kernel_rfl) ⟨⟨0, _, _, _, rfl, rfl, rfl⟩, trivial⟩ ?_
     refine K.drop ?_
     refine kl_steps 2 [(0, .int .i64 (IntKind.i64.wrap ((1 : Int) + (IntKind.i64.wrap (Int.tmod (IntKind.u64.wrap a0) (50 : Int)))))), (1, .int .i64 (IntKind.i64.wrap ((1 : Int) + (IntKind.i64.wrap (Int.tmod (IntKind.u64.wrap a1) (50 : Int)))))), (7, .pointer (some ⟨b20, 0, none⟩)), (59, .bool (r11.2.2.1 == (0 : Int)))] (by kernel_rfl) ?_
     rcases Bool.eq_false_or_eq_true ((r11.2.2.1 == (0 : Int))) with t25 | t25
     ·have h := condT h t25
      refine K.weak (env' := [(0, .int .i64 (IntKind.i64.wrap ((1 : Int) + (IntKind.i64.wrap (Int.tmod (IntKind.u64.wrap a0) (50 : Int)))))), (1, .int .i64 (IntKind.i64.wrap ((1 : Int) + (IntKind.i64.wrap (Int.tmod (IntKind.u64.wrap a1) (50 : Int)))))), (7, .pointer (some ⟨b20, 0, none⟩)), (59, .bool true)]) ?_ ⟨rfl, rfl, rfl, congrArg (fun b => some (Value.bool b)) t25, trivial⟩
      refine kl_steps 1 [(0, .int .i64 (IntKind.i64.wrap ((1 : Int) + (IntKind.i64.wrap (Int.tmod (IntKind.u64.wrap a0) (50 : Int)))))), (1, .int .i64 (IntKind.i64.wrap ((1 : Int) + (IntKind.i64.wrap (Int.tmod (IntKind.u64.wrap a1) (50 : Int)))))), (7, .pointer (some ⟨b20, 0, none⟩)), (59, .bool true), (60, .pointer (some ⟨b20, 0, none⟩))] (by kernel_rfl) ?_
      refine kl_load (v := .slice A13 r11.1.length k14) [.val (.slice A13 r11.1.length k14)] [.ld ⟨b20, 0, none⟩ (.slice A13 r11.1.length k14)] (by kernel_rfl) (by kernel_rfl) (by kernel_rfl) ⟨⟨0, _, _, _, rfl, rfl, rfl⟩, trivial⟩ ?_
      refine kl_steps 4 [(0, .int .i64 (IntKind.i64.wrap ((1 : Int) + (IntKind.i64.wrap (Int.tmod (IntKind.u64.wrap a0) (50 : Int)))))), (1, .int .i64 (IntKind.i64.wrap ((1 : Int) + (IntKind.i64.wrap (Int.tmod (IntKind.u64.wrap a1) (50 : Int)))))), (7, .pointer (some ⟨b20, 0, none⟩)), (65, .bool (((r11.1.length : Nat) : Int) == (1 : Int)))] (by kernel_rfl) ?_
      rcases Bool.eq_false_or_eq_true ((((r11.1.length : Nat) : Int) == (1 : Int))) with t26 | t26
      ·have h := condT h t26
       refine K.weak (env' := [(0, .int .i64 (IntKind.i64.wrap ((1 : Int) + (IntKind.i64.wrap (Int.tmod (IntKind.u64.wrap a0) (50 : Int)))))), (1, .int .i64 (IntKind.i64.wrap ((1 : Int) + (IntKind.i64.wrap (Int.tmod (IntKind.u64.wrap a1) (50 : Int)))))), (7, .pointer (some ⟨b20, 0, none⟩)), (65, .bool true)]) ?_ ⟨rfl, rfl, rfl, congrArg (fun b => some (Value.bool b)) t26, trivial⟩
       refine kl_steps 1 [(0, .int .i64 (IntKind.i64.wrap ((1 : Int) + (IntKind.i64.wrap (Int.tmod (IntKind.u64.wrap a0) (50 : Int)))))), (1, .int .i64 (IntKind.i64.wrap ((1 : Int) + (IntKind.i64.wrap (Int.tmod (IntKind.u64.wrap a1) (50 : Int)))))), (7, .pointer (some ⟨b20, 0, none⟩)), (65, .bool true), (66, .pointer (some ⟨b20, 0, none⟩))] (by kernel_rfl) ?_
       refine kl_load (v := .slice A13 r11.1.length k14) [.val (.slice A13 r11.1.length k14)] [.ld ⟨b20, 0, none⟩ (.slice A13 r11.1.length k14)] (by kernel_rfl) (by kernel_rfl) (by kernel_rfl) ⟨⟨0, _, _, _, rfl, rfl, rfl⟩, trivial⟩ ?_
       obtain ⟨x27, hx27, h⟩ := bindSome h
       refine kl_elemR (T := 42) (kd := .i64) (R := rs42) rfl (by kernel_rfl) (by kernel_rfl) (by kernel_rfl) (by kernel_rfl) (by kernel_rfl) (by kernel_rfl) hx27 (OwnR.rd o15) fun p28 u31 q32 e29 y30 => ?_
       obtain ⟨A33, k34, rfl, o35⟩ := rs42_r q32
       refine kl_efieldP (off := 3) rfl (by kernel_rfl) (by kernel_rfl) (by kernel_rfl) (by kernel_rfl) e29 y30 fun p36 e37 y38 => ?_
       have e37 : Elem _ p36 [.int .i64 x27.2.2.2.1, .slice A33 x27.2.2.2.2.length k34] := e37
       refine kl_eload1 rfl (by kernel_rfl) (by kernel_rfl) (by kernel_rfl) (by kernel_rfl) e37 (.tail _ (.head _)) ?_
       refine kl_steps 7 [(7, .pointer (some ⟨b20, 0, none⟩)), (77, .bool (x27.2.2.2.1 == (IntKind.i64.wrap ((IntKind.i64.wrap ((IntKind.i64.wrap ((1 : Int) + (IntKind.i64.wrap (Int.tmod (IntKind.u64.wrap a0) (50 : Int))))) + (4 : Int))) + (IntKind.i64.wrap ((1 : Int) + (IntKind.i64.wrap (Int.tmod (IntKind.u64.wrap a1) (50 : Int)))))))))] (by kernel_rfl) ?_
       rcases Bool.eq_false_or_eq_true ((x27.2.2.2.1 == (IntKind.i64.wrap ((IntKind.i64.wrap ((IntKind.i64.wrap ((1 : Int) + (IntKind.i64.wrap (Int.tmod (IntKind.u64.wrap a0) (50 : Int))))) + (4 : Int))) + (IntKind.i64.wrap ((1 : Int) + (IntKind.i64.wrap (Int.tmod (IntKind.u64.wrap a1) (50 : Int))))))))) with t39 | t39
       ·have h := condT h t39
        refine K.weak (env' := [(7, .pointer (some ⟨b20, 0, none⟩)), (77, .bool true)]) ?_ ⟨rfl, congrArg (fun b => some (Value.bool b)) t39, trivial⟩
        refine kl_steps 1 [(77, .bool true), (78, .pointer (some ⟨b20, 0, none⟩))] (by kernel_rfl) ?_
        refine kl_load (v := .slice A13 r11.1.length k14) [.val (.slice A13 r11.1.length k14)] [.ld ⟨b20, 0, none⟩ (.slice A13 r11.1.length k14)] (by kernel_rfl) (by kernel_rfl) (by kernel_rfl) ⟨⟨0, _, _, _, rfl, rfl, rfl⟩, trivial⟩ ?_
        refine K.drop ?_
        refine K.mv1 ?_
        refine K.drop ?_
        obtain ⟨x40, hx40, h⟩ := bindSome h
        refine kl_elemR (T := 42) (kd := .i64) (R := rs42) rfl (by kernel_rfl) (by kernel_rfl) (by kernel_rfl) (by kernel_rfl) (by kernel_rfl) (by kernel_rfl) hx40 (OwnR.rd o15) fun p41 u44 q45 e42 y43 => ?_
        obtain ⟨A46, k47, rfl, o48⟩ := rs42_r q45
        refine kl_efieldP (off := 4) rfl (by kernel_rfl) (by kernel_rfl) (by kernel_rfl) (by kernel_rfl) e42 y43 fun p49 e50 y51 => ?_
        have e50 : Elem _ p49 [.slice A46 x40.2.2.2.2.length k47] := e50
        refine kl_eload1 rfl (by kernel_rfl) (by kernel_rfl) (by kernel_rfl) (by kernel_rfl) e50 (.head _) ?_
        obtain ⟨r52, hr52, h⟩ := bindSome h
        refine kl_callv (by kernel_rfl) (by kernel_rfl) (by kernel_rfl) (law13_t2.ok hr52 o48) ⟨(.head _), trivial⟩ ?_
        refine K.drop ?_
        refine kl_steps 2 [(4, .bool r52)] (by kernel_rfl) ?_
        refine k_nil ?_
        refine k_then ?_
        exact k_meet1 ⟨congrArg (fun b => some (Value.bool b)) (Option.some.inj h), trivial⟩
       ·have h := condF h t39
        refine K.weak (env' := [(7, .pointer (some ⟨b20, 0, none⟩)), (77, .bool false)]) ?_ ⟨rfl, congrArg (fun b => some (Value.bool b)) t39, trivial⟩
        refine kl_steps 8 [(4, .bool false)] (by kernel_rfl) ?_
        refine k_nil ?_
        refine k_then ?_
        refine K.drop ?_
        refine K.drop ?_
        refine K.drop ?_
        exact k_meet1 ⟨congrArg (fun b => some (Value.bool b)) (Option.some.inj h), trivial⟩
      ·have h := condF h t26
       refine K.weak (env' := [(0, .int .i64 (IntKind.i64.wrap ((1 : Int) + (IntKind.i64.wrap (Int.tmod (IntKind.u64.wrap a0) (50 : Int)))))), (1, .int .i64 (IntKind.i64.wrap ((1 : Int) + (IntKind.i64.wrap (Int.tmod (IntKind.u64.wrap a1) (50 : Int)))))), (7, .pointer (some ⟨b20, 0, none⟩)), (65, .bool false)]) ?_ ⟨rfl, rfl, rfl, congrArg (fun b => some (Value.bool b)) t26, trivial⟩
       refine kl_steps 20 [(4, .bool false)] (by kernel_rfl) ?_
       refine k_nil ?_
       refine k_then ?_
       refine K.drop ?_
       refine K.drop ?_
       refine K.drop ?_
       exact k_meet1 ⟨congrArg (fun b => some (Value.bool b)) (Option.some.inj h), trivial⟩
     ·have h := condF h t25
      refine K.weak (env' := [(0, .int .i64 (IntKind.i64.wrap ((1 : Int) + (IntKind.i64.wrap (Int.tmod (IntKind.u64.wrap a0) (50 : Int)))))), (1, .int .i64 (IntKind.i64.wrap ((1 : Int) + (IntKind.i64.wrap (Int.tmod (IntKind.u64.wrap a1) (50 : Int)))))), (7, .pointer (some ⟨b20, 0, none⟩)), (59, .bool false)]) ?_ ⟨rfl, rfl, rfl, congrArg (fun b => some (Value.bool b)) t25, trivial⟩
      refine kl_steps 26 [(4, .bool false)] (by kernel_rfl) ?_
      refine k_nil ?_
      refine k_then ?_
      refine K.drop ?_
      refine K.drop ?_
      refine K.drop ?_
      exact k_meet1 ⟨congrArg (fun b => some (Value.bool b)) (Option.some.inj h), trivial⟩
def law13_CheckConsts.l1 : Nat → (a0 : Int) → (J4 : ByteArray → Option (Bool)) → (x70 : ByteArray) → (x71 : Int) → Option (Bool)
 | 0, _, _, _, _ => none
 | m72 + 1, a0, J4, x70, x71 => cond (decide (x71 < (IntKind.i64.wrap (Int.tmod (IntKind.u64.wrap a0) (300 : Int))))) ((r02_Format.f m72 x71).bind fun r74 => (sCat (⟨#[120, 32, 61, 32]⟩ : ByteArray) r74).bind fun s75 : ByteArray => (sCat s75 (⟨#[32, 120, 32, 61, 32]⟩ : ByteArray)).bind fun s76 : ByteArray => (r02_Format.f m72 x71).bind fun r77 => (sCat s76 r77).bind fun s78 : ByteArray => (sCat s78 (⟨#[10]⟩ : ByteArray)).bind fun s79 : ByteArray => (sCat x70 s79).bind fun s80 : ByteArray => law13_CheckConsts.l1 m72 a0 J4 s80 (IntKind.i64.wrap (x71 + (1 : Int)))) (J4 x70)
def law13_CheckConsts.l0 : Nat → (a0 : Int) → (r5 : List (ByteArray × Int × Int × Int × List (Int × Int × ByteArray)) × List ByteArray × Int × Int) → (J21 : (Unit → Option (Bool))) → (x22 : Int) → Option (Bool)
 | 0, _, _, _, _ => none
 | m23 + 1, a0, r5, J21, x22 => cond (decide (x22 < (IntKind.i64.wrap (Int.tmod (IntKind.u64.wrap a0) (300 : Int))))) ((lIdx r5.1 (0 : Int)).bind fun x25 => (lIdx x25.2.2.2.2 x22).bind fun x37 => (r03_I.f m23 x22).bind fun r41 => cond (!((x37.1 == r41.1) && ((x37.2.1 == r41.2.1) && ((x37.2.2.toList == r41.2.2.toList) && true)))) (some (false)) (law13_CheckConsts.l0 m23 a0 r5 J21 (IntKind.i64.wrap (x22 + (1 : Int))))) (J21 ())
def law13_CheckConsts.f (k : Nat) (a0 : Int) : Option (Bool) := (law13_fixed.f k).bind fun r1 => cond (!r1) (some (false)) (joinF (fun (x3 : ByteArray) => (check_Check.f k x3).bind fun r5 => cond (decide ((IntKind.i64.wrap (Int.tmod (IntKind.u64.wrap a0) (300 : Int))) > (250 : Int))) ((cond (r5.2.2.1 == (6 : Int)) (some (decide (r5.2.2.2 > (0 : Int)))) (some false) : Option Bool).bind fun q17 => some (q17)) ((cond (r5.2.2.1 != (0 : Int)) (some true) (cond (((r5.1.length : Nat) : Int) != (1 : Int)) (some true) ((lIdx r5.1 (0 : Int)).bind fun x45 => cond (((x45.2.2.2.2.length : Nat) : Int) != (IntKind.i64.wrap (Int.tmod (IntKind.u64.wrap a0) (300 : Int)))) (some true) ((lIdx r5.1 (0 : Int)).bind fun x58 => some (x58.2.2.2.1 != (0 : Int))))) : Option Bool).bind fun q19 => cond q19 (some (false)) (joinF (fun (_ : Unit) => some (true)) (fun J21 => law13_CheckConsts.l0 k a0 r5 J21 (0 : Int))))) (fun J4 => law13_CheckConsts.l1 k a0 J4 (⟨#[]⟩ : ByteArray) (0 : Int)))
set_option maxRecDepth 100000 in
theorem law13_CheckConsts.ok {k : Nat} {a0 : Int} {G : Frag} {r : Bool} (h : law13_CheckConsts.f k a0 = some r) (hG : GlP G) : Ct Tryz.prog 7 #[.int .i64 a0] [] [G] (fun e l1 => e = .returned (.bool r) ∧ l1 = []) := by
 refine ct_enter (args := [.int .i64 a0]) Tryz.func7 rfl (Nat.le_of_ble_eq_true rfl) ?_
 intro A X hh_
 obtain ⟨hm_G, _⟩ := hh_
 unfold law13_CheckConsts.f at h
 refine k_seq ?_
 refine k_region ?_
 refine kl_steps 1 [(0, .int .i64 a0)] (by kernel_rfl) ?_
 refine k_nil ?_
 refine k_then ?_
 refine k_seq ?_
 refine k_seq ?_
 refine k_region ?_
 obtain ⟨r1, hr1, h⟩ := bindSome h
 refine kl_callv (by kernel_rfl) (by kernel_rfl) (by kernel_rfl) (law13_fixed.ok hr1 hG) ⟨hm_G, trivial⟩ ?_
 refine kl_steps 1 [(0, .int .i64 a0), (9, .bool (!r1))] (by kernel_rfl) ?_
 refine k_nil ?_
 refine k_then ?_
 refine k_cond (t := !r1) (by kernel_rfl) (fun t2 => ?_) (fun t2 => ?_)
 ·have h := condT h t2
  refine k_seq ?_
  refine k_region ?_
  refine kl_steps 1 [(2, .bool false)] (by kernel_rfl) ?_
  refine k_nil ?_
  refine k_then ?_
  refine k_ret ?_
  refine k_then_ret ?_
  obtain rfl := Option.some.inj h
  refine k_done (v := .bool false) [] [] [] (by kernel_rfl) (by kernel_rfl) trivial ?_
  exact k_end ⟨rfl, rfl⟩
 ·have h := condF h t2
  refine k_skip ?_
  refine k_then ?_
  refine k_seq ?_
  refine k_region ?_
  refine kl_steps 5 [(0, .int .i64 (IntKind.i64.wrap (Int.tmod (IntKind.u64.wrap a0) (300 : Int))))] (by kernel_rfl) ?_
  refine k_nil ?_
  refine k_then ?_
  refine k_seq ?_
  refine k_region ?_
  refine kl_steps 1 [(0, .int .i64 (IntKind.i64.wrap (Int.tmod (IntKind.u64.wrap a0) (300 : Int)))), (3, .string (⟨#[]⟩ : ByteArray))] (by kernel_rfl) ?_
  refine k_nil ?_
  refine k_then ?_
  obtain ⟨J4, hJ4, h⟩ := joinSplit h
  refine k_cut (τ := ByteArray) (fun t => [(0, .int .i64 (IntKind.i64.wrap (Int.tmod (IntKind.u64.wrap a0) (300 : Int)))), (3, .string t)]) (fun t => X) (fun t => J4 t = some r) ?_ ?_
  ·rintro x3 h
   subst hJ4
   refine k_seq ?_
   refine k_region ?_
   refine kl_steps 1 [(0, .int .i64 (IntKind.i64.wrap (Int.tmod (IntKind.u64.wrap a0) (300 : Int)))), (30, .string x3)] (by kernel_rfl) ?_
   obtain ⟨r5, hr5, h⟩ := bindSome h
   refine kl_call (X) (by kernel_rfl) (by kernel_rfl) (by kernel_rfl) (check_Check.ok hr5 hG) rfl ⟨hm_G, trivial⟩ ?_
   rintro _ _ ⟨h6, A7, k8, h10, A11, k12, o9, o13, rfl, rfl⟩
   refine nx_ret2 ?_
   refine kl_steps 3 [(0, .int .i64 (IntKind.i64.wrap (Int.tmod (IntKind.u64.wrap a0) (300 : Int)))), (32, .agg #[.slice A7 r5.1.length k8, .slice A11 r5.2.1.length k12]), (33, .agg #[.int .i64 r5.2.2.1, .int .i64 r5.2.2.2])] (by kernel_rfl) ?_
   refine kl_new (.cells #[.slice none 0 0, .slice none 0 0] 28 (0, 0)) (fun b => .pointer (some ⟨b, 0, none⟩)) (by kernel_rfl) (by kernel_rfl) (fun _ => by kernel_rfl) fun b14 => ?_
   refine kl_new (.cells #[.int .i64 (0 : Int), .int .i64 (0 : Int)] 31 (0, 0)) (fun b => .pointer (some ⟨b, 0, none⟩)) (by kernel_rfl) (by kernel_rfl) (fun _ => by kernel_rfl) fun b15 => ?_
   refine K.mv1 ?_
   refine kl_store (cs' := #[.slice A7 r5.1.length k8, .slice A11 r5.2.1.length k12]) [.st ⟨b14, 0, none⟩ (.slice A7 r5.1.length k8), .st ⟨b14, 1, none⟩ (.slice A11 r5.2.1.length k12)] (by kernel_rfl) (by kernel_rfl) (by kernel_rfl) ⟨rfl, rfl, trivial⟩ (by kernel_rfl) ?_
   refine K.mv1 ?_
   refine kl_store (cs' := #[.int .i64 r5.2.2.1, .int .i64 r5.2.2.2]) [.st ⟨b15, 0, none⟩ (.int .i64 r5.2.2.1), .st ⟨b15, 1, none⟩ (.int .i64 r5.2.2.2)] (by kernel_rfl) (by kernel_rfl) (by kernel_rfl) ⟨rfl, rfl, trivial⟩ (by kernel_rfl) ?_
   refine k_nil ?_
   refine k_then ?_
   refine k_seq ?_
   refine k_seq ?_
   refine k_region ?_
   refine kl_steps 2 [(0, .int .i64 (IntKind.i64.wrap (Int.tmod (IntKind.u64.wrap a0) (300 : Int)))), (5, .pointer (some ⟨b14, 0, none⟩)), (6, .pointer (some ⟨b15, 0, none⟩)), (35, .bool (decide ((IntKind.i64.wrap (Int.tmod (IntKind.u64.wrap a0) (300 : Int))) > (250 : Int))))] (by kernel_rfl) ?_
   refine k_nil ?_
   refine k_then ?_
   refine k_cond (t := decide ((IntKind.i64.wrap (Int.tmod (IntKind.u64.wrap a0) (300 : Int))) > (250 : Int))) (by kernel_rfl) (fun t16 => ?_) (fun t16 => ?_)
   ·have h := condT h t16
    obtain ⟨q17, hq17, h⟩ := bindSome h
    refine k_cut1 [(2, .bool q17)] (X) ?_ ?_
    ·clear hq17
     refine k_ret ?_
     refine k_then_ret ?_
     obtain rfl := Option.some.inj h
     refine k_done (v := .bool q17) [] [] [] (by kernel_rfl) (by kernel_rfl) trivial ?_
     exact k_end ⟨rfl, rfl⟩
    ·have h := hq17
     clear hq17
     refine k_region ?_
     refine kl_steps 1 [(6, .pointer (some ⟨b15, 0, none⟩)), (36, .pointer (some ⟨b15, 0, none⟩))] (by kernel_rfl) ?_
     refine kl_load (v := .int .i64 r5.2.2.1) [.val (.int .i64 r5.2.2.1)] [.ld ⟨b15, 0, none⟩ (.int .i64 r5.2.2.1)] (by kernel_rfl) (by kernel_rfl) (by kernel_rfl) ⟨⟨0, _, _, _, rfl, rfl, rfl⟩, trivial⟩ ?_
     refine K.mv1 ?_
     refine K.drop ?_
     refine K.mv1 ?_
     refine K.drop ?_
     refine K.mv1 ?_
     refine K.drop ?_
     refine kl_steps 2 [(6, .pointer (some ⟨b15, 0, none⟩)), (39, .bool (r5.2.2.1 == (6 : Int)))] (by kernel_rfl) ?_
     rcases Bool.eq_false_or_eq_true ((r5.2.2.1 == (6 : Int))) with t18 | t18
     ·have h := condT h t18
      refine K.weak (env' := [(6, .pointer (some ⟨b15, 0, none⟩)), (39, .bool true)]) ?_ ⟨rfl, congrArg (fun b => some (Value.bool b)) t18, trivial⟩
      refine kl_steps 1 [(39, .bool true), (40, .pointer (some ⟨b15, 1, none⟩))] (by kernel_rfl) ?_
      refine kl_load (v := .int .i64 r5.2.2.2) [.val (.int .i64 r5.2.2.2)] [.ld ⟨b15, 1, none⟩ (.int .i64 r5.2.2.2)] (by kernel_rfl) (by kernel_rfl) (by kernel_rfl) ⟨⟨0, _, _, _, rfl, rfl, rfl⟩, trivial⟩ ?_
      refine K.drop ?_
      refine kl_steps 3 [(2, .bool (decide (r5.2.2.2 > (0 : Int))))] (by kernel_rfl) ?_
      refine k_nil ?_
      refine k_then ?_
      exact k_meet1 ⟨congrArg (fun b => some (Value.bool b)) (Option.some.inj h), trivial⟩
     ·have h := condF h t18
      refine K.weak (env' := [(6, .pointer (some ⟨b15, 0, none⟩)), (39, .bool false)]) ?_ ⟨rfl, congrArg (fun b => some (Value.bool b)) t18, trivial⟩
      refine kl_steps 5 [(2, .bool false)] (by kernel_rfl) ?_
      refine k_nil ?_
      refine k_then ?_
      refine K.drop ?_
      exact k_meet1 ⟨congrArg (fun b => some (Value.bool b)) (Option.some.inj h), trivial⟩
   ·have h := condF h t16
    refine k_skip ?_
    refine k_then ?_
    refine k_seq ?_
    obtain ⟨q19, hq19, h⟩ := bindSome h
    refine k_cut1 [(0, .int .i64 (IntKind.i64.wrap (Int.tmod (IntKind.u64.wrap a0) (300 : Int)))), (5, .pointer (some ⟨b14, 0, none⟩)), (70, .bool q19)] (blk b14 (.cells #[.slice A7 r5.1.length k8, .slice A11 r5.2.1.length k12] 28 (0, 0)) :: h6 :: h10 :: X) ?_ ?_
    ·clear hq19
     refine k_cond (t := q19) (by kernel_rfl) (fun t20 => ?_) (fun t20 => ?_)
     ·have h := condT h t20
      refine k_seq ?_
      refine k_region ?_
      refine kl_steps 1 [(2, .bool false)] (by kernel_rfl) ?_
      refine k_nil ?_
      refine k_then ?_
      refine k_ret ?_
      refine k_then_ret ?_
      obtain rfl := Option.some.inj h
      refine k_done (v := .bool false) [] [] [] (by kernel_rfl) (by kernel_rfl) trivial ?_
      refine K.drop ?_
      refine K.drop ?_
      refine K.drop ?_
      exact k_end ⟨rfl, rfl⟩
     ·have h := condF h t20
      refine k_skip ?_
      refine k_then ?_
      obtain ⟨J21, hJ21, h⟩ := joinSplit h
      refine k_cut (τ := Unit) (fun t => []) (fun t => X) (fun t => J21 () = some r) ?_ ?_
      ·rintro ⟨⟩ h
       subst hJ21
       refine k_seq ?_
       refine k_region ?_
       refine kl_steps 1 [(2, .bool true)] (by kernel_rfl) ?_
       refine k_nil ?_
       refine k_then ?_
       refine k_ret ?_
       obtain rfl := Option.some.inj h
       refine k_done (v := .bool true) [] [] [] (by kernel_rfl) (by kernel_rfl) trivial ?_
       exact k_end ⟨rfl, rfl⟩
      ·skip
       refine k_seq ?_
       refine k_region ?_
       refine kl_steps 1 [(0, .int .i64 (IntKind.i64.wrap (Int.tmod (IntKind.u64.wrap a0) (300 : Int)))), (5, .pointer (some ⟨b14, 0, none⟩)), (7, .int .i64 (0 : Int))] (by kernel_rfl) ?_
       refine k_nil ?_
       refine k_then ?_
       refine k_block ?_
       refine k_loop (τ := Int) (fun t => [(0, .int .i64 (IntKind.i64.wrap (Int.tmod (IntKind.u64.wrap a0) (300 : Int)))), (5, .pointer (some ⟨b14, 0, none⟩)), (7, .int .i64 t)]) (fun t => blk b14 (.cells #[.slice A7 r5.1.length k8, .slice A11 r5.2.1.length k12] 28 (0, 0)) :: h6 :: h10 :: X) (fun m t => law13_CheckConsts.l0 m a0 r5 J21 t = some r) k (0 : Int) h ⟨rfl, rfl, rfl, trivial⟩ rfl ?_
       clear h
       rintro m23 x22 h
       cases m23 with
       | zero => simp [law13_CheckConsts.l0] at h
       | succ m23 =>
        simp only [law13_CheckConsts.l0] at h
        refine k_seq ?_
        refine k_seq ?_
        refine k_region ?_
        refine kl_steps 3 [(0, .int .i64 (IntKind.i64.wrap (Int.tmod (IntKind.u64.wrap a0) (300 : Int)))), (5, .pointer (some ⟨b14, 0, none⟩)), (7, .int .i64 x22), (73, .bool (decide (x22 < (IntKind.i64.wrap (Int.tmod (IntKind.u64.wrap a0) (300 : Int))))))] (by kernel_rfl) ?_
        refine k_nil ?_
        refine k_then ?_
        refine k_cond (t := decide (x22 < (IntKind.i64.wrap (Int.tmod (IntKind.u64.wrap a0) (300 : Int))))) (by kernel_rfl) (fun t24 => ?_) (fun t24 => ?_)
        ·have h := condT h t24
         refine k_skip ?_
         refine k_then ?_
         refine k_seq ?_
         refine k_block ?_
         refine k_seq ?_
         refine k_region_plan [(0, 0), (1, 3), (2, 0), (3, 0), (4, 3), (5, 0), (6, 0), (7, 3), (8, 0), (9, 1)] (fun w => OnAll [blk b14 (.cells #[.slice A7 r5.1.length k8, .slice A11 r5.2.1.length k12] 28 (0, 0)), h6, h10] w) (by kernel_rfl) (by kernel_rfl) (fun _ _ d _ _ h => by cases d <;> exact h) (fun w h_ => ⟨h_.sat.on _ (.head _), h_.sat.on _ (.tail _ (.head _)), h_.sat.on _ (.tail _ (.tail _ (.head _))), trivial⟩) ?_
         simp only [planOps, List.filterMap_cons, List.filterMap_nil, List.getElem?_toArray, List.getElem?_cons_zero, List.getElem?_cons_succ, Option.map_some, List.drop_succ_cons, List.drop_zero, List.length_cons, List.length_nil]
         refine kp_steps 1 [(0, .int .i64 (IntKind.i64.wrap (Int.tmod (IntKind.u64.wrap a0) (300 : Int)))), (5, .pointer (some ⟨b14, 0, none⟩)), (7, .int .i64 x22), (76, .pointer (some ⟨b14, 0, none⟩))] (by kernel_rfl) (by kernel_rfl) ?_
         refine kp_loadS (v := .slice A7 r5.1.length k8) [blk b14 (.cells #[.slice A7 r5.1.length k8, .slice A11 r5.2.1.length k12] 28 (0, 0)), h6, h10] [.val (.slice A7 r5.1.length k8)] [.ld ⟨b14, 0, none⟩ (.slice A7 r5.1.length k8)] (by kernel_rfl) (by kernel_rfl) (by kernel_rfl) (fun _ h => h) ⟨⟨0, _, _, _, rfl, rfl, rfl⟩, trivial⟩ ?_
         obtain ⟨x25, hx25, h⟩ := bindSome h
         refine kp_elemR (T := 42) (kd := .i64) (R := rs42) rfl (by kernel_rfl) (by kernel_rfl) (by kernel_rfl) (by kernel_rfl) (by kernel_rfl) (by kernel_rfl) hx25 (OwnR.rd o9) fun p26 u29 q30 e27 y28 => ?_
         obtain ⟨A31, k32, rfl, o33⟩ := rs42_r q30
         refine kp_efieldP (off := 4) rfl (by kernel_rfl) (by kernel_rfl) (by kernel_rfl) (by kernel_rfl) e27 y28 fun p34 e35 y36 => ?_
         have e35 : Elem _ p34 [.slice A31 x25.2.2.2.2.length k32] := e35
         refine kp_eload1 rfl (by kernel_rfl) (by kernel_rfl) (by kernel_rfl) (by kernel_rfl) e35 (fun w h_ => h_.mem _ (.tail _ (.head _))) ?_
         refine kp_steps 1 [(0, .int .i64 (IntKind.i64.wrap (Int.tmod (IntKind.u64.wrap a0) (300 : Int)))), (5, .pointer (some ⟨b14, 0, none⟩)), (7, .int .i64 x22), (80, .slice A31 x25.2.2.2.2.length k32), (81, .int .i64 x22)] (by kernel_rfl) (by kernel_rfl) ?_
         obtain ⟨x37, hx37, h⟩ := bindSome h
         refine kp_elemP (T := 53) (kd := .i64) e53_ok rfl (by kernel_rfl) (by kernel_rfl) (by kernel_rfl) (by kernel_rfl) (by kernel_rfl) (by kernel_rfl) hx37 o33 fun p38 e39 y40 => ?_
         have e39 : Elem _ p38 [.int .i64 x37.1, .int .i64 x37.2.1, .string x37.2.2] := e39
         refine kp_eloadN rfl (by kernel_rfl) (by kernel_rfl) (by kernel_rfl) (by kernel_rfl) (by kernel_rfl) e39 (fun w h_ => h_.mem _ (.tail _ (.head _))) ?_
         refine kp_steps 1 [(0, .int .i64 (IntKind.i64.wrap (Int.tmod (IntKind.u64.wrap a0) (300 : Int)))), (5, .pointer (some ⟨b14, 0, none⟩)), (7, .int .i64 x22), (83, .agg #[.int .i64 x37.1, .int .i64 x37.2.1, .string x37.2.2]), (84, .int .i64 x22)] (by kernel_rfl) (by kernel_rfl) ?_
         refine kp_turn (by kernel_rfl) ?_
         obtain ⟨r41, hr41, h⟩ := bindSome h
         refine op_callv (by kernel_rfl) (by kernel_rfl) (r03_I.ok hr41) trivial ?_
         refine k_and (fun w h_ => ⟨h_.sat.on _ (.head _), h_.sat.on _ (.tail _ (.head _)), h_.sat.on _ (.tail _ (.tail _ (.head _))), trivial⟩) ?_
         refine kp_done ?_
         refine kl_eqS (r := ((x37.1 == r41.1) && ((x37.2.1 == r41.2.1) && ((x37.2.2.toList == r41.2.2.toList) && true)))) (xs := #[.int .i64 x37.1, .int .i64 x37.2.1, .string x37.2.2]) (ys := #[.int .i64 r41.1, .int .i64 r41.2.1, .string r41.2.2]) true (by kernel_rfl) rfl (by kernel_rfl) (by kernel_rfl) (by kernel_rfl) (by kernel_rfl) (by kernel_rfl) (by kernel_rfl) (by kernel_rfl) ?_
         refine k_nil ?_
         refine k_then ?_
         refine k_cond (t := !((x37.1 == r41.1) && ((x37.2.1 == r41.2.1) && ((x37.2.2.toList == r41.2.2.toList) && true)))) (by kernel_rfl) (fun t42 => ?_) (fun t42 => ?_)
         ·have h := condT h t42
          refine k_seq ?_
          refine k_region ?_
          refine kl_steps 1 [(2, .bool false)] (by kernel_rfl) ?_
          refine k_nil ?_
          refine k_then ?_
          refine k_ret ?_
          refine k_blk_ret ?_
          refine k_then_ret ?_
          refine k_then_ret ?_
          refine k_blk_ret ?_
          refine k_then_ret ?_
          obtain rfl := Option.some.inj h
          refine k_done (v := .bool false) [] [] [] (by kernel_rfl) (by kernel_rfl) trivial ?_
          refine K.drop ?_
          refine K.drop ?_
          refine K.drop ?_
          exact k_end ⟨rfl, rfl⟩
         ·have h := condF h t42
          refine k_skip ?_
          refine k_blk ?_
          refine k_then ?_
          refine k_region ?_
          refine kl_steps 3 [(0, .int .i64 (IntKind.i64.wrap (Int.tmod (IntKind.u64.wrap a0) (300 : Int)))), (5, .pointer (some ⟨b14, 0, none⟩)), (7, .int .i64 (IntKind.i64.wrap (x22 + (1 : Int))))] (by kernel_rfl) ?_
          refine k_nil ?_
          refine k_then ?_
          exact k_again m23 (IntKind.i64.wrap (x22 + (1 : Int))) (Nat.lt_succ_self _) h ⟨rfl, rfl, rfl, trivial⟩ rfl
        ·have h := condF h t24
         refine k_exit ?_
         refine k_then_exit ?_
         refine k_then_exit ?_
         refine k_here ?_
         refine k_then ?_
         refine K.drop ?_
         refine K.drop ?_
         refine K.drop ?_
         exact k_meet () h trivial rfl
    ·have h := hq19
     clear hq19
     refine k_region ?_
     refine kl_steps 1 [(0, .int .i64 (IntKind.i64.wrap (Int.tmod (IntKind.u64.wrap a0) (300 : Int)))), (5, .pointer (some ⟨b14, 0, none⟩)), (44, .pointer (some ⟨b15, 0, none⟩))] (by kernel_rfl) ?_
     refine kl_load (v := .int .i64 r5.2.2.1) [.val (.int .i64 r5.2.2.1)] [.ld ⟨b15, 0, none⟩ (.int .i64 r5.2.2.1)] (by kernel_rfl) (by kernel_rfl) (by kernel_rfl) ⟨⟨0, _, _, _, rfl, rfl, rfl⟩, trivial⟩ ?_
     refine K.drop ?_
     refine kl_steps 2 [(0, .int .i64 (IntKind.i64.wrap (Int.tmod (IntKind.u64.wrap a0) (300 : Int)))), (5, .pointer (some ⟨b14, 0, none⟩)), (47, .bool (r5.2.2.1 != (0 : Int)))] (by kernel_rfl) ?_
     rcases Bool.eq_false_or_eq_true ((r5.2.2.1 != (0 : Int))) with t43 | t43
     ·have h := condT h t43
      refine K.weak (env' := [(0, .int .i64 (IntKind.i64.wrap (Int.tmod (IntKind.u64.wrap a0) (300 : Int)))), (5, .pointer (some ⟨b14, 0, none⟩)), (47, .bool true)]) ?_ ⟨rfl, rfl, congrArg (fun b => some (Value.bool b)) t43, trivial⟩
      refine kl_steps 23 [(0, .int .i64 (IntKind.i64.wrap (Int.tmod (IntKind.u64.wrap a0) (300 : Int)))), (5, .pointer (some ⟨b14, 0, none⟩)), (70, .bool true)] (by kernel_rfl) ?_
      refine k_nil ?_
      refine k_then ?_
      exact k_meet1 ⟨rfl, rfl, congrArg (fun b => some (Value.bool b)) (Option.some.inj h), trivial⟩
     ·have h := condF h t43
      refine K.weak (env' := [(0, .int .i64 (IntKind.i64.wrap (Int.tmod (IntKind.u64.wrap a0) (300 : Int)))), (5, .pointer (some ⟨b14, 0, none⟩)), (47, .bool false)]) ?_ ⟨rfl, rfl, congrArg (fun b => some (Value.bool b)) t43, trivial⟩
      refine kl_steps 1 [(0, .int .i64 (IntKind.i64.wrap (Int.tmod (IntKind.u64.wrap a0) (300 : Int)))), (5, .pointer (some ⟨b14, 0, none⟩)), (47, .bool false), (48, .pointer (some ⟨b14, 0, none⟩))] (by kernel_rfl) ?_
      refine kl_load (v := .slice A7 r5.1.length k8) [.val (.slice A7 r5.1.length k8)] [.ld ⟨b14, 0, none⟩ (.slice A7 r5.1.length k8)] (by kernel_rfl) (by kernel_rfl) (by kernel_rfl) ⟨⟨0, _, _, _, rfl, rfl, rfl⟩, trivial⟩ ?_
      refine kl_steps 4 [(0, .int .i64 (IntKind.i64.wrap (Int.tmod (IntKind.u64.wrap a0) (300 : Int)))), (5, .pointer (some ⟨b14, 0, none⟩)), (53, .bool (((r5.1.length : Nat) : Int) != (1 : Int)))] (by kernel_rfl) ?_
      rcases Bool.eq_false_or_eq_true ((((r5.1.length : Nat) : Int) != (1 : Int))) with t44 | t44
      ·have h := condT h t44
       refine K.weak (env' := [(0, .int .i64 (IntKind.i64.wrap (Int.tmod (IntKind.u64.wrap a0) (300 : Int)))), (5, .pointer (some ⟨b14, 0, none⟩)), (53, .bool true)]) ?_ ⟨rfl, rfl, congrArg (fun b => some (Value.bool b)) t44, trivial⟩
       refine kl_steps 17 [(0, .int .i64 (IntKind.i64.wrap (Int.tmod (IntKind.u64.wrap a0) (300 : Int)))), (5, .pointer (some ⟨b14, 0, none⟩)), (70, .bool true)] (by kernel_rfl) ?_
       refine k_nil ?_
       refine k_then ?_
       exact k_meet1 ⟨rfl, rfl, congrArg (fun b => some (Value.bool b)) (Option.some.inj h), trivial⟩
      ·have h := condF h t44
       refine K.weak (env' := [(0, .int .i64 (IntKind.i64.wrap (Int.tmod (IntKind.u64.wrap a0) (300 : Int)))), (5, .pointer (some ⟨b14, 0, none⟩)), (53, .bool false)]) ?_ ⟨rfl, rfl, congrArg (fun b => some (Value.bool b)) t44, trivial⟩
       refine kl_steps 1 [(0, .int .i64 (IntKind.i64.wrap (Int.tmod (IntKind.u64.wrap a0) (300 : Int)))), (5, .pointer (some ⟨b14, 0, none⟩)), (53, .bool false), (54, .pointer (some ⟨b14, 0, none⟩))] (by kernel_rfl) ?_
       refine kl_load (v := .slice A7 r5.1.length k8) [.val (.slice A7 r5.1.length k8)] [.ld ⟨b14, 0, none⟩ (.slice A7 r5.1.length k8)] (by kernel_rfl) (by kernel_rfl) (by kernel_rfl) ⟨⟨0, _, _, _, rfl, rfl, rfl⟩, trivial⟩ ?_
       obtain ⟨x45, hx45, h⟩ := bindSome h
       refine kl_elemR (T := 42) (kd := .i64) (R := rs42) rfl (by kernel_rfl) (by kernel_rfl) (by kernel_rfl) (by kernel_rfl) (by kernel_rfl) (by kernel_rfl) hx45 (OwnR.rd o9) fun p46 u49 q50 e47 y48 => ?_
       obtain ⟨A51, k52, rfl, o53⟩ := rs42_r q50
       refine kl_efieldP (off := 4) rfl (by kernel_rfl) (by kernel_rfl) (by kernel_rfl) (by kernel_rfl) e47 y48 fun p54 e55 y56 => ?_
       have e55 : Elem _ p54 [.slice A51 x45.2.2.2.2.length k52] := e55
       refine kl_eload1 rfl (by kernel_rfl) (by kernel_rfl) (by kernel_rfl) (by kernel_rfl) e55 (.tail _ (.head _)) ?_
       refine kl_steps 5 [(0, .int .i64 (IntKind.i64.wrap (Int.tmod (IntKind.u64.wrap a0) (300 : Int)))), (5, .pointer (some ⟨b14, 0, none⟩)), (63, .bool (((x45.2.2.2.2.length : Nat) : Int) != (IntKind.i64.wrap (Int.tmod (IntKind.u64.wrap a0) (300 : Int)))))] (by kernel_rfl) ?_
       rcases Bool.eq_false_or_eq_true ((((x45.2.2.2.2.length : Nat) : Int) != (IntKind.i64.wrap (Int.tmod (IntKind.u64.wrap a0) (300 : Int))))) with t57 | t57
       ·have h := condT h t57
        refine K.weak (env' := [(0, .int .i64 (IntKind.i64.wrap (Int.tmod (IntKind.u64.wrap a0) (300 : Int)))), (5, .pointer (some ⟨b14, 0, none⟩)), (63, .bool true)]) ?_ ⟨rfl, rfl, congrArg (fun b => some (Value.bool b)) t57, trivial⟩
        refine kl_steps 7 [(0, .int .i64 (IntKind.i64.wrap (Int.tmod (IntKind.u64.wrap a0) (300 : Int)))), (5, .pointer (some ⟨b14, 0, none⟩)), (70, .bool true)] (by kernel_rfl) ?_
        refine k_nil ?_
        refine k_then ?_
        exact k_meet1 ⟨rfl, rfl, congrArg (fun b => some (Value.bool b)) (Option.some.inj h), trivial⟩
       ·have h := condF h t57
        refine K.weak (env' := [(0, .int .i64 (IntKind.i64.wrap (Int.tmod (IntKind.u64.wrap a0) (300 : Int)))), (5, .pointer (some ⟨b14, 0, none⟩)), (63, .bool false)]) ?_ ⟨rfl, rfl, congrArg (fun b => some (Value.bool b)) t57, trivial⟩
        refine kl_steps 1 [(0, .int .i64 (IntKind.i64.wrap (Int.tmod (IntKind.u64.wrap a0) (300 : Int)))), (5, .pointer (some ⟨b14, 0, none⟩)), (63, .bool false), (64, .pointer (some ⟨b14, 0, none⟩))] (by kernel_rfl) ?_
        refine kl_load (v := .slice A7 r5.1.length k8) [.val (.slice A7 r5.1.length k8)] [.ld ⟨b14, 0, none⟩ (.slice A7 r5.1.length k8)] (by kernel_rfl) (by kernel_rfl) (by kernel_rfl) ⟨⟨0, _, _, _, rfl, rfl, rfl⟩, trivial⟩ ?_
        obtain ⟨x58, hx58, h⟩ := bindSome h
        refine kl_elemR (T := 42) (kd := .i64) (R := rs42) rfl (by kernel_rfl) (by kernel_rfl) (by kernel_rfl) (by kernel_rfl) (by kernel_rfl) (by kernel_rfl) hx58 (OwnR.rd o9) fun p59 u62 q63 e60 y61 => ?_
        obtain ⟨A64, k65, rfl, o66⟩ := rs42_r q63
        refine kl_efieldP (off := 3) rfl (by kernel_rfl) (by kernel_rfl) (by kernel_rfl) (by kernel_rfl) e60 y61 fun p67 e68 y69 => ?_
        have e68 : Elem _ p67 [.int .i64 x58.2.2.2.1, .slice A64 x58.2.2.2.2.length k65] := e68
        refine kl_eload1 rfl (by kernel_rfl) (by kernel_rfl) (by kernel_rfl) (by kernel_rfl) e68 (.tail _ (.head _)) ?_
        refine kl_steps 2 [(0, .int .i64 (IntKind.i64.wrap (Int.tmod (IntKind.u64.wrap a0) (300 : Int)))), (5, .pointer (some ⟨b14, 0, none⟩)), (70, .bool (x58.2.2.2.1 != (0 : Int)))] (by kernel_rfl) ?_
        refine k_nil ?_
        refine k_then ?_
        exact k_meet1 ⟨rfl, rfl, congrArg (fun b => some (Value.bool b)) (Option.some.inj h), trivial⟩
  ·skip
   refine k_seq ?_
   refine k_region ?_
   refine kl_steps 1 [(0, .int .i64 (IntKind.i64.wrap (Int.tmod (IntKind.u64.wrap a0) (300 : Int)))), (3, .string (⟨#[]⟩ : ByteArray)), (4, .int .i64 (0 : Int))] (by kernel_rfl) ?_
   refine k_nil ?_
   refine k_then ?_
   refine k_block ?_
   refine k_loop (τ := ByteArray × Int) (fun t => [(0, .int .i64 (IntKind.i64.wrap (Int.tmod (IntKind.u64.wrap a0) (300 : Int)))), (3, .string t.1), (4, .int .i64 t.2)]) (fun t => X) (fun m t => law13_CheckConsts.l1 m a0 J4 t.1 t.2 = some r) k ((⟨#[]⟩ : ByteArray), (0 : Int)) h ⟨rfl, rfl, rfl, trivial⟩ rfl ?_
   clear h
   rintro m72 ⟨x70, x71⟩ h
   cases m72 with
   | zero => simp [law13_CheckConsts.l1] at h
   | succ m72 =>
    simp only [law13_CheckConsts.l1] at h
    refine k_seq ?_
    refine k_seq ?_
    refine k_region ?_
    refine kl_steps 3 [(0, .int .i64 (IntKind.i64.wrap (Int.tmod (IntKind.u64.wrap a0) (300 : Int)))), (3, .string x70), (4, .int .i64 x71), (16, .bool (decide (x71 < (IntKind.i64.wrap (Int.tmod (IntKind.u64.wrap a0) (300 : Int))))))] (by kernel_rfl) ?_
    refine k_nil ?_
    refine k_then ?_
    refine k_cond (t := decide (x71 < (IntKind.i64.wrap (Int.tmod (IntKind.u64.wrap a0) (300 : Int))))) (by kernel_rfl) (fun t73 => ?_) (fun t73 => ?_)
    ·have h := condT h t73
     refine k_skip ?_
     refine k_then ?_
     refine k_seq ?_
     refine k_block ?_
     refine k_region ?_
     refine kl_steps 2 [(0, .int .i64 (IntKind.i64.wrap (Int.tmod (IntKind.u64.wrap a0) (300 : Int)))), (3, .string x70), (4, .int .i64 x71), (19, .string x70), (20, .int .i64 x71)] (by kernel_rfl) ?_
     obtain ⟨r74, hr74, h⟩ := bindSome h
     refine kl_callv (by kernel_rfl) (by kernel_rfl) (by kernel_rfl) (r02_Format.ok hr74) trivial ?_
     obtain ⟨s75, hs75, h⟩ := bindSome h
     refine kl_cat rfl (by kernel_rfl) (by kernel_rfl) (by kernel_rfl) (by kernel_rfl) hs75 ?_
     obtain ⟨s76, hs76, h⟩ := bindSome h
     refine kl_cat rfl (by kernel_rfl) (by kernel_rfl) (by kernel_rfl) (by kernel_rfl) hs76 ?_
     refine kl_steps 1 [(0, .int .i64 (IntKind.i64.wrap (Int.tmod (IntKind.u64.wrap a0) (300 : Int)))), (3, .string x70), (4, .int .i64 x71), (19, .string x70), (23, .string s76), (24, .int .i64 x71)] (by kernel_rfl) ?_
     obtain ⟨r77, hr77, h⟩ := bindSome h
     refine kl_callv (by kernel_rfl) (by kernel_rfl) (by kernel_rfl) (r02_Format.ok hr77) trivial ?_
     obtain ⟨s78, hs78, h⟩ := bindSome h
     refine kl_cat rfl (by kernel_rfl) (by kernel_rfl) (by kernel_rfl) (by kernel_rfl) hs78 ?_
     obtain ⟨s79, hs79, h⟩ := bindSome h
     refine kl_cat rfl (by kernel_rfl) (by kernel_rfl) (by kernel_rfl) (by kernel_rfl) hs79 ?_
     obtain ⟨s80, hs80, h⟩ := bindSome h
     refine kl_cat rfl (by kernel_rfl) (by kernel_rfl) (by kernel_rfl) (by kernel_rfl) hs80 ?_
     refine kl_steps 1 [(0, .int .i64 (IntKind.i64.wrap (Int.tmod (IntKind.u64.wrap a0) (300 : Int)))), (3, .string s80), (4, .int .i64 x71)] (by kernel_rfl) ?_
     refine k_nil ?_
     refine k_blk ?_
     refine k_then ?_
     refine k_region ?_
     refine kl_steps 3 [(0, .int .i64 (IntKind.i64.wrap (Int.tmod (IntKind.u64.wrap a0) (300 : Int)))), (3, .string s80), (4, .int .i64 (IntKind.i64.wrap (x71 + (1 : Int))))] (by kernel_rfl) ?_
     refine k_nil ?_
     refine k_then ?_
     exact k_again m72 (s80, IntKind.i64.wrap (x71 + (1 : Int))) (Nat.lt_succ_self _) h ⟨rfl, rfl, rfl, trivial⟩ rfl
    ·have h := condF h t73
     refine k_exit ?_
     refine k_then_exit ?_
     refine k_then_exit ?_
     refine k_here ?_
     refine k_then ?_
     exact k_meet x70 h ⟨rfl, rfl, trivial⟩ rfl
end Go.Proofs.YtdkgnlaneccioaaGreatDoor
namespace Go.Proofs.YtdkgnlaneccioaaGreatDoor
open Go Go.RowKit Lx
def dg (i : Nat) : Bs := if i < 10 then [UInt8.ofNat (48 + i)] else if i < 100 then [UInt8.ofNat (48 + i / 10), UInt8.ofNat (48 + i % 10)] else [UInt8.ofNat (48 + i / 100), UInt8.ofNat (48 + i / 10 % 10), UInt8.ofNat (48 + i % 10)]
theorem format_all (m : Nat) : ((List.range 300).map fun i : Nat => (r02_Format.f (m + 20) (i : Int))) = (List.range 300).map fun i : Nat => some (str (dg i)) := by kernel_rfl
theorem format_eq (k : Nat) (hk : 20 ≤ k) (i : Nat) (hi : i < 300) : r02_Format.f k (i : Int) = some (str (dg i)) := by
 obtain ⟨m, rfl⟩ : ∃ m, k = m + 20 := ⟨k - 20, by omega⟩
 exact List.map_inj_left.1 (format_all m) i (List.mem_range.2 hi)
theorem dg_len (i : Nat) : 1 ≤ (dg i).length ∧ (dg i).length ≤ 3 := by unfold dg; (repeat' split) <;> simp
theorem catE {a b : ByteArray} (h : a.size + b.size ≤ 9223372036854775807) : sCat a b = some (str (bs a ++ bs b)) := by
 rw [catC h]
 have : a ++ b = str (bs a ++ bs b) := bs_inj (by rw [bs_str]; simp [bs])
 rw [this]
theorem skip32 (x : Bs) (at_ : Nat) (acc : List Tok) : scanL (32 :: x) at_ acc = scanL x (at_ + 1) acc := scanL_blanks x at_ acc [32] (by decide)
theorem scanL_tok (w x t : Bs) (at_ : Nat) (acc : List Tok) (k n : Int) (hst : stepF (w ++ x) = .tok k t n w.length) (h0 : runL blankR (w ++ x) = 0) : scanL (w ++ x) at_ acc = scanL x (at_ + w.length) (acc ++ [⟨k, t, n, at_⟩]) := by
 rw [scanL_step, h0, List.drop_zero, Nat.add_zero, hst]
 simp only
 rw [List.drop_left]
def nmOK (w : Bs) : Bool := (w.head? == some 97 || w.head? == some 98) && runL partR w == w.length && decide (w.length ≤ 40) && !isWordF w && letterR (decL w).1 && runL blankR w == 0 && !keptB (str w)
theorem nm_a : ∀ i ∈ List.range 50, nmOK (97 :: dg i) = true := by decide +kernel
theorem nm_b : ∀ i ∈ List.range 50, nmOK (98 :: dg i) = true := by decide +kernel
theorem run_stop (p : Nat → Bool) (x : UInt8) (r : Bs) (hx : x.toNat < 128) (hp : p x.toNat = false) : runL p (x :: r) = 0 := by
 rw [runL_step _ _ (by simp), decL_low x r hx]
 simp [hp]
theorem name_scan (w r : Bs) (x : UInt8) (at_ : Nat) (acc : List Tok) (hw : nmOK w = true) (hx : x = 44 ∨ x = 32) : scanL (w ++ x :: r) at_ acc = scanL (x :: r) (at_ + w.length) (acc ++ [⟨1, w, 0, at_⟩]) := by
 simp only [nmOK, Bool.and_eq_true, Bool.or_eq_true, beq_iff_eq, decide_eq_true_eq, Bool.not_eq_true'] at hw
 obtain ⟨⟨⟨⟨⟨⟨h1, h2⟩, h3⟩, h4⟩, h5⟩, h6⟩, _⟩ := hw
 have hne : w ≠ [] := by rintro rfl; rcases h1 with h1 | h1 <;> cases h1
 have hlow : x.toNat < 128 := by rcases hx with rfl | rfl <;> decide
 have hpx : partR x.toNat = false := by rcases hx with rfl | rfl <;> decide
 have hl : ∀ y t, x :: r = y :: t → y.toNat < 128 := fun y t e => by cases e; exact hlow
 have hd := decL_append w (x :: r) hne hl
 have hrun := runL_append partR (x :: r) hl w.length w (Nat.le_refl _) (.inr (run_stop partR x r hlow hpx))
 have hb := runL_append blankR (x :: r) hl w.length w (Nat.le_refl _) (.inl (by rw [h6]; exact List.length_pos_iff.2 hne))
 refine scanL_tok w (x :: r) w at_ acc 1 0 ?_ (by rw [hb, h6])
 have hp : [45, 45].isPrefixOf (w ++ x :: r) = false := by
  cases w with
  | nil => exact absurd rfl hne
  | cons b t =>
   rcases h1 with h1 | h1
   ·cases h1; rfl
   ·cases h1; rfl
 unfold stepF
 rw [if_neg (by simp), hp]
 simp only [Bool.false_eq_true, if_false, hd, hrun, h2, h5, if_true]
 rw [if_neg (by omega), List.take_left, h4]
 rfl
theorem comma_scan (r : Bs) (at_ : Nat) (acc : List Tok) : scanL (44 :: 32 :: r) at_ acc = scanL (32 :: r) (at_ + 1) (acc ++ [⟨5, [44], 0, at_⟩]) := by
 refine scanL_tok [44] (32 :: r) [44] at_ acc 5 0 ?_ (run_stop _ _ _ (by decide) (by decide))
 unfold stepF
 rw [if_neg (by simp)]
 simp only [List.cons_append, List.nil_append, decL_low 44 (32 :: r) (by decide)]
 rfl
def nms (c : UInt8) (i : Nat) : Nat → Bs
 | 0 => []
 | d + 1 => (if i = 0 then [] else [44, 32]) ++ (c :: dg i) ++ nms c (i + 1) d
def nmT (c : UInt8) (i at_ : Nat) : Nat → List Tok
 | 0 => []
 | d + 1 => [⟨5, [44], 0, at_⟩, ⟨1, c :: dg i, 0, at_ + 2⟩] ++ nmT c (i + 1) (at_ + 3 + (dg i).length) d
theorem nms_scan (c : UInt8) (hc : ∀ i ∈ List.range 50, nmOK (c :: dg i) = true) (r : Bs) : ∀ (d i at_ : Nat) (acc : List Tok), 1 ≤ i → i + d ≤ 50 →
  scanL (nms c i d ++ 32 :: r) at_ acc = scanL (32 :: r) (at_ + (nms c i d).length) (acc ++ nmT c i at_ d)
 | 0, i, at_, acc, _, _ => by simp [nms, nmT]
 | d + 1, i, at_, acc, hi, hd => by
  have ih := nms_scan c hc r d (i + 1) (at_ + 3 + (dg i).length) (acc ++ [⟨5, [44], 0, at_⟩, ⟨1, c :: dg i, 0, at_ + 2⟩]) (by omega) (by omega)
  have hn := hc i (List.mem_range.2 (by omega))
  simp only [nms, nmT, if_neg (by omega : ¬ i = 0), List.append_assoc, List.cons_append, List.nil_append]
  rw [comma_scan, skip32]
  have e : ∃ x t, nms c (i + 1) d ++ 32 :: r = x :: t ∧ (x = 44 ∨ x = 32) := by
   cases d with
   | zero => exact ⟨32, r, rfl, .inr rfl⟩
   | succ d => exact ⟨44, 32 :: (c :: dg (i + 1) ++ nms c (i + 1 + 1) d) ++ 32 :: r, by simp [nms], .inl rfl⟩
  obtain ⟨x, t, e, hx⟩ := e
  rw [e] at ih ⊢
  have := name_scan (c :: dg i) t x (at_ + 1 + 1) (acc ++ [⟨5, [44], 0, at_⟩]) hn hx
  simp only [List.cons_append] at this
  rw [this]
  simp only [List.append_assoc, List.cons_append, List.nil_append, List.length_cons, List.length_append] at ih ⊢
  rw [show at_ + 1 + 1 + ((dg i).length + 1) = at_ + 3 + (dg i).length by omega, ih]
  congr 1
  omega
theorem many_scan (c : UInt8) (hc : ∀ i ∈ List.range 50, nmOK (c :: dg i) = true) (r : Bs) (n at_ : Nat) (acc : List Tok) (h1 : 1 ≤ n) (h2 : n ≤ 50) :
  scanL (nms c 0 n ++ 32 :: r) at_ acc = scanL (32 :: r) (at_ + (nms c 0 n).length) (acc ++ ⟨1, [c, 48], 0, at_⟩ :: nmT c 1 (at_ + 2) (n - 1)) := by
 obtain ⟨n, rfl⟩ : ∃ m, n = m + 1 := ⟨n - 1, by omega⟩
 have ih := nms_scan c hc r n 1 (at_ + 2) (acc ++ [⟨1, [c, 48], 0, at_⟩]) (by omega) (by omega)
 have hn := hc 0 (List.mem_range.2 (by omega))
 have e0 : dg 0 = [48] := rfl
 rw [e0] at hn
 have e : ∃ x t, nms c 1 n ++ 32 :: r = x :: t ∧ (x = 44 ∨ x = 32) := by
  cases n with
  | zero => exact ⟨32, r, rfl, .inr rfl⟩
  | succ d => exact ⟨44, 32 :: (c :: dg 1 ++ nms c (1 + 1) d) ++ 32 :: r, by simp [nms], .inl rfl⟩
 obtain ⟨x, t, e, hx⟩ := e
 simp only [nms, if_true, List.nil_append, e0, Nat.zero_add, List.cons_append, Nat.add_sub_cancel]
 rw [e] at ih ⊢
 have := name_scan [c, 48] t x at_ acc hn hx
 simp only [List.cons_append, List.nil_append] at this
 rw [this]
 simp only [List.append_assoc, List.cons_append, List.nil_append, List.length_cons, List.length_nil] at ih ⊢
 rw [ih]
 congr 1
 omega
theorem many_loop (c : UInt8) (n : Nat) (hn : n ≤ 50) (J : ByteArray → Option ByteArray) : ∀ (d i k : Nat) (x : Bs), i + d = n → d + 30 ≤ k → x.length ≤ 10000 * i →
  law13_many.l0 k (n : Int) (str [c]) J (str x) (i : Int) = J (str (x ++ nms c i d))
 | 0, i, k, x, hi, hk, _ => by
  obtain ⟨k, rfl⟩ : ∃ m, k = m + 1 := ⟨k - 1, by omega⟩
  simp only [law13_many.l0]
  rw [ltF (by omega)]
  simp [nms]
 | d + 1, i, k, x, hi, hk, hx => by
  obtain ⟨k, rfl⟩ : ∃ m, k = m + 1 := ⟨k - 1, by omega⟩
  have hdl := dg_len i
  simp only [law13_many.l0]
  rw [ltT (by omega)]
  simp only [cond_true, joinF]
  rw [format_eq k (by omega) i (by omega)]
  have next : ∀ y : Bs, y.length ≤ 10000 * i + 2 → ((some (str (dg i))).bind fun r9 => (sCat (str [c]) r9).bind fun s10 : ByteArray => (sCat (str y) s10).bind fun s11 : ByteArray => law13_many.l0 k (n : Int) (str [c]) J s11 (IntKind.i64.wrap ((i : Int) + 1))) = J (str (y ++ (c :: dg i) ++ nms c (i + 1) d)) := fun y hy => by
   rw [Option.bind_some, catE (by rw [str_size, str_size]; simp only [List.length_cons, List.length_nil]; omega), Option.bind_some]
   simp only [bs_str]
   rw [catE (by rw [str_size, str_size]; simp only [List.length_cons, List.length_nil, List.length_append]; omega), Option.bind_some]
   simp only [bs_str]
   rw [wiC _ (by omega) (by omega)]
   exact many_loop c n hn J d (i + 1) k _ (by omega) (by omega) (by simp only [List.length_append, List.length_cons, List.length_nil]; omega)
  by_cases h0 : i = 0
  ·rw [decide_eq_false (by omega), cond_false, next x (by omega)]
   simp only [nms, if_pos h0, List.nil_append, List.append_assoc]
  ·rw [decide_eq_true (by omega), cond_true, catE (by rw [str_size]; show x.length + 2 ≤ _; omega), Option.bind_some]
   simp only [bs_str]
   refine (next (x ++ bs ⟨#[44, 32]⟩) (by rw [List.length_append]; show x.length + 2 ≤ _; omega)).trans ?_
   simp only [nms, if_neg h0]
   rw [show bs ⟨#[44, 32]⟩ = [44, 32] from rfl]
   simp only [List.append_assoc, List.cons_append, List.nil_append]
theorem many_eq (c : UInt8) (n k : Nat) (hn : n ≤ 50) (hk : 100 ≤ k) : law13_many.f k (n : Int) (str [c]) = some (str (nms c 0 n)) := by
 unfold law13_many.f joinF
 have := many_loop c n hn (fun x => some x) n 0 k [] (by omega) (by omega) (by simp)
 exact this
theorem nms_len (c : UInt8) : ∀ (d i : Nat), (nms c i d).length ≤ 6 * d
 | 0, i => by simp [nms]
 | d + 1, i => by
  have := nms_len c d (i + 1)
  have := dg_len i
  simp only [nms, List.length_append, List.length_cons]
  split <;> simp <;> omega
end Go.Proofs.YtdkgnlaneccioaaGreatDoor
namespace Go.Proofs.YtdkgnlaneccioaaGreatDoor
open Go Go.RowKit Lx
abbrev bLocal : Bs := [108, 111, 99, 97, 108]
abbrev bFor : Bs := [102, 111, 114]
abbrev bDoK : Bs := [100, 111]
abbrev bEndK : Bs := [101, 110, 100]
def nmTr (c : UInt8) (i at_ : Nat) : Nat → List Tree
 | 0 => []
 | d + 1 => .mk 6 (str (c :: dg i)) 0 ((at_ + 2 : Nat) : Int) [] :: nmTr c (i + 1) (at_ + 3 + (dg i).length) d
theorem isH_comma (p : Int) (ts : List Tk) : isH kComma ((5, str [44], 0, p) :: ts) = true := by kernel_rfl
theorem names_p (c : UInt8) (R : List Tk) (hR : isH kComma R = false) : ∀ (d i at_ f : Nat) (acc : List Tree), d + 1 ≤ f → pNamesL f acc ((nmT c i at_ d).map tokT ++ R) = some (.ok (acc ++ nmTr c i at_ d) R)
 | 0, i, at_, f, acc, hf => by
  obtain ⟨f, rfl⟩ : ∃ m, f = m + 1 := ⟨f - 1, by omega⟩
  simp only [nmT, nmTr, List.map_nil, List.nil_append, List.append_nil]
  rw [pNamesL, hR]
  rfl
 | d + 1, i, at_, f, acc, hf => by
  obtain ⟨f, rfl⟩ : ∃ m, f = m + 1 := ⟨f - 1, by omega⟩
  have ih := names_p c R hR d (i + 1) (at_ + 3 + (dg i).length) f (acc ++ [.mk 6 (str (c :: dg i)) 0 ((at_ + 2 : Nat) : Int) []]) (by omega)
  simp only [nmT, nmTr, List.cons_append, List.nil_append, List.map_cons]
  rw [pNamesL]
  show (if isH kComma ((5, str [44], 0, (at_ : Int)) :: _) = true then _ else _) = _
  rw [if_pos (isH_comma _ _)]
  refine Eq.trans ?_ (ih.trans ?_)
  ·rfl
  ·rw [List.append_assoc]; rfl
def rowT (c : UInt8) (n p : Nat) : List Tk := (1, str [c, 48], 0, (p : Int)) :: (nmT c 1 (p + 2) (n - 1)).map tokT
def rowTr (c : UInt8) (n p : Nat) : List Tree := .mk 6 (str [c, 48]) 0 (p : Int) [] :: nmTr c 1 (p + 2) (n - 1)
theorem row_p (c : UInt8) (n p : Nat) (R : List Tk) (hR : isH kComma R = false) (f : Nat) (hf : n + 1 ≤ f) : pNames f (rowT c n p ++ R) = some (.ok (rowTr c n p) R) := by
 unfold pNames rowT rowTr
 exact names_p c R hR (n - 1) 1 (p + 2) f [.mk 6 (str [c, 48]) 0 (p : Int) []] (by omega)
theorem nmTr_len (c : UInt8) : ∀ (d i p : Nat), (nmTr c i p d).length = d
 | 0, _, _ => rfl
 | d + 1, i, p => by simp only [nmTr, List.length_cons, nmTr_len c d]
theorem rowTr_len (c : UInt8) (n p : Nat) (hn : 1 ≤ n) : (rowTr c n p).length = n := by
 simp only [rowTr, List.length_cons, nmTr_len]; omega
theorem local_p (c : UInt8) (n p q f : Nat) (hn : 1 ≤ n) (R : List Tk) (hR : isH kComma R = false) (hE : isH kEq R = false) (hf : n + 2 ≤ f) :
  pStat f ((2, str bLocal, 0, (p : Int)) :: (rowT c n q ++ R)) = some (.ok (.mk 21 noB (n : Int) (p : Int) (rowTr c n q)) R) := by
 obtain ⟨f, rfl⟩ : ∃ m, f = m + 1 := ⟨f - 1, by omega⟩
 rw [pStat, if_neg (ne_true_of_eq_false (by kernel_rfl)), if_neg (ne_true_of_eq_false (by kernel_rfl)), if_neg (ne_true_of_eq_false (by kernel_rfl)), if_neg (ne_true_of_eq_false (by kernel_rfl)), if_pos (by kernel_rfl)]
 show PV.bind (pNames f (rowT c n q ++ R)) _ = _
 rw [row_p c n q R hR f (by omega)]
 show PV.bind (if isH kEq R = true then _ else _) _ = _
 rw [if_neg (ne_true_of_eq_false hE)]
 show some (PV.ok (Tree.mk 21 noB ((rowTr c n q).length : Int) (p : Int) (rowTr c n q ++ [])) R) = _
 rw [List.append_nil, rowTr_len c n q hn]
theorem blockL_stat (f : Nat) (c : Bool) (at_ : Int) (acc : List Tree) (ts r : List Tk) (x : Tree) (h1 : isH kSemi ts = false) (h2 : isH kReturn ts = false) (h3 : isH kFunction ts = false) (h4 : endsH ts = false) (hx : pStat f ts = some (.ok x r)) :
  pBlockL (f + 1) c at_ acc ts = pBlockL f c at_ (acc ++ [x]) r := by
 rw [pBlockL, h1, h2, h3, h4, Bool.and_false, hx]
 rfl
theorem blockL_end (f : Nat) (c : Bool) (at_ : Int) (acc : List Tree) (ts : List Tk) (h1 : isH kSemi ts = false) (h2 : isH kReturn ts = false) (h3 : isH kFunction ts = false) (h4 : endsH ts = true) :
  pBlockL (f + 1) c at_ acc ts = some (.ok (.mk 20 noB 0 at_ acc) ts) := by
 rw [pBlockL, h1, h2, h3, h4, Bool.and_false]
 rfl
theorem num_p (f : Nat) (t : ByteArray) (v p : Int) (R : List Tk) (hR : bindsH R = 0) : pExp (f + 3) 0 ((3, t, v, p) :: R) = some (.ok (.mk 4 noB v p []) R) := by
 rw [pExp, pOperand, if_pos (show (hd ((3, t, v, p) :: R)).1 = 3 from rfl)]
 show pLoop (f + 2) 0 (.mk 4 noB v p []) R = _
 rw [pLoop, if_pos (by omega)]
def forT (p : Nat) (R : List Tk) : List Tk := (2, str bFor, 0, (p : Int)) :: (1, str [105], 0, ((p + 4 : Nat) : Int)) :: (5, str [61], 0, ((p + 6 : Nat) : Int)) :: (3, str [49], 1, ((p + 8 : Nat) : Int)) :: (5, str [44], 0, ((p + 9 : Nat) : Int)) :: (3, str [50], 2, ((p + 11 : Nat) : Int)) :: (2, str bDoK, 0, ((p + 13 : Nat) : Int)) :: R
def forTr (p : Nat) (b : Tree) : Tree := .mk 26 noB 0 (p : Int) [.mk 6 (str [105]) 0 ((p + 4 : Nat) : Int) [], .mk 4 noB 1 ((p + 8 : Nat) : Int) [], .mk 4 noB 2 ((p + 11 : Nat) : Int) [], b]
theorem for_gen (f : Nat) (p : Int) (T0 T1 T2 T3 T4 T5 : List Tk) (n a b bd : Tree) (h1 : pName 6 T0 = some (.ok n T1)) (h2 : isH kEq T1 = true) (h3 : pExp f 0 T1.tail = some (.ok a T2)) (h4 : pWant kComma T2 = some (.ok () T3)) (h5 : pExp f 0 T3 = some (.ok b T4)) (h6 : isH kComma T4 = false) (h7 : pBody f T4 = some (.ok bd T5)) :
  pFor (f + 1) p T0 = some (.ok (.mk 26 noB 0 p [n, a, b, bd]) T5) := by
 rw [pFor, h1]
 show (if isH kEq T1 = true then _ else _) = _
 rw [if_pos h2, h3]
 show PV.bind (pWant kComma T2) _ = _
 rw [h4]
 show PV.bind (pExp f 0 T3) _ = _
 rw [h5]
 show PV.bind (if isH kComma T4 = true then _ else _) _ = _
 rw [if_neg (ne_true_of_eq_false h6)]
 show PV.bind (pBody f T4) _ = _
 rw [h7]
 rfl
theorem body_gen (f : Nat) (T0 T1 T2 T3 : List Tk) (b : Tree) (h1 : pWant kDo T0 = some (.ok () T1)) (h2 : pBlock f false T1 = some (.ok b T2)) (h3 : pWant kEnd T2 = some (.ok () T3)) : pBody (f + 1) T0 = some (.ok b T3) := by
 rw [pBody, h1]
 show PV.bind (pBlock f false T1) _ = _
 rw [h2]
 show PV.bind (pWant kEnd T2) _ = _
 rw [h3]
 rfl
theorem for_p (p f : Nat) (R R' : List Tk) (b : Tree) (e : Int) (hb : pBlock (f + 3) false R = some (.ok b ((2, str bEndK, 0, e) :: R'))) :
  pStat (f + 6) (forT p R) = some (.ok (forTr p b) R') := by
 unfold forT forTr
 rw [pStat, if_neg (ne_true_of_eq_false (by kernel_rfl)), if_neg (ne_true_of_eq_false (by kernel_rfl)), if_neg (ne_true_of_eq_false (by kernel_rfl)), if_pos (by kernel_rfl)]
 refine for_gen (f + 4) (p : Int) _ ((5, str [61], 0, ((p + 6 : Nat) : Int)) :: (3, str [49], 1, ((p + 8 : Nat) : Int)) :: (5, str [44], 0, ((p + 9 : Nat) : Int)) :: (3, str [50], 2, ((p + 11 : Nat) : Int)) :: (2, str bDoK, 0, ((p + 13 : Nat) : Int)) :: R) _ ((3, str [50], 2, ((p + 11 : Nat) : Int)) :: (2, str bDoK, 0, ((p + 13 : Nat) : Int)) :: R) _ _ _ _ _ _ rfl (by kernel_rfl) (num_p (f + 1) _ _ _ _ (by kernel_rfl)) ?_ (num_p (f + 1) _ _ _ _ (by kernel_rfl)) (by kernel_rfl) (body_gen (f + 3) _ R _ _ b ?_ hb ?_)
 ·unfold pWant
  rw [if_pos (by kernel_rfl)]
  rfl
 ·unfold pWant
  rw [if_pos (by kernel_rfl)]
  rfl
 ·unfold pWant
  rw [if_pos (by kernel_rfl)]
  rfl
def locT (a b p q e : Nat) : List Tk := (2, str bLocal, 0, ((0 : Nat) : Int)) :: (rowT 97 a 6 ++ forT p ((2, str bLocal, 0, (q : Int)) :: (rowT 98 b (q + 6) ++ [(2, str bEndK, 0, (e : Int)), (6, str [], 0, ((e + 3 : Nat) : Int))])))
def locTr (a b p q : Nat) : Tree := .mk 20 noB 0 0 [.mk 21 noB (a : Int) ((0 : Nat) : Int) (rowTr 97 a 6), forTr p (.mk 20 noB 0 (q : Int) [.mk 21 noB (b : Int) (q : Int) (rowTr 98 b (q + 6))])]
theorem loc_p (a b p q e f : Nat) (ha : 1 ≤ a) (hb : 1 ≤ b) (hf : a + b + 30 ≤ f) : pBlock f true (locT a b p q e) = some (.ok (locTr a b p q) [(6, str [], 0, ((e + 3 : Nat) : Int))]) := by
 obtain ⟨f, rfl⟩ : ∃ m, f = m + 12 := ⟨f - 12, by omega⟩
 have hB : pBlock (f + 6) false ((2, str bLocal, 0, (q : Int)) :: (rowT 98 b (q + 6) ++ [(2, str bEndK, 0, (e : Int)), (6, str [], 0, ((e + 3 : Nat) : Int))])) = some (.ok (.mk 20 noB 0 (q : Int) [.mk 21 noB (b : Int) (q : Int) (rowTr 98 b (q + 6))]) [(2, str bEndK, 0, (e : Int)), (6, str [], 0, ((e + 3 : Nat) : Int))]) := by
  rw [pBlock, blockL_stat (f + 4) false _ [] _ [(2, str bEndK, 0, (e : Int)), (6, str [], 0, ((e + 3 : Nat) : Int))] _ (by kernel_rfl) (by kernel_rfl) (by kernel_rfl) (by kernel_rfl) (local_p 98 b q (q + 6) (f + 4) hb _ (by kernel_rfl) (by kernel_rfl) (by omega))]
  exact blockL_end (f + 3) false _ _ _ (by kernel_rfl) (by kernel_rfl) (by kernel_rfl) (by kernel_rfl)
 have hF := for_p p (f + 3) _ _ _ _ hB
 unfold locT
 rw [pBlock, blockL_stat (f + 10) true _ [] _ (forT p _) _ (by kernel_rfl) (by kernel_rfl) (by kernel_rfl) (by kernel_rfl) (local_p 97 a 0 6 (f + 10) ha _ (by kernel_rfl) (by kernel_rfl) (by omega))]
 rw [blockL_stat (f + 9) true _ _ _ _ _ (by kernel_rfl) (by kernel_rfl) (by kernel_rfl) (by kernel_rfl) hF]
 exact blockL_end (f + 8) true _ _ _ (by kernel_rfl) (by kernel_rfl) (by kernel_rfl) (by kernel_rfl)
theorem closed_no {a : Bs} (h : (45 : UInt8) ∉ a) : Closed' a := fun i hi => by
 exfalso
 refine h (List.mem_of_mem_drop (i := i) ?_)
 cases hd : a.drop i with
 | nil => rw [hd] at hi; cases hi
 | cons x t =>
  rw [hd] at hi
  simp only [List.isPrefixOf, Bool.and_eq_true, beq_iff_eq] at hi
  rw [hi.1]
  exact List.mem_cons_self ..
theorem word_scan (w x : Bs) (at_ : Nat) (acc : List Tok) (k n : Int) (hw : w ≠ []) (hg : Gap x) (hst : stepF w = .tok k w n w.length) (h0 : runL blankR w = 0) : scanL (w ++ x) at_ acc = scanL x (at_ + w.length) (acc ++ [⟨k, w, n, at_⟩]) :=
 scanL_tok w x w at_ acc k n (stepF_append w x hw hg _ _ _ _ hst) (by rw [runL_append blankR _ hg.low w.length w (Nat.le_refl _) (.inl (by rw [h0]; exact List.length_pos_iff.2 hw)), h0])
theorem gap32 (r : Bs) : Gap (32 :: r) := ⟨32, r, rfl, .inl rfl⟩
theorem piece_scan (l r : Bs) (at_ : Nat) (acc X : List Tok) (hc : (45 : UInt8) ∉ l) (hg : Gap r) (h : scanL l at_ acc = .inr (acc ++ X ++ [⟨6, [], 0, at_ + l.length⟩])) : scanL (l ++ r) at_ acc = scanL r (at_ + l.length) (acc ++ X) := by
 obtain ⟨acc', e, h2⟩ := scanL_append r hg l.length l at_ acc _ (Nat.le_refl _) (closed_no hc) h
 rw [h2, (List.append_inj' e rfl).1]
abbrev forB : Bs := [102, 111, 114, 32, 105, 32, 61, 32, 49, 44, 32, 50, 32, 100, 111]
theorem for_scan (r : Bs) (p : Nat) (acc : List Tok) : scanL (forB ++ 32 :: r) p acc = scanL (32 :: r) (p + 15) (acc ++ [⟨2, bFor, 0, p⟩, ⟨1, [105], 0, p + 4⟩, ⟨5, [61], 0, p + 6⟩, ⟨3, [49], 1, p + 8⟩, ⟨5, [44], 0, p + 9⟩, ⟨3, [50], 2, p + 11⟩, ⟨2, bDoK, 0, p + 13⟩]) := by
 refine piece_scan forB (32 :: r) p acc _ (by decide) (gap32 r) ?_
 have : scanL forB p acc = .inr (acc ++ [⟨2, bFor, 0, p⟩] ++ [⟨1, [105], 0, p + 4⟩] ++ [⟨5, [61], 0, p + 6⟩] ++ [⟨3, [49], 1, p + 8⟩] ++ [⟨5, [44], 0, p + 9⟩] ++ [⟨3, [50], 2, p + 11⟩] ++ [⟨2, bDoK, 0, p + 13⟩] ++ [⟨6, [], 0, p + 15⟩]) := by kernel_rfl
 rw [this]
 simp only [List.append_assoc, List.cons_append, List.nil_append]
 rfl
theorem end_scan (p : Nat) (acc : List Tok) : scanL bEndK p acc = .inr (acc ++ [⟨2, bEndK, 0, p⟩] ++ [⟨6, [], 0, p + 3⟩]) := by kernel_rfl
def locS (a b : Nat) : Bs := bLocal ++ 32 :: (nms 97 0 a ++ 32 :: (forB ++ 32 :: (bLocal ++ 32 :: (nms 98 0 b ++ 32 :: bEndK))))
def locP (a : Nat) : Nat := 6 + (nms 97 0 a).length + 1
theorem loc_scan (a b : Nat) (ha : 1 ≤ a) (ha' : a ≤ 50) (hb : 1 ≤ b) (hb' : b ≤ 50) : ∃ t, scanF (locS a b) = .inr t ∧ t.map tokT = locT a b (locP a) (locP a + 16) (locP a + 16 + 6 + (nms 98 0 b).length + 1) := by
 have hla := nms_len 97 a 0
 have hlb := nms_len 98 b 0
 have hwl : ∀ r p acc, scanL (bLocal ++ 32 :: r) p acc = scanL (32 :: r) (p + 5) (acc ++ [⟨2, bLocal, 0, p⟩]) := fun r p acc => word_scan bLocal (32 :: r) p acc 2 0 (by simp) (gap32 r) (by kernel_rfl) (by kernel_rfl)
 rw [scanF_small _ (by simp only [locS, List.length_append, List.length_cons, List.length_nil]; omega)]
 unfold locS
 rw [hwl, skip32, many_scan 97 nm_a _ a _ _ ha ha', skip32, for_scan, skip32, hwl, skip32, many_scan 98 nm_b _ b _ _ hb hb', skip32, end_scan]
 refine ⟨_, rfl, ?_⟩
 simp only [List.map_append, List.map_cons, List.map_nil, List.nil_append, List.append_assoc, List.cons_append, locT, rowT, forT, locP, tokT, Nat.zero_add]
theorem rowT_len (c : UInt8) (n p : Nat) (hn : 1 ≤ n) : n ≤ (rowT c n p).length := by
 have : ∀ d i q, (nmT c i q d).length = 2 * d := by
  intro d
  induction d with
  | zero => intro i q; rfl
  | succ d ih => intro i q; simp only [nmT, List.length_append, ih, List.length_cons, List.length_nil]; omega
 simp only [rowT, List.length_cons, List.length_map, this]
 omega
theorem loc_parse (a b : Nat) (ha : 1 ≤ a) (ha' : a ≤ 50) (hb : 1 ≤ b) (hb' : b ≤ 50) : parseV (str (locS a b)) = treeV (locTr a b (locP a) (locP a + 16)) := by
 obtain ⟨t, h1, h2⟩ := loc_scan a b ha ha' hb hb'
 refine parseV_ok (r := [(6, str [], 0, ((locP a + 16 + 6 + (nms 98 0 b).length + 1 + 3 : Nat) : Int))]) (by rw [bs_str]; exact h1) ?_
 rw [h2]
 unfold vAll vBlock
 have hl := rowT_len 97 a 6 ha
 have hl' := rowT_len 98 b (locP a + 16 + 6) hb
 rw [loc_p a b _ _ _ _ ha hb (by unfold fu locT forT; simp only [List.length_cons, List.length_append, List.length_nil]; omega)]
 rfl
theorem namesC_ok : ∀ {l : List Tree} {lo : List ByteArray}, (∀ x ∈ l, keptB x.text = false) → namesC lo l = .ok (lo ++ l.map Tree.text)
 | [], lo, _ => by simp [namesC]
 | x :: l, lo, h => by
  unfold namesC
  rw [h x (List.mem_cons_self ..)]
  simp only [Bool.false_eq_true, if_false]
  rw [namesC_ok fun y hy => h y (List.mem_cons_of_mem _ hy)]
  simp
theorem nmTr_free (c : UInt8) (hc : ∀ i ∈ List.range 50, nmOK (c :: dg i) = true) : ∀ (d i p : Nat), i + d ≤ 50 → ∀ x ∈ nmTr c i p d, keptB x.text = false
 | 0, _, _, _ => fun x hx => absurd hx List.not_mem_nil
 | d + 1, i, p, hd => fun x hx => by
  rcases List.mem_cons.1 hx with rfl | hx
  ·have := hc i (List.mem_range.2 (by omega))
   simp only [nmOK, Bool.and_eq_true, Bool.not_eq_true'] at this
   exact this.2
  ·exact nmTr_free c hc d (i + 1) _ (by omega) x hx
theorem rowTr_free (c : UInt8) (hc : ∀ i ∈ List.range 50, nmOK (c :: dg i) = true) (n p : Nat) (h1 : 1 ≤ n) (h2 : n ≤ 50) : ∀ x ∈ rowTr c n p, keptB x.text = false := fun x hx => by
 rcases List.mem_cons.1 hx with rfl | hx
 ·have := hc 0 (List.mem_range.2 (by omega))
  simp only [nmOK, Bool.and_eq_true, Bool.not_eq_true'] at this
  exact this.2
 ·exact nmTr_free c hc _ 1 _ (by omega) x hx
theorem few_ok {a c m : Int} (h : c ≤ m) : fewC a c m = .ok () := by unfold fewC; rw [if_neg (by omega)]
theorem few_no {a c m : Int} (h : c > m) : fewC a c m = .bad (6, a) := by unfold fewC; rw [if_pos h]
theorem local_c (d : Nat) (ab : List ByteArray) (s : CSt) (p : Int) (l : List Tree) (hl : l.length ≤ 50) (hk : ∀ x ∈ l, keptB x.text = false) (hs : s.sl ≤ s.lo.length) :
  nodeC (d + 1) ab s (.mk 21 noB (l.length : Int) p l) false = if s.lo.length + l.length > 60 then .bad (6, p) else .ok { s with sl := ((s.lo.length + l.length : Nat) : Int), lo := s.lo ++ l.map Tree.text } := by
 unfold nodeC
 rw [if_neg (by decide), if_neg (by decide), if_pos rfl, few_ok (by omega)]
 simp only [PR.th]
 rw [few_ok (by omega)]
 simp only [Int.toNat_natCast, List.drop_length, nodesC, List.take_length]
 unfold bringC
 rw [namesC_ok hk]
 simp only [PR.th, List.length_append, List.length_map]
 by_cases h : s.lo.length + l.length > 60
 ·rw [few_no (by omega), if_pos h]
 ·rw [few_ok (by omega), if_neg h]
  simp only [PR.ok.injEq, CSt.mk.injEq, true_and]
  refine ⟨?_, trivial⟩
  split <;> omega
theorem thOk {α β ε : Type} (a : α) (f : α → PR β ε) : (PR.ok a : PR α ε).th f = f a := rfl
theorem int_c (d : Nat) (ab : List ByteArray) (s : CSt) (t : ByteArray) (n p : Int) (tg : Bool) : nodeC (d + 1) ab s (.mk 4 t n p []) tg = (constC p s.cs (2, n, ⟨#[]⟩)).th fun cs => .ok { s with cs := cs } := by
 unfold nodeC
 rw [if_neg (by decide), if_neg (by decide), if_neg (by decide), if_neg (by decide), if_neg (by decide), if_neg (by decide), if_neg (by decide), if_neg (by decide)]
 unfold expC
 rw [if_neg (by decide), if_neg (by decide), if_neg (by decide), if_pos rfl]
 rfl
theorem one_c (d : Nat) (ab : List ByteArray) (s : CSt) (p : Int) (x : Tree) (r : PC CSt) (h : nodeC d ab s x false = r) : nodeC (d + 1) ab s (.mk 20 noB 0 p [x]) false = r.th fun s' => .ok { s' with lo := s'.lo.take s.lo.length } := by
 unfold nodeC
 rw [if_pos rfl]
 unfold nodesC
 rw [h]
 cases r <;> rfl
theorem loop3_ok {f : CSt → Tree → PC CSt} {a : Int} {s : CSt} {names : List Tree} {b : Tree} {r : Int × List ByteArray} {x : PC CSt} (h1 : bringC a s.sl (s.lo ++ List.replicate 3 ⟨#[]⟩) names = .ok r) (h2 : f { s with sl := r.1, lo := r.2, lp := s.lp + 1 } b = x) :
  loopC f a s names b 3 = x.th fun s' => .ok { s' with lo := s'.lo.take s.lo.length, lp := s'.lp - 1 } := by
 unfold loopC
 rw [if_pos (by decide), h1, thOk, h2]
theorem loop3_bad {f : CSt → Tree → PC CSt} {a : Int} {s : CSt} {names : List Tree} {b : Tree} {e : Int × Int} (h1 : bringC a s.sl (s.lo ++ List.replicate 3 ⟨#[]⟩) names = .bad e) : loopC f a s names b 3 = .bad e := by
 unfold loopC
 rw [if_pos (by decide), h1]
 rfl
theorem bring1 (p : Int) (sl : Int) (lo : List ByteArray) (x : Tree) (hx : keptB x.text = false) (hs : sl ≤ lo.length) : bringC p sl lo [x] = if lo.length + 1 > 60 then .bad (6, p) else .ok (((lo.length + 1 : Nat) : Int), lo ++ [x.text]) := by
 unfold bringC
 rw [namesC_ok (fun y hy => by obtain rfl := List.mem_singleton.1 hy; exact hx), thOk]
 simp only [List.map_cons, List.map_nil, List.length_append, List.length_cons, List.length_nil]
 by_cases h : lo.length + 1 > 60
 ·rw [few_no (by omega), if_pos h]; rfl
 ·rw [few_ok (by omega), if_neg h, thOk]
  simp only [PR.ok.injEq, Prod.mk.injEq, and_true]
  split <;> omega
theorem for_k (d : Nat) (s s1 : CSt) (p : Int) (n x y b : Tree) (h : nodesC (fun s x => nodeC d [] s x false) s [x, y] = .ok s1) : nodeC (d + 1) [] s (.mk 26 noB 0 p [n, x, y, b]) false = loopC (fun s x => nodeC d [] s x false) p s1 [n] b 3 := by
 rw [nodeC, if_neg (by decide), if_neg (by decide), if_neg (by decide), if_neg (by decide), if_neg (by decide), if_pos rfl]
 show PR.th (nodesC (fun s x => nodeC d [] s x false) s [x, y]) (fun s => loopC (fun s x => nodeC d [] s x false) p s [n] b 3) = _
 rw [h, thOk]
theorem two_c (d : Nat) (s : CSt) (t u : ByteArray) (p q : Int) (hcs : s.cs = []) : nodesC (fun s x => nodeC (d + 1) [] s x false) s [.mk 4 t 1 p [], .mk 4 u 2 q []] = .ok { s with cs := [(2, 1, ⟨#[]⟩), (2, 2, ⟨#[]⟩)] } := by
 have h1 : constC p s.cs (2, 1, ⟨#[]⟩) = .ok [(2, 1, ⟨#[]⟩)] := by rw [hcs]; rfl
 have h2 : constC q [(2, 1, ⟨#[]⟩)] (2, 2, ⟨#[]⟩) = .ok [(2, 1, ⟨#[]⟩), (2, 2, ⟨#[]⟩)] := by kernel_rfl
 simp only [nodesC]
 rw [int_c, h1, thOk, thOk, int_c]
 simp only [h2, thOk]
theorem for_c (d a b p q : Nat) (s : CSt) (L B : List Tree) (n x y : Tree) (t u : ByteArray) (p1 p2 : Int) (hx : x = .mk 4 t 1 p1 []) (hy : y = .mk 4 u 2 p2 []) (hn : keptB n.text = false) (hlo : s.lo.length = a) (hsl : s.sl = a) (hcs : s.cs = []) (hBl : B.length = b) (hb' : b ≤ 50) (hB : ∀ x ∈ B, keptB x.text = false) :
  nodeC (d + 4) [] s (.mk 26 noB 0 (p : Int) [n, x, y, .mk 20 noB 0 (q : Int) [.mk 21 noB (b : Int) (q : Int) B]]) false =
   if a + 4 > 60 then .bad (6, (p : Int)) else if a + 4 + b > 60 then .bad (6, (q : Int)) else .ok { s with sl := ((a + 4 + b : Nat) : Int), cs := [(2, 1, ⟨#[]⟩), (2, 2, ⟨#[]⟩)], lp := s.lp + 1 - 1 } := by
 subst hx hy
 rw [for_k (d + 3) s _ _ _ _ _ _ (two_c (d + 2) s t u p1 p2 hcs)]
 have hb := bring1 (p : Int) s.sl (s.lo ++ List.replicate 3 ⟨#[]⟩) n hn (by rw [hsl, List.length_append, List.length_replicate, hlo]; omega)
 rw [List.length_append, List.length_replicate, hlo] at hb
 by_cases h : a + 4 > 60
 ·rw [if_pos h]
  rw [if_pos (by omega)] at hb
  exact loop3_bad hb
 rw [if_neg h]
 rw [if_neg (by omega)] at hb
 have hL := local_c (d + 1) [] ⟨s.fs, s.gl, ((a + 3 + 1 : Nat) : Int), [(2, 1, ⟨#[]⟩), (2, 2, ⟨#[]⟩)], s.lo ++ List.replicate 3 ⟨#[]⟩ ++ [n.text], s.lp + 1⟩ (q : Int) B (by omega) hB (by simp only [List.length_append, List.length_replicate, List.length_cons, List.length_nil, hlo]; omega)
 rw [hBl] at hL
 rw [loop3_ok (f := fun s x => nodeC (d + 3) [] s x false) (s := { s with cs := [(2, 1, ⟨#[]⟩), (2, 2, ⟨#[]⟩)] }) hb (one_c (d + 2) [] _ _ _ _ hL)]
 simp only [List.length_append, List.length_replicate, List.length_cons, List.length_nil, hlo]
 by_cases h2 : a + 4 + b > 60
 ·rw [if_pos (by omega), if_pos h2]; rfl
 ·rw [if_neg (by omega), if_neg h2, thOk, thOk]
  simp only [PR.ok.injEq, CSt.mk.injEq, true_and]
  refine ⟨?_, trivial⟩
  rw [List.take_take, List.append_assoc, List.append_assoc, List.take_append_of_le_length (by omega), List.take_of_length_le (by omega)]
theorem hts_leaf : ∀ {l : List Tree}, (∀ x ∈ l, x.kids = []) → htTs l ≤ 1
 | [], _ => by simp [htTs]
 | x :: l, h => by
  have := hts_leaf fun y hy => h y (List.mem_cons_of_mem _ hy)
  have hx := h x (List.mem_cons_self ..)
  cases x with
  | mk k t n a m =>
   simp only [Tree.kids] at hx
   subst hx
   simp only [htTs, htT]
   omega
theorem nmTr_leaf (c : UInt8) : ∀ (d i p : Nat), ∀ x ∈ nmTr c i p d, x.kids = []
 | 0, _, _ => fun x hx => absurd hx List.not_mem_nil
 | d + 1, i, p => fun x hx => by
  rcases List.mem_cons.1 hx with rfl | hx
  ·rfl
  ·exact nmTr_leaf c d _ _ x hx
theorem rowTr_leaf (c : UInt8) (n p : Nat) : ∀ x ∈ rowTr c n p, x.kids = [] := fun x hx => by
 rcases List.mem_cons.1 hx with rfl | hx
 ·rfl
 ·exact nmTr_leaf c _ _ _ x hx
theorem loc_check (a b p q : Nat) (ha : 1 ≤ a) (ha' : a ≤ 50) (hb : 1 ≤ b) (hb' : b ≤ 50) : ∃ s, treeC 100000 (locTr a b p q) = (if a + 4 > 60 then .bad (6, (p : Int)) else if a + 4 + b > 60 then .bad (6, (q : Int)) else .ok s) ∧ s.fs.tail = [] ∧ s.sl = ((a + 4 + b : Nat) : Int) ∧ s.cs = [(2, 1, ⟨#[]⟩), (2, 2, ⟨#[]⟩)] := by
 have hh : htT (locTr a b p q) ≤ 100 := by
  have h1 := hts_leaf (rowTr_leaf 97 a 6)
  have h2 := hts_leaf (rowTr_leaf 98 b (q + 6))
  simp only [locTr, forTr, htT, htTs]
  omega
 unfold treeC
 rw [if_neg (by omega)]
 show ∃ s, nodeC (99995 + 5) [] st0 (locTr a b p q) false = _ ∧ _
 unfold locTr
 rw [nodeC, if_pos rfl]
 have hL := local_c 99998 [] st0 ((0 : Nat) : Int) (rowTr 97 a 6) (by rw [rowTr_len 97 a _ ha]; exact ha') (rowTr_free 97 nm_a a _ ha ha') (Int.le_refl _)
 rw [rowTr_len 97 a _ ha] at hL
 simp only [nodesC]
 rw [show nodeC (99995 + 4) [] st0 (.mk 21 noB (a : Int) ((0 : Nat) : Int) (rowTr 97 a 6)) false = _ from hL]
 have e0 : st0.lo = [] := rfl
 simp only [e0, List.length_nil, Nat.zero_add, List.nil_append, if_neg (by omega : ¬ a > 60), PR.th]
 unfold forTr
 rw [for_c 99995 a b p q _ [] (rowTr 98 b (q + 6)) _ _ _ _ _ _ _ rfl rfl (by kernel_rfl) (by show ((rowTr 97 a 6).map Tree.text).length = a; rw [List.length_map, rowTr_len 97 a _ ha]) rfl rfl (rowTr_len 98 b _ hb) hb' (rowTr_free 98 nm_b b _ hb hb')]
 by_cases h : a + 4 > 60
 ·exact ⟨⟨[], [], ((a + 4 + b : Nat) : Int), [(2, 1, ⟨#[]⟩), (2, 2, ⟨#[]⟩)], [], 0⟩, by simp only [if_pos h], rfl, rfl, rfl⟩
 ·simp only [if_neg h]
  by_cases h2 : a + 4 + b > 60
  ·exact ⟨⟨[], [], ((a + 4 + b : Nat) : Int), [(2, 1, ⟨#[]⟩), (2, 2, ⟨#[]⟩)], [], 0⟩, by simp only [if_pos h2], rfl, rfl, rfl⟩
  ·simp only [if_neg h2]
   exact ⟨_, rfl, rfl, rfl, rfl⟩
theorem fixedL : law13_fixed.f 1000000 = some true := by kernel_rfl
theorem mod_nat (x : Int) (m : Nat) (hm : 0 < m) (hm' : m ≤ 1000000) : ∃ n : Nat, IntKind.i64.wrap (Int.tmod (IntKind.u64.wrap x) (m : Int)) = n ∧ n < m := by
 have h0 : 0 ≤ IntKind.u64.wrap x := by unfold IntKind.wrap; simp [IntKind.bits, IntKind.signed]; omega
 have h1 : Int.tmod (IntKind.u64.wrap x) (m : Int) = (IntKind.u64.wrap x) % (m : Int) := Int.tmod_eq_emod_of_nonneg h0
 have h2 := Int.emod_nonneg (IntKind.u64.wrap x) (b := (m : Int)) (by omega)
 have h3 := Int.emod_lt_of_pos (IntKind.u64.wrap x) (b := (m : Int)) (by omega)
 rw [h1, wiC _ (by omega) (by omega)]
 exact ⟨((IntKind.u64.wrap x) % (m : Int)).toNat, by omega, by omega⟩
theorem checkLocals_true (x y : Int) : law13_CheckLocals.f 1000000 x y = some true := by
 obtain ⟨a, ea, ha⟩ := mod_nat x 50 (by omega) (by omega)
 obtain ⟨b, eb, hb⟩ := mod_nat y 50 (by omega) (by omega)
 have ea : IntKind.i64.wrap (Int.tmod (IntKind.u64.wrap x) (50 : Int)) = a := ea
 have eb : IntKind.i64.wrap (Int.tmod (IntKind.u64.wrap y) (50 : Int)) = b := eb
 unfold law13_CheckLocals.f
 rw [fixedL, ea, eb, wiC (1 + (a : Int)) (by omega) (by omega), wiC (1 + (b : Int)) (by omega) (by omega), wiC (1 + (a : Int) + 4) (by omega) (by omega), wiC (1 + (a : Int) + 4 + (1 + (b : Int))) (by omega) (by omega)]
 rw [show (1 : Int) + (a : Int) = ((a + 1 : Nat) : Int) by omega, show (1 : Int) + (b : Int) = ((b + 1 : Nat) : Int) by omega]
 have hla := nms_len 97 (a + 1) 0
 have hlb := nms_len 98 (b + 1) 0
 have ma := many_eq 97 (a + 1) 1000000 (by omega) (by omega)
 have mb := many_eq 98 (b + 1) 1000000 (by omega) (by omega)
 have ma : law13_many.f 1000000 ((a + 1 : Nat) : Int) ⟨#[97]⟩ = some (str (nms 97 0 (a + 1))) := ma
 have mb : law13_many.f 1000000 ((b + 1 : Nat) : Int) ⟨#[98]⟩ = some (str (nms 98 0 (b + 1))) := mb
 have z6 : ByteArray.size ⟨#[108, 111, 99, 97, 108, 32]⟩ = 6 := rfl
 have z1 : ByteArray.size ⟨#[32]⟩ = 1 := rfl
 have z16 : ByteArray.size ⟨#[102, 111, 114, 32, 105, 32, 61, 32, 49, 44, 32, 50, 32, 100, 111, 32]⟩ = 16 := rfl
 have z4 : ByteArray.size ⟨#[32, 101, 110, 100]⟩ = 4 := rfl
 have l6 : (bs ⟨#[108, 111, 99, 97, 108, 32]⟩).length = 6 := rfl
 have l1 : (bs ⟨#[32]⟩).length = 1 := rfl
 have l16 : (bs ⟨#[102, 111, 114, 32, 105, 32, 61, 32, 49, 44, 32, 50, 32, 100, 111, 32]⟩).length = 16 := rfl
 simp only [Option.bind_some, Bool.not_true, cond_false, ma, mb]
 rw [catE (by rw [str_size]; omega), Option.bind_some, catE (by rw [str_size]; simp only [List.length_append, bs_str]; omega), Option.bind_some, catE (by rw [str_size]; simp only [List.length_append, bs_str]; omega), Option.bind_some, catE (by rw [str_size]; simp only [List.length_append, bs_str]; omega), Option.bind_some,
  catE (by rw [str_size, str_size]; simp only [List.length_append, bs_str]; omega), Option.bind_some, catE (by rw [str_size]; simp only [List.length_append, bs_str]; omega), Option.bind_some]
 simp only [bs_str, str_size, List.length_append]
 have eS : bs ⟨#[108, 111, 99, 97, 108, 32]⟩ ++ nms 97 0 (a + 1) ++ bs ⟨#[32]⟩ ++ bs ⟨#[102, 111, 114, 32, 105, 32, 61, 32, 49, 44, 32, 50, 32, 100, 111, 32]⟩ ++ bs ⟨#[108, 111, 99, 97, 108, 32]⟩ ++ nms 98 0 (b + 1) ++ bs ⟨#[32, 101, 110, 100]⟩ = locS (a + 1) (b + 1) := by
  simp only [List.append_assoc]
  rfl
 rw [eS, check_eq 1000000 (by omega), loc_parse (a + 1) (b + 1) (by omega) (by omega) (by omega) (by omega)]
 obtain ⟨s', h1, h2, h3, h4⟩ := loc_check (a + 1) (b + 1) (locP (a + 1)) (locP (a + 1) + 16) (by omega) (by omega) (by omega) (by omega)
 have eT : ∀ (n : Tree), Tree.mk n.kind n.text n.n n.at_ n.kids = n := fun n => by cases n; rfl
 unfold treeV
 simp only [ne_eq, not_true_eq_false, if_false, eT, Option.bind_some, h1]
 by_cases hA : a + 1 + 4 > 60
 ·rw [if_pos hA, decide_eq_true (by omega)]
  rfl
 rw [if_neg hA, decide_eq_false (by omega), cond_false]
 by_cases hB : a + 1 + 4 + (b + 1) > 60
 ·rw [if_pos hB, decide_eq_true (by omega), cond_true, wiC _ (by omega) (by rw [z16, l6, l1]; omega)]
  simp only [repC, beq_self_eq_true, Bool.true_and, Bool.and_true]
  rw [eqC (by rw [z16, l6, l1]; unfold locP; omega)]
 ·rw [if_neg hB, decide_eq_false (by omega), cond_false]
  simp only [repC, h2, h3, h4, List.length_cons, List.length_nil, beq_self_eq_true, cond_true]
  rw [eqC (by omega), cond_true]
  rw [show ∀ (x : FRow) (l : List FRow), lIdx (x :: l) (0 : Int) = some x from fun _ _ => rfl]
  simp only [Option.bind_some]
  rw [eqC (by omega), cond_true]
  have e2 : law13_t2.f 1000000 [(2, 1, ⟨#[]⟩), (2, 2, ⟨#[]⟩)] = some true := by kernel_rfl
  rw [e2]
  rfl
end Go.Proofs.YtdkgnlaneccioaaGreatDoor
