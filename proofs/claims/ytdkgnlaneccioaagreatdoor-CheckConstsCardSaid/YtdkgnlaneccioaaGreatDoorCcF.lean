/- Texts of mine for checkConsts_card, part 6. -/
import Derived.Test.YtdkgnlaneccioaaGreatDoorCcE
set_option linter.unusedSimpArgs false
set_option linter.unusedVariables false
set_option linter.unusedSectionVars false
namespace Go.Proofs.YtdkgnlaneccioaaGreatDoor
open Go Go.RowKit
def r03_I.f (_k : Nat) (a0 : Int) : Option (Int × Int × ByteArray) := some ((2 : Int), a0, (⟨#[]⟩ : ByteArray))
set_option maxRecDepth 100000 in
theorem r03_I.ok {k : Nat} {a0 : Int} {r : Int × Int × ByteArray} (h : r03_I.f k a0 = some r) : Ct Tryz.prog 22 #[.int .i64 a0] [] [] (fun e l1 => e = .returned (.agg #[.int .i64 r.1, .int .i64 r.2.1, .string r.2.2]) ∧ l1 = []) := by
 refine ct_enter (args := [.int .i64 a0]) Tryz.func22 rfl (Nat.le_of_ble_eq_true rfl) ?_
 intro A X hh_
 unfold r03_I.f at h
 refine k_seq ?_
 refine k_region ?_
 refine kl_new (.cells #[.int .i64 (0 : Int), .int .i64 (0 : Int), .string (⟨#[]⟩ : ByteArray)] 53 (0, 0)) (fun b => .pointer (some ⟨b, 0, none⟩)) (by kernel_rfl) (by kernel_rfl) (fun _ => by kernel_rfl) fun b1 => ?_
 refine k_nil ?_
 refine k_then ?_
 refine k_seq ?_
 refine k_region ?_
 refine kl_steps 2 [(2, .pointer (some ⟨b1, 0, none⟩)), (4, .agg #[.int .i64 (2 : Int), .int .i64 a0, .string (⟨#[]⟩ : ByteArray)])] (by kernel_rfl) ?_
 refine kl_store (cs' := #[.int .i64 (2 : Int), .int .i64 a0, .string (⟨#[]⟩ : ByteArray)]) [.st ⟨b1, 0, none⟩ (.int .i64 (2 : Int)), .st ⟨b1, 1, none⟩ (.int .i64 a0), .st ⟨b1, 2, none⟩ (.string (⟨#[]⟩ : ByteArray))] (by kernel_rfl) (by kernel_rfl) (by kernel_rfl) ⟨rfl, rfl, rfl, trivial⟩ (by kernel_rfl) ?_
 refine k_nil ?_
 refine k_then ?_
 refine k_ret ?_
 obtain rfl := Option.some.inj h
 refine k_done (v := .agg #[.int .i64 (2 : Int), .int .i64 a0, .string (⟨#[]⟩ : ByteArray)]) [.val (.int .i64 (2 : Int)), .val (.int .i64 a0), .val (.string (⟨#[]⟩ : ByteArray))] [.ld ⟨b1, 0, none⟩ (.int .i64 (2 : Int)), .ld ⟨b1, 1, none⟩ (.int .i64 a0), .ld ⟨b1, 2, none⟩ (.string (⟨#[]⟩ : ByteArray))] [] (by kernel_rfl) (by kernel_rfl) ⟨⟨0, _, _, _, rfl, rfl, rfl⟩, ⟨0, _, _, _, rfl, rfl, rfl⟩, ⟨0, _, _, _, rfl, rfl, rfl⟩, trivial⟩ ?_
 refine K.drop ?_
 exact k_end ⟨rfl, rfl⟩
def law13_t2.f (k : Nat) (a0 : List (Int × Int × ByteArray)) : Option (Bool) := (cond (((a0.length : Nat) : Int) == (2 : Int)) ((lIdx a0 (0 : Int)).bind fun x3 => (r03_I.f k (1 : Int)).bind fun r7 => cond ((x3.1 == r7.1) && ((x3.2.1 == r7.2.1) && ((x3.2.2.toList == r7.2.2.toList) && true))) ((lIdx a0 (1 : Int)).bind fun x9 => (r03_I.f k (2 : Int)).bind fun r13 => some ((x9.1 == r13.1) && ((x9.2.1 == r13.2.1) && ((x9.2.2.toList == r13.2.2.toList) && true)))) (some false)) (some false) : Option Bool).bind fun q1 => some (q1)
set_option maxRecDepth 100000 in
theorem law13_t2.ok {k : Nat} {a0 : List (Int × Int × ByteArray)} {H_a0 : Frag} {A_a0 : Option Addr} {c_a0 : Nat} {r : Bool} (h : law13_t2.f k a0 = some r) (R_a0 : RdT e53 3 H_a0 (.slice A_a0 a0.length c_a0) a0) : Ct Tryz.prog 20 #[.slice A_a0 a0.length c_a0] [] [H_a0] (fun e l1 => e = .returned (.bool r) ∧ l1 = []) := by
 refine ct_enter (args := [.slice A_a0 a0.length c_a0]) Tryz.func20 rfl (Nat.le_of_ble_eq_true rfl) ?_
 intro A X hh_
 obtain ⟨hm_H_a0, _⟩ := hh_
 unfold law13_t2.f at h
 refine k_seq ?_
 refine k_region ?_
 refine kl_steps 1 [(0, .slice A_a0 a0.length c_a0)] (by kernel_rfl) ?_
 refine k_nil ?_
 refine k_then ?_
 obtain ⟨q1, hq1, h⟩ := bindSome h
 refine k_cut1 [(2, .bool q1)] (X) ?_ ?_
 ·clear hq1
  refine k_ret ?_
  obtain rfl := Option.some.inj h
  refine k_done (v := .bool q1) [] [] [] (by kernel_rfl) (by kernel_rfl) trivial ?_
  exact k_end ⟨rfl, rfl⟩
 ·have h := hq1
  clear hq1
  refine k_region_plan [(0, 0), (1, 0), (2, 0), (3, 0), (4, 0), (5, 0), (6, 3), (7, 1), (8, 0), (9, 0), (10, 0), (11, 0), (12, 0), (13, 3), (14, 1)] (fun w => OnAll [H_a0] w) (by kernel_rfl) (by kernel_rfl) (fun _ _ d _ _ h => by cases d <;> exact h) (fun w h_ => ⟨h_.sat.on _ hm_H_a0, trivial⟩) ?_
  simp only [planOps, List.filterMap_cons, List.filterMap_nil, List.getElem?_toArray, List.getElem?_cons_zero, List.getElem?_cons_succ, Option.map_some, List.drop_succ_cons, List.drop_zero, List.length_cons, List.length_nil]
  refine kp_steps 4 [(0, .slice A_a0 a0.length c_a0), (6, .bool (((a0.length : Nat) : Int) == (2 : Int)))] (by kernel_rfl) (by kernel_rfl) ?_
  rcases Bool.eq_false_or_eq_true ((((a0.length : Nat) : Int) == (2 : Int))) with t2 | t2
  ·have h := condT h t2
   refine K.weak (env' := [(0, .slice A_a0 a0.length c_a0), (6, .bool true)]) ?_ ⟨rfl, congrArg (fun b => some (Value.bool b)) t2, trivial⟩
   refine kp_steps 1 [(0, .slice A_a0 a0.length c_a0), (6, .bool true), (7, .slice A_a0 a0.length c_a0)] (by kernel_rfl) (by kernel_rfl) ?_
   obtain ⟨x3, hx3, h⟩ := bindSome h
   refine kp_elemP (T := 53) (kd := .i64) e53_ok rfl (by kernel_rfl) (by kernel_rfl) (by kernel_rfl) (by kernel_rfl) (by kernel_rfl) (by kernel_rfl) hx3 R_a0 fun p4 e5 y6 => ?_
   have e5 : Elem _ p4 [.int .i64 x3.1, .int .i64 x3.2.1, .string x3.2.2] := e5
   refine kp_eloadN rfl (by kernel_rfl) (by kernel_rfl) (by kernel_rfl) (by kernel_rfl) (by kernel_rfl) e5 (fun w h_ => h_.mem _ (.head _)) ?_
   refine kp_turn (by kernel_rfl) ?_
   obtain ⟨r7, hr7, h⟩ := bindSome h
   refine op_callv (by kernel_rfl) (by kernel_rfl) (r03_I.ok hr7) trivial ?_
   refine k_and (fun w h_ => ⟨h_.sat.on _ hm_H_a0, trivial⟩) ?_
   refine kp_eqS (r := ((x3.1 == r7.1) && ((x3.2.1 == r7.2.1) && ((x3.2.2.toList == r7.2.2.toList) && true)))) (xs := #[.int .i64 x3.1, .int .i64 x3.2.1, .string x3.2.2]) (ys := #[.int .i64 r7.1, .int .i64 r7.2.1, .string r7.2.2]) false (by kernel_rfl) rfl (by kernel_rfl) (by kernel_rfl) (by kernel_rfl) (by kernel_rfl) (by kernel_rfl) (by kernel_rfl) (by kernel_rfl) ?_
   refine kp_steps 2 [(0, .slice A_a0 a0.length c_a0), (13, .bool ((x3.1 == r7.1) && ((x3.2.1 == r7.2.1) && ((x3.2.2.toList == r7.2.2.toList) && true))))] (by kernel_rfl) (by kernel_rfl) ?_
   rcases Bool.eq_false_or_eq_true (((x3.1 == r7.1) && ((x3.2.1 == r7.2.1) && ((x3.2.2.toList == r7.2.2.toList) && true)))) with t8 | t8
   ·have h := condT h t8
    refine K.weak (env' := [(0, .slice A_a0 a0.length c_a0), (13, .bool true)]) ?_ ⟨rfl, congrArg (fun b => some (Value.bool b)) t8, trivial⟩
    refine kp_steps 1 [(13, .bool true), (14, .slice A_a0 a0.length c_a0)] (by kernel_rfl) (by kernel_rfl) ?_
    obtain ⟨x9, hx9, h⟩ := bindSome h
    refine kp_elemP (T := 53) (kd := .i64) e53_ok rfl (by kernel_rfl) (by kernel_rfl) (by kernel_rfl) (by kernel_rfl) (by kernel_rfl) (by kernel_rfl) hx9 R_a0 fun p10 e11 y12 => ?_
    have e11 : Elem _ p10 [.int .i64 x9.1, .int .i64 x9.2.1, .string x9.2.2] := e11
    refine kp_eloadN rfl (by kernel_rfl) (by kernel_rfl) (by kernel_rfl) (by kernel_rfl) (by kernel_rfl) e11 (fun w h_ => h_.mem _ (.head _)) ?_
    refine kp_turn (by kernel_rfl) ?_
    obtain ⟨r13, hr13, h⟩ := bindSome h
    refine op_callv (by kernel_rfl) (by kernel_rfl) (r03_I.ok hr13) trivial ?_
    refine k_and (fun w h_ => ⟨h_.sat.on _ hm_H_a0, trivial⟩) ?_
    refine kp_done ?_
    refine kl_eqS (r := ((x9.1 == r13.1) && ((x9.2.1 == r13.2.1) && ((x9.2.2.toList == r13.2.2.toList) && true)))) (xs := #[.int .i64 x9.1, .int .i64 x9.2.1, .string x9.2.2]) (ys := #[.int .i64 r13.1, .int .i64 r13.2.1, .string r13.2.2]) false (by kernel_rfl) rfl (by kernel_rfl) (by kernel_rfl) (by kernel_rfl) (by kernel_rfl) (by kernel_rfl) (by kernel_rfl) (by kernel_rfl) ?_
    refine kl_steps 2 [(2, .bool ((x9.1 == r13.1) && ((x9.2.1 == r13.2.1) && ((x9.2.2.toList == r13.2.2.toList) && true))))] (by kernel_rfl) ?_
    refine k_nil ?_
    refine k_then ?_
    exact k_meet1 ⟨congrArg (fun b => some (Value.bool b)) (Option.some.inj h), trivial⟩
   ·have h := condF h t8
    refine K.weak (env' := [(0, .slice A_a0 a0.length c_a0), (13, .bool false)]) ?_ ⟨rfl, congrArg (fun b => some (Value.bool b)) t8, trivial⟩
    refine kp_steps 2 [(13, .bool false), (15, undef)] (by kernel_rfl) (by kernel_rfl) ?_
    refine kp_skip3 (by kernel_rfl) (by kernel_rfl) ?_
    refine kp_skip1 (by kernel_rfl) (by kernel_rfl) ?_
    refine k_and (fun w h_ => ⟨h_.sat.on _ hm_H_a0, trivial⟩) ?_
    refine kp_done ?_
    refine kl_steps 3 [(2, .bool false)] (by kernel_rfl) ?_
    refine k_nil ?_
    refine k_then ?_
    exact k_meet1 ⟨congrArg (fun b => some (Value.bool b)) (Option.some.inj h), trivial⟩
  ·have h := condF h t2
   refine K.weak (env' := [(0, .slice A_a0 a0.length c_a0), (6, .bool false)]) ?_ ⟨rfl, congrArg (fun b => some (Value.bool b)) t2, trivial⟩
   refine kp_steps 2 [(0, .slice A_a0 a0.length c_a0), (6, .bool false), (8, undef)] (by kernel_rfl) (by kernel_rfl) ?_
   refine kp_skip3 (by kernel_rfl) (by kernel_rfl) ?_
   refine kp_skip1 (by kernel_rfl) (by kernel_rfl) ?_
   refine k_and (fun w h_ => ⟨h_.sat.on _ hm_H_a0, trivial⟩) ?_
   refine kp_steps 5 [(13, .bool false), (15, undef)] (by kernel_rfl) (by kernel_rfl) ?_
   refine kp_skip3 (by kernel_rfl) (by kernel_rfl) ?_
   refine kp_skip1 (by kernel_rfl) (by kernel_rfl) ?_
   refine k_and (fun w h_ => ⟨h_.sat.on _ hm_H_a0, trivial⟩) ?_
   refine kp_done ?_
   refine kl_steps 3 [(2, .bool false)] (by kernel_rfl) ?_
   refine k_nil ?_
   refine k_then ?_
   exact k_meet1 ⟨congrArg (fun b => some (Value.bool b)) (Option.some.inj h), trivial⟩
theorem ety79 : ElemTy Tryz.prog 79 5 1 1 Tryz.t5 (.int .u8 (0 : Int)) := ⟨by kernel_rfl, by kernel_rfl, by kernel_rfl, by kernel_rfl, by kernel_rfl, by kernel_rfl, by decide⟩
def r02_Format.l1 : Nat → (J7 : (List Int) → Option (ByteArray)) → (l59 : List Int) → (x64 : Int) → Option (ByteArray)
 | 0, _, _, _ => none
 | m65 + 1, J7, l59, x64 => cond (x64 != (0 : Int)) (joinF (fun (x67 : Int) => (apd 1 l59 [IntKind.u8.wrap (IntKind.i64.wrap ((48 : Int) + x67))]).bind fun l70 => r02_Format.l1 m65 J7 l70 (IntKind.i64.wrap (Int.tdiv x64 (10 : Int)))) (fun J68 => cond (decide ((Int.tmod x64 (10 : Int)) < (0 : Int))) (J68 (IntKind.i64.wrap (0 - (Int.tmod x64 (10 : Int))))) (J68 (Int.tmod x64 (10 : Int))))) (J7 l59)
def r02_Format.l0 : Nat → (J19 : (List Int) → Option (ByteArray)) → (l20 : List Int) → (x25 : Int) → Option (ByteArray)
 | 0, _, _, _ => none
 | m26 + 1, J19, l20, x25 => cond (decide (x25 < (IntKind.i64.wrap (Int.tdiv ((l20.length : Nat) : Int) (2 : Int))))) ((lIdx l20 (IntKind.i64.wrap ((IntKind.i64.wrap (((l20.length : Nat) : Int) - (1 : Int))) - x25))).bind fun x28 => (lIdx l20 x25).bind fun x32 => (lIdx l20 x25).bind fun x36 => (lSet l20 x25 x28).bind fun l40 => (lIdx l40 (IntKind.i64.wrap ((IntKind.i64.wrap (((l20.length : Nat) : Int) - (1 : Int))) - x25))).bind fun x44 => (lSet l40 (IntKind.i64.wrap ((IntKind.i64.wrap (((l20.length : Nat) : Int) - (1 : Int))) - x25)) x32).bind fun l48 => r02_Format.l0 m26 J19 l48 (IntKind.i64.wrap (x25 + (1 : Int)))) (J19 l20)
def r02_Format.f (k : Nat) (a0 : Int) : Option (ByteArray) := cond (a0 == (0 : Int)) (some ((⟨#[48]⟩ : ByteArray))) (joinF (fun (l2 : List Int) => joinF (fun (l8 : List Int) => joinF (fun (l14 : List Int) => some ((strOfNums l14))) (fun J19 => r02_Format.l0 k J19 l8 (0 : Int))) (fun J13 => cond (decide (a0 < (0 : Int))) ((apd 1 l2 [(45 : Int)]).bind fun l54 => J13 l54) (J13 l2))) (fun J7 => r02_Format.l1 k J7 ([]) a0))
set_option maxRecDepth 100000 in
theorem r02_Format.ok {k : Nat} {a0 : Int} {r : ByteArray} (h : r02_Format.f k a0 = some r) : Ct Tryz.prog 21 #[.int .i64 a0] [] [] (fun e l1 => e = .returned (.string r) ∧ l1 = []) := by
 refine ct_enter (args := [.int .i64 a0]) Tryz.func21 rfl (Nat.le_of_ble_eq_true rfl) ?_
 intro A X hh_
 unfold r02_Format.f at h
 refine k_seq ?_
 refine k_region ?_
 refine kl_steps 1 [(0, .int .i64 a0)] (by kernel_rfl) ?_
 refine k_nil ?_
 refine k_then ?_
 refine k_seq ?_
 refine k_seq ?_
 refine k_region ?_
 refine kl_steps 2 [(0, .int .i64 a0), (8, .bool (a0 == (0 : Int)))] (by kernel_rfl) ?_
 refine k_nil ?_
 refine k_then ?_
 refine k_cond (t := (a0 == (0 : Int))) (by kernel_rfl) (fun t1 => ?_) (fun t1 => ?_)
 ·have h := condT h t1
  refine k_seq ?_
  refine k_region ?_
  refine kl_steps 1 [(2, .string (⟨#[48]⟩ : ByteArray))] (by kernel_rfl) ?_
  refine k_nil ?_
  refine k_then ?_
  refine k_ret ?_
  refine k_then_ret ?_
  obtain rfl := Option.some.inj h
  refine k_done (v := .string (⟨#[48]⟩ : ByteArray)) [] [] [] (by kernel_rfl) (by kernel_rfl) trivial ?_
  exact k_end ⟨rfl, rfl⟩
 ·have h := condF h t1
  refine k_skip ?_
  refine k_then ?_
  refine k_seq ?_
  refine k_region ?_
  refine kl_steps 1 [(0, .int .i64 a0), (3, .slice none 0 0)] (by kernel_rfl) ?_
  refine k_nil ?_
  refine k_then ?_
  obtain ⟨J7, hJ7, h⟩ := joinSplit h
  refine k_cut (τ := (List Int) × Frag × (Option Addr) × Nat) (fun t => [(0, .int .i64 a0), (3, .slice t.2.2.1 t.1.length t.2.2.2)]) (fun t => t.2.1 :: X) (fun t => J7 t.1 = some r ∧ OwnT (encI .u8) 5 1 t.2.1 (.slice t.2.2.1 t.1.length t.2.2.2) t.1) ?_ ?_
  ·rintro ⟨l2, h3, A4, k5⟩ ⟨h, o6⟩
   subst hJ7
   obtain ⟨J13, hJ13, h⟩ := joinSplit h
   refine k_cut (τ := (List Int) × Frag × (Option Addr) × Nat) (fun t => [(3, .slice t.2.2.1 t.1.length t.2.2.2)]) (fun t => t.2.1 :: X) (fun t => J13 t.1 = some r ∧ OwnT (encI .u8) 5 1 t.2.1 (.slice t.2.2.1 t.1.length t.2.2.2) t.1) ?_ ?_
   ·rintro ⟨l8, h9, A10, k11⟩ ⟨h, o12⟩
    subst hJ13
    obtain ⟨J19, hJ19, h⟩ := joinSplit h
    refine k_cut (τ := (List Int) × Frag × (Option Addr) × Nat) (fun t => [(3, .slice t.2.2.1 t.1.length t.2.2.2)]) (fun t => t.2.1 :: X) (fun t => J19 t.1 = some r ∧ OwnT (encI .u8) 5 1 t.2.1 (.slice t.2.2.1 t.1.length t.2.2.2) t.1) ?_ ?_
    ·rintro ⟨l14, h15, A16, k17⟩ ⟨h, o18⟩
     subst hJ19
     refine k_seq ?_
     refine k_region ?_
     refine kl_steps 1 [(60, .slice A16 l14.length k17)] (by kernel_rfl) ?_
     refine kl_string (U := 5) (xs := l14) rfl (by kernel_rfl) (by kernel_rfl) (by kernel_rfl) (by kernel_rfl) (by kernel_rfl) (by kernel_rfl) (OwnT.rd o18) (.head _) ?_
     refine K.drop ?_
     refine kl_steps 1 [(2, .string (strOfNums l14))] (by kernel_rfl) ?_
     refine k_nil ?_
     refine k_then ?_
     refine k_ret ?_
     obtain rfl := Option.some.inj h
     refine k_done (v := .string (strOfNums l14)) [] [] [] (by kernel_rfl) (by kernel_rfl) trivial ?_
     exact k_end ⟨rfl, rfl⟩
    ·skip
     refine k_seq ?_
     refine k_region ?_
     refine kl_steps 1 [(3, .slice A10 l8.length k11), (6, .int .i64 (0 : Int))] (by kernel_rfl) ?_
     refine k_nil ?_
     refine k_then ?_
     refine k_block ?_
     refine k_loop (τ := (List Int) × Int × Frag × (Option Addr) × Nat) (fun t => [(3, .slice t.2.2.2.1 t.1.length t.2.2.2.2), (6, .int .i64 t.2.1)]) (fun t => t.2.2.1 :: X) (fun m t => r02_Format.l0 m J19 t.1 t.2.1 = some r ∧ OwnT (encI .u8) 5 1 t.2.2.1 (.slice t.2.2.2.1 t.1.length t.2.2.2.2) t.1) k (l8, (0 : Int), h9, A10, k11) ⟨h, o12⟩ ⟨rfl, rfl, trivial⟩ rfl ?_
     clear h
     rintro m26 ⟨l20, x25, h21, A22, k23⟩ ⟨h, o24⟩
     cases m26 with
     | zero => simp [r02_Format.l0] at h
     | succ m26 =>
      simp only [r02_Format.l0] at h
      refine k_seq ?_
      refine k_seq ?_
      refine k_region ?_
      refine kl_steps 5 [(3, .slice A22 l20.length k23), (6, .int .i64 x25), (35, .bool (decide (x25 < (IntKind.i64.wrap (Int.tdiv ((l20.length : Nat) : Int) (2 : Int))))))] (by kernel_rfl) ?_
      refine k_nil ?_
      refine k_then ?_
      refine k_cond (t := decide (x25 < (IntKind.i64.wrap (Int.tdiv ((l20.length : Nat) : Int) (2 : Int))))) (by kernel_rfl) (fun t27 => ?_) (fun t27 => ?_)
      ·have h := condT h t27
       refine k_skip ?_
       refine k_then ?_
       refine k_seq ?_
       refine k_block ?_
       refine k_region_plan [(0, 0), (1, 0), (2, 0), (3, 0), (4, 0), (5, 0), (6, 0), (7, 0), (8, 0), (9, 0), (10, 0), (11, 0), (12, 0), (13, 0), (14, 0), (15, 3), (16, 0), (17, 0), (18, 0), (19, 3)] (fun w => OnAll [h21] w) (by kernel_rfl) (by kernel_rfl) (fun _ _ d _ _ h => by cases d <;> exact h) (fun w h_ => ⟨h_.sat.on _ (.head _), trivial⟩) ?_
       simp only [planOps, List.filterMap_cons, List.filterMap_nil, List.getElem?_toArray, List.getElem?_cons_zero, List.getElem?_cons_succ, Option.map_some, List.drop_succ_cons, List.drop_zero, List.length_cons, List.length_nil]
       refine kp_steps 14 [(3, .slice A22 l20.length k23), (6, .int .i64 x25), (38, .slice A22 l20.length k23), (39, .int .i64 x25), (40, .slice A22 l20.length k23), (45, .int .i64 (IntKind.i64.wrap ((IntKind.i64.wrap (((l20.length : Nat) : Int) - (1 : Int))) - x25))), (46, .slice A22 l20.length k23), (51, .int .i64 (IntKind.i64.wrap ((IntKind.i64.wrap (((l20.length : Nat) : Int) - (1 : Int))) - x25)))] (by kernel_rfl) (by kernel_rfl) ?_
       obtain ⟨x28, hx28, h⟩ := bindSome h
       refine kp_elemP (T := 5) (kd := .i64) (encI_ok .u8) rfl (by kernel_rfl) (by kernel_rfl) (by kernel_rfl) (by kernel_rfl) (by kernel_rfl) (by kernel_rfl) hx28 (OwnT.rd o24) fun p29 e30 y31 => ?_
       have e30 : Elem _ p29 [.int .u8 x28] := e30
       refine kp_eload1 rfl (by kernel_rfl) (by kernel_rfl) (by kernel_rfl) (by kernel_rfl) e30 (fun w h_ => h_.mem _ (.head _)) ?_
       refine kp_steps 2 [(3, .slice A22 l20.length k23), (6, .int .i64 x25), (38, .slice A22 l20.length k23), (39, .int .i64 x25), (40, .slice A22 l20.length k23), (45, .int .i64 (IntKind.i64.wrap ((IntKind.i64.wrap (((l20.length : Nat) : Int) - (1 : Int))) - x25))), (53, .int .u8 x28), (54, .slice A22 l20.length k23), (55, .int .i64 x25)] (by kernel_rfl) (by kernel_rfl) ?_
       obtain ⟨x32, hx32, h⟩ := bindSome h
       refine kp_elemP (T := 5) (kd := .i64) (encI_ok .u8) rfl (by kernel_rfl) (by kernel_rfl) (by kernel_rfl) (by kernel_rfl) (by kernel_rfl) (by kernel_rfl) hx32 (OwnT.rd o24) fun p33 e34 y35 => ?_
       have e34 : Elem _ p33 [.int .u8 x32] := e34
       refine kp_eload1 rfl (by kernel_rfl) (by kernel_rfl) (by kernel_rfl) (by kernel_rfl) e34 (fun w h_ => h_.mem _ (.head _)) ?_
       refine kp_done ?_
       obtain ⟨x36, hx36, h⟩ := bindSome h
       refine kl_elemP (T := 5) (kd := .i64) (encI_ok .u8) rfl (by kernel_rfl) (by kernel_rfl) (by kernel_rfl) (by kernel_rfl) (by kernel_rfl) (by kernel_rfl) hx36 (OwnT.rd o24) fun p37 e38 y39 => ?_
       have e38 : Elem _ p37 [.int .u8 x36] := e38
       obtain ⟨l40, hl40, h⟩ := bindSome h
       refine kl_estore (v := .int .u8 x28) (off := 0) (x' := x28) (encI_ok .u8) rfl (by kernel_rfl) (by kernel_rfl) (by kernel_rfl) (by kernel_rfl) (by kernel_rfl) y39 o24 hx36 (by kernel_rfl) (by kernel_rfl) hl40 fun h41 o42 => ?_
       have g43 := lSet_len hl40
       refine K.weak (env' := [(3, .slice A22 l40.length k23), (6, .int .i64 x25), (40, .slice A22 l40.length k23), (45, .int .i64 (IntKind.i64.wrap ((IntKind.i64.wrap (((l20.length : Nat) : Int) - (1 : Int))) - x25))), (53, .int .u8 x28), (57, .int .u8 x32)]) ?_ ⟨(by first | rfl | (rw [g43]; rfl)), rfl, (by first | rfl | (rw [g43]; rfl)), rfl, rfl, rfl, trivial⟩
       refine K.eq (l' := h41 :: X) rfl (by first | rfl | (rw [g43])) ?_
       obtain ⟨x44, hx44, h⟩ := bindSome h
       refine kl_elemP (T := 5) (kd := .i64) (encI_ok .u8) rfl (by kernel_rfl) (by kernel_rfl) (by kernel_rfl) (by kernel_rfl) (by kernel_rfl) (by kernel_rfl) hx44 (OwnT.rd o42) fun p45 e46 y47 => ?_
       have e46 : Elem _ p45 [.int .u8 x44] := e46
       obtain ⟨l48, hl48, h⟩ := bindSome h
       refine kl_estore (v := .int .u8 x32) (off := 0) (x' := x32) (encI_ok .u8) rfl (by kernel_rfl) (by kernel_rfl) (by kernel_rfl) (by kernel_rfl) (by kernel_rfl) y47 o42 hx44 (by kernel_rfl) (by kernel_rfl) hl48 fun h49 o50 => ?_
       have g51 := lSet_len hl48
       refine K.weak (env' := [(3, .slice A22 l48.length k23), (6, .int .i64 x25), (57, .int .u8 x32)]) ?_ ⟨(by first | rfl | (rw [g51]; rfl)), rfl, rfl, trivial⟩
       refine K.eq (l' := h49 :: X) rfl (by first | rfl | (rw [g51])) ?_
       refine k_nil ?_
       refine k_blk ?_
       refine k_then ?_
       refine k_region ?_
       refine kl_steps 3 [(3, .slice A22 l48.length k23), (6, .int .i64 (IntKind.i64.wrap (x25 + (1 : Int))))] (by kernel_rfl) ?_
       refine k_nil ?_
       refine k_then ?_
       exact k_again m26 (l48, IntKind.i64.wrap (x25 + (1 : Int)), h49, A22, k23) (Nat.lt_succ_self _) ⟨h, o50⟩ ⟨rfl, rfl, trivial⟩ rfl
      ·have h := condF h t27
       refine k_exit ?_
       refine k_then_exit ?_
       refine k_then_exit ?_
       refine k_here ?_
       refine k_then ?_
       exact k_meet (l20, h21, A22, k23) ⟨h, o24⟩ ⟨rfl, trivial⟩ rfl
   ·skip
    refine k_seq ?_
    refine k_region ?_
    refine kl_steps 2 [(3, .slice A4 l2.length k5), (27, .bool (decide (a0 < (0 : Int))))] (by kernel_rfl) ?_
    refine k_nil ?_
    refine k_then ?_
    refine k_cond (t := decide (a0 < (0 : Int))) (by kernel_rfl) (fun t52 => ?_) (fun t52 => ?_)
    ·have h := condT h t52
     refine k_region ?_
     refine kl_steps 1 [(3, .slice A4 l2.length k5), (28, .slice A4 l2.length k5)] (by kernel_rfl) ?_
     refine kl_new (.cells #[.int .u8 (45 : Int)] 5 (0, 0)) (fun b => .slice (some ⟨b, 0, none⟩) 1 1) (by kernel_rfl) (by kernel_rfl) (fun _ => by kernel_rfl) fun b53 => ?_
     refine K.mv1 ?_
     obtain ⟨l54, hl54, h⟩ := bindSome h
     refine kl_apd (ys := [(45 : Int)]) (encI_ok .u8) rfl ety79 (by kernel_rfl) (by kernel_rfl) (by kernel_rfl) (by kernel_rfl) (by kernel_rfl) hl54 o6 (src_blk (n := 1) (encI_ok .u8) [(45 : Int)] (by kernel_rfl) rfl (by decide) 1 rfl) fun h55 A56 k57 o58 => ?_
     refine K.mv1 ?_
     refine K.drop ?_
     refine kl_steps 1 [(3, .slice A56 l54.length k57)] (by kernel_rfl) ?_
     refine k_nil ?_
     refine k_then ?_
     exact k_meet (l54, h55, A56, k57) ⟨h, o58⟩ ⟨rfl, trivial⟩ rfl
    ·have h := condF h t52
     refine k_skip ?_
     refine k_then ?_
     exact k_meet (l2, h3, A4, k5) ⟨h, o6⟩ ⟨rfl, trivial⟩ rfl
  ·skip
   refine k_seq ?_
   refine k_region ?_
   refine kl_steps 2 [(0, .int .i64 a0), (3, .slice none 0 0), (4, .int .i64 a0)] (by kernel_rfl) ?_
   refine k_nil ?_
   refine k_then ?_
   refine k_block ?_
   refine k_none ?_
   refine k_loop (τ := (List Int) × Int × Frag × (Option Addr) × Nat) (fun t => [(0, .int .i64 a0), (3, .slice t.2.2.2.1 t.1.length t.2.2.2.2), (4, .int .i64 t.2.1)]) (fun t => t.2.2.1 :: X) (fun m t => r02_Format.l1 m J7 t.1 t.2.1 = some r ∧ OwnT (encI .u8) 5 1 t.2.2.1 (.slice t.2.2.2.1 t.1.length t.2.2.2.2) t.1) k ([], a0, none_, none, 0) ⟨h, (OwnT.nil (encI .u8) 5 1 none_)⟩ ⟨rfl, rfl, rfl, trivial⟩ rfl ?_
   clear h
   rintro m65 ⟨l59, x64, h60, A61, k62⟩ ⟨h, o63⟩
   cases m65 with
   | zero => simp [r02_Format.l1] at h
   | succ m65 =>
    simp only [r02_Format.l1] at h
    refine k_seq ?_
    refine k_seq ?_
    refine k_region ?_
    refine kl_steps 2 [(0, .int .i64 a0), (3, .slice A61 l59.length k62), (4, .int .i64 x64), (11, .bool (x64 != (0 : Int)))] (by kernel_rfl) ?_
    refine k_nil ?_
    refine k_then ?_
    refine k_cond (t := (x64 != (0 : Int))) (by kernel_rfl) (fun t66 => ?_) (fun t66 => ?_)
    ·have h := condT h t66
     refine k_skip ?_
     refine k_then ?_
     refine k_seq ?_
     refine k_block ?_
     refine k_seq ?_
     refine k_region ?_
     refine kl_steps 3 [(0, .int .i64 a0), (3, .slice A61 l59.length k62), (4, .int .i64 x64), (5, .int .i64 (Int.tmod x64 (10 : Int)))] (by kernel_rfl) ?_
     refine k_nil ?_
     refine k_then ?_
     obtain ⟨J68, hJ68, h⟩ := joinSplit h
     refine k_cut (τ := Int) (fun t => [(0, .int .i64 a0), (3, .slice A61 l59.length k62), (4, .int .i64 x64), (5, .int .i64 t)]) (fun t => h60 :: X) (fun t => J68 t = some r) ?_ ?_
     ·rintro x67 h
      subst hJ68
      refine k_region ?_
      refine kl_steps 4 [(0, .int .i64 a0), (3, .slice A61 l59.length k62), (4, .int .i64 x64), (20, .slice A61 l59.length k62), (23, .int .u8 (IntKind.u8.wrap (IntKind.i64.wrap ((48 : Int) + x67))))] (by kernel_rfl) ?_
      refine kl_new (.cells #[.int .u8 (IntKind.u8.wrap (IntKind.i64.wrap ((48 : Int) + x67)))] 5 (0, 0)) (fun b => .slice (some ⟨b, 0, none⟩) 1 1) (by kernel_rfl) (by kernel_rfl) (fun _ => by kernel_rfl) fun b69 => ?_
      refine K.mv1 ?_
      obtain ⟨l70, hl70, h⟩ := bindSome h
      refine kl_apd (ys := [IntKind.u8.wrap (IntKind.i64.wrap ((48 : Int) + x67))]) (encI_ok .u8) rfl ety79 (by kernel_rfl) (by kernel_rfl) (by kernel_rfl) (by kernel_rfl) (by kernel_rfl) hl70 o63 (src_blk (n := 1) (encI_ok .u8) [IntKind.u8.wrap (IntKind.i64.wrap ((48 : Int) + x67))] (by kernel_rfl) rfl (by decide) 1 rfl) fun h71 A72 k73 o74 => ?_
      refine K.mv1 ?_
      refine K.drop ?_
      refine kl_steps 1 [(0, .int .i64 a0), (3, .slice A72 l70.length k73), (4, .int .i64 x64)] (by kernel_rfl) ?_
      refine k_nil ?_
      refine k_blk ?_
      refine k_then ?_
      refine k_region ?_
      refine kl_steps 3 [(0, .int .i64 a0), (3, .slice A72 l70.length k73), (4, .int .i64 (IntKind.i64.wrap (Int.tdiv x64 (10 : Int))))] (by kernel_rfl) ?_
      refine k_nil ?_
      refine k_then ?_
      exact k_again m65 (l70, IntKind.i64.wrap (Int.tdiv x64 (10 : Int)), h71, A72, k73) (Nat.lt_succ_self _) ⟨h, o74⟩ ⟨rfl, rfl, rfl, trivial⟩ rfl
     ·skip
      refine k_seq ?_
      refine k_region ?_
      refine kl_steps 2 [(0, .int .i64 a0), (3, .slice A61 l59.length k62), (4, .int .i64 x64), (5, .int .i64 (Int.tmod x64 (10 : Int))), (17, .bool (decide ((Int.tmod x64 (10 : Int)) < (0 : Int))))] (by kernel_rfl) ?_
      refine k_nil ?_
      refine k_then ?_
      refine k_cond (t := decide ((Int.tmod x64 (10 : Int)) < (0 : Int))) (by kernel_rfl) (fun t75 => ?_) (fun t75 => ?_)
      ·have h := condT h t75
       refine k_region ?_
       refine kl_steps 3 [(0, .int .i64 a0), (3, .slice A61 l59.length k62), (4, .int .i64 x64), (5, .int .i64 (IntKind.i64.wrap (0 - (Int.tmod x64 (10 : Int)))))] (by kernel_rfl) ?_
       refine k_nil ?_
       refine k_then ?_
       exact k_meet (IntKind.i64.wrap (0 - (Int.tmod x64 (10 : Int)))) h ⟨rfl, rfl, rfl, rfl, trivial⟩ rfl
      ·have h := condF h t75
       refine k_skip ?_
       refine k_then ?_
       exact k_meet (Int.tmod x64 (10 : Int)) h ⟨rfl, rfl, rfl, rfl, trivial⟩ rfl
    ·have h := condF h t66
     refine k_exit ?_
     refine k_then_exit ?_
     refine k_then_exit ?_
     refine k_here ?_
     refine k_then ?_
     exact k_meet (l59, h60, A61, k62) ⟨h, o63⟩ ⟨rfl, rfl, trivial⟩ rfl
def law13_many.l0 : Nat → (a0 : Int) → (a1 : ByteArray) → (J2 : ByteArray → Option (ByteArray)) → (x3 : ByteArray) → (x4 : Int) → Option (ByteArray)
 | 0, _, _, _, _, _ => none
 | m5 + 1, a0, a1, J2, x3, x4 => cond (decide (x4 < a0)) (joinF (fun (x7 : ByteArray) => (r02_Format.f m5 x4).bind fun r9 => (sCat a1 r9).bind fun s10 : ByteArray => (sCat x7 s10).bind fun s11 : ByteArray => law13_many.l0 m5 a0 a1 J2 s11 (IntKind.i64.wrap (x4 + (1 : Int)))) (fun J8 => cond (decide (x4 > (0 : Int))) ((sCat x3 (⟨#[44, 32]⟩ : ByteArray)).bind fun s13 : ByteArray => J8 s13) (J8 x3))) (J2 x3)
def law13_many.f (k : Nat) (a0 : Int) (a1 : ByteArray) : Option (ByteArray) := joinF (fun (x1 : ByteArray) => some (x1)) (fun J2 => law13_many.l0 k a0 a1 J2 (⟨#[]⟩ : ByteArray) (0 : Int))
set_option maxRecDepth 100000 in
theorem law13_many.ok {k : Nat} {a0 : Int} {a1 : ByteArray} {r : ByteArray} (h : law13_many.f k a0 a1 = some r) : Ct Tryz.prog 19 #[.int .i64 a0, .string a1] [] [] (fun e l1 => e = .returned (.string r) ∧ l1 = []) := by
 refine ct_enter (args := [.int .i64 a0, .string a1]) Tryz.func19 rfl (Nat.le_of_ble_eq_true rfl) ?_
 intro A X hh_
 unfold law13_many.f at h
 refine k_seq ?_
 refine k_region ?_
 refine kl_steps 1 [(0, .int .i64 a0), (1, .string a1)] (by kernel_rfl) ?_
 refine k_nil ?_
 refine k_then ?_
 refine k_seq ?_
 refine k_region ?_
 refine kl_steps 1 [(0, .int .i64 a0), (1, .string a1), (5, .string (⟨#[]⟩ : ByteArray))] (by kernel_rfl) ?_
 refine k_nil ?_
 refine k_then ?_
 obtain ⟨J2, hJ2, h⟩ := joinSplit h
 refine k_cut (τ := ByteArray) (fun t => [(5, .string t)]) (fun t => X) (fun t => J2 t = some r) ?_ ?_
 ·rintro x1 h
  subst hJ2
  refine k_seq ?_
  refine k_region ?_
  refine kl_steps 2 [(4, .string x1)] (by kernel_rfl) ?_
  refine k_nil ?_
  refine k_then ?_
  refine k_ret ?_
  obtain rfl := Option.some.inj h
  refine k_done (v := .string x1) [] [] [] (by kernel_rfl) (by kernel_rfl) trivial ?_
  exact k_end ⟨rfl, rfl⟩
 ·skip
  refine k_seq ?_
  refine k_region ?_
  refine kl_steps 1 [(0, .int .i64 a0), (1, .string a1), (5, .string (⟨#[]⟩ : ByteArray)), (6, .int .i64 (0 : Int))] (by kernel_rfl) ?_
  refine k_nil ?_
  refine k_then ?_
  refine k_block ?_
  refine k_loop (τ := ByteArray × Int) (fun t => [(0, .int .i64 a0), (1, .string a1), (5, .string t.1), (6, .int .i64 t.2)]) (fun t => X) (fun m t => law13_many.l0 m a0 a1 J2 t.1 t.2 = some r) k ((⟨#[]⟩ : ByteArray), (0 : Int)) h ⟨rfl, rfl, rfl, rfl, trivial⟩ rfl ?_
  clear h
  rintro m5 ⟨x3, x4⟩ h
  cases m5 with
  | zero => simp [law13_many.l0] at h
  | succ m5 =>
   simp only [law13_many.l0] at h
   refine k_seq ?_
   refine k_seq ?_
   refine k_region ?_
   refine kl_steps 3 [(0, .int .i64 a0), (1, .string a1), (5, .string x3), (6, .int .i64 x4), (9, .bool (decide (x4 < a0)))] (by kernel_rfl) ?_
   refine k_nil ?_
   refine k_then ?_
   refine k_cond (t := decide (x4 < a0)) (by kernel_rfl) (fun t6 => ?_) (fun t6 => ?_)
   ·have h := condT h t6
    refine k_skip ?_
    refine k_then ?_
    refine k_seq ?_
    refine k_block ?_
    obtain ⟨J8, hJ8, h⟩ := joinSplit h
    refine k_cut (τ := ByteArray) (fun t => [(0, .int .i64 a0), (1, .string a1), (5, .string t), (6, .int .i64 x4)]) (fun t => X) (fun t => J8 t = some r) ?_ ?_
    ·rintro x7 h
     subst hJ8
     refine k_region ?_
     refine kl_steps 3 [(0, .int .i64 a0), (1, .string a1), (5, .string x7), (6, .int .i64 x4), (16, .string x7), (17, .string a1), (18, .int .i64 x4)] (by kernel_rfl) ?_
     obtain ⟨r9, hr9, h⟩ := bindSome h
     refine kl_callv (by kernel_rfl) (by kernel_rfl) (by kernel_rfl) (r02_Format.ok hr9) trivial ?_
     obtain ⟨s10, hs10, h⟩ := bindSome h
     refine kl_cat rfl (by kernel_rfl) (by kernel_rfl) (by kernel_rfl) (by kernel_rfl) hs10 ?_
     obtain ⟨s11, hs11, h⟩ := bindSome h
     refine kl_cat rfl (by kernel_rfl) (by kernel_rfl) (by kernel_rfl) (by kernel_rfl) hs11 ?_
     refine kl_steps 1 [(0, .int .i64 a0), (1, .string a1), (5, .string s11), (6, .int .i64 x4)] (by kernel_rfl) ?_
     refine k_nil ?_
     refine k_blk ?_
     refine k_then ?_
     refine k_region ?_
     refine kl_steps 3 [(0, .int .i64 a0), (1, .string a1), (5, .string s11), (6, .int .i64 (IntKind.i64.wrap (x4 + (1 : Int))))] (by kernel_rfl) ?_
     refine k_nil ?_
     refine k_then ?_
     exact k_again m5 (s11, IntKind.i64.wrap (x4 + (1 : Int))) (Nat.lt_succ_self _) h ⟨rfl, rfl, rfl, rfl, trivial⟩ rfl
    ·skip
     refine k_seq ?_
     refine k_region ?_
     refine kl_steps 2 [(0, .int .i64 a0), (1, .string a1), (5, .string x3), (6, .int .i64 x4), (13, .bool (decide (x4 > (0 : Int))))] (by kernel_rfl) ?_
     refine k_nil ?_
     refine k_then ?_
     refine k_cond (t := decide (x4 > (0 : Int))) (by kernel_rfl) (fun t12 => ?_) (fun t12 => ?_)
     ·have h := condT h t12
      refine k_region ?_
      refine kl_steps 1 [(0, .int .i64 a0), (1, .string a1), (5, .string x3), (6, .int .i64 x4), (14, .string x3)] (by kernel_rfl) ?_
      obtain ⟨s13, hs13, h⟩ := bindSome h
      refine kl_cat rfl (by kernel_rfl) (by kernel_rfl) (by kernel_rfl) (by kernel_rfl) hs13 ?_
      refine kl_steps 1 [(0, .int .i64 a0), (1, .string a1), (5, .string s13), (6, .int .i64 x4)] (by kernel_rfl) ?_
      refine k_nil ?_
      refine k_then ?_
      exact k_meet s13 h ⟨rfl, rfl, rfl, rfl, trivial⟩ rfl
     ·have h := condF h t12
      refine k_skip ?_
      refine k_then ?_
      exact k_meet x3 h ⟨rfl, rfl, rfl, rfl, trivial⟩ rfl
   ·have h := condF h t6
    refine k_exit ?_
    refine k_then_exit ?_
    refine k_then_exit ?_
    refine k_here ?_
    refine k_then ?_
    exact k_meet x3 h ⟨rfl, trivial⟩ rfl
def law13_CheckLocals.f (k : Nat) (a0 : Int) (a1 : Int) : Option (Bool) := (law13_fixed.f k).bind fun r1 => cond (!r1) (some (false)) ((law13_many.f k (IntKind.i64.wrap ((1 : Int) + (IntKind.i64.wrap (Int.tmod (IntKind.u64.wrap a0) (50 : Int))))) (⟨#[97]⟩ : ByteArray)).bind fun r3 => (sCat (⟨#[108, 111, 99, 97, 108, 32]⟩ : ByteArray) r3).bind fun s4 : ByteArray => (sCat s4 (⟨#[32]⟩ : ByteArray)).bind fun s5 : ByteArray => (sCat s5 (⟨#[102, 111, 114, 32, 105, 32, 61, 32, 49, 44, 32, 50, 32, 100, 111, 32]⟩ : ByteArray)).bind fun s6 : ByteArray => (sCat s6 (⟨#[108, 111, 99, 97, 108, 32]⟩ : ByteArray)).bind fun s7 : ByteArray => (law13_many.f k (IntKind.i64.wrap ((1 : Int) + (IntKind.i64.wrap (Int.tmod (IntKind.u64.wrap a1) (50 : Int))))) (⟨#[98]⟩ : ByteArray)).bind fun r8 => (sCat s7 r8).bind fun s9 : ByteArray => (sCat s9 (⟨#[32, 101, 110, 100]⟩ : ByteArray)).bind fun s10 : ByteArray => (check_Check.f k s10).bind fun r11 => cond (decide ((IntKind.i64.wrap ((IntKind.i64.wrap ((1 : Int) + (IntKind.i64.wrap (Int.tmod (IntKind.u64.wrap a0) (50 : Int))))) + (4 : Int))) > (60 : Int))) (some ((r11.2.2.1 == (6 : Int)))) (cond (decide ((IntKind.i64.wrap ((IntKind.i64.wrap ((IntKind.i64.wrap ((1 : Int) + (IntKind.i64.wrap (Int.tmod (IntKind.u64.wrap a0) (50 : Int))))) + (4 : Int))) + (IntKind.i64.wrap ((1 : Int) + (IntKind.i64.wrap (Int.tmod (IntKind.u64.wrap a1) (50 : Int))))))) > (60 : Int))) (some (((r11.2.2.1 == (6 : Int)) && ((r11.2.2.2 == (IntKind.i64.wrap ((s5.size : Int) + ((⟨#[102, 111, 114, 32, 105, 32, 61, 32, 49, 44, 32, 50, 32, 100, 111, 32]⟩ : ByteArray).size : Int)))) && true)))) ((cond (r11.2.2.1 == (0 : Int)) (cond (((r11.1.length : Nat) : Int) == (1 : Int)) ((lIdx r11.1 (0 : Int)).bind fun x27 => cond (x27.2.2.2.1 == (IntKind.i64.wrap ((IntKind.i64.wrap ((IntKind.i64.wrap ((1 : Int) + (IntKind.i64.wrap (Int.tmod (IntKind.u64.wrap a0) (50 : Int))))) + (4 : Int))) + (IntKind.i64.wrap ((1 : Int) + (IntKind.i64.wrap (Int.tmod (IntKind.u64.wrap a1) (50 : Int)))))))) ((lIdx r11.1 (0 : Int)).bind fun x40 => (law13_t2.f k x40.2.2.2.2).bind fun r52 => some r52) (some false)) (some false)) (some false) : Option Bool).bind fun q24 => some (q24))))
set_option maxRecDepth 100000 in
theorem law13_CheckLocals.ok {k : Nat} {a0 : Int} {a1 : Int} {G : Frag} {r : Bool} (h : law13_CheckLocals.f k a0 a1 = some r) (hG : GlP G) : Ct Tryz.prog 6 #[.int .i64 a0, .int .i64 a1] [] [G] (fun e l1 => e = .returned (.bool r) ∧ l1 = []) := by
 refine ct_enter (args := [.int .i64 a0, .int .i64 a1]) Tryz.func6 rfl (Nat.le_of_ble_eq_true rfl) ?_
 intro A X hh_
 obtain ⟨hm_G, _⟩ := hh_
 unfold law13_CheckLocals.f at h
 refine k_seq ?_
 refine k_region ?_
 refine kl_steps 1 [(0, .int .i64 a0), (1, .int .i64 a1)] (by kernel_rfl) ?_
 refine k_nil ?_
 refine k_then ?_
 refine k_seq ?_
 refine k_seq ?_
 refine k_region ?_
 obtain ⟨r1, hr1, h⟩ := bindSome h
 refine kl_callv (by kernel_rfl) (by kernel_rfl) (by kernel_rfl) (law13_fixed.ok hr1 hG) ⟨hm_G, trivial⟩ ?_
 refine kl_steps 1 [(0, .int .i64 a0), (1, .int .i64 a1), (10, .bool (!r1))] (by kernel_rfl) ?_
 refine k_nil ?_
 refine k_then ?_
 refine k_cond (t := !r1) (by kernel_rfl) (fun t2 => ?_) (fun t2 => ?_)
 ·have h := condT h t2
  refine k_seq ?_
  refine k_region ?_
  refine kl_steps 1 [(4, .bool false)] (by kernel_rfl) ?_
  refine k_nil ?_
  refine k_then ?_
  refine k_ret ?_
  refine k_then_ret ?_
  obtain rfl := Option.some.inj h
  refine k_done (v := .bool false) [] [] [] (by kernel_rfl) (by kernel_rfl) trivial ?_
  exact k_end ⟨rfl, rfl⟩
 ·have h := condF h t2
  refine k_skip ?_
  refine k_then ?_
  refine k_seq ?_
  refine k_region ?_
  refine kl_steps 12 [(0, .int .i64 (IntKind.i64.wrap ((1 : Int) + (IntKind.i64.wrap (Int.tmod (IntKind.u64.wrap a0) (50 : Int)))))), (1, .int .i64 (IntKind.i64.wrap ((1 : Int) + (IntKind.i64.wrap (Int.tmod (IntKind.u64.wrap a1) (50 : Int))))))] (by kernel_rfl) ?_
  refine k_nil ?_
  refine k_then ?_
  refine k_seq ?_
  refine k_region ?_
  refine kl_steps 1 [(0, .int .i64 (IntKind.i64.wrap ((1 : Int) + (IntKind.i64.wrap (Int.tmod (IntKind.u64.wrap a0) (50 : Int)))))), (1, .int .i64 (IntKind.i64.wrap ((1 : Int) + (IntKind.i64.wrap (Int.tmod (IntKind.u64.wrap a1) (50 : Int)))))), (21, .int .i64 (IntKind.i64.wrap ((1 : Int) + (IntKind.i64.wrap (Int.tmod (IntKind.u64.wrap a0) (50 : Int))))))] (by kernel_rfl) ?_
  obtain ⟨r3, hr3, h⟩ := bindSome h
  refine kl_callv (by kernel_rfl) (by kernel_rfl) (by kernel_rfl) (law13_many.ok hr3) trivial ?_
  obtain ⟨s4, hs4, h⟩ := bindSome h
  refine kl_cat rfl (by kernel_rfl) (by kernel_rfl) (by kernel_rfl) (by kernel_rfl) hs4 ?_
  obtain ⟨s5, hs5, h⟩ := bindSome h
  refine kl_cat rfl (by kernel_rfl) (by kernel_rfl) (by kernel_rfl) (by kernel_rfl) hs5 ?_
  refine kl_steps 1 [(0, .int .i64 (IntKind.i64.wrap ((1 : Int) + (IntKind.i64.wrap (Int.tmod (IntKind.u64.wrap a0) (50 : Int)))))), (1, .int .i64 (IntKind.i64.wrap ((1 : Int) + (IntKind.i64.wrap (Int.tmod (IntKind.u64.wrap a1) (50 : Int)))))), (5, .string s5)] (by kernel_rfl) ?_
  refine k_nil ?_
  refine k_then ?_
  refine k_seq ?_
  refine k_region ?_
  refine kl_steps 1 [(0, .int .i64 (IntKind.i64.wrap ((1 : Int) + (IntKind.i64.wrap (Int.tmod (IntKind.u64.wrap a0) (50 : Int)))))), (1, .int .i64 (IntKind.i64.wrap ((1 : Int) + (IntKind.i64.wrap (Int.tmod (IntKind.u64.wrap a1) (50 : Int)))))), (5, .string s5), (6, .string (⟨#[102, 111, 114, 32, 105, 32, 61, 32, 49, 44, 32, 50, 32, 100, 111, 32]⟩ : ByteArray))] (by kernel_rfl) ?_
  refine k_nil ?_
  refine k_then ?_
  refine k_seq ?_
  refine k_region ?_
  refine kl_steps 2 [(0, .int .i64 (IntKind.i64.wrap ((1 : Int) + (IntKind.i64.wrap (Int.tmod (IntKind.u64.wrap a0) (50 : Int)))))), (1, .int .i64 (IntKind.i64.wrap ((1 : Int) + (IntKind.i64.wrap (Int.tmod (IntKind.u64.wrap a1) (50 : Int)))))), (5, .string s5), (6, .string (⟨#[102, 111, 114, 32, 105, 32, 61, 32, 49, 44, 32, 50, 32, 100, 111, 32]⟩ : ByteArray)), (26, .string s5), (27, .string (⟨#[102, 111, 114, 32, 105, 32, 61, 32, 49, 44, 32, 50, 32, 100, 111, 32]⟩ : ByteArray))] (by kernel_rfl) ?_
  obtain ⟨s6, hs6, h⟩ := bindSome h
  refine kl_cat rfl (by kernel_rfl) (by kernel_rfl) (by kernel_rfl) (by kernel_rfl) hs6 ?_
  obtain ⟨s7, hs7, h⟩ := bindSome h
  refine kl_cat rfl (by kernel_rfl) (by kernel_rfl) (by kernel_rfl) (by kernel_rfl) hs7 ?_
  refine kl_steps 1 [(0, .int .i64 (IntKind.i64.wrap ((1 : Int) + (IntKind.i64.wrap (Int.tmod (IntKind.u64.wrap a0) (50 : Int)))))), (1, .int .i64 (IntKind.i64.wrap ((1 : Int) + (IntKind.i64.wrap (Int.tmod (IntKind.u64.wrap a1) (50 : Int)))))), (5, .string s5), (6, .string (⟨#[102, 111, 114, 32, 105, 32, 61, 32, 49, 44, 32, 50, 32, 100, 111, 32]⟩ : ByteArray)), (29, .string s7), (30, .int .i64 (IntKind.i64.wrap ((1 : Int) + (IntKind.i64.wrap (Int.tmod (IntKind.u64.wrap a1) (50 : Int))))))] (by kernel_rfl) ?_
  obtain ⟨r8, hr8, h⟩ := bindSome h
  refine kl_callv (by kernel_rfl) (by kernel_rfl) (by kernel_rfl) (law13_many.ok hr8) trivial ?_
  obtain ⟨s9, hs9, h⟩ := bindSome h
  refine kl_cat rfl (by kernel_rfl) (by kernel_rfl) (by kernel_rfl) (by kernel_rfl) hs9 ?_
  obtain ⟨s10, hs10, h⟩ := bindSome h
  refine kl_cat rfl (by kernel_rfl) (by kernel_rfl) (by kernel_rfl) (by kernel_rfl) hs10 ?_
  obtain ⟨r11, hr11, h⟩ := bindSome h
  refine kl_call (X) (by kernel_rfl) (by kernel_rfl) (by kernel_rfl) (check_Check.ok hr11 hG) rfl ⟨hm_G, trivial⟩ ?_
  rintro _ _ ⟨h12, A13, k14, h16, A17, k18, o15, o19, rfl, rfl⟩
  refine nx_ret2 ?_
  refine kl_steps 3 [(0, .int .i64 (IntKind.i64.wrap ((1 : Int) + (IntKind.i64.wrap (Int.tmod (IntKind.u64.wrap a0) (50 : Int)))))), (1, .int .i64 (IntKind.i64.wrap ((1 : Int) + (IntKind.i64.wrap (Int.tmod (IntKind.u64.wrap a1) (50 : Int)))))), (5, .string s5), (6, .string (⟨#[102, 111, 114, 32, 105, 32, 61, 32, 49, 44, 32, 50, 32, 100, 111, 32]⟩ : ByteArray)), (35, .agg #[.slice A13 r11.1.length k14, .slice A17 r11.2.1.length k18]), (36, .agg #[.int .i64 r11.2.2.1, .int .i64 r11.2.2.2])] (by kernel_rfl) ?_
  refine kl_new (.cells #[.slice none 0 0, .slice none 0 0] 28 (0, 0)) (fun b => .pointer (some ⟨b, 0, none⟩)) (by kernel_rfl) (by kernel_rfl) (fun _ => by kernel_rfl) fun b20 => ?_
  refine kl_new (.cells #[.int .i64 (0 : Int), .int .i64 (0 : Int)] 31 (0, 0)) (fun b => .pointer (some ⟨b, 0, none⟩)) (by kernel_rfl) (by kernel_rfl) (fun _ => by kernel_rfl) fun b21 => ?_
  refine K.mv1 ?_
  refine kl_store (cs' := #[.slice A13 r11.1.length k14, .slice A17 r11.2.1.length k18]) [.st ⟨b20, 0, none⟩ (.slice A13 r11.1.length k14), .st ⟨b20, 1, none⟩ (.slice A17 r11.2.1.length k18)] (by kernel_rfl) (by kernel_rfl) (by kernel_rfl) ⟨rfl, rfl, trivial⟩ (by kernel_rfl) ?_
  refine K.mv1 ?_
  refine kl_store (cs' := #[.int .i64 r11.2.2.1, .int .i64 r11.2.2.2]) [.st ⟨b21, 0, none⟩ (.int .i64 r11.2.2.1), .st ⟨b21, 1, none⟩ (.int .i64 r11.2.2.2)] (by kernel_rfl) (by kernel_rfl) (by kernel_rfl) ⟨rfl, rfl, trivial⟩ (by kernel_rfl) ?_
  refine k_nil ?_
  refine k_then ?_
  refine k_seq ?_
  refine k_seq ?_
  refine k_region ?_
  refine kl_steps 3 [(0, .int .i64 (IntKind.i64.wrap ((1 : Int) + (IntKind.i64.wrap (Int.tmod (IntKind.u64.wrap a0) (50 : Int)))))), (1, .int .i64 (IntKind.i64.wrap ((1 : Int) + (IntKind.i64.wrap (Int.tmod (IntKind.u64.wrap a1) (50 : Int)))))), (5, .string s5), (6, .string (⟨#[102, 111, 114, 32, 105, 32, 61, 32, 49, 44, 32, 50, 32, 100, 111, 32]⟩ : ByteArray)), (7, .pointer (some ⟨b20, 0, none⟩)), (8, .pointer (some ⟨b21, 0, none⟩)), (39, .bool (decide ((IntKind.i64.wrap ((IntKind.i64.wrap ((1 : Int) + (IntKind.i64.wrap (Int.tmod (IntKind.u64.wrap a0) (50 : Int))))) + (4 : Int))) > (60 : Int))))] (by kernel_rfl) ?_
  refine k_nil ?_
  refine k_then ?_
  refine k_cond (t := decide ((IntKind.i64.wrap ((IntKind.i64.wrap ((1 : Int) + (IntKind.i64.wrap (Int.tmod (IntKind.u64.wrap a0) (50 : Int))))) + (4 : Int))) > (60 : Int))) (by kernel_rfl) (fun t22 => ?_) (fun t22 => ?_)
  ·have h := condT h t22
   refine k_seq ?_
   refine k_region ?_
   refine kl_steps 1 [(40, .pointer (some ⟨b21, 0, none⟩))] (by kernel_rfl) ?_
   refine kl_load (v := .int .i64 r11.2.2.1) [.val (.int .i64 r11.2.2.1)] [.ld ⟨b21, 0, none⟩ (.int .i64 r11.2.2.1)] (by kernel_rfl) (by kernel_rfl) (by kernel_rfl) ⟨⟨0, _, _, _, rfl, rfl, rfl⟩, trivial⟩ ?_
   refine K.drop ?_
   refine K.drop ?_
   refine K.drop ?_
   refine K.drop ?_
   refine kl_steps 2 [(4, .bool (r11.2.2.1 == (6 : Int)))] (by kernel_rfl) ?_
   refine k_nil ?_
   refine k_then ?_
   refine k_ret ?_
   refine k_then_ret ?_
   obtain rfl := Option.some.inj h
   refine k_done (v := .bool (r11.2.2.1 == (6 : Int))) [] [] [] (by kernel_rfl) (by kernel_rfl) trivial ?_
   exact k_end ⟨rfl, rfl⟩
  ·have h := condF h t22
   refine k_skip ?_
   refine k_then ?_
   refine k_seq ?_
   refine k_seq ?_
   refine k_region ?_
   refine kl_steps 5 [(0, .int .i64 (IntKind.i64.wrap ((1 : Int) + (IntKind.i64.wrap (Int.tmod (IntKind.u64.wrap a0) (50 : Int)))))), (1, .int .i64 (IntKind.i64.wrap ((1 : Int) + (IntKind.i64.wrap (Int.tmod (IntKind.u64.wrap a1) (50 : Int)))))), (5, .string s5), (6, .string (⟨#[102, 111, 114, 32, 105, 32, 61, 32, 49, 44, 32, 50, 32, 100, 111, 32]⟩ : ByteArray)), (7, .pointer (some ⟨b20, 0, none⟩)), (8, .pointer (some ⟨b21, 0, none⟩)), (47, .bool (decide ((IntKind.i64.wrap ((IntKind.i64.wrap ((IntKind.i64.wrap ((1 : Int) + (IntKind.i64.wrap (Int.tmod (IntKind.u64.wrap a0) (50 : Int))))) + (4 : Int))) + (IntKind.i64.wrap ((1 : Int) + (IntKind.i64.wrap (Int.tmod (IntKind.u64.wrap a1) (50 : Int))))))) > (60 : Int))))] (by kernel_rfl) ?_
   refine k_nil ?_
   refine k_then ?_
   refine k_cond (t := decide ((IntKind.i64.wrap ((IntKind.i64.wrap ((IntKind.i64.wrap ((1 : Int) + (IntKind.i64.wrap (Int.tmod (IntKind.u64.wrap a0) (50 : Int))))) + (4 : Int))) + (IntKind.i64.wrap ((1 : Int) + (IntKind.i64.wrap (Int.tmod (IntKind.u64.wrap a1) (50 : Int))))))) > (60 : Int))) (by kernel_rfl) (fun t23 => ?_) (fun t23 => ?_)
   ·have h := condT h t23
    refine k_seq ?_
    refine k_region ?_
    refine kl_load (v := .agg #[.int .i64 r11.2.2.1, .int .i64 r11.2.2.2]) [.val (.int .i64 r11.2.2.1), .val (.int .i64 r11.2.2.2)] [.ld ⟨b21, 0, none⟩ (.int .i64 r11.2.2.1), .ld ⟨b21, 1, none⟩ (.int .i64 r11.2.2.2)] (by kernel_rfl) (by kernel_rfl) (by kernel_rfl) ⟨⟨0, _, _, _, rfl, rfl, rfl⟩, ⟨0, _, _, _, rfl, rfl, rfl⟩, trivial⟩ ?_
    refine K.drop ?_
    refine K.drop ?_
    refine K.drop ?_
    refine K.drop ?_
    refine kl_steps 6 [(48, .agg #[.int .i64 r11.2.2.1, .int .i64 r11.2.2.2]), (54, .agg #[.int .i64 (6 : Int), .int .i64 (IntKind.i64.wrap ((s5.size : Int) + ((⟨#[102, 111, 114, 32, 105, 32, 61, 32, 49, 44, 32, 50, 32, 100, 111, 32]⟩ : ByteArray).size : Int)))])] (by kernel_rfl) ?_
    refine kl_eqS (r := ((r11.2.2.1 == (6 : Int)) && ((r11.2.2.2 == (IntKind.i64.wrap ((s5.size : Int) + ((⟨#[102, 111, 114, 32, 105, 32, 61, 32, 49, 44, 32, 50, 32, 100, 111, 32]⟩ : ByteArray).size : Int)))) && true))) (xs := #[.int .i64 r11.2.2.1, .int .i64 r11.2.2.2]) (ys := #[.int .i64 (6 : Int), .int .i64 (IntKind.i64.wrap ((s5.size : Int) + ((⟨#[102, 111, 114, 32, 105, 32, 61, 32, 49, 44, 32, 50, 32, 100, 111, 32]⟩ : ByteArray).size : Int)))]) false (by kernel_rfl) rfl (by kernel_rfl) (by kernel_rfl) (by kernel_rfl) (by kernel_rfl) (by kernel_rfl) (by kernel_rfl) (by kernel_rfl) ?_
    refine kl_steps 1 [(4, .bool ((r11.2.2.1 == (6 : Int)) && ((r11.2.2.2 == (IntKind.i64.wrap ((s5.size : Int) + ((⟨#[102, 111, 114, 32, 105, 32, 61, 32, 49, 44, 32, 50, 32, 100, 111, 32]⟩ : ByteArray).size : Int)))) && true)))] (by kernel_rfl) ?_
    refine k_nil ?_
    refine k_then ?_
    refine k_ret ?_
    refine k_then_ret ?_
    obtain rfl := Option.some.inj h
    refine k_done (v := .bool ((r11.2.2.1 == (6 : Int)) && ((r11.2.2.2 == (IntKind.i64.wrap ((s5.size : Int) + ((⟨#[102, 111, 114, 32, 105, 32, 61, 32, 49, 44, 32, 50, 32, 100, 111, 32]⟩ : ByteArray).size : Int)))) && true))) [] [] [] (by kernel_rfl) (by kernel_rfl) trivial ?_
    exact k_end ⟨rfl, rfl⟩
   ·have h := condF h t23
    refine k_skip ?_
    refine k_then ?_
    obtain ⟨q24, hq24, h⟩ := bindSome h
    refine k_cut1 [(4, .bool q24)] (X) ?_ ?_
    ·clear hq24
     refine k_ret ?_
     obtain rfl := Option.some.inj h
     refine k_done (v := .bool q24) [] [] [] (by kernel_rfl) (by kernel_rfl) trivial ?_
     exact k_end ⟨rfl, rfl⟩
    ·have h := hq24
     clear hq24
     refine k_region ?_
     refine kl_steps 1 [(0, .int .i64 (IntKind.i64.wrap ((1 : Int) + (IntKind.i64.wrap (Int.tmod (IntKind.u64.wrap a0) (50 : Int)))))), (1, .int .i64 (IntKind.i64.wrap ((1 : Int) + (IntKind.i64.wrap (Int.tmod (IntKind.u64.wrap a1) (50 : Int)))))), (7, .pointer (some ⟨b20, 0, none⟩)), (56, .pointer (some ⟨b21, 0, none⟩))] (by kernel_rfl) ?_
     refine kl_load (v := .int .i64 r11.2.2.1) [.val (.int .i64 r11.2.2.1)] [.ld ⟨b21, 0, none⟩ (.int .i64 r11.2.2.1)] (by kernel_rfl) (by kernel_rfl) (by kernel_rfl) ⟨⟨0, _, _, _, rfl, rfl, rfl⟩, trivial⟩ ?_
     refine K.drop ?_
     refine kl_steps 2 [(0, .int .i64 (IntKind.i64.wrap ((1 : Int) + (IntKind.i64.wrap (Int.tmod (IntKind.u64.wrap a0) (50 : Int)))))), (1, .int .i64 (IntKind.i64.wrap ((1 : Int) + (IntKind.i64.wrap (Int.tmod (IntKind.u64.wrap a1) (50 : Int)))))), (7, .pointer (some ⟨b20, 0, none⟩)), (59, .bool (r11.2.2.1 == (0 : Int)))] (by kernel_rfl) ?_
     rcases Bool.eq_false_or_eq_true ((r11.2.2.1 == (0 : Int))) with t25 | t25
     ·have h := condT h t25
      refine K.weak (env' := [(0, .int .i64 (IntKind.i64.wrap ((1 : Int) + (IntKind.i64.wrap (Int.tmod (IntKind.u64.wrap a0) (50 : Int)))))), (1, .int .i64 (IntKind.i64.wrap ((1 : Int) + (IntKind.i64.wrap (Int.tmod (IntKind.u64.wrap a1) (50 : Int)))))), (7, .pointer (some ⟨b20, 0, none⟩)), (59, .bool true)]) ?_ ⟨rfl, rfl, rfl, congrArg (fun b => some (Value.bool b)) t25, trivial⟩
      refine kl_steps 1 [(0, .int .i64 (IntKind.i64.wrap ((1 : Int) + (IntKind.i64.wrap (Int.tmod (IntKind.u64.wrap a0) (50 : Int)))))), (1, .int .i64 (IntKind.i64.wrap ((1 : Int) + (IntKind.i64.wrap (Int.tmod (IntKind.u64.wrap a1) (50 : Int)))))), (7, .pointer (some ⟨b20, 0, none⟩)), (59, .bool true), (60, .pointer (some ⟨b20, 0, none⟩))] (by kernel_rfl) ?_
      refine kl_load (v := .slice A13 r11.1.length k14) [.val (.slice A13 r11.1.length k14)] [.ld ⟨b20, 0, none⟩ (.slice A13 r11.1.length k14)] (by kernel_rfl) (by kernel_rfl) (by kernel_rfl) ⟨⟨0, _, _, _, rfl, rfl, rfl⟩, trivial⟩ ?_
      refine kl_steps 4 [(0, .int .i64 (IntKind.i64.wrap ((1 : Int) + (IntKind.i64.wrap (Int.tmod (IntKind.u64.wrap a0) (50 : Int)))))), (1, .int .i64 (IntKind.i64.wrap ((1 : Int) + (IntKind.i64.wrap (Int.tmod (IntKind.u64.wrap a1) (50 : Int)))))), (7, .pointer (some ⟨b20, 0, none⟩)), (65, .bool (((r11.1.length : Nat) : Int) == (1 : Int)))] (by kernel_rfl) ?_
      rcases Bool.eq_false_or_eq_true ((((r11.1.length : Nat) : Int) == (1 : Int))) with t26 | t26
      ·have h := condT h t26
       refine K.weak (env' := [(0, .int .i64 (IntKind.i64.wrap ((1 : Int) + (IntKind.i64.wrap (Int.tmod (IntKind.u64.wrap a0) (50 : Int)))))), (1, .int .i64 (IntKind.i64.wrap ((1 : Int) + (IntKind.i64.wrap (Int.tmod (IntKind.u64.wrap a1) (50 : Int)))))), (7, .pointer (some ⟨b20, 0, none⟩)), (65, .bool true)]) ?_ ⟨rfl, rfl, rfl, congrArg (fun b => some (Value.bool b)) t26, trivial⟩
       refine kl_steps 1 [(0, .int .i64 (IntKind.i64.wrap ((1 : Int) + (IntKind.i64.wrap (Int.tmod (IntKind.u64.wrap a0) (50 : Int)))))), (1, .int .i64 (IntKind.i64.wrap ((1 : Int) + (IntKind.i64.wrap (Int.tmod (IntKind.u64.wrap a1) (50 : Int)))))), (7, .pointer (some ⟨b20, 0, none⟩)), (65, .bool true), (66, .pointer (some ⟨b20, 0, none⟩))] (by kernel_rfl) ?_
       refine kl_load (v := .slice A13 r11.1.length k14) [.val (.slice A13 r11.1.length k14)] [.ld ⟨b20, 0, none⟩ (.slice A13 r11.1.length k14)] (by kernel_rfl) (by kernel_rfl) (by kernel_rfl) ⟨⟨0, _, _, _, rfl, rfl, rfl⟩, trivial⟩ ?_
       obtain ⟨x27, hx27, h⟩ := bindSome h
       refine kl_elemR (T := 42) (kd := .i64) (R := rs42) rfl (by kernel_rfl) (by kernel_rfl) (by kernel_rfl) (by kernel_rfl) (by kernel_rfl) (by kernel_rfl) hx27 (OwnR.rd o15) fun p28 u31 q32 e29 y30 => ?_
       obtain ⟨A33, k34, rfl, o35⟩ := rs42_r q32
       refine kl_efieldP (off := 3) rfl (by kernel_rfl) (by kernel_rfl) (by kernel_rfl) (by kernel_rfl) e29 y30 fun p36 e37 y38 => ?_
       have e37 : Elem _ p36 [.int .i64 x27.2.2.2.1, .slice A33 x27.2.2.2.2.length k34] := e37
       refine kl_eload1 rfl (by kernel_rfl) (by kernel_rfl) (by kernel_rfl) (by kernel_rfl) e37 (.tail _ (.head _)) ?_
       refine kl_steps 7 [(7, .pointer (some ⟨b20, 0, none⟩)), (77, .bool (x27.2.2.2.1 == (IntKind.i64.wrap ((IntKind.i64.wrap ((IntKind.i64.wrap ((1 : Int) + (IntKind.i64.wrap (Int.tmod (IntKind.u64.wrap a0) (50 : Int))))) + (4 : Int))) + (IntKind.i64.wrap ((1 : Int) + (IntKind.i64.wrap (Int.tmod (IntKind.u64.wrap a1) (50 : Int)))))))))] (by kernel_rfl) ?_
       rcases Bool.eq_false_or_eq_true ((x27.2.2.2.1 == (IntKind.i64.wrap ((IntKind.i64.wrap ((IntKind.i64.wrap ((1 : Int) + (IntKind.i64.wrap (Int.tmod (IntKind.u64.wrap a0) (50 : Int))))) + (4 : Int))) + (IntKind.i64.wrap ((1 : Int) + (IntKind.i64.wrap (Int.tmod (IntKind.u64.wrap a1) (50 : Int))))))))) with t39 | t39
       ·have h := condT h t39
        refine K.weak (env' := [(7, .pointer (some ⟨b20, 0, none⟩)), (77, .bool true)]) ?_ ⟨rfl, congrArg (fun b => some (Value.bool b)) t39, trivial⟩
        refine kl_steps 1 [(77, .bool true), (78, .pointer (some ⟨b20, 0, none⟩))] (by kernel_rfl) ?_
        refine kl_load (v := .slice A13 r11.1.length k14) [.val (.slice A13 r11.1.length k14)] [.ld ⟨b20, 0, none⟩ (.slice A13 r11.1.length k14)] (by kernel_rfl) (by kernel_rfl) (by kernel_rfl) ⟨⟨0, _, _, _, rfl, rfl, rfl⟩, trivial⟩ ?_
        refine K.drop ?_
        refine K.mv1 ?_
        refine K.drop ?_
        obtain ⟨x40, hx40, h⟩ := bindSome h
        refine kl_elemR (T := 42) (kd := .i64) (R := rs42) rfl (by kernel_rfl) (by kernel_rfl) (by kernel_rfl) (by kernel_rfl) (by kernel_rfl) (by kernel_rfl) hx40 (OwnR.rd o15) fun p41 u44 q45 e42 y43 => ?_
        obtain ⟨A46, k47, rfl, o48⟩ := rs42_r q45
        refine kl_efieldP (off := 4) rfl (by kernel_rfl) (by kernel_rfl) (by kernel_rfl) (by kernel_rfl) e42 y43 fun p49 e50 y51 => ?_
        have e50 : Elem _ p49 [.slice A46 x40.2.2.2.2.length k47] := e50
        refine kl_eload1 rfl (by kernel_rfl) (by kernel_rfl) (by kernel_rfl) (by kernel_rfl) e50 (.head _) ?_
        obtain ⟨r52, hr52, h⟩ := bindSome h
        refine kl_callv (by kernel_rfl) (by kernel_rfl) (by kernel_rfl) (law13_t2.ok hr52 o48) ⟨(.head _), trivial⟩ ?_
        refine K.drop ?_
        refine kl_steps 2 [(4, .bool r52)] (by kernel_rfl) ?_
        refine k_nil ?_
        refine k_then ?_
        exact k_meet1 ⟨congrArg (fun b => some (Value.bool b)) (Option.some.inj h), trivial⟩
       ·have h := condF h t39
        refine K.weak (env' := [(7, .pointer (some ⟨b20, 0, none⟩)), (77, .bool false)]) ?_ ⟨rfl, congrArg (fun b => some (Value.bool b)) t39, trivial⟩
        refine kl_steps 8 [(4, .bool false)] (by kernel_rfl) ?_
        refine k_nil ?_
        refine k_then ?_
        refine K.drop ?_
        refine K.drop ?_
        refine K.drop ?_
        exact k_meet1 ⟨congrArg (fun b => some (Value.bool b)) (Option.some.inj h), trivial⟩
      ·have h := condF h t26
       refine K.weak (env' := [(0, .int .i64 (IntKind.i64.wrap ((1 : Int) + (IntKind.i64.wrap (Int.tmod (IntKind.u64.wrap a0) (50 : Int)))))), (1, .int .i64 (IntKind.i64.wrap ((1 : Int) + (IntKind.i64.wrap (Int.tmod (IntKind.u64.wrap a1) (50 : Int)))))), (7, .pointer (some ⟨b20, 0, none⟩)), (65, .bool false)]) ?_ ⟨rfl, rfl, rfl, congrArg (fun b => some (Value.bool b)) t26, trivial⟩
       refine kl_steps 20 [(4, .bool false)] (by kernel_rfl) ?_
       refine k_nil ?_
       refine k_then ?_
       refine K.drop ?_
       refine K.drop ?_
       refine K.drop ?_
       exact k_meet1 ⟨congrArg (fun b => some (Value.bool b)) (Option.some.inj h), trivial⟩
     ·have h := condF h t25
      refine K.weak (env' := [(0, .int .i64 (IntKind.i64.wrap ((1 : Int) + (IntKind.i64.wrap (Int.tmod (IntKind.u64.wrap a0) (50 : Int)))))), (1, .int .i64 (IntKind.i64.wrap ((1 : Int) + (IntKind.i64.wrap (Int.tmod (IntKind.u64.wrap a1) (50 : Int)))))), (7, .pointer (some ⟨b20, 0, none⟩)), (59, .bool false)]) ?_ ⟨rfl, rfl, rfl, congrArg (fun b => some (Value.bool b)) t25, trivial⟩
      refine kl_steps 26 [(4, .bool false)] (by kernel_rfl) ?_
      refine k_nil ?_
      refine k_then ?_
      refine K.drop ?_
      refine K.drop ?_
      refine K.drop ?_
      exact k_meet1 ⟨congrArg (fun b => some (Value.bool b)) (Option.some.inj h), trivial⟩
def law13_CheckConsts.l1 : Nat → (a0 : Int) → (J4 : ByteArray → Option (Bool)) → (x70 : ByteArray) → (x71 : Int) → Option (Bool)
 | 0, _, _, _, _ => none
 | m72 + 1, a0, J4, x70, x71 => cond (decide (x71 < (IntKind.i64.wrap (Int.tmod (IntKind.u64.wrap a0) (300 : Int))))) ((r02_Format.f m72 x71).bind fun r74 => (sCat (⟨#[120, 32, 61, 32]⟩ : ByteArray) r74).bind fun s75 : ByteArray => (sCat s75 (⟨#[32, 120, 32, 61, 32]⟩ : ByteArray)).bind fun s76 : ByteArray => (r02_Format.f m72 x71).bind fun r77 => (sCat s76 r77).bind fun s78 : ByteArray => (sCat s78 (⟨#[10]⟩ : ByteArray)).bind fun s79 : ByteArray => (sCat x70 s79).bind fun s80 : ByteArray => law13_CheckConsts.l1 m72 a0 J4 s80 (IntKind.i64.wrap (x71 + (1 : Int)))) (J4 x70)
def law13_CheckConsts.l0 : Nat → (a0 : Int) → (r5 : List (ByteArray × Int × Int × Int × List (Int × Int × ByteArray)) × List ByteArray × Int × Int) → (J21 : (Unit → Option (Bool))) → (x22 : Int) → Option (Bool)
 | 0, _, _, _, _ => none
 | m23 + 1, a0, r5, J21, x22 => cond (decide (x22 < (IntKind.i64.wrap (Int.tmod (IntKind.u64.wrap a0) (300 : Int))))) ((lIdx r5.1 (0 : Int)).bind fun x25 => (lIdx x25.2.2.2.2 x22).bind fun x37 => (r03_I.f m23 x22).bind fun r41 => cond (!((x37.1 == r41.1) && ((x37.2.1 == r41.2.1) && ((x37.2.2.toList == r41.2.2.toList) && true)))) (some (false)) (law13_CheckConsts.l0 m23 a0 r5 J21 (IntKind.i64.wrap (x22 + (1 : Int))))) (J21 ())
def law13_CheckConsts.f (k : Nat) (a0 : Int) : Option (Bool) := (law13_fixed.f k).bind fun r1 => cond (!r1) (some (false)) (joinF (fun (x3 : ByteArray) => (check_Check.f k x3).bind fun r5 => cond (decide ((IntKind.i64.wrap (Int.tmod (IntKind.u64.wrap a0) (300 : Int))) > (250 : Int))) ((cond (r5.2.2.1 == (6 : Int)) (some (decide (r5.2.2.2 > (0 : Int)))) (some false) : Option Bool).bind fun q17 => some (q17)) ((cond (r5.2.2.1 != (0 : Int)) (some true) (cond (((r5.1.length : Nat) : Int) != (1 : Int)) (some true) ((lIdx r5.1 (0 : Int)).bind fun x45 => cond (((x45.2.2.2.2.length : Nat) : Int) != (IntKind.i64.wrap (Int.tmod (IntKind.u64.wrap a0) (300 : Int)))) (some true) ((lIdx r5.1 (0 : Int)).bind fun x58 => some (x58.2.2.2.1 != (0 : Int))))) : Option Bool).bind fun q19 => cond q19 (some (false)) (joinF (fun (_ : Unit) => some (true)) (fun J21 => law13_CheckConsts.l0 k a0 r5 J21 (0 : Int))))) (fun J4 => law13_CheckConsts.l1 k a0 J4 (⟨#[]⟩ : ByteArray) (0 : Int)))
set_option maxRecDepth 100000 in
theorem law13_CheckConsts.ok {k : Nat} {a0 : Int} {G : Frag} {r : Bool} (h : law13_CheckConsts.f k a0 = some r) (hG : GlP G) : Ct Tryz.prog 7 #[.int .i64 a0] [] [G] (fun e l1 => e = .returned (.bool r) ∧ l1 = []) := by
 refine ct_enter (args := [.int .i64 a0]) Tryz.func7 rfl (Nat.le_of_ble_eq_true rfl) ?_
 intro A X hh_
 obtain ⟨hm_G, _⟩ := hh_
 unfold law13_CheckConsts.f at h
 refine k_seq ?_
 refine k_region ?_
 refine kl_steps 1 [(0, .int .i64 a0)] (by kernel_rfl) ?_
 refine k_nil ?_
 refine k_then ?_
 refine k_seq ?_
 refine k_seq ?_
 refine k_region ?_
 obtain ⟨r1, hr1, h⟩ := bindSome h
 refine kl_callv (by kernel_rfl) (by kernel_rfl) (by kernel_rfl) (law13_fixed.ok hr1 hG) ⟨hm_G, trivial⟩ ?_
 refine kl_steps 1 [(0, .int .i64 a0), (9, .bool (!r1))] (by kernel_rfl) ?_
 refine k_nil ?_
 refine k_then ?_
 refine k_cond (t := !r1) (by kernel_rfl) (fun t2 => ?_) (fun t2 => ?_)
 ·have h := condT h t2
  refine k_seq ?_
  refine k_region ?_
  refine kl_steps 1 [(2, .bool false)] (by kernel_rfl) ?_
  refine k_nil ?_
  refine k_then ?_
  refine k_ret ?_
  refine k_then_ret ?_
  obtain rfl := Option.some.inj h
  refine k_done (v := .bool false) [] [] [] (by kernel_rfl) (by kernel_rfl) trivial ?_
  exact k_end ⟨rfl, rfl⟩
 ·have h := condF h t2
  refine k_skip ?_
  refine k_then ?_
  refine k_seq ?_
  refine k_region ?_
  refine kl_steps 5 [(0, .int .i64 (IntKind.i64.wrap (Int.tmod (IntKind.u64.wrap a0) (300 : Int))))] (by kernel_rfl) ?_
  refine k_nil ?_
  refine k_then ?_
  refine k_seq ?_
  refine k_region ?_
  refine kl_steps 1 [(0, .int .i64 (IntKind.i64.wrap (Int.tmod (IntKind.u64.wrap a0) (300 : Int)))), (3, .string (⟨#[]⟩ : ByteArray))] (by kernel_rfl) ?_
  refine k_nil ?_
  refine k_then ?_
  obtain ⟨J4, hJ4, h⟩ := joinSplit h
  refine k_cut (τ := ByteArray) (fun t => [(0, .int .i64 (IntKind.i64.wrap (Int.tmod (IntKind.u64.wrap a0) (300 : Int)))), (3, .string t)]) (fun t => X) (fun t => J4 t = some r) ?_ ?_
  ·rintro x3 h
   subst hJ4
   refine k_seq ?_
   refine k_region ?_
   refine kl_steps 1 [(0, .int .i64 (IntKind.i64.wrap (Int.tmod (IntKind.u64.wrap a0) (300 : Int)))), (30, .string x3)] (by kernel_rfl) ?_
   obtain ⟨r5, hr5, h⟩ := bindSome h
   refine kl_call (X) (by kernel_rfl) (by kernel_rfl) (by kernel_rfl) (check_Check.ok hr5 hG) rfl ⟨hm_G, trivial⟩ ?_
   rintro _ _ ⟨h6, A7, k8, h10, A11, k12, o9, o13, rfl, rfl⟩
   refine nx_ret2 ?_
   refine kl_steps 3 [(0, .int .i64 (IntKind.i64.wrap (Int.tmod (IntKind.u64.wrap a0) (300 : Int)))), (32, .agg #[.slice A7 r5.1.length k8, .slice A11 r5.2.1.length k12]), (33, .agg #[.int .i64 r5.2.2.1, .int .i64 r5.2.2.2])] (by kernel_rfl) ?_
   refine kl_new (.cells #[.slice none 0 0, .slice none 0 0] 28 (0, 0)) (fun b => .pointer (some ⟨b, 0, none⟩)) (by kernel_rfl) (by kernel_rfl) (fun _ => by kernel_rfl) fun b14 => ?_
   refine kl_new (.cells #[.int .i64 (0 : Int), .int .i64 (0 : Int)] 31 (0, 0)) (fun b => .pointer (some ⟨b, 0, none⟩)) (by kernel_rfl) (by kernel_rfl) (fun _ => by kernel_rfl) fun b15 => ?_
   refine K.mv1 ?_
   refine kl_store (cs' := #[.slice A7 r5.1.length k8, .slice A11 r5.2.1.length k12]) [.st ⟨b14, 0, none⟩ (.slice A7 r5.1.length k8), .st ⟨b14, 1, none⟩ (.slice A11 r5.2.1.length k12)] (by kernel_rfl) (by kernel_rfl) (by kernel_rfl) ⟨rfl, rfl, trivial⟩ (by kernel_rfl) ?_
   refine K.mv1 ?_
   refine kl_store (cs' := #[.int .i64 r5.2.2.1, .int .i64 r5.2.2.2]) [.st ⟨b15, 0, none⟩ (.int .i64 r5.2.2.1), .st ⟨b15, 1, none⟩ (.int .i64 r5.2.2.2)] (by kernel_rfl) (by kernel_rfl) (by kernel_rfl) ⟨rfl, rfl, trivial⟩ (by kernel_rfl) ?_
   refine k_nil ?_
   refine k_then ?_
   refine k_seq ?_
   refine k_seq ?_
   refine k_region ?_
   refine kl_steps 2 [(0, .int .i64 (IntKind.i64.wrap (Int.tmod (IntKind.u64.wrap a0) (300 : Int)))), (5, .pointer (some ⟨b14, 0, none⟩)), (6, .pointer (some ⟨b15, 0, none⟩)), (35, .bool (decide ((IntKind.i64.wrap (Int.tmod (IntKind.u64.wrap a0) (300 : Int))) > (250 : Int))))] (by kernel_rfl) ?_
   refine k_nil ?_
   refine k_then ?_
   refine k_cond (t := decide ((IntKind.i64.wrap (Int.tmod (IntKind.u64.wrap a0) (300 : Int))) > (250 : Int))) (by kernel_rfl) (fun t16 => ?_) (fun t16 => ?_)
   ·have h := condT h t16
    obtain ⟨q17, hq17, h⟩ := bindSome h
    refine k_cut1 [(2, .bool q17)] (X) ?_ ?_
    ·clear hq17
     refine k_ret ?_
     refine k_then_ret ?_
     obtain rfl := Option.some.inj h
     refine k_done (v := .bool q17) [] [] [] (by kernel_rfl) (by kernel_rfl) trivial ?_
     exact k_end ⟨rfl, rfl⟩
    ·have h := hq17
     clear hq17
     refine k_region ?_
     refine kl_steps 1 [(6, .pointer (some ⟨b15, 0, none⟩)), (36, .pointer (some ⟨b15, 0, none⟩))] (by kernel_rfl) ?_
     refine kl_load (v := .int .i64 r5.2.2.1) [.val (.int .i64 r5.2.2.1)] [.ld ⟨b15, 0, none⟩ (.int .i64 r5.2.2.1)] (by kernel_rfl) (by kernel_rfl) (by kernel_rfl) ⟨⟨0, _, _, _, rfl, rfl, rfl⟩, trivial⟩ ?_
     refine K.mv1 ?_
     refine K.drop ?_
     refine K.mv1 ?_
     refine K.drop ?_
     refine K.mv1 ?_
     refine K.drop ?_
     refine kl_steps 2 [(6, .pointer (some ⟨b15, 0, none⟩)), (39, .bool (r5.2.2.1 == (6 : Int)))] (by kernel_rfl) ?_
     rcases Bool.eq_false_or_eq_true ((r5.2.2.1 == (6 : Int))) with t18 | t18
     ·have h := condT h t18
      refine K.weak (env' := [(6, .pointer (some ⟨b15, 0, none⟩)), (39, .bool true)]) ?_ ⟨rfl, congrArg (fun b => some (Value.bool b)) t18, trivial⟩
      refine kl_steps 1 [(39, .bool true), (40, .pointer (some ⟨b15, 1, none⟩))] (by kernel_rfl) ?_
      refine kl_load (v := .int .i64 r5.2.2.2) [.val (.int .i64 r5.2.2.2)] [.ld ⟨b15, 1, none⟩ (.int .i64 r5.2.2.2)] (by kernel_rfl) (by kernel_rfl) (by kernel_rfl) ⟨⟨0, _, _, _, rfl, rfl, rfl⟩, trivial⟩ ?_
      refine K.drop ?_
      refine kl_steps 3 [(2, .bool (decide (r5.2.2.2 > (0 : Int))))] (by kernel_rfl) ?_
      refine k_nil ?_
      refine k_then ?_
      exact k_meet1 ⟨congrArg (fun b => some (Value.bool b)) (Option.some.inj h), trivial⟩
     ·have h := condF h t18
      refine K.weak (env' := [(6, .pointer (some ⟨b15, 0, none⟩)), (39, .bool false)]) ?_ ⟨rfl, congrArg (fun b => some (Value.bool b)) t18, trivial⟩
      refine kl_steps 5 [(2, .bool false)] (by kernel_rfl) ?_
      refine k_nil ?_
      refine k_then ?_
      refine K.drop ?_
      exact k_meet1 ⟨congrArg (fun b => some (Value.bool b)) (Option.some.inj h), trivial⟩
   ·have h := condF h t16
    refine k_skip ?_
    refine k_then ?_
    refine k_seq ?_
    obtain ⟨q19, hq19, h⟩ := bindSome h
    refine k_cut1 [(0, .int .i64 (IntKind.i64.wrap (Int.tmod (IntKind.u64.wrap a0) (300 : Int)))), (5, .pointer (some ⟨b14, 0, none⟩)), (70, .bool q19)] (blk b14 (.cells #[.slice A7 r5.1.length k8, .slice A11 r5.2.1.length k12] 28 (0, 0)) :: h6 :: h10 :: X) ?_ ?_
    ·clear hq19
     refine k_cond (t := q19) (by kernel_rfl) (fun t20 => ?_) (fun t20 => ?_)
     ·have h := condT h t20
      refine k_seq ?_
      refine k_region ?_
      refine kl_steps 1 [(2, .bool false)] (by kernel_rfl) ?_
      refine k_nil ?_
      refine k_then ?_
      refine k_ret ?_
      refine k_then_ret ?_
      obtain rfl := Option.some.inj h
      refine k_done (v := .bool false) [] [] [] (by kernel_rfl) (by kernel_rfl) trivial ?_
      refine K.drop ?_
      refine K.drop ?_
      refine K.drop ?_
      exact k_end ⟨rfl, rfl⟩
     ·have h := condF h t20
      refine k_skip ?_
      refine k_then ?_
      obtain ⟨J21, hJ21, h⟩ := joinSplit h
      refine k_cut (τ := Unit) (fun t => []) (fun t => X) (fun t => J21 () = some r) ?_ ?_
      ·rintro ⟨⟩ h
       subst hJ21
       refine k_seq ?_
       refine k_region ?_
       refine kl_steps 1 [(2, .bool true)] (by kernel_rfl) ?_
       refine k_nil ?_
       refine k_then ?_
       refine k_ret ?_
       obtain rfl := Option.some.inj h
       refine k_done (v := .bool true) [] [] [] (by kernel_rfl) (by kernel_rfl) trivial ?_
       exact k_end ⟨rfl, rfl⟩
      ·skip
       refine k_seq ?_
       refine k_region ?_
       refine kl_steps 1 [(0, .int .i64 (IntKind.i64.wrap (Int.tmod (IntKind.u64.wrap a0) (300 : Int)))), (5, .pointer (some ⟨b14, 0, none⟩)), (7, .int .i64 (0 : Int))] (by kernel_rfl) ?_
       refine k_nil ?_
       refine k_then ?_
       refine k_block ?_
       refine k_loop (τ := Int) (fun t => [(0, .int .i64 (IntKind.i64.wrap (Int.tmod (IntKind.u64.wrap a0) (300 : Int)))), (5, .pointer (some ⟨b14, 0, none⟩)), (7, .int .i64 t)]) (fun t => blk b14 (.cells #[.slice A7 r5.1.length k8, .slice A11 r5.2.1.length k12] 28 (0, 0)) :: h6 :: h10 :: X) (fun m t => law13_CheckConsts.l0 m a0 r5 J21 t = some r) k (0 : Int) h ⟨rfl, rfl, rfl, trivial⟩ rfl ?_
       clear h
       rintro m23 x22 h
       cases m23 with
       | zero => simp [law13_CheckConsts.l0] at h
       | succ m23 =>
        simp only [law13_CheckConsts.l0] at h
        refine k_seq ?_
        refine k_seq ?_
        refine k_region ?_
        refine kl_steps 3 [(0, .int .i64 (IntKind.i64.wrap (Int.tmod (IntKind.u64.wrap a0) (300 : Int)))), (5, .pointer (some ⟨b14, 0, none⟩)), (7, .int .i64 x22), (73, .bool (decide (x22 < (IntKind.i64.wrap (Int.tmod (IntKind.u64.wrap a0) (300 : Int))))))] (by kernel_rfl) ?_
        refine k_nil ?_
        refine k_then ?_
        refine k_cond (t := decide (x22 < (IntKind.i64.wrap (Int.tmod (IntKind.u64.wrap a0) (300 : Int))))) (by kernel_rfl) (fun t24 => ?_) (fun t24 => ?_)
        ·have h := condT h t24
         refine k_skip ?_
         refine k_then ?_
         refine k_seq ?_
         refine k_block ?_
         refine k_seq ?_
         refine k_region_plan [(0, 0), (1, 3), (2, 0), (3, 0), (4, 3), (5, 0), (6, 0), (7, 3), (8, 0), (9, 1)] (fun w => OnAll [blk b14 (.cells #[.slice A7 r5.1.length k8, .slice A11 r5.2.1.length k12] 28 (0, 0)), h6, h10] w) (by kernel_rfl) (by kernel_rfl) (fun _ _ d _ _ h => by cases d <;> exact h) (fun w h_ => ⟨h_.sat.on _ (.head _), h_.sat.on _ (.tail _ (.head _)), h_.sat.on _ (.tail _ (.tail _ (.head _))), trivial⟩) ?_
         simp only [planOps, List.filterMap_cons, List.filterMap_nil, List.getElem?_toArray, List.getElem?_cons_zero, List.getElem?_cons_succ, Option.map_some, List.drop_succ_cons, List.drop_zero, List.length_cons, List.length_nil]
         refine kp_steps 1 [(0, .int .i64 (IntKind.i64.wrap (Int.tmod (IntKind.u64.wrap a0) (300 : Int)))), (5, .pointer (some ⟨b14, 0, none⟩)), (7, .int .i64 x22), (76, .pointer (some ⟨b14, 0, none⟩))] (by kernel_rfl) (by kernel_rfl) ?_
         refine kp_loadS (v := .slice A7 r5.1.length k8) [blk b14 (.cells #[.slice A7 r5.1.length k8, .slice A11 r5.2.1.length k12] 28 (0, 0)), h6, h10] [.val (.slice A7 r5.1.length k8)] [.ld ⟨b14, 0, none⟩ (.slice A7 r5.1.length k8)] (by kernel_rfl) (by kernel_rfl) (by kernel_rfl) (fun _ h => h) ⟨⟨0, _, _, _, rfl, rfl, rfl⟩, trivial⟩ ?_
         obtain ⟨x25, hx25, h⟩ := bindSome h
         refine kp_elemR (T := 42) (kd := .i64) (R := rs42) rfl (by kernel_rfl) (by kernel_rfl) (by kernel_rfl) (by kernel_rfl) (by kernel_rfl) (by kernel_rfl) hx25 (OwnR.rd o9) fun p26 u29 q30 e27 y28 => ?_
         obtain ⟨A31, k32, rfl, o33⟩ := rs42_r q30
         refine kp_efieldP (off := 4) rfl (by kernel_rfl) (by kernel_rfl) (by kernel_rfl) (by kernel_rfl) e27 y28 fun p34 e35 y36 => ?_
         have e35 : Elem _ p34 [.slice A31 x25.2.2.2.2.length k32] := e35
         refine kp_eload1 rfl (by kernel_rfl) (by kernel_rfl) (by kernel_rfl) (by kernel_rfl) e35 (fun w h_ => h_.mem _ (.tail _ (.head _))) ?_
         refine kp_steps 1 [(0, .int .i64 (IntKind.i64.wrap (Int.tmod (IntKind.u64.wrap a0) (300 : Int)))), (5, .pointer (some ⟨b14, 0, none⟩)), (7, .int .i64 x22), (80, .slice A31 x25.2.2.2.2.length k32), (81, .int .i64 x22)] (by kernel_rfl) (by kernel_rfl) ?_
         obtain ⟨x37, hx37, h⟩ := bindSome h
         refine kp_elemP (T := 53) (kd := .i64) e53_ok rfl (by kernel_rfl) (by kernel_rfl) (by kernel_rfl) (by kernel_rfl) (by kernel_rfl) (by kernel_rfl) hx37 o33 fun p38 e39 y40 => ?_
         have e39 : Elem _ p38 [.int .i64 x37.1, .int .i64 x37.2.1, .string x37.2.2] := e39
         refine kp_eloadN rfl (by kernel_rfl) (by kernel_rfl) (by kernel_rfl) (by kernel_rfl) (by kernel_rfl) e39 (fun w h_ => h_.mem _ (.tail _ (.head _))) ?_
         refine kp_steps 1 [(0, .int .i64 (IntKind.i64.wrap (Int.tmod (IntKind.u64.wrap a0) (300 : Int)))), (5, .pointer (some ⟨b14, 0, none⟩)), (7, .int .i64 x22), (83, .agg #[.int .i64 x37.1, .int .i64 x37.2.1, .string x37.2.2]), (84, .int .i64 x22)] (by kernel_rfl) (by kernel_rfl) ?_
         refine kp_turn (by kernel_rfl) ?_
         obtain ⟨r41, hr41, h⟩ := bindSome h
         refine op_callv (by kernel_rfl) (by kernel_rfl) (r03_I.ok hr41) trivial ?_
         refine k_and (fun w h_ => ⟨h_.sat.on _ (.head _), h_.sat.on _ (.tail _ (.head _)), h_.sat.on _ (.tail _ (.tail _ (.head _))), trivial⟩) ?_
         refine kp_done ?_
         refine kl_eqS (r := ((x37.1 == r41.1) && ((x37.2.1 == r41.2.1) && ((x37.2.2.toList == r41.2.2.toList) && true)))) (xs := #[.int .i64 x37.1, .int .i64 x37.2.1, .string x37.2.2]) (ys := #[.int .i64 r41.1, .int .i64 r41.2.1, .string r41.2.2]) true (by kernel_rfl) rfl (by kernel_rfl) (by kernel_rfl) (by kernel_rfl) (by kernel_rfl) (by kernel_rfl) (by kernel_rfl) (by kernel_rfl) ?_
         refine k_nil ?_
         refine k_then ?_
         refine k_cond (t := !((x37.1 == r41.1) && ((x37.2.1 == r41.2.1) && ((x37.2.2.toList == r41.2.2.toList) && true)))) (by kernel_rfl) (fun t42 => ?_) (fun t42 => ?_)
         ·have h := condT h t42
          refine k_seq ?_
          refine k_region ?_
          refine kl_steps 1 [(2, .bool false)] (by kernel_rfl) ?_
          refine k_nil ?_
          refine k_then ?_
          refine k_ret ?_
          refine k_blk_ret ?_
          refine k_then_ret ?_
          refine k_then_ret ?_
          refine k_blk_ret ?_
          refine k_then_ret ?_
          obtain rfl := Option.some.inj h
          refine k_done (v := .bool false) [] [] [] (by kernel_rfl) (by kernel_rfl) trivial ?_
          refine K.drop ?_
          refine K.drop ?_
          refine K.drop ?_
          exact k_end ⟨rfl, rfl⟩
         ·have h := condF h t42
          refine k_skip ?_
          refine k_blk ?_
          refine k_then ?_
          refine k_region ?_
          refine kl_steps 3 [(0, .int .i64 (IntKind.i64.wrap (Int.tmod (IntKind.u64.wrap a0) (300 : Int)))), (5, .pointer (some ⟨b14, 0, none⟩)), (7, .int .i64 (IntKind.i64.wrap (x22 + (1 : Int))))] (by kernel_rfl) ?_
          refine k_nil ?_
          refine k_then ?_
          exact k_again m23 (IntKind.i64.wrap (x22 + (1 : Int))) (Nat.lt_succ_self _) h ⟨rfl, rfl, rfl, trivial⟩ rfl
        ·have h := condF h t24
         refine k_exit ?_
         refine k_then_exit ?_
         refine k_then_exit ?_
         refine k_here ?_
         refine k_then ?_
         refine K.drop ?_
         refine K.drop ?_
         refine K.drop ?_
         exact k_meet () h trivial rfl
    ·have h := hq19
     clear hq19
     refine k_region ?_
     refine kl_steps 1 [(0, .int .i64 (IntKind.i64.wrap (Int.tmod (IntKind.u64.wrap a0) (300 : Int)))), (5, .pointer (some ⟨b14, 0, none⟩)), (44, .pointer (some ⟨b15, 0, none⟩))] (by kernel_rfl) ?_
     refine kl_load (v := .int .i64 r5.2.2.1) [.val (.int .i64 r5.2.2.1)] [.ld ⟨b15, 0, none⟩ (.int .i64 r5.2.2.1)] (by kernel_rfl) (by kernel_rfl) (by kernel_rfl) ⟨⟨0, _, _, _, rfl, rfl, rfl⟩, trivial⟩ ?_
     refine K.drop ?_
     refine kl_steps 2 [(0, .int .i64 (IntKind.i64.wrap (Int.tmod (IntKind.u64.wrap a0) (300 : Int)))), (5, .pointer (some ⟨b14, 0, none⟩)), (47, .bool (r5.2.2.1 != (0 : Int)))] (by kernel_rfl) ?_
     rcases Bool.eq_false_or_eq_true ((r5.2.2.1 != (0 : Int))) with t43 | t43
     ·have h := condT h t43
      refine K.weak (env' := [(0, .int .i64 (IntKind.i64.wrap (Int.tmod (IntKind.u64.wrap a0) (300 : Int)))), (5, .pointer (some ⟨b14, 0, none⟩)), (47, .bool true)]) ?_ ⟨rfl, rfl, congrArg (fun b => some (Value.bool b)) t43, trivial⟩
      refine kl_steps 23 [(0, .int .i64 (IntKind.i64.wrap (Int.tmod (IntKind.u64.wrap a0) (300 : Int)))), (5, .pointer (some ⟨b14, 0, none⟩)), (70, .bool true)] (by kernel_rfl) ?_
      refine k_nil ?_
      refine k_then ?_
      exact k_meet1 ⟨rfl, rfl, congrArg (fun b => some (Value.bool b)) (Option.some.inj h), trivial⟩
     ·have h := condF h t43
      refine K.weak (env' := [(0, .int .i64 (IntKind.i64.wrap (Int.tmod (IntKind.u64.wrap a0) (300 : Int)))), (5, .pointer (some ⟨b14, 0, none⟩)), (47, .bool false)]) ?_ ⟨rfl, rfl, congrArg (fun b => some (Value.bool b)) t43, trivial⟩
      refine kl_steps 1 [(0, .int .i64 (IntKind.i64.wrap (Int.tmod (IntKind.u64.wrap a0) (300 : Int)))), (5, .pointer (some ⟨b14, 0, none⟩)), (47, .bool false), (48, .pointer (some ⟨b14, 0, none⟩))] (by kernel_rfl) ?_
      refine kl_load (v := .slice A7 r5.1.length k8) [.val (.slice A7 r5.1.length k8)] [.ld ⟨b14, 0, none⟩ (.slice A7 r5.1.length k8)] (by kernel_rfl) (by kernel_rfl) (by kernel_rfl) ⟨⟨0, _, _, _, rfl, rfl, rfl⟩, trivial⟩ ?_
      refine kl_steps 4 [(0, .int .i64 (IntKind.i64.wrap (Int.tmod (IntKind.u64.wrap a0) (300 : Int)))), (5, .pointer (some ⟨b14, 0, none⟩)), (53, .bool (((r5.1.length : Nat) : Int) != (1 : Int)))] (by kernel_rfl) ?_
      rcases Bool.eq_false_or_eq_true ((((r5.1.length : Nat) : Int) != (1 : Int))) with t44 | t44
      ·have h := condT h t44
       refine K.weak (env' := [(0, .int .i64 (IntKind.i64.wrap (Int.tmod (IntKind.u64.wrap a0) (300 : Int)))), (5, .pointer (some ⟨b14, 0, none⟩)), (53, .bool true)]) ?_ ⟨rfl, rfl, congrArg (fun b => some (Value.bool b)) t44, trivial⟩
       refine kl_steps 17 [(0, .int .i64 (IntKind.i64.wrap (Int.tmod (IntKind.u64.wrap a0) (300 : Int)))), (5, .pointer (some ⟨b14, 0, none⟩)), (70, .bool true)] (by kernel_rfl) ?_
       refine k_nil ?_
       refine k_then ?_
       exact k_meet1 ⟨rfl, rfl, congrArg (fun b => some (Value.bool b)) (Option.some.inj h), trivial⟩
      ·have h := condF h t44
       refine K.weak (env' := [(0, .int .i64 (IntKind.i64.wrap (Int.tmod (IntKind.u64.wrap a0) (300 : Int)))), (5, .pointer (some ⟨b14, 0, none⟩)), (53, .bool false)]) ?_ ⟨rfl, rfl, congrArg (fun b => some (Value.bool b)) t44, trivial⟩
       refine kl_steps 1 [(0, .int .i64 (IntKind.i64.wrap (Int.tmod (IntKind.u64.wrap a0) (300 : Int)))), (5, .pointer (some ⟨b14, 0, none⟩)), (53, .bool false), (54, .pointer (some ⟨b14, 0, none⟩))] (by kernel_rfl) ?_
       refine kl_load (v := .slice A7 r5.1.length k8) [.val (.slice A7 r5.1.length k8)] [.ld ⟨b14, 0, none⟩ (.slice A7 r5.1.length k8)] (by kernel_rfl) (by kernel_rfl) (by kernel_rfl) ⟨⟨0, _, _, _, rfl, rfl, rfl⟩, trivial⟩ ?_
       obtain ⟨x45, hx45, h⟩ := bindSome h
       refine kl_elemR (T := 42) (kd := .i64) (R := rs42) rfl (by kernel_rfl) (by kernel_rfl) (by kernel_rfl) (by kernel_rfl) (by kernel_rfl) (by kernel_rfl) hx45 (OwnR.rd o9) fun p46 u49 q50 e47 y48 => ?_
       obtain ⟨A51, k52, rfl, o53⟩ := rs42_r q50
       refine kl_efieldP (off := 4) rfl (by kernel_rfl) (by kernel_rfl) (by kernel_rfl) (by kernel_rfl) e47 y48 fun p54 e55 y56 => ?_
       have e55 : Elem _ p54 [.slice A51 x45.2.2.2.2.length k52] := e55
       refine kl_eload1 rfl (by kernel_rfl) (by kernel_rfl) (by kernel_rfl) (by kernel_rfl) e55 (.tail _ (.head _)) ?_
       refine kl_steps 5 [(0, .int .i64 (IntKind.i64.wrap (Int.tmod (IntKind.u64.wrap a0) (300 : Int)))), (5, .pointer (some ⟨b14, 0, none⟩)), (63, .bool (((x45.2.2.2.2.length : Nat) : Int) != (IntKind.i64.wrap (Int.tmod (IntKind.u64.wrap a0) (300 : Int)))))] (by kernel_rfl) ?_
       rcases Bool.eq_false_or_eq_true ((((x45.2.2.2.2.length : Nat) : Int) != (IntKind.i64.wrap (Int.tmod (IntKind.u64.wrap a0) (300 : Int))))) with t57 | t57
       ·have h := condT h t57
        refine K.weak (env' := [(0, .int .i64 (IntKind.i64.wrap (Int.tmod (IntKind.u64.wrap a0) (300 : Int)))), (5, .pointer (some ⟨b14, 0, none⟩)), (63, .bool true)]) ?_ ⟨rfl, rfl, congrArg (fun b => some (Value.bool b)) t57, trivial⟩
        refine kl_steps 7 [(0, .int .i64 (IntKind.i64.wrap (Int.tmod (IntKind.u64.wrap a0) (300 : Int)))), (5, .pointer (some ⟨b14, 0, none⟩)), (70, .bool true)] (by kernel_rfl) ?_
        refine k_nil ?_
        refine k_then ?_
        exact k_meet1 ⟨rfl, rfl, congrArg (fun b => some (Value.bool b)) (Option.some.inj h), trivial⟩
       ·have h := condF h t57
        refine K.weak (env' := [(0, .int .i64 (IntKind.i64.wrap (Int.tmod (IntKind.u64.wrap a0) (300 : Int)))), (5, .pointer (some ⟨b14, 0, none⟩)), (63, .bool false)]) ?_ ⟨rfl, rfl, congrArg (fun b => some (Value.bool b)) t57, trivial⟩
        refine kl_steps 1 [(0, .int .i64 (IntKind.i64.wrap (Int.tmod (IntKind.u64.wrap a0) (300 : Int)))), (5, .pointer (some ⟨b14, 0, none⟩)), (63, .bool false), (64, .pointer (some ⟨b14, 0, none⟩))] (by kernel_rfl) ?_
        refine kl_load (v := .slice A7 r5.1.length k8) [.val (.slice A7 r5.1.length k8)] [.ld ⟨b14, 0, none⟩ (.slice A7 r5.1.length k8)] (by kernel_rfl) (by kernel_rfl) (by kernel_rfl) ⟨⟨0, _, _, _, rfl, rfl, rfl⟩, trivial⟩ ?_
        obtain ⟨x58, hx58, h⟩ := bindSome h
        refine kl_elemR (T := 42) (kd := .i64) (R := rs42) rfl (by kernel_rfl) (by kernel_rfl) (by kernel_rfl) (by kernel_rfl) (by kernel_rfl) (by kernel_rfl) hx58 (OwnR.rd o9) fun p59 u62 q63 e60 y61 => ?_
        obtain ⟨A64, k65, rfl, o66⟩ := rs42_r q63
        refine kl_efieldP (off := 3) rfl (by kernel_rfl) (by kernel_rfl) (by kernel_rfl) (by kernel_rfl) e60 y61 fun p67 e68 y69 => ?_
        have e68 : Elem _ p67 [.int .i64 x58.2.2.2.1, .slice A64 x58.2.2.2.2.length k65] := e68
        refine kl_eload1 rfl (by kernel_rfl) (by kernel_rfl) (by kernel_rfl) (by kernel_rfl) e68 (.tail _ (.head _)) ?_
        refine kl_steps 2 [(0, .int .i64 (IntKind.i64.wrap (Int.tmod (IntKind.u64.wrap a0) (300 : Int)))), (5, .pointer (some ⟨b14, 0, none⟩)), (70, .bool (x58.2.2.2.1 != (0 : Int)))] (by kernel_rfl) ?_
        refine k_nil ?_
        refine k_then ?_
        exact k_meet1 ⟨rfl, rfl, congrArg (fun b => some (Value.bool b)) (Option.some.inj h), trivial⟩
  ·skip
   refine k_seq ?_
   refine k_region ?_
   refine kl_steps 1 [(0, .int .i64 (IntKind.i64.wrap (Int.tmod (IntKind.u64.wrap a0) (300 : Int)))), (3, .string (⟨#[]⟩ : ByteArray)), (4, .int .i64 (0 : Int))] (by kernel_rfl) ?_
   refine k_nil ?_
   refine k_then ?_
   refine k_block ?_
   refine k_loop (τ := ByteArray × Int) (fun t => [(0, .int .i64 (IntKind.i64.wrap (Int.tmod (IntKind.u64.wrap a0) (300 : Int)))), (3, .string t.1), (4, .int .i64 t.2)]) (fun t => X) (fun m t => law13_CheckConsts.l1 m a0 J4 t.1 t.2 = some r) k ((⟨#[]⟩ : ByteArray), (0 : Int)) h ⟨rfl, rfl, rfl, trivial⟩ rfl ?_
   clear h
   rintro m72 ⟨x70, x71⟩ h
   cases m72 with
   | zero => simp [law13_CheckConsts.l1] at h
   | succ m72 =>
    simp only [law13_CheckConsts.l1] at h
    refine k_seq ?_
    refine k_seq ?_
    refine k_region ?_
    refine kl_steps 3 [(0, .int .i64 (IntKind.i64.wrap (Int.tmod (IntKind.u64.wrap a0) (300 : Int)))), (3, .string x70), (4, .int .i64 x71), (16, .bool (decide (x71 < (IntKind.i64.wrap (Int.tmod (IntKind.u64.wrap a0) (300 : Int))))))] (by kernel_rfl) ?_
    refine k_nil ?_
    refine k_then ?_
    refine k_cond (t := decide (x71 < (IntKind.i64.wrap (Int.tmod (IntKind.u64.wrap a0) (300 : Int))))) (by kernel_rfl) (fun t73 => ?_) (fun t73 => ?_)
    ·have h := condT h t73
     refine k_skip ?_
     refine k_then ?_
     refine k_seq ?_
     refine k_block ?_
     refine k_region ?_
     refine kl_steps 2 [(0, .int .i64 (IntKind.i64.wrap (Int.tmod (IntKind.u64.wrap a0) (300 : Int)))), (3, .string x70), (4, .int .i64 x71), (19, .string x70), (20, .int .i64 x71)] (by kernel_rfl) ?_
     obtain ⟨r74, hr74, h⟩ := bindSome h
     refine kl_callv (by kernel_rfl) (by kernel_rfl) (by kernel_rfl) (r02_Format.ok hr74) trivial ?_
     obtain ⟨s75, hs75, h⟩ := bindSome h
     refine kl_cat rfl (by kernel_rfl) (by kernel_rfl) (by kernel_rfl) (by kernel_rfl) hs75 ?_
     obtain ⟨s76, hs76, h⟩ := bindSome h
     refine kl_cat rfl (by kernel_rfl) (by kernel_rfl) (by kernel_rfl) (by kernel_rfl) hs76 ?_
     refine kl_steps 1 [(0, .int .i64 (IntKind.i64.wrap (Int.tmod (IntKind.u64.wrap a0) (300 : Int)))), (3, .string x70), (4, .int .i64 x71), (19, .string x70), (23, .string s76), (24, .int .i64 x71)] (by kernel_rfl) ?_
     obtain ⟨r77, hr77, h⟩ := bindSome h
     refine kl_callv (by kernel_rfl) (by kernel_rfl) (by kernel_rfl) (r02_Format.ok hr77) trivial ?_
     obtain ⟨s78, hs78, h⟩ := bindSome h
     refine kl_cat rfl (by kernel_rfl) (by kernel_rfl) (by kernel_rfl) (by kernel_rfl) hs78 ?_
     obtain ⟨s79, hs79, h⟩ := bindSome h
     refine kl_cat rfl (by kernel_rfl) (by kernel_rfl) (by kernel_rfl) (by kernel_rfl) hs79 ?_
     obtain ⟨s80, hs80, h⟩ := bindSome h
     refine kl_cat rfl (by kernel_rfl) (by kernel_rfl) (by kernel_rfl) (by kernel_rfl) hs80 ?_
     refine kl_steps 1 [(0, .int .i64 (IntKind.i64.wrap (Int.tmod (IntKind.u64.wrap a0) (300 : Int)))), (3, .string s80), (4, .int .i64 x71)] (by kernel_rfl) ?_
     refine k_nil ?_
     refine k_blk ?_
     refine k_then ?_
     refine k_region ?_
     refine kl_steps 3 [(0, .int .i64 (IntKind.i64.wrap (Int.tmod (IntKind.u64.wrap a0) (300 : Int)))), (3, .string s80), (4, .int .i64 (IntKind.i64.wrap (x71 + (1 : Int))))] (by kernel_rfl) ?_
     refine k_nil ?_
     refine k_then ?_
     exact k_again m72 (s80, IntKind.i64.wrap (x71 + (1 : Int))) (Nat.lt_succ_self _) h ⟨rfl, rfl, rfl, trivial⟩ rfl
    ·have h := condF h t73
     refine k_exit ?_
     refine k_then_exit ?_
     refine k_then_exit ?_
     refine k_here ?_
     refine k_then ?_
     exact k_meet x70 h ⟨rfl, rfl, trivial⟩ rfl
end Go.Proofs.YtdkgnlaneccioaaGreatDoor
namespace Go.Proofs.YtdkgnlaneccioaaGreatDoor
open Go Go.RowKit Lx
def dg (i : Nat) : Bs := if i < 10 then [UInt8.ofNat (48 + i)] else if i < 100 then [UInt8.ofNat (48 + i / 10), UInt8.ofNat (48 + i % 10)] else [UInt8.ofNat (48 + i / 100), UInt8.ofNat (48 + i / 10 % 10), UInt8.ofNat (48 + i % 10)]
theorem format_all (m : Nat) : ((List.range 300).map fun i : Nat => (r02_Format.f (m + 20) (i : Int))) = (List.range 300).map fun i : Nat => some (str (dg i)) := by kernel_rfl
theorem format_eq (k : Nat) (hk : 20 ≤ k) (i : Nat) (hi : i < 300) : r02_Format.f k (i : Int) = some (str (dg i)) := by
 obtain ⟨m, rfl⟩ : ∃ m, k = m + 20 := ⟨k - 20, by omega⟩
 exact List.map_inj_left.1 (format_all m) i (List.mem_range.2 hi)
theorem dg_len (i : Nat) : 1 ≤ (dg i).length ∧ (dg i).length ≤ 3 := by unfold dg; (repeat' split) <;> simp
theorem number_all : ((List.range 300).map fun i : Nat => stepF (dg i)) = (List.range 300).map fun i : Nat => Step.tok 3 (dg i) (i : Int) (dg i).length := by kernel_rfl
theorem number_step (i : Nat) (hi : i < 300) : stepF (dg i) = .tok 3 (dg i) (i : Int) (dg i).length := List.map_inj_left.1 number_all i (List.mem_range.2 hi)
theorem catE {a b : ByteArray} (h : a.size + b.size ≤ 9223372036854775807) : sCat a b = some (str (bs a ++ bs b)) := by
 rw [catC h]
 have : a ++ b = str (bs a ++ bs b) := bs_inj (by rw [bs_str]; simp [bs])
 rw [this]
theorem skip32 (x : Bs) (at_ : Nat) (acc : List Tok) : scanL (32 :: x) at_ acc = scanL x (at_ + 1) acc := scanL_blanks x at_ acc [32] (by decide)
theorem scanL_tok (w x t : Bs) (at_ : Nat) (acc : List Tok) (k n : Int) (hst : stepF (w ++ x) = .tok k t n w.length) (h0 : runL blankR (w ++ x) = 0) : scanL (w ++ x) at_ acc = scanL x (at_ + w.length) (acc ++ [⟨k, t, n, at_⟩]) := by
 rw [scanL_step, h0, List.drop_zero, Nat.add_zero, hst]
 simp only
 rw [List.drop_left]
end Go.Proofs.YtdkgnlaneccioaaGreatDoor
namespace Go.Proofs.YtdkgnlaneccioaaGreatDoor
open Go Go.RowKit Lx
theorem blockL_stat (f : Nat) (c : Bool) (at_ : Int) (acc : List Tree) (ts r : List Tk) (x : Tree) (h1 : isH kSemi ts = false) (h2 : isH kReturn ts = false) (h3 : isH kFunction ts = false) (h4 : endsH ts = false) (hx : pStat f ts = some (.ok x r)) :
  pBlockL (f + 1) c at_ acc ts = pBlockL f c at_ (acc ++ [x]) r := by
 rw [pBlockL, h1, h2, h3, h4, Bool.and_false, hx]
 rfl
theorem blockL_end (f : Nat) (c : Bool) (at_ : Int) (acc : List Tree) (ts : List Tk) (h1 : isH kSemi ts = false) (h2 : isH kReturn ts = false) (h3 : isH kFunction ts = false) (h4 : endsH ts = true) :
  pBlockL (f + 1) c at_ acc ts = some (.ok (.mk 20 noB 0 at_ acc) ts) := by
 rw [pBlockL, h1, h2, h3, h4, Bool.and_false]
 rfl
theorem num_p (f : Nat) (t : ByteArray) (v p : Int) (R : List Tk) (hR : bindsH R = 0) : pExp (f + 3) 0 ((3, t, v, p) :: R) = some (.ok (.mk 4 noB v p []) R) := by
 rw [pExp, pOperand, if_pos (show (hd ((3, t, v, p) :: R)).1 = 3 from rfl)]
 show pLoop (f + 2) 0 (.mk 4 noB v p []) R = _
 rw [pLoop, if_pos (by omega)]
theorem word_scan (w x : Bs) (at_ : Nat) (acc : List Tok) (k n : Int) (hw : w ≠ []) (hg : Gap x) (hst : stepF w = .tok k w n w.length) (h0 : runL blankR w = 0) : scanL (w ++ x) at_ acc = scanL x (at_ + w.length) (acc ++ [⟨k, w, n, at_⟩]) :=
 scanL_tok w x w at_ acc k n (stepF_append w x hw hg _ _ _ _ hst) (by rw [runL_append blankR _ hg.low w.length w (Nat.le_refl _) (.inl (by rw [h0]; exact List.length_pos_iff.2 hw)), h0])
theorem gap32 (r : Bs) : Gap (32 :: r) := ⟨32, r, rfl, .inl rfl⟩
theorem few_ok {a c m : Int} (h : c ≤ m) : fewC a c m = .ok () := by unfold fewC; rw [if_neg (by omega)]
theorem few_no {a c m : Int} (h : c > m) : fewC a c m = .bad (6, a) := by unfold fewC; rw [if_pos h]
theorem thOk {α β ε : Type} (a : α) (f : α → PR β ε) : (PR.ok a : PR α ε).th f = f a := rfl
theorem int_c (d : Nat) (ab : List ByteArray) (s : CSt) (t : ByteArray) (n p : Int) (tg : Bool) : nodeC (d + 1) ab s (.mk 4 t n p []) tg = (constC p s.cs (2, n, ⟨#[]⟩)).th fun cs => .ok { s with cs := cs } := by
 unfold nodeC
 rw [if_neg (by decide), if_neg (by decide), if_neg (by decide), if_neg (by decide), if_neg (by decide), if_neg (by decide), if_neg (by decide), if_neg (by decide)]
 unfold expC
 rw [if_neg (by decide), if_neg (by decide), if_neg (by decide), if_pos rfl]
 rfl
theorem fixedL : law13_fixed.f 1000000 = some true := by kernel_rfl
theorem mod_nat (x : Int) (m : Nat) (hm : 0 < m) (hm' : m ≤ 1000000) : ∃ n : Nat, IntKind.i64.wrap (Int.tmod (IntKind.u64.wrap x) (m : Int)) = n ∧ n < m := by
 have h0 : 0 ≤ IntKind.u64.wrap x := by unfold IntKind.wrap; simp [IntKind.bits, IntKind.signed]; omega
 have h1 : Int.tmod (IntKind.u64.wrap x) (m : Int) = (IntKind.u64.wrap x) % (m : Int) := Int.tmod_eq_emod_of_nonneg h0
 have h2 := Int.emod_nonneg (IntKind.u64.wrap x) (b := (m : Int)) (by omega)
 have h3 := Int.emod_lt_of_pos (IntKind.u64.wrap x) (b := (m : Int)) (by omega)
 rw [h1, wiC _ (by omega) (by omega)]
 exact ⟨((IntKind.u64.wrap x) % (m : Int)).toNat, by omega, by omega⟩
end Go.Proofs.YtdkgnlaneccioaaGreatDoor
namespace Go.Proofs.YtdkgnlaneccioaaGreatDoor
open Go Go.RowKit Lx
def lnB (i : Nat) : Bs := [120, 32, 61, 32] ++ dg i ++ [32, 120, 32, 61, 32] ++ dg i
def lnT (i p : Nat) : List Tok := [⟨1, [120], 0, p⟩, ⟨5, [61], 0, p + 2⟩, ⟨3, dg i, i, p + 4⟩, ⟨1, [120], 0, p + 4 + (dg i).length + 1⟩, ⟨5, [61], 0, p + 4 + (dg i).length + 3⟩, ⟨3, dg i, i, p + 4 + (dg i).length + 5⟩]
theorem num_scan (i : Nat) (hi : i < 300) (x : Bs) (hg : Gap x) (p : Nat) (acc : List Tok) : scanL (dg i ++ x) p acc = scanL x (p + (dg i).length) (acc ++ [⟨3, dg i, i, p⟩]) := by
 have hne : dg i ≠ [] := by have := (dg_len i).1; intro e; rw [e] at this; cases this
 have h0 : ∀ j ∈ List.range 300, runL blankR (dg j) = 0 := by decide +kernel
 exact word_scan (dg i) x p acc 3 i hne hg (number_step i hi) (h0 i (List.mem_range.2 hi))
theorem x_scan (r : Bs) (p : Nat) (acc : List Tok) : scanL (120 :: 32 :: 61 :: 32 :: r) p acc = scanL r (p + 4) (acc ++ [⟨1, [120], 0, p⟩, ⟨5, [61], 0, p + 2⟩]) := by
 have h1 := word_scan [120] (32 :: 61 :: 32 :: r) p acc 1 0 (by simp) (gap32 _) (by kernel_rfl) (by kernel_rfl)
 have h2 := word_scan [61] (32 :: r) (p + 1 + 1) (acc ++ [⟨1, [120], 0, p⟩]) 5 0 (by simp) (gap32 _) (by kernel_rfl) (by kernel_rfl)
 simp only [List.cons_append, List.nil_append, List.length_cons, List.length_nil, Nat.zero_add] at h1 h2
 rw [h1, skip32, h2, skip32, List.append_assoc]
 rfl
theorem line_scan (i : Nat) (hi : i < 300) (r : Bs) (p : Nat) (acc : List Tok) : scanL (lnB i ++ 10 :: r) p acc = scanL r (p + (lnB i).length + 1) (acc ++ lnT i p) := by
 have e10 : ∀ (x : Bs) (at_ : Nat) (acc : List Tok), scanL (10 :: x) at_ acc = scanL x (at_ + 1) acc := fun x at_ acc => scanL_blanks x at_ acc [10] (by decide)
 have g10 : Gap (10 :: r) := ⟨10, r, rfl, .inr (.inl rfl)⟩
 unfold lnB lnT
 simp only [List.append_assoc, List.cons_append, List.nil_append]
 rw [x_scan, num_scan i hi _ (gap32 _), skip32, x_scan, num_scan i hi _ g10, e10]
 simp only [List.append_assoc, List.cons_append, List.nil_append, List.length_cons, List.length_append, List.length_nil]
 rw [show p + 4 + (dg i).length + 1 + 4 + (dg i).length + 1 = p + ((dg i).length + ((dg i).length + 1 + 1 + 1 + 1 + 1) + 1 + 1 + 1 + 1) + 1 by omega]
def lnsB (i : Nat) : Nat → Bs
 | 0 => []
 | d + 1 => lnB i ++ 10 :: lnsB (i + 1) d
def lnsT (i p : Nat) : Nat → List Tok
 | 0 => [⟨6, [], 0, p⟩]
 | d + 1 => lnT i p ++ lnsT (i + 1) (p + (lnB i).length + 1) d
theorem lines_scan : ∀ (d i p : Nat) (acc : List Tok), i + d ≤ 300 → scanL (lnsB i d) p acc = .inr (acc ++ lnsT i p d)
 | 0, i, p, acc, _ => by rw [lnsB, lnsT, scanL_step]; rfl
 | d + 1, i, p, acc, h => by
  rw [lnsB, lnsT, line_scan i (by omega), lines_scan d (i + 1) _ _ (by omega), List.append_assoc]
theorem lnB_len (i : Nat) : (lnB i).length ≤ 15 := by
 have := dg_len i
 simp only [lnB, List.length_append, List.length_cons, List.length_nil]; omega
theorem lnsB_len : ∀ (d i : Nat), (lnsB i d).length ≤ 16 * d
 | 0, _ => by simp [lnsB]
 | d + 1, i => by
  have := lnB_len i
  have := lnsB_len d (i + 1)
  simp only [lnsB, List.length_append, List.length_cons]; omega
def asT (i p : Nat) : List Tk := [(1, str [120], 0, (p : Int)), (5, str [61], 0, ((p + 2 : Nat) : Int)), (3, str (dg i), (i : Int), ((p + 4 : Nat) : Int))]
def asTr (i p : Nat) : Tree := .mk 22 noB 1 (p : Int) [.mk 6 (str [120]) 0 (p : Int) [], .mk 4 noB (i : Int) ((p + 4 : Nat) : Int) []]
theorem exps_one (f : Nat) (t : ByteArray) (v p : Int) (R : List Tk) (hR : bindsH R = 0) (hc : isH kComma R = false) : pExps (f + 4) ((3, t, v, p) :: R) = some (.ok [.mk 4 noB v p []] R) := by
 rw [pExps, num_p f t v p R hR]
 show pExpsL (f + 3) [.mk 4 noB v p []] R = _
 rw [pExpsL, hc]
 rfl
theorem suf_name (f : Nat) (t : ByteArray) (n p : Int) (R : List Tk) (h1 : isH kLp ((1, t, n, p) :: R) = false) (h2 : isH kLb R = false) (h3 : isH kDot R = false) (h4 : isH kLp R = false) : pSuffixed (f + 2) ((1, t, n, p) :: R) = some (.ok (.mk 6 t 0 p []) R) := by
 rw [pSuffixed, h1]
 show pSufL (f + 1) p (.mk 6 t 0 p []) R = _
 rw [pSufL, h2, h3, h4]
 rfl
theorem targets_one (f : Nat) (acc : List Tree) (t : ByteArray) (p : Int) (R : List Tk) (h : isH kComma R = false) : pTargets (f + 1) acc (.mk 6 t 0 p []) R = some (.ok (acc ++ [.mk 6 t 0 p []]) R) := by
 rw [pTargets, if_pos (.inl rfl), h]
 rfl
theorem assign_p (i p f : Nat) (R : List Tk) (hR : bindsH R = 0) (hc : isH kComma R = false) : pStat (f + 8) (asT i p ++ R) = some (.ok (asTr i p) R) := by
 unfold asT asTr
 simp only [List.cons_append, List.nil_append]
 rw [pStat, if_neg (ne_true_of_eq_false (by kernel_rfl)), if_neg (ne_true_of_eq_false (by kernel_rfl)), if_neg (ne_true_of_eq_false (by kernel_rfl)), if_neg (ne_true_of_eq_false (by kernel_rfl)), if_neg (ne_true_of_eq_false (by kernel_rfl)), if_neg (ne_true_of_eq_false (by kernel_rfl))]
 rw [pPlain, suf_name (f + 4) _ _ _ _ (by kernel_rfl) (by kernel_rfl) (by kernel_rfl) (by kernel_rfl)]
 show (if (isH kEq _ || isH kComma _) = true then _ else _) = _
 rw [if_pos (by kernel_rfl), targets_one (f + 5) [] _ _ _ (by kernel_rfl)]
 show PV.bind (pWant kEq _) _ = _
 unfold pWant
 rw [if_pos (by kernel_rfl)]
 show PV.bind (pExps (f + 6) ((3, str (dg i), (i : Int), ((p + 4 : Nat) : Int)) :: R)) _ = _
 rw [exps_one (f + 2) _ _ _ R hR hc]
 rfl
def lnsTr (i p : Nat) : Nat → List Tree
 | 0 => []
 | d + 1 => asTr i p :: asTr i (p + 4 + (dg i).length + 1) :: lnsTr (i + 1) (p + (lnB i).length + 1) d
theorem lines_head (d i p : Nat) : ∃ R t, (lnsT i p d).map tokT = R ∧ (R = (6, str [], 0, (p : Int)) :: t ∨ R = (1, str [120], 0, (p : Int)) :: t) := by
 cases d with
 | zero => exact ⟨_, [], rfl, .inl rfl⟩
 | succ d => exact ⟨_, _, rfl, .inr rfl⟩
theorem head_no (R : List Tk) (p : Int) (t : List Tk) (h : R = (6, str [], 0, p) :: t ∨ R = (1, str [120], 0, p) :: t) : bindsH R = 0 ∧ isH kComma R = false := by
 rcases h with rfl | rfl
 ·exact ⟨by kernel_rfl, by kernel_rfl⟩
 ·exact ⟨by kernel_rfl, by kernel_rfl⟩
theorem lines_p (at_ : Int) : ∀ (d i p f : Nat) (acc : List Tree), 2 * d + 20 ≤ f → ∃ e, pBlockL f true at_ acc ((lnsT i p d).map tokT) = some (.ok (.mk 20 noB 0 at_ (acc ++ lnsTr i p d)) [(6, str [], 0, e)])
 | 0, i, p, f, acc, hf => by
  obtain ⟨f, rfl⟩ : ∃ m, f = m + 1 := ⟨f - 1, by omega⟩
  refine ⟨(p : Int), ?_⟩
  rw [lnsTr, List.append_nil]
  exact blockL_end f true at_ acc _ (by kernel_rfl) (by kernel_rfl) (by kernel_rfl) (by kernel_rfl)
 | d + 1, i, p, f, acc, hf => by
  obtain ⟨f, rfl⟩ : ∃ m, f = m + 12 := ⟨f - 12, by omega⟩
  obtain ⟨e, ih⟩ := lines_p at_ d (i + 1) (p + (lnB i).length + 1) (f + 10) (acc ++ [asTr i p] ++ [asTr i (p + 4 + (dg i).length + 1)]) (by omega)
  obtain ⟨R, t, hR, ht⟩ := lines_head d (i + 1) (p + (lnB i).length + 1)
  rw [hR] at ih
  have hn := head_no R _ t ht
  refine ⟨e, ?_⟩
  have eT : (lnsT i p (d + 1)).map tokT = asT i p ++ (asT i (p + 4 + (dg i).length + 1) ++ R) := by
   rw [lnsT, List.map_append, hR]
   rfl
  rw [eT]
  rw [blockL_stat (f + 11) true at_ acc _ (asT i (p + 4 + (dg i).length + 1) ++ R) (asTr i p) (by kernel_rfl) (by kernel_rfl) (by kernel_rfl) (by kernel_rfl) (assign_p i p (f + 3) _ (by kernel_rfl) (by kernel_rfl))]
  rw [blockL_stat (f + 10) true at_ _ _ R (asTr i (p + 4 + (dg i).length + 1)) (by kernel_rfl) (by kernel_rfl) (by kernel_rfl) (by kernel_rfl) (assign_p i _ (f + 2) R hn.1 hn.2), ih]
  rw [lnsTr, List.append_assoc, List.append_assoc]
  rfl
theorem lnsT_len : ∀ (d i p : Nat), (lnsT i p d).length = 6 * d + 1
 | 0, _, _ => rfl
 | d + 1, i, p => by simp only [lnsT, lnT, List.length_append, List.length_cons, List.length_nil, lnsT_len d]; omega
theorem consts_parse (n : Nat) (hn : n < 300) : parseV (str (lnsB 0 n)) = treeV (.mk 20 noB 0 0 (lnsTr 0 0 n)) := by
 have hl := lnsB_len n 0
 have hs : scanF (lnsB 0 n) = .inr (lnsT 0 0 n) := by
  rw [scanF_small _ (by omega), lines_scan n 0 0 [] (by omega)]
  rfl
 obtain ⟨e, h⟩ := lines_p (at0 ((lnsT 0 0 n).map tokT)) n 0 0 (fu ((lnsT 0 0 n).map tokT) - 1) [] (by unfold fu; rw [List.length_map, lnsT_len]; omega)
 refine parseV_ok (r := [(6, str [], 0, e)]) (by rw [bs_str]; exact hs) ?_
 unfold vAll vBlock
 have hf : pBlock (fu ((lnsT 0 0 n).map tokT)) true ((lnsT 0 0 n).map tokT) = some (.ok (.mk 20 noB 0 (at0 ((lnsT 0 0 n).map tokT)) (lnsTr 0 0 n)) [(6, str [], 0, e)]) := by
  obtain ⟨m, hm⟩ : ∃ m, fu ((lnsT 0 0 n).map tokT) = m + 1 := ⟨fu ((lnsT 0 0 n).map tokT) - 1, by unfold fu; omega⟩
  rw [hm] at h ⊢
  rw [pBlock]
  exact h
 rw [hf]
 have h0 : at0 ((lnsT 0 0 n).map tokT) = 0 := by cases n <;> rfl
 rw [h0]
 rfl
def csTo : Nat → List V3
 | 0 => []
 | n + 1 => csTo n ++ [(2, (n : Int), ⟨#[]⟩)]
theorem csTo_len (n : Nat) : (csTo n).length = n := by induction n with
 | zero => rfl
 | succ n ih => simp only [csTo, List.length_append, ih, List.length_cons, List.length_nil]
theorem csTo_mem : ∀ (n : Nat) (v : V3), v ∈ csTo n ↔ ∃ i : Nat, i < n ∧ v = (2, (i : Int), ⟨#[]⟩)
 | 0, v => by simp [csTo]
 | n + 1, v => by
  simp only [csTo, List.mem_append, List.mem_singleton, csTo_mem n]
  constructor
  ·rintro (⟨i, h, rfl⟩ | rfl)
   ·exact ⟨i, by omega, rfl⟩
   ·exact ⟨n, by omega, rfl⟩
  ·rintro ⟨i, h, rfl⟩
   by_cases e : i = n
   ·exact .inr (by rw [e])
   ·exact .inl ⟨i, by omega, rfl⟩
theorem has_cs (n i : Nat) : hasV (csTo n) (2, (i : Int), ⟨#[]⟩) = decide (i < n) := by
 unfold hasV
 by_cases h : i < n
 ·rw [decide_eq_true h, List.any_eq_true]
  exact ⟨_, (csTo_mem n _).2 ⟨i, h, rfl⟩, by simp⟩
 ·rw [decide_eq_false h, List.any_eq_false]
  intro x hx
  obtain ⟨j, hj, rfl⟩ := (csTo_mem n x).1 hx
  have : ((i : Int) == (j : Int)) = false := by rw [beq_eq_false_iff_ne]; omega
  simp [this]
theorem name_c (d : Nat) (ab : List ByteArray) (s : CSt) (t : ByteArray) (n p : Int) (tg : Bool) : nodeC (d + 1) ab s (.mk 6 t n p []) tg = (nameC p t s.gl s.lo ab).th fun gl => .ok { s with gl := gl } := by
 unfold nodeC
 rw [if_neg (by decide), if_neg (by decide), if_neg (by decide), if_neg (by decide), if_neg (by decide), if_neg (by decide), if_neg (by decide), if_neg (by decide)]
 unfold expC
 rw [if_neg (by decide), if_neg (by decide), if_neg (by decide), if_neg (by decide), if_neg (by decide), if_pos rfl]
 rfl
theorem assign_c (d : Nat) (s : CSt) (i p : Nat) (hlo : s.lo = []) (hg : s.gl = [] ∨ s.gl = [str [120]]) : nodeC (d + 2) [] s (asTr i p) false = (constC ((p + 4 : Nat) : Int) s.cs (2, (i : Int), ⟨#[]⟩)).th fun cs => .ok { s with gl := [str [120]], cs := cs } := by
 have hn : nameC (p : Int) (str [120]) s.gl s.lo [] = .ok [str [120]] := by
  rw [hlo]
  rcases hg with hg | hg
  ·rw [hg]; kernel_rfl
  ·rw [hg]; kernel_rfl
 unfold asTr
 rw [nodeC, if_neg (by decide), if_neg (by decide), if_neg (by decide), if_pos rfl, few_ok (by decide), thOk, few_ok (by show ((2 : Nat) : Int) - 1 ≤ 50; decide), thOk]
 unfold asgC
 rw [name_c, hn, thOk, thOk]
 unfold asgC
 rw [int_c]
 cases constC ((p + 4 : Nat) : Int) s.cs (2, (i : Int), ⟨#[]⟩) <;> rfl
theorem const_in {a : Int} {n i : Nat} (h : i < n) : constC a (csTo n) (2, (i : Int), ⟨#[]⟩) = .ok (csTo n) := by
 unfold constC
 rw [has_cs, decide_eq_true h, if_pos rfl]
theorem const_new {a : Int} {n : Nat} (h : n < 250) : constC a (csTo n) (2, (n : Int), ⟨#[]⟩) = .ok (csTo (n + 1)) := by
 unfold constC
 rw [has_cs, decide_eq_false (Nat.lt_irrefl n), if_neg (by decide), csTo_len, few_ok (by omega), thOk]
 rfl
theorem const_full {a : Int} : constC a (csTo 250) (2, ((250 : Nat) : Int), ⟨#[]⟩) = .bad (6, a) := by
 unfold constC
 rw [has_cs, decide_eq_false (Nat.lt_irrefl 250), if_neg (by decide), csTo_len, few_no (by omega)]
 rfl
theorem lines_c (D : Nat) : ∀ (d i p : Nat) (s : CSt), s.lo = [] → (s.gl = [] ∨ s.gl = [str [120]]) → s.cs = csTo i → i ≤ 250 →
  (i + d ≤ 250 → ∃ s', nodesC (fun s x => nodeC (D + 2) [] s x false) s (lnsTr i p d) = .ok s' ∧ s'.cs = csTo (i + d) ∧ s'.sl = s.sl ∧ s'.fs = s.fs) ∧
  (250 < i + d → ∃ q : Nat, nodesC (fun s x => nodeC (D + 2) [] s x false) s (lnsTr i p d) = .bad (6, (q : Int)) ∧ 0 < q)
 | 0, i, p, s, hlo, hg, hc, hi => ⟨fun _ => ⟨s, rfl, hc, rfl, rfl⟩, fun h => by omega⟩
 | d + 1, i, p, s, hlo, hg, hc, hi => by
  by_cases h : i = 250
  ·subst h
   refine ⟨fun h => by omega, fun _ => ⟨p + 4, ?_, by omega⟩⟩
   rw [lnsTr, nodesC, assign_c D s 250 p hlo hg, hc, const_full]
   rfl
  ·have e1 : nodeC (D + 2) [] s (asTr i p) false = .ok { s with gl := [str [120]], cs := csTo (i + 1) } := by
    rw [assign_c D s i p hlo hg, hc, const_new (by omega)]
    rfl
   have e2 : nodeC (D + 2) [] { s with gl := [str [120]], cs := csTo (i + 1) } (asTr i (p + 4 + (dg i).length + 1)) false = .ok { s with gl := [str [120]], cs := csTo (i + 1) } := by
    rw [assign_c D { s with gl := [str [120]], cs := csTo (i + 1) } i _ hlo (.inr rfl), const_in (by omega)]
    rfl
   have ih := lines_c D d (i + 1) (p + (lnB i).length + 1) { s with gl := [str [120]], cs := csTo (i + 1) } hlo (.inr rfl) rfl (by omega)
   rw [show i + 1 + d = i + (d + 1) by omega] at ih
   rw [lnsTr, nodesC, e1, thOk, nodesC, e2, thOk]
   exact ih
theorem hts_lines : ∀ (d i p : Nat), htTs (lnsTr i p d) ≤ 2
 | 0, _, _ => by simp [lnsTr, htTs]
 | d + 1, i, p => by
  have := hts_lines d (i + 1) (p + (lnB i).length + 1)
  simp only [lnsTr, htTs, asTr, htT]
  omega
theorem consts_check (n : Nat) : (n ≤ 250 → ∃ s', treeC 100000 (.mk 20 noB 0 0 (lnsTr 0 0 n)) = .ok s' ∧ s'.cs = csTo n ∧ s'.sl = 0 ∧ s'.fs.tail = []) ∧ (250 < n → ∃ q : Nat, treeC 100000 (.mk 20 noB 0 0 (lnsTr 0 0 n)) = .bad (6, (q : Int)) ∧ 0 < q) := by
 have hh := hts_lines n 0 0
 have h := lines_c 99997 n 0 0 st0 rfl (.inl rfl) rfl (by omega)
 rw [Nat.zero_add] at h
 unfold treeC
 rw [if_neg (by simp only [htT]; omega)]
 show (_ → ∃ s', nodeC (99999 + 1) [] st0 _ false = _ ∧ _) ∧ (_ → ∃ q : Nat, nodeC (99999 + 1) [] st0 _ false = _ ∧ _)
 rw [nodeC, if_pos rfl]
 refine ⟨fun hn => ?_, fun hn => ?_⟩
 ·obtain ⟨s', h1, h2, h3, h4⟩ := h.1 hn
  have h1 : nodesC (fun s x => nodeC 99999 [] s x false) st0 (lnsTr 0 0 n) = .ok s' := h1
  rw [h1, thOk]
  exact ⟨_, rfl, h2, h3, by show s'.fs.tail = []; rw [h4]; rfl⟩
 ·obtain ⟨q, h1, h2⟩ := h.2 hn
  have h1 : nodesC (fun s x => nodeC 99999 [] s x false) st0 (lnsTr 0 0 n) = .bad (6, (q : Int)) := h1
  rw [h1]
  exact ⟨q, rfl, h2⟩
theorem lines_loop (x0 : Int) (n : Nat) (en : IntKind.i64.wrap (Int.tmod (IntKind.u64.wrap x0) (300 : Int)) = n) (hn : n < 300) (J : ByteArray → Option Bool) : ∀ (d i k : Nat) (x : Bs), i + d = n → d + 30 ≤ k → x.length ≤ 20 * i →
  law13_CheckConsts.l1 k x0 J (str x) (i : Int) = J (str (x ++ lnsB i d))
 | 0, i, k, x, hi, hk, _ => by
  obtain ⟨k, rfl⟩ : ∃ m, k = m + 1 := ⟨k - 1, by omega⟩
  simp only [law13_CheckConsts.l1]
  rw [en, ltF (by omega)]
  simp [lnsB]
 | d + 1, i, k, x, hi, hk, hx => by
  obtain ⟨k, rfl⟩ : ∃ m, k = m + 1 := ⟨k - 1, by omega⟩
  have hdl := dg_len i
  have l4 : ByteArray.size ⟨#[120, 32, 61, 32]⟩ = 4 := rfl
  have l5 : ByteArray.size ⟨#[32, 120, 32, 61, 32]⟩ = 5 := rfl
  have l1 : ByteArray.size ⟨#[10]⟩ = 1 := rfl
  have m4 : bs ⟨#[120, 32, 61, 32]⟩ = [120, 32, 61, 32] := rfl
  have m5 : bs ⟨#[32, 120, 32, 61, 32]⟩ = [32, 120, 32, 61, 32] := rfl
  have m1 : bs ⟨#[10]⟩ = [10] := rfl
  simp only [law13_CheckConsts.l1]
  rw [en, ltT (by omega), cond_true, format_eq k (by omega) i (by omega)]
  simp only [Option.bind_some]
  rw [catE (by rw [str_size]; omega), Option.bind_some]
  simp only [bs_str, m4]
  rw [catE (by rw [str_size]; simp only [List.length_append, List.length_cons, List.length_nil]; omega), Option.bind_some]
  simp only [bs_str, m5]
  rw [catE (by rw [str_size, str_size]; simp only [List.length_append, List.length_cons, List.length_nil]; omega), Option.bind_some]
  simp only [bs_str]
  rw [catE (by rw [str_size]; simp only [List.length_append, List.length_cons, List.length_nil]; omega), Option.bind_some]
  simp only [bs_str, m1]
  rw [catE (by rw [str_size, str_size]; simp only [List.length_append, List.length_cons, List.length_nil]; omega), Option.bind_some]
  simp only [bs_str]
  rw [wiC _ (by omega) (by omega)]
  have hlb := lnB_len i
  have e : x ++ ([120, 32, 61, 32] ++ dg i ++ [32, 120, 32, 61, 32] ++ dg i ++ [10]) = x ++ lnB i ++ [10] := by simp only [lnB, List.append_assoc]
  rw [e]
  have ih := lines_loop x0 n en hn J d (i + 1) k (x ++ lnB i ++ [10]) (by omega) (by omega) (by simp only [List.length_append, List.length_cons, List.length_nil]; omega)
  refine ih.trans ?_
  rw [lnsB]
  simp only [List.append_assoc, List.cons_append, List.nil_append]
theorem csTo_get : ∀ (n i : Nat), i < n → (csTo n)[i]? = some (2, (i : Int), ⟨#[]⟩)
 | 0, i, h => by omega
 | n + 1, i, h => by
  unfold csTo
  by_cases e : i < n
  ·rw [List.getElem?_append_left (by rw [csTo_len]; exact e)]
   exact csTo_get n i e
  ·have : i = n := by omega
   subst this
   rw [List.getElem?_append_right (by rw [csTo_len]; omega), csTo_len, Nat.sub_self]
   rfl
theorem cmp_loop (x0 : Int) (n : Nat) (en : IntKind.i64.wrap (Int.tmod (IntKind.u64.wrap x0) (300 : Int)) = n) (hn : n < 300) (r : Rep) (row : FRow) (hr : r.1 = [row]) (hc : row.2.2.2.2 = csTo n) : ∀ (d i k : Nat), i + d = n → d + 1 ≤ k → law13_CheckConsts.l0 k x0 r (fun _ => some true) (i : Int) = some true
 | 0, i, k, hi, hk => by
  obtain ⟨k, rfl⟩ : ∃ m, k = m + 1 := ⟨k - 1, by omega⟩
  simp only [law13_CheckConsts.l0]
  rw [en, ltF (by omega)]
  rfl
 | d + 1, i, k, hi, hk => by
  obtain ⟨k, rfl⟩ : ∃ m, k = m + 1 := ⟨k - 1, by omega⟩
  simp only [law13_CheckConsts.l0]
  rw [en, ltT (by omega), cond_true, hr]
  rw [show ∀ (x : FRow) (l : List FRow), lIdx (x :: l) (0 : Int) = some x from fun _ _ => rfl]
  simp only [Option.bind_some, hc]
  rw [show lIdx (csTo n) (i : Int) = some (2, (i : Int), ⟨#[]⟩) by unfold lIdx; rw [if_pos (by omega), Int.toNat_natCast]; exact csTo_get n i (by omega)]
  simp only [Option.bind_some, r03_I.f, beq_self_eq_true, Bool.and_true, Bool.not_true, cond_false]
  rw [wiC _ (by omega) (by omega)]
  exact cmp_loop x0 n en hn r row hr hc d (i + 1) k (by omega) (by omega)
theorem checkConsts_k (x : Int) (k : Nat) (hk : 1000000 ≤ k) (hfx : law13_fixed.f k = some true) : law13_CheckConsts.f k x = some true := by
 obtain ⟨n, en, hn⟩ := mod_nat x 300 (by omega) (by omega)
 have en : IntKind.i64.wrap (Int.tmod (IntKind.u64.wrap x) (300 : Int)) = n := en
 unfold law13_CheckConsts.f joinF
 rw [hfx]
 simp only [Option.bind_some, Bool.not_true, cond_false]
 have hl := fun J => lines_loop x n en hn J n 0 k [] (by omega) (by omega) (by simp)
 rw [show ((0 : Nat) : Int) = 0 from rfl, show str [] = (⟨#[]⟩ : ByteArray) from rfl] at hl
 rw [hl]
 simp only [List.nil_append]
 rw [check_eq k (by omega), consts_parse n hn]
 unfold treeV
 simp only [ne_eq, not_true_eq_false, if_false, Option.bind_some, Tree.kind, Tree.text, Tree.n, Tree.at_, Tree.kids, en]
 obtain ⟨h1, h2⟩ := consts_check n
 by_cases h : 250 < n
 ·obtain ⟨q, hq, hq0⟩ := h2 h
  rw [hq, decide_eq_true (by omega)]
  simp only [repC, cond_true, beq_self_eq_true, Option.bind_some]
  exact congrArg some (decide_eq_true (by show (q : Int) > 0; omega))
 ·obtain ⟨s', hs, hc, hl, hf⟩ := h1 (by omega)
  rw [hs, decide_eq_false (by omega)]
  simp only [repC, cond_false, hc, hl, hf, bne_self_eq_false, List.length_cons, List.length_nil]
  rw [show ((((0 + 1 : Nat) : Int) != 1)) = false from rfl, cond_false]
  rw [show ∀ (x : FRow) (l : List FRow), lIdx (x :: l) (0 : Int) = some x from fun _ _ => rfl]
  simp only [Option.bind_some, csTo_len, bne_self_eq_false, cond_false]
  have hc' := cmp_loop x n en hn ([(⟨#[]⟩, 0, 0, 0, csTo n)], s'.gl, 0, 0) (⟨#[]⟩, 0, 0, 0, csTo n) rfl rfl n 0 k (by omega) (by omega)
  rw [show ((0 : Nat) : Int) = 0 from rfl] at hc'
  exact hc'
theorem checkConsts_true (x : Int) : law13_CheckConsts.f 1000000 x = some true := checkConsts_k x 1000000 (Nat.le_refl _) fixedL
end Go.Proofs.YtdkgnlaneccioaaGreatDoor
