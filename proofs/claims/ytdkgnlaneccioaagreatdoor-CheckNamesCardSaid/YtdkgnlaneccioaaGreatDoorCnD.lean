/- Texts of mine for checkNames_card, part 4. -/
import Derived.Test.YtdkgnlaneccioaaGreatDoorCnC
set_option linter.unusedSimpArgs false
set_option linter.unusedVariables false
set_option linter.unusedSectionVars false
namespace Go.Proofs.YtdkgnlaneccioaaGreatDoor
open Go Go.RowKit
def rs42 : Rich (ByteArray × Int × Int × Int × List (Int × Int × ByteArray)) := rS1 4 (fun x => [.string x.1, .int .i64 x.2.1, .int .i64 x.2.2.1, .int .i64 x.2.2.2.1]) (fun _ => ⟨rfl, rfl⟩) e53 53 3 (fun x => x.2.2.2.2)
theorem rs42_o {x : ByteArray × Int × Int × Int × List (Int × Int × ByteArray)} {H : Frag} {A : Option Addr} {c : Nat} (h : OwnT e53 53 3 H (.slice A (x.2.2.2.2).length c) (x.2.2.2.2)) : rs42.own x H [.string x.1, .int .i64 x.2.1, .int .i64 x.2.2.1, .int .i64 x.2.2.2.1, .slice A (x.2.2.2.2).length c] := ⟨A, c, rfl, h⟩
theorem rs42_r {x : ByteArray × Int × Int × Int × List (Int × Int × ByteArray)} {H : Frag} {cs : List Value} (h : rs42.rd x H cs) : ∃ A c, cs = [.string x.1, .int .i64 x.2.1, .int .i64 x.2.2.1, .int .i64 x.2.2.2.1, .slice A (x.2.2.2.2).length c] ∧ RdT e53 3 H (.slice A (x.2.2.2.2).length c) (x.2.2.2.2) := h
theorem ety26 : ElemTy Tryz.prog 26 9 1 16 Tryz.t9 (.string (⟨#[]⟩ : ByteArray)) := ⟨by kernel_rfl, by kernel_rfl, by kernel_rfl, by kernel_rfl, by kernel_rfl, by kernel_rfl, by decide⟩
def check_checker_global.f (k : Nat) (a0_0 : List (ByteArray × Int × Int × Int × List (Int × Int × ByteArray))) (a0_1 : List ByteArray) (a1002_0 : ByteArray) (a1002_1 : Int) (a1002_2 : Int) (a1002_3 : Int) (a1002_4 : List (Int × Int × ByteArray)) (a1002_5 : List ByteArray) (a1002_6 : Int) (a1002_7 : List ByteArray) (a1 : ByteArray) : Option (List ByteArray) := (slices_Contains_string_string_.f k a0_1 a1).bind fun r1 => cond (!r1) ((apd 16 a0_1 [a1]).bind fun l4 => some (l4)) (some (a0_1))
set_option maxRecDepth 100000 in
theorem check_checker_global.ok {k : Nat} {a0_0 : List (ByteArray × Int × Int × Int × List (Int × Int × ByteArray))} {a0_1 : List ByteArray} {a1002_0 : ByteArray} {a1002_1 : Int} {a1002_2 : Int} {a1002_3 : Int} {a1002_4 : List (Int × Int × ByteArray)} {a1002_5 : List ByteArray} {a1002_6 : Int} {a1002_7 : List ByteArray} {a1 : ByteArray} {b0 : Nat} {H_a0_0 : Frag} {A_a0_0 : Option Addr} {c_a0_0 : Nat} {H_a0_1 : Frag} {A_a0_1 : Option Addr} {c_a0_1 : Nat} {b1002_ : Nat} {H_a1002_4 : Frag} {A_a1002_4 : Option Addr} {c_a1002_4 : Nat} {H_a1002_5 : Frag} {A_a1002_5 : Option Addr} {c_a1002_5 : Nat} {H_a1002_7 : Frag} {A_a1002_7 : Option Addr} {c_a1002_7 : Nat} {r : List ByteArray} (h : check_checker_global.f k a0_0 a0_1 a1002_0 a1002_1 a1002_2 a1002_3 a1002_4 a1002_5 a1002_6 a1002_7 a1 = some r) (R_a0_0 : RdR rs42 H_a0_0 (.slice A_a0_0 a0_0.length c_a0_0) a0_0) (R_a0_1 : OwnT encS 9 1 H_a0_1 (.slice A_a0_1 a0_1.length c_a0_1) a0_1) (R_a1002_4 : RdT e53 3 H_a1002_4 (.slice A_a1002_4 a1002_4.length c_a1002_4) a1002_4) (R_a1002_5 : RdT encS 1 H_a1002_5 (.slice A_a1002_5 a1002_5.length c_a1002_5) a1002_5) (R_a1002_7 : RdT encS 1 H_a1002_7 (.slice A_a1002_7 a1002_7.length c_a1002_7) a1002_7) : Ct Tryz.prog 52 #[.pointer (some ⟨b0, 0, none⟩), .string a1] [blk b0 (.cells #[.slice A_a0_0 a0_0.length c_a0_0, .slice A_a0_1 a0_1.length c_a0_1, .pointer (some ⟨b1002_, 0, none⟩)] 65 (0, 0)), H_a0_1, blk b1002_ (.cells #[.string a1002_0, .int .i64 a1002_1, .int .i64 a1002_2, .int .i64 a1002_3, .slice A_a1002_4 a1002_4.length c_a1002_4, .slice A_a1002_5 a1002_5.length c_a1002_5, .int .i64 a1002_6, .slice A_a1002_7 a1002_7.length c_a1002_7] 63 (0, 0))] [H_a0_0, H_a1002_4, H_a1002_5, H_a1002_7] (fun e l1 => ∃ (H0_ : Frag) (A0_ : Option Addr) (c0_ : Nat), OwnT encS 9 1 H0_ (.slice A0_ r.length c0_) r ∧ e = .returned (.tuple #[]) ∧ l1 = [blk b0 (.cells #[.slice A_a0_0 a0_0.length c_a0_0, .slice A0_ r.length c0_, .pointer (some ⟨b1002_, 0, none⟩)] 65 (0, 0)), H0_, blk b1002_ (.cells #[.string a1002_0, .int .i64 a1002_1, .int .i64 a1002_2, .int .i64 a1002_3, .slice A_a1002_4 a1002_4.length c_a1002_4, .slice A_a1002_5 a1002_5.length c_a1002_5, .int .i64 a1002_6, .slice A_a1002_7 a1002_7.length c_a1002_7] 63 (0, 0))]) := by
 refine ct_enter (args := [.pointer (some ⟨b0, 0, none⟩), .string a1]) Tryz.func52 rfl (Nat.le_of_ble_eq_true rfl) ?_
 intro A X hh_
 obtain ⟨hm_H_a0_0, hm_H_a1002_4, hm_H_a1002_5, hm_H_a1002_7, _⟩ := hh_
 unfold check_checker_global.f at h
 refine K.eq (env' := [(0, .pointer (some ⟨b0, 0, none⟩)), (1, .string a1)]) (l' := blk b0 (.cells #[.slice A_a0_0 a0_0.length c_a0_0, .slice A_a0_1 a0_1.length c_a0_1, .pointer (some ⟨b1002_, 0, none⟩)] 65 (0, 0)) :: H_a0_1 :: blk b1002_ (.cells #[.string a1002_0, .int .i64 a1002_1, .int .i64 a1002_2, .int .i64 a1002_3, .slice A_a1002_4 a1002_4.length c_a1002_4, .slice A_a1002_5 a1002_5.length c_a1002_5, .int .i64 a1002_6, .slice A_a1002_7 a1002_7.length c_a1002_7] 63 (0, 0)) :: X) rfl rfl ?_
 refine k_seq ?_
 refine k_region ?_
 refine kl_steps 4 [(0, .pointer (some ⟨b0, 0, none⟩)), (1, .string a1), (7, .pointer (some ⟨b0, 1, none⟩))] (by kernel_rfl) ?_
 refine kl_load (v := .slice A_a0_1 a0_1.length c_a0_1) [.val (.slice A_a0_1 a0_1.length c_a0_1)] [.ld ⟨b0, 1, none⟩ (.slice A_a0_1 a0_1.length c_a0_1)] (by kernel_rfl) (by kernel_rfl) (by kernel_rfl) ⟨⟨0, _, _, _, rfl, rfl, rfl⟩, trivial⟩ ?_
 refine kl_steps 1 [(0, .pointer (some ⟨b0, 0, none⟩)), (1, .string a1), (8, .slice A_a0_1 a0_1.length c_a0_1), (9, .string a1)] (by kernel_rfl) ?_
 obtain ⟨r1, hr1, h⟩ := bindSome h
 refine kl_callv (by kernel_rfl) (by kernel_rfl) (by kernel_rfl) (slices_Contains_string_string_.ok hr1 (OwnT.rd R_a0_1)) ⟨(.tail _ (.head _)), trivial⟩ ?_
 refine kl_steps 1 [(0, .pointer (some ⟨b0, 0, none⟩)), (1, .string a1), (11, .bool (!r1))] (by kernel_rfl) ?_
 refine k_nil ?_
 refine k_then ?_
 refine k_cond (t := !r1) (by kernel_rfl) (fun t2 => ?_) (fun t2 => ?_)
 ·have h := condT h t2
  refine k_region ?_
  refine kl_steps 5 [(1, .string a1), (12, .pointer (some ⟨b0, 0, none⟩)), (16, .pointer (some ⟨b0, 1, none⟩))] (by kernel_rfl) ?_
  refine kl_load (v := .slice A_a0_1 a0_1.length c_a0_1) [.val (.slice A_a0_1 a0_1.length c_a0_1)] [.ld ⟨b0, 1, none⟩ (.slice A_a0_1 a0_1.length c_a0_1)] (by kernel_rfl) (by kernel_rfl) (by kernel_rfl) ⟨⟨0, _, _, _, rfl, rfl, rfl⟩, trivial⟩ ?_
  refine kl_steps 1 [(12, .pointer (some ⟨b0, 0, none⟩)), (17, .slice A_a0_1 a0_1.length c_a0_1), (18, .string a1)] (by kernel_rfl) ?_
  refine kl_new (.cells #[.string a1] 9 (0, 0)) (fun b => .slice (some ⟨b, 0, none⟩) 1 1) (by kernel_rfl) (by kernel_rfl) (fun _ => by kernel_rfl) fun b3 => ?_
  refine K.mv2 ?_
  obtain ⟨l4, hl4, h⟩ := bindSome h
  refine kl_apd (ys := [a1]) encS_ok rfl ety26 (by kernel_rfl) (by kernel_rfl) (by kernel_rfl) (by kernel_rfl) (by kernel_rfl) hl4 R_a0_1 (src_blk (n := 1) encS_ok [a1] (by kernel_rfl) rfl (by decide) 1 rfl) fun h5 A6 k7 o8 => ?_
  refine K.mv1 ?_
  refine K.drop ?_
  refine kl_steps 3 [(20, .slice A6 l4.length k7), (23, .pointer (some ⟨b0, 1, none⟩))] (by kernel_rfl) ?_
  refine K.mv1 ?_
  refine kl_store (cs' := #[.slice A_a0_0 a0_0.length c_a0_0, .slice A6 l4.length k7, .pointer (some ⟨b1002_, 0, none⟩)]) [.st ⟨b0, 1, none⟩ (.slice A6 l4.length k7)] (by kernel_rfl) (by kernel_rfl) (by kernel_rfl) ⟨rfl, trivial⟩ (by kernel_rfl) ?_
  refine k_nil ?_
  refine k_fall ?_
  obtain rfl := Option.some.inj h
  refine k_done (v := .tuple #[]) [] [] [blk b0 (.cells #[.slice A_a0_0 a0_0.length c_a0_0, .slice A6 l4.length k7, .pointer (some ⟨b1002_, 0, none⟩)] 65 (0, 0)), h5, blk b1002_ (.cells #[.string a1002_0, .int .i64 a1002_1, .int .i64 a1002_2, .int .i64 a1002_3, .slice A_a1002_4 a1002_4.length c_a1002_4, .slice A_a1002_5 a1002_5.length c_a1002_5, .int .i64 a1002_6, .slice A_a1002_7 a1002_7.length c_a1002_7] 63 (0, 0))] (by kernel_rfl) (by kernel_rfl) trivial ?_
  exact k_end ⟨h5, A6, k7, o8, rfl, rfl⟩
 ·have h := condF h t2
  refine k_skip ?_
  refine k_fall ?_
  obtain rfl := Option.some.inj h
  refine k_done (v := .tuple #[]) [] [] [blk b0 (.cells #[.slice A_a0_0 a0_0.length c_a0_0, .slice A_a0_1 a0_1.length c_a0_1, .pointer (some ⟨b1002_, 0, none⟩)] 65 (0, 0)), H_a0_1, blk b1002_ (.cells #[.string a1002_0, .int .i64 a1002_1, .int .i64 a1002_2, .int .i64 a1002_3, .slice A_a1002_4 a1002_4.length c_a1002_4, .slice A_a1002_5 a1002_5.length c_a1002_5, .int .i64 a1002_6, .slice A_a1002_7 a1002_7.length c_a1002_7] 63 (0, 0))] (by kernel_rfl) (by kernel_rfl) trivial ?_
  exact k_end ⟨H_a0_1, A_a0_1, c_a0_1, R_a0_1, rfl, rfl⟩
def check_checker_name.f (k : Nat) (a0_0 : List (ByteArray × Int × Int × Int × List (Int × Int × ByteArray))) (a0_1 : List ByteArray) (a1002_0 : ByteArray) (a1002_1 : Int) (a1002_2 : Int) (a1002_3 : Int) (a1002_4 : List (Int × Int × ByteArray)) (a1002_5 : List ByteArray) (a1002_6 : Int) (a1002_7 : List ByteArray) (a1_0 : Int) (a1_1 : ByteArray) (a1_2 : Int) (a1_3 : Int) (a1_4 : List Tree) : Option (PR (List ByteArray) (Int × Int)) := (check_kept.f k a1_1).bind fun r2 => cond r2 (PR.bind (check_fail.f k (5 : Int) a1_3) fun r4 => some (PR.ok (a0_1))) ((slices_Contains_string_string_.f k a1002_5 a1_1).bind fun r6 => cond r6 (some (PR.ok (a0_1))) ((slices_Contains_string_string_.f k a1002_7 a1_1).bind fun r8 => cond r8 (PR.bind (check_fail.f k (5 : Int) a1_3) fun r10 => some (PR.ok (a0_1))) ((check_checker_global.f k a0_0 a0_1 a1002_0 a1002_1 a1002_2 a1002_3 a1002_4 a1002_5 a1002_6 a1002_7 a1_1).bind fun r12 => some (PR.ok (r12)))))
set_option maxRecDepth 100000 in
theorem check_checker_name.ok {k : Nat} {a0_0 : List (ByteArray × Int × Int × Int × List (Int × Int × ByteArray))} {a0_1 : List ByteArray} {a1002_0 : ByteArray} {a1002_1 : Int} {a1002_2 : Int} {a1002_3 : Int} {a1002_4 : List (Int × Int × ByteArray)} {a1002_5 : List ByteArray} {a1002_6 : Int} {a1002_7 : List ByteArray} {a1_0 : Int} {a1_1 : ByteArray} {a1_2 : Int} {a1_3 : Int} {a1_4 : List Tree} {b0 : Nat} {H_a0_0 : Frag} {A_a0_0 : Option Addr} {c_a0_0 : Nat} {H_a0_1 : Frag} {A_a0_1 : Option Addr} {c_a0_1 : Nat} {b1002_ : Nat} {H_a1002_4 : Frag} {A_a1002_4 : Option Addr} {c_a1002_4 : Nat} {H_a1002_5 : Frag} {A_a1002_5 : Option Addr} {c_a1002_5 : Nat} {H_a1002_7 : Frag} {A_a1002_7 : Option Addr} {c_a1002_7 : Nat} {H_a1_4 : Frag} {A_a1_4 : Option Addr} {c_a1_4 : Nat} {r : PR (List ByteArray) (Int × Int)} (h : check_checker_name.f k a0_0 a0_1 a1002_0 a1002_1 a1002_2 a1002_3 a1002_4 a1002_5 a1002_6 a1002_7 a1_0 a1_1 a1_2 a1_3 a1_4 = some r) (R_a0_0 : RdR rs42 H_a0_0 (.slice A_a0_0 a0_0.length c_a0_0) a0_0) (R_a0_1 : OwnT encS 9 1 H_a0_1 (.slice A_a0_1 a0_1.length c_a0_1) a0_1) (R_a1002_4 : RdT e53 3 H_a1002_4 (.slice A_a1002_4 a1002_4.length c_a1002_4) a1002_4) (R_a1002_5 : RdT encS 1 H_a1002_5 (.slice A_a1002_5 a1002_5.length c_a1002_5) a1002_5) (R_a1002_7 : RdT encS 1 H_a1002_7 (.slice A_a1002_7 a1002_7.length c_a1002_7) a1002_7) (R_a1_4 : RdR (rTree 36) H_a1_4 (.slice A_a1_4 a1_4.length c_a1_4) a1_4) : Ct Tryz.prog 54 #[.pointer (some ⟨b0, 0, none⟩), .agg #[.int .i64 a1_0, .string a1_1, .int .i64 a1_2, .int .i64 a1_3, .slice A_a1_4 a1_4.length c_a1_4]] [blk b0 (.cells #[.slice A_a0_0 a0_0.length c_a0_0, .slice A_a0_1 a0_1.length c_a0_1, .pointer (some ⟨b1002_, 0, none⟩)] 65 (0, 0)), H_a0_1, blk b1002_ (.cells #[.string a1002_0, .int .i64 a1002_1, .int .i64 a1002_2, .int .i64 a1002_3, .slice A_a1002_4 a1002_4.length c_a1002_4, .slice A_a1002_5 a1002_5.length c_a1002_5, .int .i64 a1002_6, .slice A_a1002_7 a1002_7.length c_a1002_7] 63 (0, 0))] [H_a0_0, H_a1002_4, H_a1002_5, H_a1002_7, H_a1_4] (PR.Post failC (fun (r : List ByteArray) e l1 => ∃ (H0_ : Frag) (A0_ : Option Addr) (c0_ : Nat), OwnT encS 9 1 H0_ (.slice A0_ r.length c0_) r ∧ e = .returned (.tuple #[]) ∧ l1 = [blk b0 (.cells #[.slice A_a0_0 a0_0.length c_a0_0, .slice A0_ r.length c0_, .pointer (some ⟨b1002_, 0, none⟩)] 65 (0, 0)), H0_, blk b1002_ (.cells #[.string a1002_0, .int .i64 a1002_1, .int .i64 a1002_2, .int .i64 a1002_3, .slice A_a1002_4 a1002_4.length c_a1002_4, .slice A_a1002_5 a1002_5.length c_a1002_5, .int .i64 a1002_6, .slice A_a1002_7 a1002_7.length c_a1002_7] 63 (0, 0))]) r) := by
 refine ct_enter (args := [.pointer (some ⟨b0, 0, none⟩), .agg #[.int .i64 a1_0, .string a1_1, .int .i64 a1_2, .int .i64 a1_3, .slice A_a1_4 a1_4.length c_a1_4]]) Tryz.func54 rfl (Nat.le_of_ble_eq_true rfl) ?_
 intro A X hh_
 obtain ⟨hm_H_a0_0, hm_H_a1002_4, hm_H_a1002_5, hm_H_a1002_7, hm_H_a1_4, _⟩ := hh_
 unfold check_checker_name.f at h
 refine K.eq (env' := [(0, .pointer (some ⟨b0, 0, none⟩)), (1, .agg #[.int .i64 a1_0, .string a1_1, .int .i64 a1_2, .int .i64 a1_3, .slice A_a1_4 a1_4.length c_a1_4])]) (l' := blk b0 (.cells #[.slice A_a0_0 a0_0.length c_a0_0, .slice A_a0_1 a0_1.length c_a0_1, .pointer (some ⟨b1002_, 0, none⟩)] 65 (0, 0)) :: H_a0_1 :: blk b1002_ (.cells #[.string a1002_0, .int .i64 a1002_1, .int .i64 a1002_2, .int .i64 a1002_3, .slice A_a1002_4 a1002_4.length c_a1002_4, .slice A_a1002_5 a1002_5.length c_a1002_5, .int .i64 a1002_6, .slice A_a1002_7 a1002_7.length c_a1002_7] 63 (0, 0)) :: X) rfl rfl ?_
 refine k_seq ?_
 refine k_region ?_
 refine kl_new (.cells #[.int .i64 a1_0, .string a1_1, .int .i64 a1_2, .int .i64 a1_3, .slice A_a1_4 a1_4.length c_a1_4] 36 (0, 0)) (fun b => .pointer (some ⟨b, 0, none⟩)) (by kernel_rfl) (by kernel_rfl) (fun _ => by kernel_rfl) fun b1 => ?_
 refine k_nil ?_
 refine k_then ?_
 refine k_block ?_
 refine k_seq ?_
 refine k_region ?_
 refine kl_steps 1 [(0, .pointer (some ⟨b0, 0, none⟩)), (3, .pointer (some ⟨b1, 0, none⟩)), (9, .pointer (some ⟨b1, 1, none⟩))] (by kernel_rfl) ?_
 refine kl_load (v := .string a1_1) [.val (.string a1_1)] [.ld ⟨b1, 1, none⟩ (.string a1_1)] (by kernel_rfl) (by kernel_rfl) (by kernel_rfl) ⟨⟨0, _, _, _, rfl, rfl, rfl⟩, trivial⟩ ?_
 obtain ⟨r2, hr2, h⟩ := bindSome h
 refine kl_callv (by kernel_rfl) (by kernel_rfl) (by kernel_rfl) (check_kept.ok hr2) trivial ?_
 refine kl_steps 1 [(0, .pointer (some ⟨b0, 0, none⟩)), (3, .pointer (some ⟨b1, 0, none⟩)), (8, .bool r2)] (by kernel_rfl) ?_
 refine k_nil ?_
 refine k_then ?_
 refine k_cond (t := r2) (by kernel_rfl) (fun t3 => ?_) (fun t3 => ?_)
 ·have h := condT h t3
  refine k_region ?_
  refine kl_steps 1 [(12, .pointer (some ⟨b1, 3, none⟩))] (by kernel_rfl) ?_
  refine kl_load (v := .int .i64 a1_3) [.val (.int .i64 a1_3)] [.ld ⟨b1, 3, none⟩ (.int .i64 a1_3)] (by kernel_rfl) (by kernel_rfl) (by kernel_rfl) ⟨⟨0, _, _, _, rfl, rfl, rfl⟩, trivial⟩ ?_
  refine K.drop ?_
  rcases prBind h with ⟨i5, hr4, rfl⟩ | ⟨r4, hr4, h⟩
  ·refine kl_call (blk b0 (.cells #[.slice A_a0_0 a0_0.length c_a0_0, .slice A_a0_1 a0_1.length c_a0_1, .pointer (some ⟨b1002_, 0, none⟩)] 65 (0, 0)) :: H_a0_1 :: blk b1002_ (.cells #[.string a1002_0, .int .i64 a1002_1, .int .i64 a1002_2, .int .i64 a1002_3, .slice A_a1002_4 a1002_4.length c_a1002_4, .slice A_a1002_5 a1002_5.length c_a1002_5, .int .i64 a1002_6, .slice A_a1002_7 a1002_7.length c_a1002_7] 63 (0, 0)) :: X) (by kernel_rfl) (by kernel_rfl) (by kernel_rfl) (check_fail.ok hr4) rfl trivial ?_
   rintro _ _ ⟨rfl, rfl⟩
   refine nx_pan ?_
   refine k_blk_panic ?_
   refine k_panicked [] ?_
   refine K.drop ?_
   refine K.drop ?_
   refine K.drop ?_
   exact k_end PR.badI
  refine kl_call (blk b0 (.cells #[.slice A_a0_0 a0_0.length c_a0_0, .slice A_a0_1 a0_1.length c_a0_1, .pointer (some ⟨b1002_, 0, none⟩)] 65 (0, 0)) :: H_a0_1 :: blk b1002_ (.cells #[.string a1002_0, .int .i64 a1002_1, .int .i64 a1002_2, .int .i64 a1002_3, .slice A_a1002_4 a1002_4.length c_a1002_4, .slice A_a1002_5 a1002_5.length c_a1002_5, .int .i64 a1002_6, .slice A_a1002_7 a1002_7.length c_a1002_7] 63 (0, 0)) :: X) (by kernel_rfl) (by kernel_rfl) (by kernel_rfl) (check_fail.ok hr4) rfl trivial ?_
  rintro _ _ ⟨rfl, rfl⟩
  refine nx_ret0 ?_
  refine k_nil ?_
  refine k_blk ?_
  refine k_fall ?_
  obtain rfl := Option.some.inj h
  refine k_done (v := .tuple #[]) [] [] [blk b0 (.cells #[.slice A_a0_0 a0_0.length c_a0_0, .slice A_a0_1 a0_1.length c_a0_1, .pointer (some ⟨b1002_, 0, none⟩)] 65 (0, 0)), H_a0_1, blk b1002_ (.cells #[.string a1002_0, .int .i64 a1002_1, .int .i64 a1002_2, .int .i64 a1002_3, .slice A_a1002_4 a1002_4.length c_a1002_4, .slice A_a1002_5 a1002_5.length c_a1002_5, .int .i64 a1002_6, .slice A_a1002_7 a1002_7.length c_a1002_7] 63 (0, 0))] (by kernel_rfl) (by kernel_rfl) trivial ?_
  exact k_end (PR.okI ⟨H_a0_1, A_a0_1, c_a0_1, R_a0_1, rfl, rfl⟩)
 ·have h := condF h t3
  refine k_seq ?_
  refine k_region_plan [(0, 0), (1, 0), (2, 0), (3, 3), (4, 0), (5, 0), (6, 3), (7, 0), (8, 3)] (fun w => OnAll [blk b1 (.cells #[.int .i64 a1_0, .string a1_1, .int .i64 a1_2, .int .i64 a1_3, .slice A_a1_4 a1_4.length c_a1_4] 36 (0, 0)), blk b0 (.cells #[.slice A_a0_0 a0_0.length c_a0_0, .slice A_a0_1 a0_1.length c_a0_1, .pointer (some ⟨b1002_, 0, none⟩)] 65 (0, 0)), blk b1002_ (.cells #[.string a1002_0, .int .i64 a1002_1, .int .i64 a1002_2, .int .i64 a1002_3, .slice A_a1002_4 a1002_4.length c_a1002_4, .slice A_a1002_5 a1002_5.length c_a1002_5, .int .i64 a1002_6, .slice A_a1002_7 a1002_7.length c_a1002_7] 63 (0, 0))] w) (by kernel_rfl) (by kernel_rfl) (fun _ _ d _ _ h => by cases d <;> exact h) (fun w h_ => ⟨h_.sat.on _ (.head _), h_.sat.on _ (.tail _ (.head _)), h_.sat.on _ (.tail _ (.tail _ (.tail _ (.head _)))), trivial⟩) ?_
  simp only [planOps, List.filterMap_cons, List.filterMap_nil, List.getElem?_toArray, List.getElem?_cons_zero, List.getElem?_cons_succ, Option.map_some, List.drop_succ_cons, List.drop_zero, List.length_cons, List.length_nil]
  refine kp_steps 3 [(0, .pointer (some ⟨b0, 0, none⟩)), (3, .pointer (some ⟨b1, 0, none⟩)), (18, .pointer (some ⟨b0, 2, none⟩))] (by kernel_rfl) (by kernel_rfl) ?_
  refine kp_loadS (v := .pointer (some ⟨b1002_, 0, none⟩)) [blk b1 (.cells #[.int .i64 a1_0, .string a1_1, .int .i64 a1_2, .int .i64 a1_3, .slice A_a1_4 a1_4.length c_a1_4] 36 (0, 0)), blk b0 (.cells #[.slice A_a0_0 a0_0.length c_a0_0, .slice A_a0_1 a0_1.length c_a0_1, .pointer (some ⟨b1002_, 0, none⟩)] 65 (0, 0)), blk b1002_ (.cells #[.string a1002_0, .int .i64 a1002_1, .int .i64 a1002_2, .int .i64 a1002_3, .slice A_a1002_4 a1002_4.length c_a1002_4, .slice A_a1002_5 a1002_5.length c_a1002_5, .int .i64 a1002_6, .slice A_a1002_7 a1002_7.length c_a1002_7] 63 (0, 0))] [.val (.pointer (some ⟨b1002_, 0, none⟩))] [.ld ⟨b0, 2, none⟩ (.pointer (some ⟨b1002_, 0, none⟩))] (by kernel_rfl) (by kernel_rfl) (by kernel_rfl) (fun _ h => h) ⟨⟨1, _, _, _, rfl, rfl, rfl⟩, trivial⟩ ?_
  refine kp_steps 2 [(0, .pointer (some ⟨b0, 0, none⟩)), (3, .pointer (some ⟨b1, 0, none⟩)), (21, .pointer (some ⟨b1002_, 5, none⟩))] (by kernel_rfl) (by kernel_rfl) ?_
  refine kp_loadS (v := .slice A_a1002_5 a1002_5.length c_a1002_5) [blk b1 (.cells #[.int .i64 a1_0, .string a1_1, .int .i64 a1_2, .int .i64 a1_3, .slice A_a1_4 a1_4.length c_a1_4] 36 (0, 0)), blk b0 (.cells #[.slice A_a0_0 a0_0.length c_a0_0, .slice A_a0_1 a0_1.length c_a0_1, .pointer (some ⟨b1002_, 0, none⟩)] 65 (0, 0)), blk b1002_ (.cells #[.string a1002_0, .int .i64 a1002_1, .int .i64 a1002_2, .int .i64 a1002_3, .slice A_a1002_4 a1002_4.length c_a1002_4, .slice A_a1002_5 a1002_5.length c_a1002_5, .int .i64 a1002_6, .slice A_a1002_7 a1002_7.length c_a1002_7] 63 (0, 0))] [.val (.slice A_a1002_5 a1002_5.length c_a1002_5)] [.ld ⟨b1002_, 5, none⟩ (.slice A_a1002_5 a1002_5.length c_a1002_5)] (by kernel_rfl) (by kernel_rfl) (by kernel_rfl) (fun _ h => h) ⟨⟨2, _, _, _, rfl, rfl, rfl⟩, trivial⟩ ?_
  refine kp_steps 1 [(0, .pointer (some ⟨b0, 0, none⟩)), (3, .pointer (some ⟨b1, 0, none⟩)), (22, .slice A_a1002_5 a1002_5.length c_a1002_5), (23, .pointer (some ⟨b1, 1, none⟩))] (by kernel_rfl) (by kernel_rfl) ?_
  refine kp_loadS (v := .string a1_1) [blk b1 (.cells #[.int .i64 a1_0, .string a1_1, .int .i64 a1_2, .int .i64 a1_3, .slice A_a1_4 a1_4.length c_a1_4] 36 (0, 0)), blk b0 (.cells #[.slice A_a0_0 a0_0.length c_a0_0, .slice A_a0_1 a0_1.length c_a0_1, .pointer (some ⟨b1002_, 0, none⟩)] 65 (0, 0)), blk b1002_ (.cells #[.string a1002_0, .int .i64 a1002_1, .int .i64 a1002_2, .int .i64 a1002_3, .slice A_a1002_4 a1002_4.length c_a1002_4, .slice A_a1002_5 a1002_5.length c_a1002_5, .int .i64 a1002_6, .slice A_a1002_7 a1002_7.length c_a1002_7] 63 (0, 0))] [.val (.string a1_1)] [.ld ⟨b1, 1, none⟩ (.string a1_1)] (by kernel_rfl) (by kernel_rfl) (by kernel_rfl) (fun _ h => h) ⟨⟨0, _, _, _, rfl, rfl, rfl⟩, trivial⟩ ?_
  refine kp_done ?_
  obtain ⟨r6, hr6, h⟩ := bindSome h
  refine kl_callv (by kernel_rfl) (by kernel_rfl) (by kernel_rfl) (slices_Contains_string_string_.ok hr6 R_a1002_5) ⟨(.tail _ (.tail _ (.tail _ (.tail _ hm_H_a1002_5)))), trivial⟩ ?_
  refine kl_steps 1 [(0, .pointer (some ⟨b0, 0, none⟩)), (3, .pointer (some ⟨b1, 0, none⟩)), (15, .bool r6)] (by kernel_rfl) ?_
  refine k_nil ?_
  refine k_then ?_
  refine k_cond (t := r6) (by kernel_rfl) (fun t7 => ?_) (fun t7 => ?_)
  ·have h := condT h t7
   refine k_skip ?_
   refine k_blk ?_
   refine k_fall ?_
   obtain rfl := Option.some.inj h
   refine k_done (v := .tuple #[]) [] [] [blk b0 (.cells #[.slice A_a0_0 a0_0.length c_a0_0, .slice A_a0_1 a0_1.length c_a0_1, .pointer (some ⟨b1002_, 0, none⟩)] 65 (0, 0)), H_a0_1, blk b1002_ (.cells #[.string a1002_0, .int .i64 a1002_1, .int .i64 a1002_2, .int .i64 a1002_3, .slice A_a1002_4 a1002_4.length c_a1002_4, .slice A_a1002_5 a1002_5.length c_a1002_5, .int .i64 a1002_6, .slice A_a1002_7 a1002_7.length c_a1002_7] 63 (0, 0))] (by kernel_rfl) (by kernel_rfl) trivial ?_
   refine K.drop ?_
   exact k_end (PR.okI ⟨H_a0_1, A_a0_1, c_a0_1, R_a0_1, rfl, rfl⟩)
  ·have h := condF h t7
   refine k_seq ?_
   refine k_region_plan [(0, 0), (1, 0), (2, 0), (3, 3), (4, 0), (5, 0), (6, 3), (7, 0), (8, 3)] (fun w => OnAll [blk b1 (.cells #[.int .i64 a1_0, .string a1_1, .int .i64 a1_2, .int .i64 a1_3, .slice A_a1_4 a1_4.length c_a1_4] 36 (0, 0)), blk b0 (.cells #[.slice A_a0_0 a0_0.length c_a0_0, .slice A_a0_1 a0_1.length c_a0_1, .pointer (some ⟨b1002_, 0, none⟩)] 65 (0, 0)), blk b1002_ (.cells #[.string a1002_0, .int .i64 a1002_1, .int .i64 a1002_2, .int .i64 a1002_3, .slice A_a1002_4 a1002_4.length c_a1002_4, .slice A_a1002_5 a1002_5.length c_a1002_5, .int .i64 a1002_6, .slice A_a1002_7 a1002_7.length c_a1002_7] 63 (0, 0))] w) (by kernel_rfl) (by kernel_rfl) (fun _ _ d _ _ h => by cases d <;> exact h) (fun w h_ => ⟨h_.sat.on _ (.head _), h_.sat.on _ (.tail _ (.head _)), h_.sat.on _ (.tail _ (.tail _ (.tail _ (.head _)))), trivial⟩) ?_
   simp only [planOps, List.filterMap_cons, List.filterMap_nil, List.getElem?_toArray, List.getElem?_cons_zero, List.getElem?_cons_succ, Option.map_some, List.drop_succ_cons, List.drop_zero, List.length_cons, List.length_nil]
   refine kp_steps 3 [(0, .pointer (some ⟨b0, 0, none⟩)), (3, .pointer (some ⟨b1, 0, none⟩)), (29, .pointer (some ⟨b0, 2, none⟩))] (by kernel_rfl) (by kernel_rfl) ?_
   refine kp_loadS (v := .pointer (some ⟨b1002_, 0, none⟩)) [blk b1 (.cells #[.int .i64 a1_0, .string a1_1, .int .i64 a1_2, .int .i64 a1_3, .slice A_a1_4 a1_4.length c_a1_4] 36 (0, 0)), blk b0 (.cells #[.slice A_a0_0 a0_0.length c_a0_0, .slice A_a0_1 a0_1.length c_a0_1, .pointer (some ⟨b1002_, 0, none⟩)] 65 (0, 0)), blk b1002_ (.cells #[.string a1002_0, .int .i64 a1002_1, .int .i64 a1002_2, .int .i64 a1002_3, .slice A_a1002_4 a1002_4.length c_a1002_4, .slice A_a1002_5 a1002_5.length c_a1002_5, .int .i64 a1002_6, .slice A_a1002_7 a1002_7.length c_a1002_7] 63 (0, 0))] [.val (.pointer (some ⟨b1002_, 0, none⟩))] [.ld ⟨b0, 2, none⟩ (.pointer (some ⟨b1002_, 0, none⟩))] (by kernel_rfl) (by kernel_rfl) (by kernel_rfl) (fun _ h => h) ⟨⟨1, _, _, _, rfl, rfl, rfl⟩, trivial⟩ ?_
   refine kp_steps 2 [(0, .pointer (some ⟨b0, 0, none⟩)), (3, .pointer (some ⟨b1, 0, none⟩)), (32, .pointer (some ⟨b1002_, 7, none⟩))] (by kernel_rfl) (by kernel_rfl) ?_
   refine kp_loadS (v := .slice A_a1002_7 a1002_7.length c_a1002_7) [blk b1 (.cells #[.int .i64 a1_0, .string a1_1, .int .i64 a1_2, .int .i64 a1_3, .slice A_a1_4 a1_4.length c_a1_4] 36 (0, 0)), blk b0 (.cells #[.slice A_a0_0 a0_0.length c_a0_0, .slice A_a0_1 a0_1.length c_a0_1, .pointer (some ⟨b1002_, 0, none⟩)] 65 (0, 0)), blk b1002_ (.cells #[.string a1002_0, .int .i64 a1002_1, .int .i64 a1002_2, .int .i64 a1002_3, .slice A_a1002_4 a1002_4.length c_a1002_4, .slice A_a1002_5 a1002_5.length c_a1002_5, .int .i64 a1002_6, .slice A_a1002_7 a1002_7.length c_a1002_7] 63 (0, 0))] [.val (.slice A_a1002_7 a1002_7.length c_a1002_7)] [.ld ⟨b1002_, 7, none⟩ (.slice A_a1002_7 a1002_7.length c_a1002_7)] (by kernel_rfl) (by kernel_rfl) (by kernel_rfl) (fun _ h => h) ⟨⟨2, _, _, _, rfl, rfl, rfl⟩, trivial⟩ ?_
   refine kp_steps 1 [(0, .pointer (some ⟨b0, 0, none⟩)), (3, .pointer (some ⟨b1, 0, none⟩)), (33, .slice A_a1002_7 a1002_7.length c_a1002_7), (34, .pointer (some ⟨b1, 1, none⟩))] (by kernel_rfl) (by kernel_rfl) ?_
   refine kp_loadS (v := .string a1_1) [blk b1 (.cells #[.int .i64 a1_0, .string a1_1, .int .i64 a1_2, .int .i64 a1_3, .slice A_a1_4 a1_4.length c_a1_4] 36 (0, 0)), blk b0 (.cells #[.slice A_a0_0 a0_0.length c_a0_0, .slice A_a0_1 a0_1.length c_a0_1, .pointer (some ⟨b1002_, 0, none⟩)] 65 (0, 0)), blk b1002_ (.cells #[.string a1002_0, .int .i64 a1002_1, .int .i64 a1002_2, .int .i64 a1002_3, .slice A_a1002_4 a1002_4.length c_a1002_4, .slice A_a1002_5 a1002_5.length c_a1002_5, .int .i64 a1002_6, .slice A_a1002_7 a1002_7.length c_a1002_7] 63 (0, 0))] [.val (.string a1_1)] [.ld ⟨b1, 1, none⟩ (.string a1_1)] (by kernel_rfl) (by kernel_rfl) (by kernel_rfl) (fun _ h => h) ⟨⟨0, _, _, _, rfl, rfl, rfl⟩, trivial⟩ ?_
   refine kp_done ?_
   obtain ⟨r8, hr8, h⟩ := bindSome h
   refine kl_callv (by kernel_rfl) (by kernel_rfl) (by kernel_rfl) (slices_Contains_string_string_.ok hr8 R_a1002_7) ⟨(.tail _ (.tail _ (.tail _ (.tail _ hm_H_a1002_7)))), trivial⟩ ?_
   refine kl_steps 1 [(0, .pointer (some ⟨b0, 0, none⟩)), (3, .pointer (some ⟨b1, 0, none⟩)), (26, .bool r8)] (by kernel_rfl) ?_
   refine k_nil ?_
   refine k_then ?_
   refine k_cond (t := r8) (by kernel_rfl) (fun t9 => ?_) (fun t9 => ?_)
   ·have h := condT h t9
    refine k_region ?_
    refine kl_steps 1 [(37, .pointer (some ⟨b1, 3, none⟩))] (by kernel_rfl) ?_
    refine kl_load (v := .int .i64 a1_3) [.val (.int .i64 a1_3)] [.ld ⟨b1, 3, none⟩ (.int .i64 a1_3)] (by kernel_rfl) (by kernel_rfl) (by kernel_rfl) ⟨⟨0, _, _, _, rfl, rfl, rfl⟩, trivial⟩ ?_
    refine K.drop ?_
    rcases prBind h with ⟨i11, hr10, rfl⟩ | ⟨r10, hr10, h⟩
    ·refine kl_call (blk b0 (.cells #[.slice A_a0_0 a0_0.length c_a0_0, .slice A_a0_1 a0_1.length c_a0_1, .pointer (some ⟨b1002_, 0, none⟩)] 65 (0, 0)) :: H_a0_1 :: blk b1002_ (.cells #[.string a1002_0, .int .i64 a1002_1, .int .i64 a1002_2, .int .i64 a1002_3, .slice A_a1002_4 a1002_4.length c_a1002_4, .slice A_a1002_5 a1002_5.length c_a1002_5, .int .i64 a1002_6, .slice A_a1002_7 a1002_7.length c_a1002_7] 63 (0, 0)) :: X) (by kernel_rfl) (by kernel_rfl) (by kernel_rfl) (check_fail.ok hr10) rfl trivial ?_
     rintro _ _ ⟨rfl, rfl⟩
     refine nx_pan ?_
     refine k_blk_panic ?_
     refine k_panicked [] ?_
     refine K.drop ?_
     refine K.drop ?_
     refine K.drop ?_
     exact k_end PR.badI
    refine kl_call (blk b0 (.cells #[.slice A_a0_0 a0_0.length c_a0_0, .slice A_a0_1 a0_1.length c_a0_1, .pointer (some ⟨b1002_, 0, none⟩)] 65 (0, 0)) :: H_a0_1 :: blk b1002_ (.cells #[.string a1002_0, .int .i64 a1002_1, .int .i64 a1002_2, .int .i64 a1002_3, .slice A_a1002_4 a1002_4.length c_a1002_4, .slice A_a1002_5 a1002_5.length c_a1002_5, .int .i64 a1002_6, .slice A_a1002_7 a1002_7.length c_a1002_7] 63 (0, 0)) :: X) (by kernel_rfl) (by kernel_rfl) (by kernel_rfl) (check_fail.ok hr10) rfl trivial ?_
    rintro _ _ ⟨rfl, rfl⟩
    refine nx_ret0 ?_
    refine k_nil ?_
    refine k_blk ?_
    refine k_fall ?_
    obtain rfl := Option.some.inj h
    refine k_done (v := .tuple #[]) [] [] [blk b0 (.cells #[.slice A_a0_0 a0_0.length c_a0_0, .slice A_a0_1 a0_1.length c_a0_1, .pointer (some ⟨b1002_, 0, none⟩)] 65 (0, 0)), H_a0_1, blk b1002_ (.cells #[.string a1002_0, .int .i64 a1002_1, .int .i64 a1002_2, .int .i64 a1002_3, .slice A_a1002_4 a1002_4.length c_a1002_4, .slice A_a1002_5 a1002_5.length c_a1002_5, .int .i64 a1002_6, .slice A_a1002_7 a1002_7.length c_a1002_7] 63 (0, 0))] (by kernel_rfl) (by kernel_rfl) trivial ?_
    exact k_end (PR.okI ⟨H_a0_1, A_a0_1, c_a0_1, R_a0_1, rfl, rfl⟩)
   ·have h := condF h t9
    refine k_region ?_
    refine kl_steps 2 [(4, .pointer (some ⟨b0, 0, none⟩)), (5, .pointer (some ⟨b1, 1, none⟩))] (by kernel_rfl) ?_
    refine kl_load (v := .string a1_1) [.val (.string a1_1)] [.ld ⟨b1, 1, none⟩ (.string a1_1)] (by kernel_rfl) (by kernel_rfl) (by kernel_rfl) ⟨⟨0, _, _, _, rfl, rfl, rfl⟩, trivial⟩ ?_
    refine K.drop ?_
    refine K.mv2 ?_
    refine K.mv2 ?_
    refine K.mv2 ?_
    obtain ⟨r12, hr12, h⟩ := bindSome h
    refine kl_call (X) (by kernel_rfl) (by kernel_rfl) (by kernel_rfl) (check_checker_global.ok (b0 := b0) (b1002_ := b1002_) hr12 R_a0_0 R_a0_1 R_a1002_4 R_a1002_5 R_a1002_7) rfl ⟨hm_H_a0_0, hm_H_a1002_4, hm_H_a1002_5, hm_H_a1002_7, trivial⟩ ?_
    rintro _ _ ⟨h13, A14, k15, o16, rfl, rfl⟩
    refine nx_ret3 ?_
    refine k_nil ?_
    refine k_blk ?_
    refine k_fall ?_
    obtain rfl := Option.some.inj h
    refine k_done (v := .tuple #[]) [] [] [blk b0 (.cells #[.slice A_a0_0 a0_0.length c_a0_0, .slice A14 r12.length k15, .pointer (some ⟨b1002_, 0, none⟩)] 65 (0, 0)), h13, blk b1002_ (.cells #[.string a1002_0, .int .i64 a1002_1, .int .i64 a1002_2, .int .i64 a1002_3, .slice A_a1002_4 a1002_4.length c_a1002_4, .slice A_a1002_5 a1002_5.length c_a1002_5, .int .i64 a1002_6, .slice A_a1002_7 a1002_7.length c_a1002_7] 63 (0, 0))] (by kernel_rfl) (by kernel_rfl) trivial ?_
    exact k_end (PR.okI ⟨h13, A14, k15, o16, rfl, rfl⟩)
theorem ety40 : ElemTy Tryz.prog 40 53 3 32 Tryz.t53 (.agg #[.int .i64 (0 : Int), .int .i64 (0 : Int), .string (⟨#[]⟩ : ByteArray)]) := ⟨by kernel_rfl, by kernel_rfl, by kernel_rfl, by kernel_rfl, by kernel_rfl, by kernel_rfl, by decide⟩
def check_checker_constant.f (k : Nat) (a0_0 : List (ByteArray × Int × Int × Int × List (Int × Int × ByteArray))) (a0_1 : List ByteArray) (a1002_0 : ByteArray) (a1002_1 : Int) (a1002_2 : Int) (a1002_3 : Int) (a1002_4 : List (Int × Int × ByteArray)) (a1002_5 : List ByteArray) (a1002_6 : Int) (a1002_7 : List ByteArray) (a1_0 : Int) (a1_1 : ByteArray) (a1_2 : Int) (a1_3 : Int) (a1_4 : List Tree) (a2_0 : Int) (a2_1 : Int) (a2_2 : ByteArray) : Option (PR (List (Int × Int × ByteArray)) (Int × Int)) := (slices_Contains_api_Val_api_Val_.f k a1002_4 a2_0 a2_1 a2_2).bind fun r3 => cond (!r3) (PR.bind (check_few.f k a1_0 a1_1 a1_2 a1_3 a1_4 (IntKind.i64.wrap (((a1002_4.length : Nat) : Int) + (1 : Int))) (250 : Int)) fun r5 => (apd 32 a1002_4 [(a2_0, a2_1, a2_2)]).bind fun l8 => some (PR.ok (l8))) (some (PR.ok (a1002_4)))
set_option maxRecDepth 100000 in
theorem check_checker_constant.ok {k : Nat} {a0_0 : List (ByteArray × Int × Int × Int × List (Int × Int × ByteArray))} {a0_1 : List ByteArray} {a1002_0 : ByteArray} {a1002_1 : Int} {a1002_2 : Int} {a1002_3 : Int} {a1002_4 : List (Int × Int × ByteArray)} {a1002_5 : List ByteArray} {a1002_6 : Int} {a1002_7 : List ByteArray} {a1_0 : Int} {a1_1 : ByteArray} {a1_2 : Int} {a1_3 : Int} {a1_4 : List Tree} {a2_0 : Int} {a2_1 : Int} {a2_2 : ByteArray} {b0 : Nat} {H_a0_0 : Frag} {A_a0_0 : Option Addr} {c_a0_0 : Nat} {H_a0_1 : Frag} {A_a0_1 : Option Addr} {c_a0_1 : Nat} {b1002_ : Nat} {H_a1002_4 : Frag} {A_a1002_4 : Option Addr} {c_a1002_4 : Nat} {H_a1002_5 : Frag} {A_a1002_5 : Option Addr} {c_a1002_5 : Nat} {H_a1002_7 : Frag} {A_a1002_7 : Option Addr} {c_a1002_7 : Nat} {H_a1_4 : Frag} {A_a1_4 : Option Addr} {c_a1_4 : Nat} {r : PR (List (Int × Int × ByteArray)) (Int × Int)} (h : check_checker_constant.f k a0_0 a0_1 a1002_0 a1002_1 a1002_2 a1002_3 a1002_4 a1002_5 a1002_6 a1002_7 a1_0 a1_1 a1_2 a1_3 a1_4 a2_0 a2_1 a2_2 = some r) (R_a0_0 : RdR rs42 H_a0_0 (.slice A_a0_0 a0_0.length c_a0_0) a0_0) (R_a0_1 : RdT encS 1 H_a0_1 (.slice A_a0_1 a0_1.length c_a0_1) a0_1) (R_a1002_4 : OwnT e53 53 3 H_a1002_4 (.slice A_a1002_4 a1002_4.length c_a1002_4) a1002_4) (R_a1002_5 : RdT encS 1 H_a1002_5 (.slice A_a1002_5 a1002_5.length c_a1002_5) a1002_5) (R_a1002_7 : RdT encS 1 H_a1002_7 (.slice A_a1002_7 a1002_7.length c_a1002_7) a1002_7) (R_a1_4 : RdR (rTree 36) H_a1_4 (.slice A_a1_4 a1_4.length c_a1_4) a1_4) : Ct Tryz.prog 53 #[.pointer (some ⟨b0, 0, none⟩), .agg #[.int .i64 a1_0, .string a1_1, .int .i64 a1_2, .int .i64 a1_3, .slice A_a1_4 a1_4.length c_a1_4], .agg #[.int .i64 a2_0, .int .i64 a2_1, .string a2_2]] [blk b0 (.cells #[.slice A_a0_0 a0_0.length c_a0_0, .slice A_a0_1 a0_1.length c_a0_1, .pointer (some ⟨b1002_, 0, none⟩)] 65 (0, 0)), blk b1002_ (.cells #[.string a1002_0, .int .i64 a1002_1, .int .i64 a1002_2, .int .i64 a1002_3, .slice A_a1002_4 a1002_4.length c_a1002_4, .slice A_a1002_5 a1002_5.length c_a1002_5, .int .i64 a1002_6, .slice A_a1002_7 a1002_7.length c_a1002_7] 63 (0, 0)), H_a1002_4] [H_a0_0, H_a0_1, H_a1002_5, H_a1002_7, H_a1_4] (PR.Post failC (fun (r : List (Int × Int × ByteArray)) e l1 => ∃ (H0_ : Frag) (A0_ : Option Addr) (c0_ : Nat), OwnT e53 53 3 H0_ (.slice A0_ r.length c0_) r ∧ e = .returned (.tuple #[]) ∧ l1 = [blk b0 (.cells #[.slice A_a0_0 a0_0.length c_a0_0, .slice A_a0_1 a0_1.length c_a0_1, .pointer (some ⟨b1002_, 0, none⟩)] 65 (0, 0)), blk b1002_ (.cells #[.string a1002_0, .int .i64 a1002_1, .int .i64 a1002_2, .int .i64 a1002_3, .slice A0_ r.length c0_, .slice A_a1002_5 a1002_5.length c_a1002_5, .int .i64 a1002_6, .slice A_a1002_7 a1002_7.length c_a1002_7] 63 (0, 0)), H0_]) r) := by
 refine ct_enter (args := [.pointer (some ⟨b0, 0, none⟩), .agg #[.int .i64 a1_0, .string a1_1, .int .i64 a1_2, .int .i64 a1_3, .slice A_a1_4 a1_4.length c_a1_4], .agg #[.int .i64 a2_0, .int .i64 a2_1, .string a2_2]]) Tryz.func53 rfl (Nat.le_of_ble_eq_true rfl) ?_
 intro A X hh_
 obtain ⟨hm_H_a0_0, hm_H_a0_1, hm_H_a1002_5, hm_H_a1002_7, hm_H_a1_4, _⟩ := hh_
 unfold check_checker_constant.f at h
 refine K.eq (env' := [(0, .pointer (some ⟨b0, 0, none⟩)), (1, .agg #[.int .i64 a1_0, .string a1_1, .int .i64 a1_2, .int .i64 a1_3, .slice A_a1_4 a1_4.length c_a1_4]), (2, .agg #[.int .i64 a2_0, .int .i64 a2_1, .string a2_2])]) (l' := blk b0 (.cells #[.slice A_a0_0 a0_0.length c_a0_0, .slice A_a0_1 a0_1.length c_a0_1, .pointer (some ⟨b1002_, 0, none⟩)] 65 (0, 0)) :: blk b1002_ (.cells #[.string a1002_0, .int .i64 a1002_1, .int .i64 a1002_2, .int .i64 a1002_3, .slice A_a1002_4 a1002_4.length c_a1002_4, .slice A_a1002_5 a1002_5.length c_a1002_5, .int .i64 a1002_6, .slice A_a1002_7 a1002_7.length c_a1002_7] 63 (0, 0)) :: H_a1002_4 :: X) rfl rfl ?_
 refine k_seq ?_
 refine k_region ?_
 refine kl_new (.cells #[.int .i64 a1_0, .string a1_1, .int .i64 a1_2, .int .i64 a1_3, .slice A_a1_4 a1_4.length c_a1_4] 36 (0, 0)) (fun b => .pointer (some ⟨b, 0, none⟩)) (by kernel_rfl) (by kernel_rfl) (fun _ => by kernel_rfl) fun b1 => ?_
 refine kl_new (.cells #[.int .i64 a2_0, .int .i64 a2_1, .string a2_2] 53 (0, 0)) (fun b => .pointer (some ⟨b, 0, none⟩)) (by kernel_rfl) (by kernel_rfl) (fun _ => by kernel_rfl) fun b2 => ?_
 refine k_nil ?_
 refine k_then ?_
 refine k_seq ?_
 refine k_region_plan [(0, 0), (1, 0), (2, 0), (3, 3), (4, 0), (5, 0), (6, 0), (7, 3), (8, 3)] (fun w => OnAll [blk b2 (.cells #[.int .i64 a2_0, .int .i64 a2_1, .string a2_2] 53 (0, 0)), blk b0 (.cells #[.slice A_a0_0 a0_0.length c_a0_0, .slice A_a0_1 a0_1.length c_a0_1, .pointer (some ⟨b1002_, 0, none⟩)] 65 (0, 0)), blk b1002_ (.cells #[.string a1002_0, .int .i64 a1002_1, .int .i64 a1002_2, .int .i64 a1002_3, .slice A_a1002_4 a1002_4.length c_a1002_4, .slice A_a1002_5 a1002_5.length c_a1002_5, .int .i64 a1002_6, .slice A_a1002_7 a1002_7.length c_a1002_7] 63 (0, 0))] w) (by kernel_rfl) (by kernel_rfl) (fun _ _ d _ _ h => by cases d <;> exact h) (fun w h_ => ⟨h_.sat.on _ (.head _), h_.sat.on _ (.tail _ (.tail _ (.head _))), h_.sat.on _ (.tail _ (.tail _ (.tail _ (.head _)))), trivial⟩) ?_
 simp only [planOps, List.filterMap_cons, List.filterMap_nil, List.getElem?_toArray, List.getElem?_cons_zero, List.getElem?_cons_succ, Option.map_some, List.drop_succ_cons, List.drop_zero, List.length_cons, List.length_nil]
 refine kp_steps 3 [(0, .pointer (some ⟨b0, 0, none⟩)), (4, .pointer (some ⟨b1, 0, none⟩)), (5, .pointer (some ⟨b2, 0, none⟩)), (8, .pointer (some ⟨b0, 2, none⟩))] (by kernel_rfl) (by kernel_rfl) ?_
 refine kp_loadS (v := .pointer (some ⟨b1002_, 0, none⟩)) [blk b2 (.cells #[.int .i64 a2_0, .int .i64 a2_1, .string a2_2] 53 (0, 0)), blk b0 (.cells #[.slice A_a0_0 a0_0.length c_a0_0, .slice A_a0_1 a0_1.length c_a0_1, .pointer (some ⟨b1002_, 0, none⟩)] 65 (0, 0)), blk b1002_ (.cells #[.string a1002_0, .int .i64 a1002_1, .int .i64 a1002_2, .int .i64 a1002_3, .slice A_a1002_4 a1002_4.length c_a1002_4, .slice A_a1002_5 a1002_5.length c_a1002_5, .int .i64 a1002_6, .slice A_a1002_7 a1002_7.length c_a1002_7] 63 (0, 0))] [.val (.pointer (some ⟨b1002_, 0, none⟩))] [.ld ⟨b0, 2, none⟩ (.pointer (some ⟨b1002_, 0, none⟩))] (by kernel_rfl) (by kernel_rfl) (by kernel_rfl) (fun _ h => h) ⟨⟨1, _, _, _, rfl, rfl, rfl⟩, trivial⟩ ?_
 refine kp_steps 3 [(0, .pointer (some ⟨b0, 0, none⟩)), (4, .pointer (some ⟨b1, 0, none⟩)), (5, .pointer (some ⟨b2, 0, none⟩)), (12, .pointer (some ⟨b1002_, 4, none⟩))] (by kernel_rfl) (by kernel_rfl) ?_
 refine kp_loadS (v := .slice A_a1002_4 a1002_4.length c_a1002_4) [blk b2 (.cells #[.int .i64 a2_0, .int .i64 a2_1, .string a2_2] 53 (0, 0)), blk b0 (.cells #[.slice A_a0_0 a0_0.length c_a0_0, .slice A_a0_1 a0_1.length c_a0_1, .pointer (some ⟨b1002_, 0, none⟩)] 65 (0, 0)), blk b1002_ (.cells #[.string a1002_0, .int .i64 a1002_1, .int .i64 a1002_2, .int .i64 a1002_3, .slice A_a1002_4 a1002_4.length c_a1002_4, .slice A_a1002_5 a1002_5.length c_a1002_5, .int .i64 a1002_6, .slice A_a1002_7 a1002_7.length c_a1002_7] 63 (0, 0))] [.val (.slice A_a1002_4 a1002_4.length c_a1002_4)] [.ld ⟨b1002_, 4, none⟩ (.slice A_a1002_4 a1002_4.length c_a1002_4)] (by kernel_rfl) (by kernel_rfl) (by kernel_rfl) (fun _ h => h) ⟨⟨2, _, _, _, rfl, rfl, rfl⟩, trivial⟩ ?_
 refine kp_loadS (v := .agg #[.int .i64 a2_0, .int .i64 a2_1, .string a2_2]) [blk b2 (.cells #[.int .i64 a2_0, .int .i64 a2_1, .string a2_2] 53 (0, 0)), blk b0 (.cells #[.slice A_a0_0 a0_0.length c_a0_0, .slice A_a0_1 a0_1.length c_a0_1, .pointer (some ⟨b1002_, 0, none⟩)] 65 (0, 0)), blk b1002_ (.cells #[.string a1002_0, .int .i64 a1002_1, .int .i64 a1002_2, .int .i64 a1002_3, .slice A_a1002_4 a1002_4.length c_a1002_4, .slice A_a1002_5 a1002_5.length c_a1002_5, .int .i64 a1002_6, .slice A_a1002_7 a1002_7.length c_a1002_7] 63 (0, 0))] [.val (.int .i64 a2_0), .val (.int .i64 a2_1), .val (.string a2_2)] [.ld ⟨b2, 0, none⟩ (.int .i64 a2_0), .ld ⟨b2, 1, none⟩ (.int .i64 a2_1), .ld ⟨b2, 2, none⟩ (.string a2_2)] (by kernel_rfl) (by kernel_rfl) (by kernel_rfl) (fun _ h => h) ⟨⟨0, _, _, _, rfl, rfl, rfl⟩, ⟨0, _, _, _, rfl, rfl, rfl⟩, ⟨0, _, _, _, rfl, rfl, rfl⟩, trivial⟩ ?_
 refine kp_done ?_
 obtain ⟨r3, hr3, h⟩ := bindSome h
 refine kl_callv (by kernel_rfl) (by kernel_rfl) (by kernel_rfl) (slices_Contains_api_Val_api_Val_.ok hr3 (OwnT.rd R_a1002_4)) ⟨(.tail _ (.tail _ (.tail _ (.tail _ (.head _))))), trivial⟩ ?_
 refine kl_steps 1 [(0, .pointer (some ⟨b0, 0, none⟩)), (4, .pointer (some ⟨b1, 0, none⟩)), (5, .pointer (some ⟨b2, 0, none⟩)), (16, .bool (!r3))] (by kernel_rfl) ?_
 refine k_nil ?_
 refine k_then ?_
 refine k_cond (t := !r3) (by kernel_rfl) (fun t4 => ?_) (fun t4 => ?_)
 ·have h := condT h t4
  refine k_seq ?_
  refine k_region_plan [(0, 3), (1, 0), (2, 0), (3, 0), (4, 3), (5, 0), (6, 0), (7, 0), (8, 3), (9, 0), (10, 0)] (fun w => OnAll [blk b1 (.cells #[.int .i64 a1_0, .string a1_1, .int .i64 a1_2, .int .i64 a1_3, .slice A_a1_4 a1_4.length c_a1_4] 36 (0, 0)), blk b0 (.cells #[.slice A_a0_0 a0_0.length c_a0_0, .slice A_a0_1 a0_1.length c_a0_1, .pointer (some ⟨b1002_, 0, none⟩)] 65 (0, 0)), blk b1002_ (.cells #[.string a1002_0, .int .i64 a1002_1, .int .i64 a1002_2, .int .i64 a1002_3, .slice A_a1002_4 a1002_4.length c_a1002_4, .slice A_a1002_5 a1002_5.length c_a1002_5, .int .i64 a1002_6, .slice A_a1002_7 a1002_7.length c_a1002_7] 63 (0, 0))] w) (by kernel_rfl) (by kernel_rfl) (fun _ _ d _ _ h => by cases d <;> exact h) (fun w h_ => ⟨h_.sat.on _ (.tail _ (.head _)), h_.sat.on _ (.tail _ (.tail _ (.head _))), h_.sat.on _ (.tail _ (.tail _ (.tail _ (.head _)))), trivial⟩) ?_
  simp only [planOps, List.filterMap_cons, List.filterMap_nil, List.getElem?_toArray, List.getElem?_cons_zero, List.getElem?_cons_succ, Option.map_some, List.drop_succ_cons, List.drop_zero, List.length_cons, List.length_nil]
  refine kp_loadS (v := .agg #[.int .i64 a1_0, .string a1_1, .int .i64 a1_2, .int .i64 a1_3, .slice A_a1_4 a1_4.length c_a1_4]) [blk b1 (.cells #[.int .i64 a1_0, .string a1_1, .int .i64 a1_2, .int .i64 a1_3, .slice A_a1_4 a1_4.length c_a1_4] 36 (0, 0)), blk b0 (.cells #[.slice A_a0_0 a0_0.length c_a0_0, .slice A_a0_1 a0_1.length c_a0_1, .pointer (some ⟨b1002_, 0, none⟩)] 65 (0, 0)), blk b1002_ (.cells #[.string a1002_0, .int .i64 a1002_1, .int .i64 a1002_2, .int .i64 a1002_3, .slice A_a1002_4 a1002_4.length c_a1002_4, .slice A_a1002_5 a1002_5.length c_a1002_5, .int .i64 a1002_6, .slice A_a1002_7 a1002_7.length c_a1002_7] 63 (0, 0))] [.val (.int .i64 a1_0), .val (.string a1_1), .val (.int .i64 a1_2), .val (.int .i64 a1_3), .val (.slice A_a1_4 a1_4.length c_a1_4)] [.ld ⟨b1, 0, none⟩ (.int .i64 a1_0), .ld ⟨b1, 1, none⟩ (.string a1_1), .ld ⟨b1, 2, none⟩ (.int .i64 a1_2), .ld ⟨b1, 3, none⟩ (.int .i64 a1_3), .ld ⟨b1, 4, none⟩ (.slice A_a1_4 a1_4.length c_a1_4)] (by kernel_rfl) (by kernel_rfl) (by kernel_rfl) (fun _ h => h) ⟨⟨0, _, _, _, rfl, rfl, rfl⟩, ⟨0, _, _, _, rfl, rfl, rfl⟩, ⟨0, _, _, _, rfl, rfl, rfl⟩, ⟨0, _, _, _, rfl, rfl, rfl⟩, ⟨0, _, _, _, rfl, rfl, rfl⟩, trivial⟩ ?_
  refine kp_steps 3 [(0, .pointer (some ⟨b0, 0, none⟩)), (5, .pointer (some ⟨b2, 0, none⟩)), (17, .agg #[.int .i64 a1_0, .string a1_1, .int .i64 a1_2, .int .i64 a1_3, .slice A_a1_4 a1_4.length c_a1_4]), (20, .pointer (some ⟨b0, 2, none⟩))] (by kernel_rfl) (by kernel_rfl) ?_
  refine kp_loadS (v := .pointer (some ⟨b1002_, 0, none⟩)) [blk b1 (.cells #[.int .i64 a1_0, .string a1_1, .int .i64 a1_2, .int .i64 a1_3, .slice A_a1_4 a1_4.length c_a1_4] 36 (0, 0)), blk b0 (.cells #[.slice A_a0_0 a0_0.length c_a0_0, .slice A_a0_1 a0_1.length c_a0_1, .pointer (some ⟨b1002_, 0, none⟩)] 65 (0, 0)), blk b1002_ (.cells #[.string a1002_0, .int .i64 a1002_1, .int .i64 a1002_2, .int .i64 a1002_3, .slice A_a1002_4 a1002_4.length c_a1002_4, .slice A_a1002_5 a1002_5.length c_a1002_5, .int .i64 a1002_6, .slice A_a1002_7 a1002_7.length c_a1002_7] 63 (0, 0))] [.val (.pointer (some ⟨b1002_, 0, none⟩))] [.ld ⟨b0, 2, none⟩ (.pointer (some ⟨b1002_, 0, none⟩))] (by kernel_rfl) (by kernel_rfl) (by kernel_rfl) (fun _ h => h) ⟨⟨1, _, _, _, rfl, rfl, rfl⟩, trivial⟩ ?_
  refine kp_steps 3 [(0, .pointer (some ⟨b0, 0, none⟩)), (5, .pointer (some ⟨b2, 0, none⟩)), (17, .agg #[.int .i64 a1_0, .string a1_1, .int .i64 a1_2, .int .i64 a1_3, .slice A_a1_4 a1_4.length c_a1_4]), (24, .pointer (some ⟨b1002_, 4, none⟩))] (by kernel_rfl) (by kernel_rfl) ?_
  refine kp_loadS (v := .slice A_a1002_4 a1002_4.length c_a1002_4) [blk b1 (.cells #[.int .i64 a1_0, .string a1_1, .int .i64 a1_2, .int .i64 a1_3, .slice A_a1_4 a1_4.length c_a1_4] 36 (0, 0)), blk b0 (.cells #[.slice A_a0_0 a0_0.length c_a0_0, .slice A_a0_1 a0_1.length c_a0_1, .pointer (some ⟨b1002_, 0, none⟩)] 65 (0, 0)), blk b1002_ (.cells #[.string a1002_0, .int .i64 a1002_1, .int .i64 a1002_2, .int .i64 a1002_3, .slice A_a1002_4 a1002_4.length c_a1002_4, .slice A_a1002_5 a1002_5.length c_a1002_5, .int .i64 a1002_6, .slice A_a1002_7 a1002_7.length c_a1002_7] 63 (0, 0))] [.val (.slice A_a1002_4 a1002_4.length c_a1002_4)] [.ld ⟨b1002_, 4, none⟩ (.slice A_a1002_4 a1002_4.length c_a1002_4)] (by kernel_rfl) (by kernel_rfl) (by kernel_rfl) (fun _ h => h) ⟨⟨2, _, _, _, rfl, rfl, rfl⟩, trivial⟩ ?_
  refine kp_steps 2 [(0, .pointer (some ⟨b0, 0, none⟩)), (5, .pointer (some ⟨b2, 0, none⟩)), (17, .agg #[.int .i64 a1_0, .string a1_1, .int .i64 a1_2, .int .i64 a1_3, .slice A_a1_4 a1_4.length c_a1_4]), (27, .int .i64 (IntKind.i64.wrap (((a1002_4.length : Nat) : Int) + (1 : Int))))] (by kernel_rfl) (by kernel_rfl) ?_
  refine kp_done ?_
  rcases prBind h with ⟨i6, hr5, rfl⟩ | ⟨r5, hr5, h⟩
  ·refine kl_call (blk b2 (.cells #[.int .i64 a2_0, .int .i64 a2_1, .string a2_2] 53 (0, 0)) :: blk b1 (.cells #[.int .i64 a1_0, .string a1_1, .int .i64 a1_2, .int .i64 a1_3, .slice A_a1_4 a1_4.length c_a1_4] 36 (0, 0)) :: blk b0 (.cells #[.slice A_a0_0 a0_0.length c_a0_0, .slice A_a0_1 a0_1.length c_a0_1, .pointer (some ⟨b1002_, 0, none⟩)] 65 (0, 0)) :: blk b1002_ (.cells #[.string a1002_0, .int .i64 a1002_1, .int .i64 a1002_2, .int .i64 a1002_3, .slice A_a1002_4 a1002_4.length c_a1002_4, .slice A_a1002_5 a1002_5.length c_a1002_5, .int .i64 a1002_6, .slice A_a1002_7 a1002_7.length c_a1002_7] 63 (0, 0)) :: H_a1002_4 :: X) (by kernel_rfl) (by kernel_rfl) (by kernel_rfl) (check_few.ok hr5 R_a1_4) rfl ⟨(.tail _ (.tail _ (.tail _ (.tail _ (.tail _ hm_H_a1_4))))), trivial⟩ ?_
   rintro _ _ ⟨rfl, rfl⟩
   refine nx_pan ?_
   refine k_then_panic ?_
   refine k_panicked [] ?_
   refine K.drop ?_
   refine K.drop ?_
   refine K.drop ?_
   refine K.drop ?_
   refine K.drop ?_
   exact k_end PR.badI
  refine kl_call (blk b2 (.cells #[.int .i64 a2_0, .int .i64 a2_1, .string a2_2] 53 (0, 0)) :: blk b1 (.cells #[.int .i64 a1_0, .string a1_1, .int .i64 a1_2, .int .i64 a1_3, .slice A_a1_4 a1_4.length c_a1_4] 36 (0, 0)) :: blk b0 (.cells #[.slice A_a0_0 a0_0.length c_a0_0, .slice A_a0_1 a0_1.length c_a0_1, .pointer (some ⟨b1002_, 0, none⟩)] 65 (0, 0)) :: blk b1002_ (.cells #[.string a1002_0, .int .i64 a1002_1, .int .i64 a1002_2, .int .i64 a1002_3, .slice A_a1002_4 a1002_4.length c_a1002_4, .slice A_a1002_5 a1002_5.length c_a1002_5, .int .i64 a1002_6, .slice A_a1002_7 a1002_7.length c_a1002_7] 63 (0, 0)) :: H_a1002_4 :: X) (by kernel_rfl) (by kernel_rfl) (by kernel_rfl) (check_few.ok hr5 R_a1_4) rfl ⟨(.tail _ (.tail _ (.tail _ (.tail _ (.tail _ hm_H_a1_4))))), trivial⟩ ?_
  rintro _ _ ⟨rfl, rfl⟩
  refine nx_ret0 ?_
  refine K.mv1 ?_
  refine K.drop ?_
  refine k_nil ?_
  refine k_then ?_
  refine k_region_plan [(0, 0), (1, 0), (2, 0), (3, 3), (4, 0), (5, 0), (6, 0), (7, 3), (8, 0), (9, 0), (10, 0), (11, 3), (12, 3), (13, 1), (14, 1)] (fun w => OnAll [blk b2 (.cells #[.int .i64 a2_0, .int .i64 a2_1, .string a2_2] 53 (0, 0)), blk b0 (.cells #[.slice A_a0_0 a0_0.length c_a0_0, .slice A_a0_1 a0_1.length c_a0_1, .pointer (some ⟨b1002_, 0, none⟩)] 65 (0, 0)), blk b1002_ (.cells #[.string a1002_0, .int .i64 a1002_1, .int .i64 a1002_2, .int .i64 a1002_3, .slice A_a1002_4 a1002_4.length c_a1002_4, .slice A_a1002_5 a1002_5.length c_a1002_5, .int .i64 a1002_6, .slice A_a1002_7 a1002_7.length c_a1002_7] 63 (0, 0))] w) (by kernel_rfl) (by kernel_rfl) (fun _ _ d _ _ h => by cases d <;> exact h) (fun w h_ => ⟨h_.sat.on _ (.head _), h_.sat.on _ (.tail _ (.head _)), h_.sat.on _ (.tail _ (.tail _ (.head _))), trivial⟩) ?_
  simp only [planOps, List.filterMap_cons, List.filterMap_nil, List.getElem?_toArray, List.getElem?_cons_zero, List.getElem?_cons_succ, Option.map_some, List.drop_succ_cons, List.drop_zero, List.length_cons, List.length_nil]
  refine kp_steps 3 [(0, .pointer (some ⟨b0, 0, none⟩)), (5, .pointer (some ⟨b2, 0, none⟩)), (31, .pointer (some ⟨b0, 2, none⟩))] (by kernel_rfl) (by kernel_rfl) ?_
  refine kp_loadS (v := .pointer (some ⟨b1002_, 0, none⟩)) [blk b2 (.cells #[.int .i64 a2_0, .int .i64 a2_1, .string a2_2] 53 (0, 0)), blk b0 (.cells #[.slice A_a0_0 a0_0.length c_a0_0, .slice A_a0_1 a0_1.length c_a0_1, .pointer (some ⟨b1002_, 0, none⟩)] 65 (0, 0)), blk b1002_ (.cells #[.string a1002_0, .int .i64 a1002_1, .int .i64 a1002_2, .int .i64 a1002_3, .slice A_a1002_4 a1002_4.length c_a1002_4, .slice A_a1002_5 a1002_5.length c_a1002_5, .int .i64 a1002_6, .slice A_a1002_7 a1002_7.length c_a1002_7] 63 (0, 0))] [.val (.pointer (some ⟨b1002_, 0, none⟩))] [.ld ⟨b0, 2, none⟩ (.pointer (some ⟨b1002_, 0, none⟩))] (by kernel_rfl) (by kernel_rfl) (by kernel_rfl) (fun _ h => h) ⟨⟨1, _, _, _, rfl, rfl, rfl⟩, trivial⟩ ?_
  refine kp_steps 3 [(5, .pointer (some ⟨b2, 0, none⟩)), (32, .pointer (some ⟨b1002_, 0, none⟩)), (35, .pointer (some ⟨b0, 2, none⟩))] (by kernel_rfl) (by kernel_rfl) ?_
  refine kp_loadS (v := .pointer (some ⟨b1002_, 0, none⟩)) [blk b2 (.cells #[.int .i64 a2_0, .int .i64 a2_1, .string a2_2] 53 (0, 0)), blk b0 (.cells #[.slice A_a0_0 a0_0.length c_a0_0, .slice A_a0_1 a0_1.length c_a0_1, .pointer (some ⟨b1002_, 0, none⟩)] 65 (0, 0)), blk b1002_ (.cells #[.string a1002_0, .int .i64 a1002_1, .int .i64 a1002_2, .int .i64 a1002_3, .slice A_a1002_4 a1002_4.length c_a1002_4, .slice A_a1002_5 a1002_5.length c_a1002_5, .int .i64 a1002_6, .slice A_a1002_7 a1002_7.length c_a1002_7] 63 (0, 0))] [.val (.pointer (some ⟨b1002_, 0, none⟩))] [.ld ⟨b0, 2, none⟩ (.pointer (some ⟨b1002_, 0, none⟩))] (by kernel_rfl) (by kernel_rfl) (by kernel_rfl) (fun _ h => h) ⟨⟨1, _, _, _, rfl, rfl, rfl⟩, trivial⟩ ?_
  refine kp_steps 3 [(5, .pointer (some ⟨b2, 0, none⟩)), (32, .pointer (some ⟨b1002_, 0, none⟩)), (39, .pointer (some ⟨b1002_, 4, none⟩))] (by kernel_rfl) (by kernel_rfl) ?_
  refine kp_loadS (v := .slice A_a1002_4 a1002_4.length c_a1002_4) [blk b2 (.cells #[.int .i64 a2_0, .int .i64 a2_1, .string a2_2] 53 (0, 0)), blk b0 (.cells #[.slice A_a0_0 a0_0.length c_a0_0, .slice A_a0_1 a0_1.length c_a0_1, .pointer (some ⟨b1002_, 0, none⟩)] 65 (0, 0)), blk b1002_ (.cells #[.string a1002_0, .int .i64 a1002_1, .int .i64 a1002_2, .int .i64 a1002_3, .slice A_a1002_4 a1002_4.length c_a1002_4, .slice A_a1002_5 a1002_5.length c_a1002_5, .int .i64 a1002_6, .slice A_a1002_7 a1002_7.length c_a1002_7] 63 (0, 0))] [.val (.slice A_a1002_4 a1002_4.length c_a1002_4)] [.ld ⟨b1002_, 4, none⟩ (.slice A_a1002_4 a1002_4.length c_a1002_4)] (by kernel_rfl) (by kernel_rfl) (by kernel_rfl) (fun _ h => h) ⟨⟨2, _, _, _, rfl, rfl, rfl⟩, trivial⟩ ?_
  refine kp_loadS (v := .agg #[.int .i64 a2_0, .int .i64 a2_1, .string a2_2]) [blk b2 (.cells #[.int .i64 a2_0, .int .i64 a2_1, .string a2_2] 53 (0, 0)), blk b0 (.cells #[.slice A_a0_0 a0_0.length c_a0_0, .slice A_a0_1 a0_1.length c_a0_1, .pointer (some ⟨b1002_, 0, none⟩)] 65 (0, 0)), blk b1002_ (.cells #[.string a1002_0, .int .i64 a1002_1, .int .i64 a1002_2, .int .i64 a1002_3, .slice A_a1002_4 a1002_4.length c_a1002_4, .slice A_a1002_5 a1002_5.length c_a1002_5, .int .i64 a1002_6, .slice A_a1002_7 a1002_7.length c_a1002_7] 63 (0, 0))] [.val (.int .i64 a2_0), .val (.int .i64 a2_1), .val (.string a2_2)] [.ld ⟨b2, 0, none⟩ (.int .i64 a2_0), .ld ⟨b2, 1, none⟩ (.int .i64 a2_1), .ld ⟨b2, 2, none⟩ (.string a2_2)] (by kernel_rfl) (by kernel_rfl) (by kernel_rfl) (fun _ h => h) ⟨⟨0, _, _, _, rfl, rfl, rfl⟩, ⟨0, _, _, _, rfl, rfl, rfl⟩, ⟨0, _, _, _, rfl, rfl, rfl⟩, trivial⟩ ?_
  refine kp_turn (by kernel_rfl) ?_
  refine op_new (.cells #[.int .i64 a2_0, .int .i64 a2_1, .string a2_2] 53 (0, 0)) (fun b => .slice (some ⟨b, 0, none⟩) 1 1) (by kernel_rfl) (fun _ => by kernel_rfl) fun b7 => ?_
  refine k_and (fun w h_ => ⟨h_.sat.on _ (.tail _ (.head _)), h_.sat.on _ (.tail _ (.tail _ (.head _))), h_.sat.on _ (.tail _ (.tail _ (.tail _ (.head _)))), trivial⟩) ?_
  refine kp_turn (by kernel_rfl) ?_
  refine K.mv4 ?_
  obtain ⟨l8, hl8, h⟩ := bindSome h
  refine op_apd (ys := [(a2_0, a2_1, a2_2)]) e53_ok rfl ety40 (by kernel_rfl) (by kernel_rfl) (by kernel_rfl) (by kernel_rfl) hl8 R_a1002_4 (src_blk (n := 1) e53_ok [(a2_0, a2_1, a2_2)] (by kernel_rfl) rfl (by decide) 1 rfl) fun h9 A10 k11 o12 => ?_
  refine k_and (fun w h_ => ⟨h_.sat.on _ (.tail _ (.tail _ (.head _))), h_.sat.on _ (.tail _ (.tail _ (.tail _ (.head _)))), h_.sat.on _ (.tail _ (.tail _ (.tail _ (.tail _ (.head _))))), trivial⟩) ?_
  refine kp_done ?_
  refine kl_steps 3 [(43, .slice A10 l8.length k11), (46, .pointer (some ⟨b1002_, 4, none⟩))] (by kernel_rfl) ?_
  refine K.mv4 ?_
  refine kl_store (cs' := #[.string a1002_0, .int .i64 a1002_1, .int .i64 a1002_2, .int .i64 a1002_3, .slice A10 l8.length k11, .slice A_a1002_5 a1002_5.length c_a1002_5, .int .i64 a1002_6, .slice A_a1002_7 a1002_7.length c_a1002_7]) [.st ⟨b1002_, 4, none⟩ (.slice A10 l8.length k11)] (by kernel_rfl) (by kernel_rfl) (by kernel_rfl) ⟨rfl, trivial⟩ (by kernel_rfl) ?_
  refine K.mv2 ?_
  refine K.drop ?_
  refine K.mv2 ?_
  refine K.drop ?_
  refine k_nil ?_
  refine k_fall ?_
  obtain rfl := Option.some.inj h
  refine k_done (v := .tuple #[]) [] [] [blk b0 (.cells #[.slice A_a0_0 a0_0.length c_a0_0, .slice A_a0_1 a0_1.length c_a0_1, .pointer (some ⟨b1002_, 0, none⟩)] 65 (0, 0)), blk b1002_ (.cells #[.string a1002_0, .int .i64 a1002_1, .int .i64 a1002_2, .int .i64 a1002_3, .slice A10 l8.length k11, .slice A_a1002_5 a1002_5.length c_a1002_5, .int .i64 a1002_6, .slice A_a1002_7 a1002_7.length c_a1002_7] 63 (0, 0)), h9] (by kernel_rfl) (by kernel_rfl) trivial ?_
  refine K.mv1 ?_
  refine K.mv1 ?_
  refine K.mv2 ?_
  exact k_end (PR.okI ⟨h9, A10, k11, o12, rfl, rfl⟩)
 ·have h := condF h t4
  refine k_skip ?_
  refine k_fall ?_
  obtain rfl := Option.some.inj h
  refine k_done (v := .tuple #[]) [] [] [blk b0 (.cells #[.slice A_a0_0 a0_0.length c_a0_0, .slice A_a0_1 a0_1.length c_a0_1, .pointer (some ⟨b1002_, 0, none⟩)] 65 (0, 0)), blk b1002_ (.cells #[.string a1002_0, .int .i64 a1002_1, .int .i64 a1002_2, .int .i64 a1002_3, .slice A_a1002_4 a1002_4.length c_a1002_4, .slice A_a1002_5 a1002_5.length c_a1002_5, .int .i64 a1002_6, .slice A_a1002_7 a1002_7.length c_a1002_7] 63 (0, 0)), H_a1002_4] (by kernel_rfl) (by kernel_rfl) trivial ?_
  refine K.drop ?_
  refine K.drop ?_
  exact k_end (PR.okI ⟨H_a1002_4, A_a1002_4, c_a1002_4, R_a1002_4, rfl, rfl⟩)
def check_checker_bring.l0 : Nat → (a2 : List Tree) → (J7 : (List ByteArray) → Option (PR (Int × List ByteArray) (Int × Int))) → (x10 : Int) → (l11 : List ByteArray) → Option (PR (Int × List ByteArray) (Int × Int))
 | 0, _, _, _, _ => none
 | m16 + 1, a2, J7, x10, l11 => cond (decide (x10 < ((a2.length : Nat) : Int))) ((lIdx a2 x10).bind fun x18 => joinF (fun (_ : Unit) => (apd 16 l11 [x18.text]).bind fun l30 => check_checker_bring.l0 m16 a2 J7 (IntKind.i64.wrap (x10 + (1 : Int))) l30) (fun J28 => (check_kept.f m16 x18.text).bind fun r35 => cond r35 (PR.bind (check_fail.f m16 (5 : Int) x18.at_) fun r37 => J28 ()) (J28 ()))) (J7 l11)
def check_checker_bring.f (k : Nat) (a0_0 : List (ByteArray × Int × Int × Int × List (Int × Int × ByteArray))) (a0_1 : List ByteArray) (a1002_0 : ByteArray) (a1002_1 : Int) (a1002_2 : Int) (a1002_3 : Int) (a1002_4 : List (Int × Int × ByteArray)) (a1002_5 : List ByteArray) (a1002_6 : Int) (a1002_7 : List ByteArray) (a1_0 : Int) (a1_1 : ByteArray) (a1_2 : Int) (a1_3 : Int) (a1_4 : List Tree) (a2 : List Tree) : Option (PR (Int × List ByteArray) (Int × Int)) := joinF (fun (l2 : List ByteArray) => PR.bind (check_few.f k a1_0 a1_1 a1_2 a1_3 a1_4 ((l2.length : Nat) : Int) (60 : Int)) fun r8 => some (PR.ok ((if ((l2.length : Nat) : Int) > a1002_3 then ((l2.length : Nat) : Int) else a1002_3), l2))) (fun J7 => check_checker_bring.l0 k a2 J7 (0 : Int) a1002_5)
set_option maxRecDepth 100000 in
theorem check_checker_bring.ok {k : Nat} {a0_0 : List (ByteArray × Int × Int × Int × List (Int × Int × ByteArray))} {a0_1 : List ByteArray} {a1002_0 : ByteArray} {a1002_1 : Int} {a1002_2 : Int} {a1002_3 : Int} {a1002_4 : List (Int × Int × ByteArray)} {a1002_5 : List ByteArray} {a1002_6 : Int} {a1002_7 : List ByteArray} {a1_0 : Int} {a1_1 : ByteArray} {a1_2 : Int} {a1_3 : Int} {a1_4 : List Tree} {a2 : List Tree} {b0 : Nat} {H_a0_0 : Frag} {A_a0_0 : Option Addr} {c_a0_0 : Nat} {H_a0_1 : Frag} {A_a0_1 : Option Addr} {c_a0_1 : Nat} {b1002_ : Nat} {H_a1002_4 : Frag} {A_a1002_4 : Option Addr} {c_a1002_4 : Nat} {H_a1002_5 : Frag} {A_a1002_5 : Option Addr} {c_a1002_5 : Nat} {H_a1002_7 : Frag} {A_a1002_7 : Option Addr} {c_a1002_7 : Nat} {H_a1_4 : Frag} {A_a1_4 : Option Addr} {c_a1_4 : Nat} {H_a2 : Frag} {A_a2 : Option Addr} {c_a2 : Nat} {r : PR (Int × List ByteArray) (Int × Int)} (h : check_checker_bring.f k a0_0 a0_1 a1002_0 a1002_1 a1002_2 a1002_3 a1002_4 a1002_5 a1002_6 a1002_7 a1_0 a1_1 a1_2 a1_3 a1_4 a2 = some r) (R_a0_0 : RdR rs42 H_a0_0 (.slice A_a0_0 a0_0.length c_a0_0) a0_0) (R_a0_1 : RdT encS 1 H_a0_1 (.slice A_a0_1 a0_1.length c_a0_1) a0_1) (R_a1002_4 : RdT e53 3 H_a1002_4 (.slice A_a1002_4 a1002_4.length c_a1002_4) a1002_4) (R_a1002_5 : OwnT encS 9 1 H_a1002_5 (.slice A_a1002_5 a1002_5.length c_a1002_5) a1002_5) (R_a1002_7 : RdT encS 1 H_a1002_7 (.slice A_a1002_7 a1002_7.length c_a1002_7) a1002_7) (R_a1_4 : RdR (rTree 36) H_a1_4 (.slice A_a1_4 a1_4.length c_a1_4) a1_4) (R_a2 : RdR (rTree 36) H_a2 (.slice A_a2 a2.length c_a2) a2) : Ct Tryz.prog 38 #[.pointer (some ⟨b0, 0, none⟩), .agg #[.int .i64 a1_0, .string a1_1, .int .i64 a1_2, .int .i64 a1_3, .slice A_a1_4 a1_4.length c_a1_4], .slice A_a2 a2.length c_a2] [blk b0 (.cells #[.slice A_a0_0 a0_0.length c_a0_0, .slice A_a0_1 a0_1.length c_a0_1, .pointer (some ⟨b1002_, 0, none⟩)] 65 (0, 0)), blk b1002_ (.cells #[.string a1002_0, .int .i64 a1002_1, .int .i64 a1002_2, .int .i64 a1002_3, .slice A_a1002_4 a1002_4.length c_a1002_4, .slice A_a1002_5 a1002_5.length c_a1002_5, .int .i64 a1002_6, .slice A_a1002_7 a1002_7.length c_a1002_7] 63 (0, 0)), H_a1002_5] [H_a0_0, H_a0_1, H_a1002_4, H_a1002_7, H_a1_4, H_a2] (PR.Post failC (fun (r : Int × List ByteArray) e l1 => ∃ (H0_ : Frag) (A0_ : Option Addr) (c0_ : Nat), OwnT encS 9 1 H0_ (.slice A0_ r.2.length c0_) r.2 ∧ e = .returned (.tuple #[]) ∧ l1 = [blk b0 (.cells #[.slice A_a0_0 a0_0.length c_a0_0, .slice A_a0_1 a0_1.length c_a0_1, .pointer (some ⟨b1002_, 0, none⟩)] 65 (0, 0)), blk b1002_ (.cells #[.string a1002_0, .int .i64 a1002_1, .int .i64 a1002_2, .int .i64 r.1, .slice A_a1002_4 a1002_4.length c_a1002_4, .slice A0_ r.2.length c0_, .int .i64 a1002_6, .slice A_a1002_7 a1002_7.length c_a1002_7] 63 (0, 0)), H0_]) r) := by
 refine ct_enter (args := [.pointer (some ⟨b0, 0, none⟩), .agg #[.int .i64 a1_0, .string a1_1, .int .i64 a1_2, .int .i64 a1_3, .slice A_a1_4 a1_4.length c_a1_4], .slice A_a2 a2.length c_a2]) Tryz.func38 rfl (Nat.le_of_ble_eq_true rfl) ?_
 intro A X hh_
 obtain ⟨hm_H_a0_0, hm_H_a0_1, hm_H_a1002_4, hm_H_a1002_7, hm_H_a1_4, hm_H_a2, _⟩ := hh_
 unfold check_checker_bring.f at h
 refine K.eq (env' := [(0, .pointer (some ⟨b0, 0, none⟩)), (1, .agg #[.int .i64 a1_0, .string a1_1, .int .i64 a1_2, .int .i64 a1_3, .slice A_a1_4 a1_4.length c_a1_4]), (2, .slice A_a2 a2.length c_a2)]) (l' := blk b0 (.cells #[.slice A_a0_0 a0_0.length c_a0_0, .slice A_a0_1 a0_1.length c_a0_1, .pointer (some ⟨b1002_, 0, none⟩)] 65 (0, 0)) :: blk b1002_ (.cells #[.string a1002_0, .int .i64 a1002_1, .int .i64 a1002_2, .int .i64 a1002_3, .slice A_a1002_4 a1002_4.length c_a1002_4, .slice A_a1002_5 a1002_5.length c_a1002_5, .int .i64 a1002_6, .slice A_a1002_7 a1002_7.length c_a1002_7] 63 (0, 0)) :: H_a1002_5 :: X) rfl rfl ?_
 refine k_seq ?_
 refine k_region ?_
 refine kl_new (.cells #[.int .i64 a1_0, .string a1_1, .int .i64 a1_2, .int .i64 a1_3, .slice A_a1_4 a1_4.length c_a1_4] 36 (0, 0)) (fun b => .pointer (some ⟨b, 0, none⟩)) (by kernel_rfl) (by kernel_rfl) (fun _ => by kernel_rfl) fun b1 => ?_
 refine k_nil ?_
 refine k_then ?_
 obtain ⟨J7, hJ7, h⟩ := joinSplit h
 refine k_cut (τ := (List ByteArray) × Frag × (Option Addr) × Nat) (fun t => [(0, .pointer (some ⟨b0, 0, none⟩)), (4, .pointer (some ⟨b1, 0, none⟩))]) (fun t => blk b1 (.cells #[.int .i64 a1_0, .string a1_1, .int .i64 a1_2, .int .i64 a1_3, .slice A_a1_4 a1_4.length c_a1_4] 36 (0, 0)) :: blk b0 (.cells #[.slice A_a0_0 a0_0.length c_a0_0, .slice A_a0_1 a0_1.length c_a0_1, .pointer (some ⟨b1002_, 0, none⟩)] 65 (0, 0)) :: blk b1002_ (.cells #[.string a1002_0, .int .i64 a1002_1, .int .i64 a1002_2, .int .i64 a1002_3, .slice A_a1002_4 a1002_4.length c_a1002_4, .slice t.2.2.1 t.1.length t.2.2.2, .int .i64 a1002_6, .slice A_a1002_7 a1002_7.length c_a1002_7] 63 (0, 0)) :: t.2.1 :: X) (fun t => J7 t.1 = some r ∧ OwnT encS 9 1 t.2.1 (.slice t.2.2.1 t.1.length t.2.2.2) t.1) ?_ ?_
 ·rintro ⟨l2, h3, A4, k5⟩ ⟨h, o6⟩
  subst hJ7
  refine k_seq ?_
  refine k_region_plan [(0, 3), (1, 0), (2, 0), (3, 0), (4, 3), (5, 0), (6, 0), (7, 3), (8, 0)] (fun w => OnAll [blk b1 (.cells #[.int .i64 a1_0, .string a1_1, .int .i64 a1_2, .int .i64 a1_3, .slice A_a1_4 a1_4.length c_a1_4] 36 (0, 0)), blk b0 (.cells #[.slice A_a0_0 a0_0.length c_a0_0, .slice A_a0_1 a0_1.length c_a0_1, .pointer (some ⟨b1002_, 0, none⟩)] 65 (0, 0)), blk b1002_ (.cells #[.string a1002_0, .int .i64 a1002_1, .int .i64 a1002_2, .int .i64 a1002_3, .slice A_a1002_4 a1002_4.length c_a1002_4, .slice A4 l2.length k5, .int .i64 a1002_6, .slice A_a1002_7 a1002_7.length c_a1002_7] 63 (0, 0))] w) (by kernel_rfl) (by kernel_rfl) (fun _ _ d _ _ h => by cases d <;> exact h) (fun w h_ => ⟨h_.sat.on _ (.head _), h_.sat.on _ (.tail _ (.head _)), h_.sat.on _ (.tail _ (.tail _ (.head _))), trivial⟩) ?_
  simp only [planOps, List.filterMap_cons, List.filterMap_nil, List.getElem?_toArray, List.getElem?_cons_zero, List.getElem?_cons_succ, Option.map_some, List.drop_succ_cons, List.drop_zero, List.length_cons, List.length_nil]
  refine kp_loadS (v := .agg #[.int .i64 a1_0, .string a1_1, .int .i64 a1_2, .int .i64 a1_3, .slice A_a1_4 a1_4.length c_a1_4]) [blk b1 (.cells #[.int .i64 a1_0, .string a1_1, .int .i64 a1_2, .int .i64 a1_3, .slice A_a1_4 a1_4.length c_a1_4] 36 (0, 0)), blk b0 (.cells #[.slice A_a0_0 a0_0.length c_a0_0, .slice A_a0_1 a0_1.length c_a0_1, .pointer (some ⟨b1002_, 0, none⟩)] 65 (0, 0)), blk b1002_ (.cells #[.string a1002_0, .int .i64 a1002_1, .int .i64 a1002_2, .int .i64 a1002_3, .slice A_a1002_4 a1002_4.length c_a1002_4, .slice A4 l2.length k5, .int .i64 a1002_6, .slice A_a1002_7 a1002_7.length c_a1002_7] 63 (0, 0))] [.val (.int .i64 a1_0), .val (.string a1_1), .val (.int .i64 a1_2), .val (.int .i64 a1_3), .val (.slice A_a1_4 a1_4.length c_a1_4)] [.ld ⟨b1, 0, none⟩ (.int .i64 a1_0), .ld ⟨b1, 1, none⟩ (.string a1_1), .ld ⟨b1, 2, none⟩ (.int .i64 a1_2), .ld ⟨b1, 3, none⟩ (.int .i64 a1_3), .ld ⟨b1, 4, none⟩ (.slice A_a1_4 a1_4.length c_a1_4)] (by kernel_rfl) (by kernel_rfl) (by kernel_rfl) (fun _ h => h) ⟨⟨0, _, _, _, rfl, rfl, rfl⟩, ⟨0, _, _, _, rfl, rfl, rfl⟩, ⟨0, _, _, _, rfl, rfl, rfl⟩, ⟨0, _, _, _, rfl, rfl, rfl⟩, ⟨0, _, _, _, rfl, rfl, rfl⟩, trivial⟩ ?_
  refine kp_steps 3 [(0, .pointer (some ⟨b0, 0, none⟩)), (38, .agg #[.int .i64 a1_0, .string a1_1, .int .i64 a1_2, .int .i64 a1_3, .slice A_a1_4 a1_4.length c_a1_4]), (41, .pointer (some ⟨b0, 2, none⟩))] (by kernel_rfl) (by kernel_rfl) ?_
  refine kp_loadS (v := .pointer (some ⟨b1002_, 0, none⟩)) [blk b1 (.cells #[.int .i64 a1_0, .string a1_1, .int .i64 a1_2, .int .i64 a1_3, .slice A_a1_4 a1_4.length c_a1_4] 36 (0, 0)), blk b0 (.cells #[.slice A_a0_0 a0_0.length c_a0_0, .slice A_a0_1 a0_1.length c_a0_1, .pointer (some ⟨b1002_, 0, none⟩)] 65 (0, 0)), blk b1002_ (.cells #[.string a1002_0, .int .i64 a1002_1, .int .i64 a1002_2, .int .i64 a1002_3, .slice A_a1002_4 a1002_4.length c_a1002_4, .slice A4 l2.length k5, .int .i64 a1002_6, .slice A_a1002_7 a1002_7.length c_a1002_7] 63 (0, 0))] [.val (.pointer (some ⟨b1002_, 0, none⟩))] [.ld ⟨b0, 2, none⟩ (.pointer (some ⟨b1002_, 0, none⟩))] (by kernel_rfl) (by kernel_rfl) (by kernel_rfl) (fun _ h => h) ⟨⟨1, _, _, _, rfl, rfl, rfl⟩, trivial⟩ ?_
  refine kp_steps 2 [(0, .pointer (some ⟨b0, 0, none⟩)), (38, .agg #[.int .i64 a1_0, .string a1_1, .int .i64 a1_2, .int .i64 a1_3, .slice A_a1_4 a1_4.length c_a1_4]), (44, .pointer (some ⟨b1002_, 5, none⟩))] (by kernel_rfl) (by kernel_rfl) ?_
  refine kp_loadS (v := .slice A4 l2.length k5) [blk b1 (.cells #[.int .i64 a1_0, .string a1_1, .int .i64 a1_2, .int .i64 a1_3, .slice A_a1_4 a1_4.length c_a1_4] 36 (0, 0)), blk b0 (.cells #[.slice A_a0_0 a0_0.length c_a0_0, .slice A_a0_1 a0_1.length c_a0_1, .pointer (some ⟨b1002_, 0, none⟩)] 65 (0, 0)), blk b1002_ (.cells #[.string a1002_0, .int .i64 a1002_1, .int .i64 a1002_2, .int .i64 a1002_3, .slice A_a1002_4 a1002_4.length c_a1002_4, .slice A4 l2.length k5, .int .i64 a1002_6, .slice A_a1002_7 a1002_7.length c_a1002_7] 63 (0, 0))] [.val (.slice A4 l2.length k5)] [.ld ⟨b1002_, 5, none⟩ (.slice A4 l2.length k5)] (by kernel_rfl) (by kernel_rfl) (by kernel_rfl) (fun _ h => h) ⟨⟨2, _, _, _, rfl, rfl, rfl⟩, trivial⟩ ?_
  refine kp_steps 1 [(0, .pointer (some ⟨b0, 0, none⟩)), (38, .agg #[.int .i64 a1_0, .string a1_1, .int .i64 a1_2, .int .i64 a1_3, .slice A_a1_4 a1_4.length c_a1_4]), (46, .int .i64 ((l2.length : Nat) : Int))] (by kernel_rfl) (by kernel_rfl) ?_
  refine kp_done ?_
  rcases prBind h with ⟨i9, hr8, rfl⟩ | ⟨r8, hr8, h⟩
  ·refine kl_call (blk b1 (.cells #[.int .i64 a1_0, .string a1_1, .int .i64 a1_2, .int .i64 a1_3, .slice A_a1_4 a1_4.length c_a1_4] 36 (0, 0)) :: blk b0 (.cells #[.slice A_a0_0 a0_0.length c_a0_0, .slice A_a0_1 a0_1.length c_a0_1, .pointer (some ⟨b1002_, 0, none⟩)] 65 (0, 0)) :: blk b1002_ (.cells #[.string a1002_0, .int .i64 a1002_1, .int .i64 a1002_2, .int .i64 a1002_3, .slice A_a1002_4 a1002_4.length c_a1002_4, .slice A4 l2.length k5, .int .i64 a1002_6, .slice A_a1002_7 a1002_7.length c_a1002_7] 63 (0, 0)) :: h3 :: X) (by kernel_rfl) (by kernel_rfl) (by kernel_rfl) (check_few.ok hr8 R_a1_4) rfl ⟨(.tail _ (.tail _ (.tail _ (.tail _ hm_H_a1_4)))), trivial⟩ ?_
   rintro _ _ ⟨rfl, rfl⟩
   refine nx_pan ?_
   refine k_then_panic ?_
   refine k_panicked [] ?_
   refine K.drop ?_
   refine K.drop ?_
   refine K.drop ?_
   refine K.drop ?_
   exact k_end PR.badI
  refine kl_call (blk b1 (.cells #[.int .i64 a1_0, .string a1_1, .int .i64 a1_2, .int .i64 a1_3, .slice A_a1_4 a1_4.length c_a1_4] 36 (0, 0)) :: blk b0 (.cells #[.slice A_a0_0 a0_0.length c_a0_0, .slice A_a0_1 a0_1.length c_a0_1, .pointer (some ⟨b1002_, 0, none⟩)] 65 (0, 0)) :: blk b1002_ (.cells #[.string a1002_0, .int .i64 a1002_1, .int .i64 a1002_2, .int .i64 a1002_3, .slice A_a1002_4 a1002_4.length c_a1002_4, .slice A4 l2.length k5, .int .i64 a1002_6, .slice A_a1002_7 a1002_7.length c_a1002_7] 63 (0, 0)) :: h3 :: X) (by kernel_rfl) (by kernel_rfl) (by kernel_rfl) (check_few.ok hr8 R_a1_4) rfl ⟨(.tail _ (.tail _ (.tail _ (.tail _ hm_H_a1_4)))), trivial⟩ ?_
  rintro _ _ ⟨rfl, rfl⟩
  refine nx_ret0 ?_
  refine K.drop ?_
  refine k_nil ?_
  refine k_then ?_
  refine k_region_plan [(0, 0), (1, 0), (2, 0), (3, 3), (4, 0), (5, 0), (6, 0), (7, 3), (8, 0), (9, 0), (10, 0), (11, 3), (12, 0), (13, 0), (14, 0), (15, 3), (16, 0), (17, 0), (18, 3), (19, 0), (20, 0)] (fun w => OnAll [blk b0 (.cells #[.slice A_a0_0 a0_0.length c_a0_0, .slice A_a0_1 a0_1.length c_a0_1, .pointer (some ⟨b1002_, 0, none⟩)] 65 (0, 0)), blk b1002_ (.cells #[.string a1002_0, .int .i64 a1002_1, .int .i64 a1002_2, .int .i64 a1002_3, .slice A_a1002_4 a1002_4.length c_a1002_4, .slice A4 l2.length k5, .int .i64 a1002_6, .slice A_a1002_7 a1002_7.length c_a1002_7] 63 (0, 0))] w) (by kernel_rfl) (by kernel_rfl) (fun _ _ d _ _ h => by cases d <;> exact h) (fun w h_ => ⟨h_.sat.on _ (.head _), h_.sat.on _ (.tail _ (.head _)), trivial⟩) ?_
  simp only [planOps, List.filterMap_cons, List.filterMap_nil, List.getElem?_toArray, List.getElem?_cons_zero, List.getElem?_cons_succ, Option.map_some, List.drop_succ_cons, List.drop_zero, List.length_cons, List.length_nil]
  refine kp_steps 3 [(0, .pointer (some ⟨b0, 0, none⟩)), (50, .pointer (some ⟨b0, 2, none⟩))] (by kernel_rfl) (by kernel_rfl) ?_
  refine kp_loadS (v := .pointer (some ⟨b1002_, 0, none⟩)) [blk b0 (.cells #[.slice A_a0_0 a0_0.length c_a0_0, .slice A_a0_1 a0_1.length c_a0_1, .pointer (some ⟨b1002_, 0, none⟩)] 65 (0, 0)), blk b1002_ (.cells #[.string a1002_0, .int .i64 a1002_1, .int .i64 a1002_2, .int .i64 a1002_3, .slice A_a1002_4 a1002_4.length c_a1002_4, .slice A4 l2.length k5, .int .i64 a1002_6, .slice A_a1002_7 a1002_7.length c_a1002_7] 63 (0, 0))] [.val (.pointer (some ⟨b1002_, 0, none⟩))] [.ld ⟨b0, 2, none⟩ (.pointer (some ⟨b1002_, 0, none⟩))] (by kernel_rfl) (by kernel_rfl) (by kernel_rfl) (fun _ h => h) ⟨⟨0, _, _, _, rfl, rfl, rfl⟩, trivial⟩ ?_
  refine kp_steps 3 [(0, .pointer (some ⟨b0, 0, none⟩)), (51, .pointer (some ⟨b1002_, 0, none⟩)), (54, .pointer (some ⟨b0, 2, none⟩))] (by kernel_rfl) (by kernel_rfl) ?_
  refine kp_loadS (v := .pointer (some ⟨b1002_, 0, none⟩)) [blk b0 (.cells #[.slice A_a0_0 a0_0.length c_a0_0, .slice A_a0_1 a0_1.length c_a0_1, .pointer (some ⟨b1002_, 0, none⟩)] 65 (0, 0)), blk b1002_ (.cells #[.string a1002_0, .int .i64 a1002_1, .int .i64 a1002_2, .int .i64 a1002_3, .slice A_a1002_4 a1002_4.length c_a1002_4, .slice A4 l2.length k5, .int .i64 a1002_6, .slice A_a1002_7 a1002_7.length c_a1002_7] 63 (0, 0))] [.val (.pointer (some ⟨b1002_, 0, none⟩))] [.ld ⟨b0, 2, none⟩ (.pointer (some ⟨b1002_, 0, none⟩))] (by kernel_rfl) (by kernel_rfl) (by kernel_rfl) (fun _ h => h) ⟨⟨0, _, _, _, rfl, rfl, rfl⟩, trivial⟩ ?_
  refine kp_steps 3 [(0, .pointer (some ⟨b0, 0, none⟩)), (51, .pointer (some ⟨b1002_, 0, none⟩)), (58, .pointer (some ⟨b1002_, 3, none⟩))] (by kernel_rfl) (by kernel_rfl) ?_
  refine kp_loadS (v := .int .i64 a1002_3) [blk b0 (.cells #[.slice A_a0_0 a0_0.length c_a0_0, .slice A_a0_1 a0_1.length c_a0_1, .pointer (some ⟨b1002_, 0, none⟩)] 65 (0, 0)), blk b1002_ (.cells #[.string a1002_0, .int .i64 a1002_1, .int .i64 a1002_2, .int .i64 a1002_3, .slice A_a1002_4 a1002_4.length c_a1002_4, .slice A4 l2.length k5, .int .i64 a1002_6, .slice A_a1002_7 a1002_7.length c_a1002_7] 63 (0, 0))] [.val (.int .i64 a1002_3)] [.ld ⟨b1002_, 3, none⟩ (.int .i64 a1002_3)] (by kernel_rfl) (by kernel_rfl) (by kernel_rfl) (fun _ h => h) ⟨⟨1, _, _, _, rfl, rfl, rfl⟩, trivial⟩ ?_
  refine kp_steps 3 [(51, .pointer (some ⟨b1002_, 0, none⟩)), (59, .int .i64 a1002_3), (62, .pointer (some ⟨b0, 2, none⟩))] (by kernel_rfl) (by kernel_rfl) ?_
  refine kp_loadS (v := .pointer (some ⟨b1002_, 0, none⟩)) [blk b0 (.cells #[.slice A_a0_0 a0_0.length c_a0_0, .slice A_a0_1 a0_1.length c_a0_1, .pointer (some ⟨b1002_, 0, none⟩)] 65 (0, 0)), blk b1002_ (.cells #[.string a1002_0, .int .i64 a1002_1, .int .i64 a1002_2, .int .i64 a1002_3, .slice A_a1002_4 a1002_4.length c_a1002_4, .slice A4 l2.length k5, .int .i64 a1002_6, .slice A_a1002_7 a1002_7.length c_a1002_7] 63 (0, 0))] [.val (.pointer (some ⟨b1002_, 0, none⟩))] [.ld ⟨b0, 2, none⟩ (.pointer (some ⟨b1002_, 0, none⟩))] (by kernel_rfl) (by kernel_rfl) (by kernel_rfl) (fun _ h => h) ⟨⟨0, _, _, _, rfl, rfl, rfl⟩, trivial⟩ ?_
  refine kp_steps 2 [(51, .pointer (some ⟨b1002_, 0, none⟩)), (59, .int .i64 a1002_3), (65, .pointer (some ⟨b1002_, 5, none⟩))] (by kernel_rfl) (by kernel_rfl) ?_
  refine kp_loadS (v := .slice A4 l2.length k5) [blk b0 (.cells #[.slice A_a0_0 a0_0.length c_a0_0, .slice A_a0_1 a0_1.length c_a0_1, .pointer (some ⟨b1002_, 0, none⟩)] 65 (0, 0)), blk b1002_ (.cells #[.string a1002_0, .int .i64 a1002_1, .int .i64 a1002_2, .int .i64 a1002_3, .slice A_a1002_4 a1002_4.length c_a1002_4, .slice A4 l2.length k5, .int .i64 a1002_6, .slice A_a1002_7 a1002_7.length c_a1002_7] 63 (0, 0))] [.val (.slice A4 l2.length k5)] [.ld ⟨b1002_, 5, none⟩ (.slice A4 l2.length k5)] (by kernel_rfl) (by kernel_rfl) (by kernel_rfl) (fun _ h => h) ⟨⟨1, _, _, _, rfl, rfl, rfl⟩, trivial⟩ ?_
  refine kp_steps 2 [(51, .pointer (some ⟨b1002_, 0, none⟩)), (68, .int .i64 (if ((l2.length : Nat) : Int) > a1002_3 then ((l2.length : Nat) : Int) else a1002_3))] (by kernel_rfl) (by kernel_rfl) ?_
  refine kp_done ?_
  refine kl_steps 3 [(68, .int .i64 (if ((l2.length : Nat) : Int) > a1002_3 then ((l2.length : Nat) : Int) else a1002_3)), (71, .pointer (some ⟨b1002_, 3, none⟩))] (by kernel_rfl) ?_
  refine K.mv1 ?_
  refine kl_store (cs' := #[.string a1002_0, .int .i64 a1002_1, .int .i64 a1002_2, .int .i64 (if ((l2.length : Nat) : Int) > a1002_3 then ((l2.length : Nat) : Int) else a1002_3), .slice A_a1002_4 a1002_4.length c_a1002_4, .slice A4 l2.length k5, .int .i64 a1002_6, .slice A_a1002_7 a1002_7.length c_a1002_7]) [.st ⟨b1002_, 3, none⟩ (.int .i64 (if ((l2.length : Nat) : Int) > a1002_3 then ((l2.length : Nat) : Int) else a1002_3))] (by kernel_rfl) (by kernel_rfl) (by kernel_rfl) ⟨rfl, trivial⟩ (by kernel_rfl) ?_
  refine k_nil ?_
  refine k_fall ?_
  obtain rfl := Option.some.inj h
  refine k_done (v := .tuple #[]) [] [] [blk b0 (.cells #[.slice A_a0_0 a0_0.length c_a0_0, .slice A_a0_1 a0_1.length c_a0_1, .pointer (some ⟨b1002_, 0, none⟩)] 65 (0, 0)), blk b1002_ (.cells #[.string a1002_0, .int .i64 a1002_1, .int .i64 a1002_2, .int .i64 (if ((l2.length : Nat) : Int) > a1002_3 then ((l2.length : Nat) : Int) else a1002_3), .slice A_a1002_4 a1002_4.length c_a1002_4, .slice A4 l2.length k5, .int .i64 a1002_6, .slice A_a1002_7 a1002_7.length c_a1002_7] 63 (0, 0)), h3] (by kernel_rfl) (by kernel_rfl) trivial ?_
  refine K.mv2 ?_
  refine K.mv1 ?_
  refine K.mv2 ?_
  exact k_end (PR.okI ⟨h3, A4, k5, o6, rfl, rfl⟩)
 ·skip
  refine k_seq ?_
  refine k_region ?_
  refine kl_steps 3 [(0, .pointer (some ⟨b0, 0, none⟩)), (4, .pointer (some ⟨b1, 0, none⟩)), (8, .slice A_a2 a2.length c_a2), (9, .int .i64 ((a2.length : Nat) : Int)), (10, .int .i64 (0 : Int))] (by kernel_rfl) ?_
  refine k_nil ?_
  refine k_then ?_
  refine k_block ?_
  refine k_loop (τ := Int × (List ByteArray) × Frag × (Option Addr) × Nat) (fun t => [(0, .pointer (some ⟨b0, 0, none⟩)), (4, .pointer (some ⟨b1, 0, none⟩)), (8, .slice A_a2 a2.length c_a2), (9, .int .i64 ((a2.length : Nat) : Int)), (10, .int .i64 t.1)]) (fun t => blk b1 (.cells #[.int .i64 a1_0, .string a1_1, .int .i64 a1_2, .int .i64 a1_3, .slice A_a1_4 a1_4.length c_a1_4] 36 (0, 0)) :: blk b0 (.cells #[.slice A_a0_0 a0_0.length c_a0_0, .slice A_a0_1 a0_1.length c_a0_1, .pointer (some ⟨b1002_, 0, none⟩)] 65 (0, 0)) :: blk b1002_ (.cells #[.string a1002_0, .int .i64 a1002_1, .int .i64 a1002_2, .int .i64 a1002_3, .slice A_a1002_4 a1002_4.length c_a1002_4, .slice t.2.2.2.1 t.2.1.length t.2.2.2.2, .int .i64 a1002_6, .slice A_a1002_7 a1002_7.length c_a1002_7] 63 (0, 0)) :: t.2.2.1 :: X) (fun m t => check_checker_bring.l0 m a2 J7 t.1 t.2.1 = some r ∧ OwnT encS 9 1 t.2.2.1 (.slice t.2.2.2.1 t.2.1.length t.2.2.2.2) t.2.1) k ((0 : Int), a1002_5, H_a1002_5, A_a1002_5, c_a1002_5) ⟨h, R_a1002_5⟩ ⟨rfl, rfl, rfl, rfl, rfl, trivial⟩ rfl ?_
  clear h
  rintro m16 ⟨x10, l11, h12, A13, k14⟩ ⟨h, o15⟩
  cases m16 with
  | zero => simp [check_checker_bring.l0] at h
  | succ m16 =>
   simp only [check_checker_bring.l0] at h
   refine k_seq ?_
   refine k_region ?_
   refine kl_steps 1 [(0, .pointer (some ⟨b0, 0, none⟩)), (4, .pointer (some ⟨b1, 0, none⟩)), (8, .slice A_a2 a2.length c_a2), (9, .int .i64 ((a2.length : Nat) : Int)), (10, .int .i64 x10), (11, .bool (decide (x10 < ((a2.length : Nat) : Int))))] (by kernel_rfl) ?_
   refine k_nil ?_
   refine k_then ?_
   refine k_seq ?_
   refine k_cond (t := decide (x10 < ((a2.length : Nat) : Int))) (by kernel_rfl) (fun t17 => ?_) (fun t17 => ?_)
   ·have h := condT h t17
    refine k_skip ?_
    refine k_then ?_
    refine k_seq ?_
    refine k_block ?_
    refine k_seq ?_
    refine k_region ?_
    obtain ⟨x18, hx18, h⟩ := bindSome h
    refine kl_elemR (T := 36) (kd := .i64) (R := (rTree 36)) rfl (by kernel_rfl) (by kernel_rfl) (by kernel_rfl) (by kernel_rfl) (by kernel_rfl) (by kernel_rfl) hx18 R_a2 fun p19 u22 q23 e20 y21 => ?_
    obtain ⟨A24, k25, rfl, o26⟩ := treeR_mk 36 q23
    refine kl_eloadN rfl (by kernel_rfl) (by kernel_rfl) (by kernel_rfl) (by kernel_rfl) (by kernel_rfl) e20 (.tail _ (.tail _ (.tail _ (.tail _ hm_H_a2)))) ?_
    refine kl_new (.cells #[.int .i64 (0 : Int), .string (⟨#[]⟩ : ByteArray), .int .i64 (0 : Int), .int .i64 (0 : Int), .slice none 0 0] 36 (0, 0)) (fun b => .pointer (some ⟨b, 0, none⟩)) (by kernel_rfl) (by kernel_rfl) (fun _ => by kernel_rfl) fun b27 => ?_
    refine kl_store (cs' := #[.int .i64 x18.kind, .string x18.text, .int .i64 x18.n, .int .i64 x18.at_, .slice A24 x18.kids.length k25]) [.st ⟨b27, 0, none⟩ (.int .i64 x18.kind), .st ⟨b27, 1, none⟩ (.string x18.text), .st ⟨b27, 2, none⟩ (.int .i64 x18.n), .st ⟨b27, 3, none⟩ (.int .i64 x18.at_), .st ⟨b27, 4, none⟩ (.slice A24 x18.kids.length k25)] (by kernel_rfl) (by kernel_rfl) (by kernel_rfl) ⟨rfl, rfl, rfl, rfl, rfl, trivial⟩ (by kernel_rfl) ?_
    refine k_nil ?_
    refine k_then ?_
    obtain ⟨J28, hJ28, h⟩ := joinSplit h
    refine k_cut (τ := Unit) (fun t => [(0, .pointer (some ⟨b0, 0, none⟩)), (4, .pointer (some ⟨b1, 0, none⟩)), (7, .pointer (some ⟨b27, 0, none⟩)), (8, .slice A_a2 a2.length c_a2), (9, .int .i64 ((a2.length : Nat) : Int)), (10, .int .i64 x10)]) (fun t => blk b27 (.cells #[.int .i64 x18.kind, .string x18.text, .int .i64 x18.n, .int .i64 x18.at_, .slice A24 x18.kids.length k25] 36 (0, 0)) :: blk b1 (.cells #[.int .i64 a1_0, .string a1_1, .int .i64 a1_2, .int .i64 a1_3, .slice A_a1_4 a1_4.length c_a1_4] 36 (0, 0)) :: blk b0 (.cells #[.slice A_a0_0 a0_0.length c_a0_0, .slice A_a0_1 a0_1.length c_a0_1, .pointer (some ⟨b1002_, 0, none⟩)] 65 (0, 0)) :: blk b1002_ (.cells #[.string a1002_0, .int .i64 a1002_1, .int .i64 a1002_2, .int .i64 a1002_3, .slice A_a1002_4 a1002_4.length c_a1002_4, .slice A13 l11.length k14, .int .i64 a1002_6, .slice A_a1002_7 a1002_7.length c_a1002_7] 63 (0, 0)) :: h12 :: X) (fun t => J28 () = some r) ?_ ?_
    ·rintro ⟨⟩ h
     subst hJ28
     refine k_region_plan [(0, 0), (1, 0), (2, 0), (3, 3), (4, 0), (5, 0), (6, 0), (7, 3), (8, 0), (9, 0), (10, 3), (11, 0), (12, 3), (13, 1), (14, 1)] (fun w => OnAll [blk b27 (.cells #[.int .i64 x18.kind, .string x18.text, .int .i64 x18.n, .int .i64 x18.at_, .slice A24 x18.kids.length k25] 36 (0, 0)), blk b0 (.cells #[.slice A_a0_0 a0_0.length c_a0_0, .slice A_a0_1 a0_1.length c_a0_1, .pointer (some ⟨b1002_, 0, none⟩)] 65 (0, 0)), blk b1002_ (.cells #[.string a1002_0, .int .i64 a1002_1, .int .i64 a1002_2, .int .i64 a1002_3, .slice A_a1002_4 a1002_4.length c_a1002_4, .slice A13 l11.length k14, .int .i64 a1002_6, .slice A_a1002_7 a1002_7.length c_a1002_7] 63 (0, 0))] w) (by kernel_rfl) (by kernel_rfl) (fun _ _ d _ _ h => by cases d <;> exact h) (fun w h_ => ⟨h_.sat.on _ (.head _), h_.sat.on _ (.tail _ (.tail _ (.head _))), h_.sat.on _ (.tail _ (.tail _ (.tail _ (.head _)))), trivial⟩) ?_
     simp only [planOps, List.filterMap_cons, List.filterMap_nil, List.getElem?_toArray, List.getElem?_cons_zero, List.getElem?_cons_succ, Option.map_some, List.drop_succ_cons, List.drop_zero, List.length_cons, List.length_nil]
     refine kp_steps 3 [(0, .pointer (some ⟨b0, 0, none⟩)), (4, .pointer (some ⟨b1, 0, none⟩)), (7, .pointer (some ⟨b27, 0, none⟩)), (8, .slice A_a2 a2.length c_a2), (9, .int .i64 ((a2.length : Nat) : Int)), (10, .int .i64 x10), (22, .pointer (some ⟨b0, 2, none⟩))] (by kernel_rfl) (by kernel_rfl) ?_
     refine kp_loadS (v := .pointer (some ⟨b1002_, 0, none⟩)) [blk b27 (.cells #[.int .i64 x18.kind, .string x18.text, .int .i64 x18.n, .int .i64 x18.at_, .slice A24 x18.kids.length k25] 36 (0, 0)), blk b0 (.cells #[.slice A_a0_0 a0_0.length c_a0_0, .slice A_a0_1 a0_1.length c_a0_1, .pointer (some ⟨b1002_, 0, none⟩)] 65 (0, 0)), blk b1002_ (.cells #[.string a1002_0, .int .i64 a1002_1, .int .i64 a1002_2, .int .i64 a1002_3, .slice A_a1002_4 a1002_4.length c_a1002_4, .slice A13 l11.length k14, .int .i64 a1002_6, .slice A_a1002_7 a1002_7.length c_a1002_7] 63 (0, 0))] [.val (.pointer (some ⟨b1002_, 0, none⟩))] [.ld ⟨b0, 2, none⟩ (.pointer (some ⟨b1002_, 0, none⟩))] (by kernel_rfl) (by kernel_rfl) (by kernel_rfl) (fun _ h => h) ⟨⟨1, _, _, _, rfl, rfl, rfl⟩, trivial⟩ ?_
     refine kp_steps 3 [(0, .pointer (some ⟨b0, 0, none⟩)), (4, .pointer (some ⟨b1, 0, none⟩)), (7, .pointer (some ⟨b27, 0, none⟩)), (8, .slice A_a2 a2.length c_a2), (9, .int .i64 ((a2.length : Nat) : Int)), (10, .int .i64 x10), (23, .pointer (some ⟨b1002_, 0, none⟩)), (26, .pointer (some ⟨b0, 2, none⟩))] (by kernel_rfl) (by kernel_rfl) ?_
     refine kp_loadS (v := .pointer (some ⟨b1002_, 0, none⟩)) [blk b27 (.cells #[.int .i64 x18.kind, .string x18.text, .int .i64 x18.n, .int .i64 x18.at_, .slice A24 x18.kids.length k25] 36 (0, 0)), blk b0 (.cells #[.slice A_a0_0 a0_0.length c_a0_0, .slice A_a0_1 a0_1.length c_a0_1, .pointer (some ⟨b1002_, 0, none⟩)] 65 (0, 0)), blk b1002_ (.cells #[.string a1002_0, .int .i64 a1002_1, .int .i64 a1002_2, .int .i64 a1002_3, .slice A_a1002_4 a1002_4.length c_a1002_4, .slice A13 l11.length k14, .int .i64 a1002_6, .slice A_a1002_7 a1002_7.length c_a1002_7] 63 (0, 0))] [.val (.pointer (some ⟨b1002_, 0, none⟩))] [.ld ⟨b0, 2, none⟩ (.pointer (some ⟨b1002_, 0, none⟩))] (by kernel_rfl) (by kernel_rfl) (by kernel_rfl) (fun _ h => h) ⟨⟨1, _, _, _, rfl, rfl, rfl⟩, trivial⟩ ?_
     refine kp_steps 2 [(0, .pointer (some ⟨b0, 0, none⟩)), (4, .pointer (some ⟨b1, 0, none⟩)), (7, .pointer (some ⟨b27, 0, none⟩)), (8, .slice A_a2 a2.length c_a2), (9, .int .i64 ((a2.length : Nat) : Int)), (10, .int .i64 x10), (23, .pointer (some ⟨b1002_, 0, none⟩)), (29, .pointer (some ⟨b1002_, 5, none⟩))] (by kernel_rfl) (by kernel_rfl) ?_
     refine kp_loadS (v := .slice A13 l11.length k14) [blk b27 (.cells #[.int .i64 x18.kind, .string x18.text, .int .i64 x18.n, .int .i64 x18.at_, .slice A24 x18.kids.length k25] 36 (0, 0)), blk b0 (.cells #[.slice A_a0_0 a0_0.length c_a0_0, .slice A_a0_1 a0_1.length c_a0_1, .pointer (some ⟨b1002_, 0, none⟩)] 65 (0, 0)), blk b1002_ (.cells #[.string a1002_0, .int .i64 a1002_1, .int .i64 a1002_2, .int .i64 a1002_3, .slice A_a1002_4 a1002_4.length c_a1002_4, .slice A13 l11.length k14, .int .i64 a1002_6, .slice A_a1002_7 a1002_7.length c_a1002_7] 63 (0, 0))] [.val (.slice A13 l11.length k14)] [.ld ⟨b1002_, 5, none⟩ (.slice A13 l11.length k14)] (by kernel_rfl) (by kernel_rfl) (by kernel_rfl) (fun _ h => h) ⟨⟨2, _, _, _, rfl, rfl, rfl⟩, trivial⟩ ?_
     refine kp_steps 1 [(0, .pointer (some ⟨b0, 0, none⟩)), (4, .pointer (some ⟨b1, 0, none⟩)), (8, .slice A_a2 a2.length c_a2), (9, .int .i64 ((a2.length : Nat) : Int)), (10, .int .i64 x10), (23, .pointer (some ⟨b1002_, 0, none⟩)), (30, .slice A13 l11.length k14), (31, .pointer (some ⟨b27, 1, none⟩))] (by kernel_rfl) (by kernel_rfl) ?_
     refine kp_loadS (v := .string x18.text) [blk b27 (.cells #[.int .i64 x18.kind, .string x18.text, .int .i64 x18.n, .int .i64 x18.at_, .slice A24 x18.kids.length k25] 36 (0, 0)), blk b0 (.cells #[.slice A_a0_0 a0_0.length c_a0_0, .slice A_a0_1 a0_1.length c_a0_1, .pointer (some ⟨b1002_, 0, none⟩)] 65 (0, 0)), blk b1002_ (.cells #[.string a1002_0, .int .i64 a1002_1, .int .i64 a1002_2, .int .i64 a1002_3, .slice A_a1002_4 a1002_4.length c_a1002_4, .slice A13 l11.length k14, .int .i64 a1002_6, .slice A_a1002_7 a1002_7.length c_a1002_7] 63 (0, 0))] [.val (.string x18.text)] [.ld ⟨b27, 1, none⟩ (.string x18.text)] (by kernel_rfl) (by kernel_rfl) (by kernel_rfl) (fun _ h => h) ⟨⟨0, _, _, _, rfl, rfl, rfl⟩, trivial⟩ ?_
     refine kp_turn (by kernel_rfl) ?_
     refine op_new (.cells #[.string x18.text] 9 (0, 0)) (fun b => .slice (some ⟨b, 0, none⟩) 1 1) (by kernel_rfl) (fun _ => by kernel_rfl) fun b29 => ?_
     refine k_and (fun w h_ => ⟨h_.sat.on _ (.tail _ (.head _)), h_.sat.on _ (.tail _ (.tail _ (.tail _ (.head _)))), h_.sat.on _ (.tail _ (.tail _ (.tail _ (.tail _ (.head _))))), trivial⟩) ?_
     refine kp_turn (by kernel_rfl) ?_
     refine K.mvN [_, _, _, _, _] _ _ ?_
     obtain ⟨l30, hl30, h⟩ := bindSome h
     refine op_apd (ys := [x18.text]) encS_ok rfl ety26 (by kernel_rfl) (by kernel_rfl) (by kernel_rfl) (by kernel_rfl) hl30 o15 (src_blk (n := 1) encS_ok [x18.text] (by kernel_rfl) rfl (by decide) 1 rfl) fun h31 A32 k33 o34 => ?_
     refine k_and (fun w h_ => ⟨h_.sat.on _ (.tail _ (.tail _ (.head _))), h_.sat.on _ (.tail _ (.tail _ (.tail _ (.tail _ (.head _))))), h_.sat.on _ (.tail _ (.tail _ (.tail _ (.tail _ (.tail _ (.head _)))))), trivial⟩) ?_
     refine kp_done ?_
     refine kl_steps 2 [(0, .pointer (some ⟨b0, 0, none⟩)), (4, .pointer (some ⟨b1, 0, none⟩)), (8, .slice A_a2 a2.length c_a2), (9, .int .i64 ((a2.length : Nat) : Int)), (10, .int .i64 x10), (34, .slice A32 l30.length k33), (36, .pointer (some ⟨b1002_, 5, none⟩))] (by kernel_rfl) ?_
     refine K.mvN [_, _, _, _, _] _ _ ?_
     refine kl_store (cs' := #[.string a1002_0, .int .i64 a1002_1, .int .i64 a1002_2, .int .i64 a1002_3, .slice A_a1002_4 a1002_4.length c_a1002_4, .slice A32 l30.length k33, .int .i64 a1002_6, .slice A_a1002_7 a1002_7.length c_a1002_7]) [.st ⟨b1002_, 5, none⟩ (.slice A32 l30.length k33)] (by kernel_rfl) (by kernel_rfl) (by kernel_rfl) ⟨rfl, trivial⟩ (by kernel_rfl) ?_
     refine K.mv2 ?_
     refine K.drop ?_
     refine K.mv2 ?_
     refine K.drop ?_
     refine k_nil ?_
     refine k_blk ?_
     refine k_then ?_
     refine k_region ?_
     refine kl_steps 2 [(0, .pointer (some ⟨b0, 0, none⟩)), (4, .pointer (some ⟨b1, 0, none⟩)), (8, .slice A_a2 a2.length c_a2), (9, .int .i64 ((a2.length : Nat) : Int)), (10, .int .i64 (IntKind.i64.wrap (x10 + (1 : Int))))] (by kernel_rfl) ?_
     refine k_nil ?_
     refine k_then ?_
     refine K.mv1 ?_
     refine K.mv1 ?_
     refine K.mv3 ?_
     refine K.mv3 ?_
     exact k_again m16 (IntKind.i64.wrap (x10 + (1 : Int)), l30, h31, A32, k33) (Nat.lt_succ_self _) ⟨h, o34⟩ ⟨rfl, rfl, rfl, rfl, rfl, trivial⟩ rfl
    ·skip
     refine k_seq ?_
     refine k_region ?_
     refine kl_steps 1 [(0, .pointer (some ⟨b0, 0, none⟩)), (4, .pointer (some ⟨b1, 0, none⟩)), (8, .slice A_a2 a2.length c_a2), (9, .int .i64 ((a2.length : Nat) : Int)), (10, .int .i64 x10), (7, .pointer (some ⟨b27, 0, none⟩)), (14, .pointer (some ⟨b27, 1, none⟩))] (by kernel_rfl) ?_
     refine kl_load (v := .string x18.text) [.val (.string x18.text)] [.ld ⟨b27, 1, none⟩ (.string x18.text)] (by kernel_rfl) (by kernel_rfl) (by kernel_rfl) ⟨⟨0, _, _, _, rfl, rfl, rfl⟩, trivial⟩ ?_
     obtain ⟨r35, hr35, h⟩ := bindSome h
     refine kl_callv (by kernel_rfl) (by kernel_rfl) (by kernel_rfl) (check_kept.ok hr35) trivial ?_
     refine k_nil ?_
     refine k_then ?_
     refine k_cond (t := r35) (by kernel_rfl) (fun t36 => ?_) (fun t36 => ?_)
     ·have h := condT h t36
      refine k_region ?_
      refine kl_steps 1 [(0, .pointer (some ⟨b0, 0, none⟩)), (4, .pointer (some ⟨b1, 0, none⟩)), (8, .slice A_a2 a2.length c_a2), (9, .int .i64 ((a2.length : Nat) : Int)), (10, .int .i64 x10), (7, .pointer (some ⟨b27, 0, none⟩)), (17, .pointer (some ⟨b27, 3, none⟩))] (by kernel_rfl) ?_
      refine kl_load (v := .int .i64 x18.at_) [.val (.int .i64 x18.at_)] [.ld ⟨b27, 3, none⟩ (.int .i64 x18.at_)] (by kernel_rfl) (by kernel_rfl) (by kernel_rfl) ⟨⟨0, _, _, _, rfl, rfl, rfl⟩, trivial⟩ ?_
      rcases prBind h with ⟨i38, hr37, rfl⟩ | ⟨r37, hr37, h⟩
      ·refine kl_call (blk b27 (.cells #[.int .i64 x18.kind, .string x18.text, .int .i64 x18.n, .int .i64 x18.at_, .slice A24 x18.kids.length k25] 36 (0, 0)) :: blk b1 (.cells #[.int .i64 a1_0, .string a1_1, .int .i64 a1_2, .int .i64 a1_3, .slice A_a1_4 a1_4.length c_a1_4] 36 (0, 0)) :: blk b0 (.cells #[.slice A_a0_0 a0_0.length c_a0_0, .slice A_a0_1 a0_1.length c_a0_1, .pointer (some ⟨b1002_, 0, none⟩)] 65 (0, 0)) :: blk b1002_ (.cells #[.string a1002_0, .int .i64 a1002_1, .int .i64 a1002_2, .int .i64 a1002_3, .slice A_a1002_4 a1002_4.length c_a1002_4, .slice A13 l11.length k14, .int .i64 a1002_6, .slice A_a1002_7 a1002_7.length c_a1002_7] 63 (0, 0)) :: h12 :: X) (by kernel_rfl) (by kernel_rfl) (by kernel_rfl) (check_fail.ok hr37) rfl trivial ?_
       rintro _ _ ⟨rfl, rfl⟩
       refine nx_pan ?_
       refine k_then_panic ?_
       refine k_blk_panic ?_
       refine k_then_panic ?_
       refine k_then_panic ?_
       refine k_blk_panic ?_
       refine k_then_panic ?_
       refine k_panicked [] ?_
       refine K.drop ?_
       refine K.drop ?_
       refine K.drop ?_
       refine K.drop ?_
       refine K.drop ?_
       exact k_end PR.badI
      refine kl_call (blk b27 (.cells #[.int .i64 x18.kind, .string x18.text, .int .i64 x18.n, .int .i64 x18.at_, .slice A24 x18.kids.length k25] 36 (0, 0)) :: blk b1 (.cells #[.int .i64 a1_0, .string a1_1, .int .i64 a1_2, .int .i64 a1_3, .slice A_a1_4 a1_4.length c_a1_4] 36 (0, 0)) :: blk b0 (.cells #[.slice A_a0_0 a0_0.length c_a0_0, .slice A_a0_1 a0_1.length c_a0_1, .pointer (some ⟨b1002_, 0, none⟩)] 65 (0, 0)) :: blk b1002_ (.cells #[.string a1002_0, .int .i64 a1002_1, .int .i64 a1002_2, .int .i64 a1002_3, .slice A_a1002_4 a1002_4.length c_a1002_4, .slice A13 l11.length k14, .int .i64 a1002_6, .slice A_a1002_7 a1002_7.length c_a1002_7] 63 (0, 0)) :: h12 :: X) (by kernel_rfl) (by kernel_rfl) (by kernel_rfl) (check_fail.ok hr37) rfl trivial ?_
      rintro _ _ ⟨rfl, rfl⟩
      refine nx_ret0 ?_
      refine k_nil ?_
      refine k_then ?_
      exact k_meet () h ⟨rfl, rfl, rfl, rfl, rfl, rfl, trivial⟩ rfl
     ·have h := condF h t36
      refine k_skip ?_
      refine k_then ?_
      exact k_meet () h ⟨rfl, rfl, rfl, rfl, rfl, rfl, trivial⟩ rfl
   ·have h := condF h t17
    refine k_exit ?_
    refine k_then_exit ?_
    refine k_then_exit ?_
    refine k_here ?_
    refine k_then ?_
    exact k_meet (l11, h12, A13, k14) ⟨h, o15⟩ ⟨rfl, rfl, trivial⟩ rfl
end Go.Proofs.YtdkgnlaneccioaaGreatDoor
