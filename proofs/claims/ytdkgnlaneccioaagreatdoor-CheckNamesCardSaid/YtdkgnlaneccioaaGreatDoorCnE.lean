/- Texts of mine for checkNames_card, part 5. -/
import Derived.Test.YtdkgnlaneccioaaGreatDoorCnD
set_option linter.unusedSimpArgs false
set_option linter.unusedVariables false
set_option linter.unusedSectionVars false
namespace Go.Proofs.YtdkgnlaneccioaaGreatDoor
open Go Go.RowKit
theorem ety25 : ElemTy Tryz.prog 25 42 5 64 Tryz.t42 (.agg #[.string (⟨#[]⟩ : ByteArray), .int .i64 (0 : Int), .int .i64 (0 : Int), .int .i64 (0 : Int), .slice none 0 0]) := ⟨by kernel_rfl, by kernel_rfl, by kernel_rfl, by kernel_rfl, by kernel_rfl, by kernel_rfl, by decide⟩
structure CK where
 check_checker_node : (a0_0 : List (ByteArray × Int × Int × Int × List (Int × Int × ByteArray))) → (a0_1 : List ByteArray) → (a1002_0 : ByteArray) → (a1002_1 : Int) → (a1002_2 : Int) → (a1002_3 : Int) → (a1002_4 : List (Int × Int × ByteArray)) → (a1002_5 : List ByteArray) → (a1002_6 : Int) → (a1002_7 : List ByteArray) → (a1_0 : Int) → (a1_1 : ByteArray) → (a1_2 : Int) → (a1_3 : Int) → (a1_4 : List Tree) → (a2 : Bool) → Option (PR (List (ByteArray × Int × Int × Int × List (Int × Int × ByteArray)) × List ByteArray × Int × List (Int × Int × ByteArray) × List ByteArray × Int) (Int × Int))
 check_checker_nodes : (a0_0 : List (ByteArray × Int × Int × Int × List (Int × Int × ByteArray))) → (a0_1 : List ByteArray) → (a1002_0 : ByteArray) → (a1002_1 : Int) → (a1002_2 : Int) → (a1002_3 : Int) → (a1002_4 : List (Int × Int × ByteArray)) → (a1002_5 : List ByteArray) → (a1002_6 : Int) → (a1002_7 : List ByteArray) → (a1 : List Tree) → Option (PR (List (ByteArray × Int × Int × Int × List (Int × Int × ByteArray)) × List ByteArray × Int × List (Int × Int × ByteArray) × List ByteArray × Int) (Int × Int))
 check_checker_exp : (a0_0 : List (ByteArray × Int × Int × Int × List (Int × Int × ByteArray))) → (a0_1 : List ByteArray) → (a1002_0 : ByteArray) → (a1002_1 : Int) → (a1002_2 : Int) → (a1002_3 : Int) → (a1002_4 : List (Int × Int × ByteArray)) → (a1002_5 : List ByteArray) → (a1002_6 : Int) → (a1002_7 : List ByteArray) → (a1_0 : Int) → (a1_1 : ByteArray) → (a1_2 : Int) → (a1_3 : Int) → (a1_4 : List Tree) → (a2 : Bool) → Option (PR (List (ByteArray × Int × Int × Int × List (Int × Int × ByteArray)) × List ByteArray × Int × List (Int × Int × ByteArray) × List ByteArray × Int) (Int × Int))
 check_checker_loop : (a0_0 : List (ByteArray × Int × Int × Int × List (Int × Int × ByteArray))) → (a0_1 : List ByteArray) → (a1002_0 : ByteArray) → (a1002_1 : Int) → (a1002_2 : Int) → (a1002_3 : Int) → (a1002_4 : List (Int × Int × ByteArray)) → (a1002_5 : List ByteArray) → (a1002_6 : Int) → (a1002_7 : List ByteArray) → (a1_0 : Int) → (a1_1 : ByteArray) → (a1_2 : Int) → (a1_3 : Int) → (a1_4 : List Tree) → (a2 : List Tree) → (a3_0 : Int) → (a3_1 : ByteArray) → (a3_2 : Int) → (a3_3 : Int) → (a3_4 : List Tree) → (a4 : Int) → Option (PR (List (ByteArray × Int × Int × Int × List (Int × Int × ByteArray)) × List ByteArray × Int × List (Int × Int × ByteArray) × List ByteArray × Int) (Int × Int))
 check_checker_function : (a0_0 : List (ByteArray × Int × Int × Int × List (Int × Int × ByteArray))) → (a0_1 : List ByteArray) → (a1002_0 : ByteArray) → (a1002_1 : Int) → (a1002_2 : Int) → (a1002_3 : Int) → (a1002_4 : List (Int × Int × ByteArray)) → (a1002_5 : List ByteArray) → (a1002_6 : Int) → (a1002_7 : List ByteArray) → (a1_0 : Int) → (a1_1 : ByteArray) → (a1_2 : Int) → (a1_3 : Int) → (a1_4 : List Tree) → Option (PR (List (ByteArray × Int × Int × Int × List (Int × Int × ByteArray)) × List ByteArray × Int × List (Int × Int × ByteArray) × List ByteArray × Int) (Int × Int))
structure CK.Good (R : CK) : Prop where
 check_checker_node : ∀ {a0_0 : List (ByteArray × Int × Int × Int × List (Int × Int × ByteArray))} {a0_1 : List ByteArray} {a1002_0 : ByteArray} {a1002_1 : Int} {a1002_2 : Int} {a1002_3 : Int} {a1002_4 : List (Int × Int × ByteArray)} {a1002_5 : List ByteArray} {a1002_6 : Int} {a1002_7 : List ByteArray} {a1_0 : Int} {a1_1 : ByteArray} {a1_2 : Int} {a1_3 : Int} {a1_4 : List Tree} {a2 : Bool} {b0 : Nat} {H_a0_0 : Frag} {A_a0_0 : Option Addr} {c_a0_0 : Nat} {H_a0_1 : Frag} {A_a0_1 : Option Addr} {c_a0_1 : Nat} {b1002_ : Nat} {H_a1002_4 : Frag} {A_a1002_4 : Option Addr} {c_a1002_4 : Nat} {H_a1002_5 : Frag} {A_a1002_5 : Option Addr} {c_a1002_5 : Nat} {H_a1002_7 : Frag} {A_a1002_7 : Option Addr} {c_a1002_7 : Nat} {H_a1_4 : Frag} {A_a1_4 : Option Addr} {c_a1_4 : Nat} {G : Frag} {r : PR (List (ByteArray × Int × Int × Int × List (Int × Int × ByteArray)) × List ByteArray × Int × List (Int × Int × ByteArray) × List ByteArray × Int) (Int × Int)} (h : R.check_checker_node a0_0 a0_1 a1002_0 a1002_1 a1002_2 a1002_3 a1002_4 a1002_5 a1002_6 a1002_7 a1_0 a1_1 a1_2 a1_3 a1_4 a2 = some r) (R_a0_0 : OwnR rs42 42 H_a0_0 (.slice A_a0_0 a0_0.length c_a0_0) a0_0) (R_a0_1 : OwnT encS 9 1 H_a0_1 (.slice A_a0_1 a0_1.length c_a0_1) a0_1) (R_a1002_4 : OwnT e53 53 3 H_a1002_4 (.slice A_a1002_4 a1002_4.length c_a1002_4) a1002_4) (R_a1002_5 : OwnT encS 9 1 H_a1002_5 (.slice A_a1002_5 a1002_5.length c_a1002_5) a1002_5) (R_a1002_7 : RdT encS 1 H_a1002_7 (.slice A_a1002_7 a1002_7.length c_a1002_7) a1002_7) (R_a1_4 : RdR (rTree 36) H_a1_4 (.slice A_a1_4 a1_4.length c_a1_4) a1_4) (hG : GlP G), Ct Tryz.prog 27 #[.pointer (some ⟨b0, 0, none⟩), .agg #[.int .i64 a1_0, .string a1_1, .int .i64 a1_2, .int .i64 a1_3, .slice A_a1_4 a1_4.length c_a1_4], .bool a2] [blk b0 (.cells #[.slice A_a0_0 a0_0.length c_a0_0, .slice A_a0_1 a0_1.length c_a0_1, .pointer (some ⟨b1002_, 0, none⟩)] 65 (0, 0)), H_a0_0, H_a0_1, blk b1002_ (.cells #[.string a1002_0, .int .i64 a1002_1, .int .i64 a1002_2, .int .i64 a1002_3, .slice A_a1002_4 a1002_4.length c_a1002_4, .slice A_a1002_5 a1002_5.length c_a1002_5, .int .i64 a1002_6, .slice A_a1002_7 a1002_7.length c_a1002_7] 63 (0, 0)), H_a1002_4, H_a1002_5] [H_a1002_7, H_a1_4, G] (PR.Post failC (fun (r : List (ByteArray × Int × Int × Int × List (Int × Int × ByteArray)) × List ByteArray × Int × List (Int × Int × ByteArray) × List ByteArray × Int) e l1 => ∃ (H0_ : Frag) (A0_ : Option Addr) (c0_ : Nat) (H1_ : Frag) (A1_ : Option Addr) (c1_ : Nat) (H2_ : Frag) (A2_ : Option Addr) (c2_ : Nat) (H3_ : Frag) (A3_ : Option Addr) (c3_ : Nat), OwnR rs42 42 H0_ (.slice A0_ r.1.length c0_) r.1 ∧ OwnT encS 9 1 H1_ (.slice A1_ r.2.1.length c1_) r.2.1 ∧ OwnT e53 53 3 H2_ (.slice A2_ r.2.2.2.1.length c2_) r.2.2.2.1 ∧ OwnT encS 9 1 H3_ (.slice A3_ r.2.2.2.2.1.length c3_) r.2.2.2.2.1 ∧ e = .returned (.tuple #[]) ∧ l1 = [blk b0 (.cells #[.slice A0_ r.1.length c0_, .slice A1_ r.2.1.length c1_, .pointer (some ⟨b1002_, 0, none⟩)] 65 (0, 0)), H0_, H1_, blk b1002_ (.cells #[.string a1002_0, .int .i64 a1002_1, .int .i64 a1002_2, .int .i64 r.2.2.1, .slice A2_ r.2.2.2.1.length c2_, .slice A3_ r.2.2.2.2.1.length c3_, .int .i64 r.2.2.2.2.2, .slice A_a1002_7 a1002_7.length c_a1002_7] 63 (0, 0)), H2_, H3_]) r)
 check_checker_nodes : ∀ {a0_0 : List (ByteArray × Int × Int × Int × List (Int × Int × ByteArray))} {a0_1 : List ByteArray} {a1002_0 : ByteArray} {a1002_1 : Int} {a1002_2 : Int} {a1002_3 : Int} {a1002_4 : List (Int × Int × ByteArray)} {a1002_5 : List ByteArray} {a1002_6 : Int} {a1002_7 : List ByteArray} {a1 : List Tree} {b0 : Nat} {H_a0_0 : Frag} {A_a0_0 : Option Addr} {c_a0_0 : Nat} {H_a0_1 : Frag} {A_a0_1 : Option Addr} {c_a0_1 : Nat} {b1002_ : Nat} {H_a1002_4 : Frag} {A_a1002_4 : Option Addr} {c_a1002_4 : Nat} {H_a1002_5 : Frag} {A_a1002_5 : Option Addr} {c_a1002_5 : Nat} {H_a1002_7 : Frag} {A_a1002_7 : Option Addr} {c_a1002_7 : Nat} {H_a1 : Frag} {A_a1 : Option Addr} {c_a1 : Nat} {G : Frag} {r : PR (List (ByteArray × Int × Int × Int × List (Int × Int × ByteArray)) × List ByteArray × Int × List (Int × Int × ByteArray) × List ByteArray × Int) (Int × Int)} (h : R.check_checker_nodes a0_0 a0_1 a1002_0 a1002_1 a1002_2 a1002_3 a1002_4 a1002_5 a1002_6 a1002_7 a1 = some r) (R_a0_0 : OwnR rs42 42 H_a0_0 (.slice A_a0_0 a0_0.length c_a0_0) a0_0) (R_a0_1 : OwnT encS 9 1 H_a0_1 (.slice A_a0_1 a0_1.length c_a0_1) a0_1) (R_a1002_4 : OwnT e53 53 3 H_a1002_4 (.slice A_a1002_4 a1002_4.length c_a1002_4) a1002_4) (R_a1002_5 : OwnT encS 9 1 H_a1002_5 (.slice A_a1002_5 a1002_5.length c_a1002_5) a1002_5) (R_a1002_7 : RdT encS 1 H_a1002_7 (.slice A_a1002_7 a1002_7.length c_a1002_7) a1002_7) (R_a1 : RdR (rTree 36) H_a1 (.slice A_a1 a1.length c_a1) a1) (hG : GlP G), Ct Tryz.prog 35 #[.pointer (some ⟨b0, 0, none⟩), .slice A_a1 a1.length c_a1] [blk b0 (.cells #[.slice A_a0_0 a0_0.length c_a0_0, .slice A_a0_1 a0_1.length c_a0_1, .pointer (some ⟨b1002_, 0, none⟩)] 65 (0, 0)), H_a0_0, H_a0_1, blk b1002_ (.cells #[.string a1002_0, .int .i64 a1002_1, .int .i64 a1002_2, .int .i64 a1002_3, .slice A_a1002_4 a1002_4.length c_a1002_4, .slice A_a1002_5 a1002_5.length c_a1002_5, .int .i64 a1002_6, .slice A_a1002_7 a1002_7.length c_a1002_7] 63 (0, 0)), H_a1002_4, H_a1002_5] [H_a1002_7, H_a1, G] (PR.Post failC (fun (r : List (ByteArray × Int × Int × Int × List (Int × Int × ByteArray)) × List ByteArray × Int × List (Int × Int × ByteArray) × List ByteArray × Int) e l1 => ∃ (H0_ : Frag) (A0_ : Option Addr) (c0_ : Nat) (H1_ : Frag) (A1_ : Option Addr) (c1_ : Nat) (H2_ : Frag) (A2_ : Option Addr) (c2_ : Nat) (H3_ : Frag) (A3_ : Option Addr) (c3_ : Nat), OwnR rs42 42 H0_ (.slice A0_ r.1.length c0_) r.1 ∧ OwnT encS 9 1 H1_ (.slice A1_ r.2.1.length c1_) r.2.1 ∧ OwnT e53 53 3 H2_ (.slice A2_ r.2.2.2.1.length c2_) r.2.2.2.1 ∧ OwnT encS 9 1 H3_ (.slice A3_ r.2.2.2.2.1.length c3_) r.2.2.2.2.1 ∧ e = .returned (.tuple #[]) ∧ l1 = [blk b0 (.cells #[.slice A0_ r.1.length c0_, .slice A1_ r.2.1.length c1_, .pointer (some ⟨b1002_, 0, none⟩)] 65 (0, 0)), H0_, H1_, blk b1002_ (.cells #[.string a1002_0, .int .i64 a1002_1, .int .i64 a1002_2, .int .i64 r.2.2.1, .slice A2_ r.2.2.2.1.length c2_, .slice A3_ r.2.2.2.2.1.length c3_, .int .i64 r.2.2.2.2.2, .slice A_a1002_7 a1002_7.length c_a1002_7] 63 (0, 0)), H2_, H3_]) r)
 check_checker_exp : ∀ {a0_0 : List (ByteArray × Int × Int × Int × List (Int × Int × ByteArray))} {a0_1 : List ByteArray} {a1002_0 : ByteArray} {a1002_1 : Int} {a1002_2 : Int} {a1002_3 : Int} {a1002_4 : List (Int × Int × ByteArray)} {a1002_5 : List ByteArray} {a1002_6 : Int} {a1002_7 : List ByteArray} {a1_0 : Int} {a1_1 : ByteArray} {a1_2 : Int} {a1_3 : Int} {a1_4 : List Tree} {a2 : Bool} {b0 : Nat} {H_a0_0 : Frag} {A_a0_0 : Option Addr} {c_a0_0 : Nat} {H_a0_1 : Frag} {A_a0_1 : Option Addr} {c_a0_1 : Nat} {b1002_ : Nat} {H_a1002_4 : Frag} {A_a1002_4 : Option Addr} {c_a1002_4 : Nat} {H_a1002_5 : Frag} {A_a1002_5 : Option Addr} {c_a1002_5 : Nat} {H_a1002_7 : Frag} {A_a1002_7 : Option Addr} {c_a1002_7 : Nat} {H_a1_4 : Frag} {A_a1_4 : Option Addr} {c_a1_4 : Nat} {G : Frag} {r : PR (List (ByteArray × Int × Int × Int × List (Int × Int × ByteArray)) × List ByteArray × Int × List (Int × Int × ByteArray) × List ByteArray × Int) (Int × Int)} (h : R.check_checker_exp a0_0 a0_1 a1002_0 a1002_1 a1002_2 a1002_3 a1002_4 a1002_5 a1002_6 a1002_7 a1_0 a1_1 a1_2 a1_3 a1_4 a2 = some r) (R_a0_0 : OwnR rs42 42 H_a0_0 (.slice A_a0_0 a0_0.length c_a0_0) a0_0) (R_a0_1 : OwnT encS 9 1 H_a0_1 (.slice A_a0_1 a0_1.length c_a0_1) a0_1) (R_a1002_4 : OwnT e53 53 3 H_a1002_4 (.slice A_a1002_4 a1002_4.length c_a1002_4) a1002_4) (R_a1002_5 : OwnT encS 9 1 H_a1002_5 (.slice A_a1002_5 a1002_5.length c_a1002_5) a1002_5) (R_a1002_7 : RdT encS 1 H_a1002_7 (.slice A_a1002_7 a1002_7.length c_a1002_7) a1002_7) (R_a1_4 : RdR (rTree 36) H_a1_4 (.slice A_a1_4 a1_4.length c_a1_4) a1_4) (hG : GlP G), Ct Tryz.prog 40 #[.pointer (some ⟨b0, 0, none⟩), .agg #[.int .i64 a1_0, .string a1_1, .int .i64 a1_2, .int .i64 a1_3, .slice A_a1_4 a1_4.length c_a1_4], .bool a2] [blk b0 (.cells #[.slice A_a0_0 a0_0.length c_a0_0, .slice A_a0_1 a0_1.length c_a0_1, .pointer (some ⟨b1002_, 0, none⟩)] 65 (0, 0)), H_a0_0, H_a0_1, blk b1002_ (.cells #[.string a1002_0, .int .i64 a1002_1, .int .i64 a1002_2, .int .i64 a1002_3, .slice A_a1002_4 a1002_4.length c_a1002_4, .slice A_a1002_5 a1002_5.length c_a1002_5, .int .i64 a1002_6, .slice A_a1002_7 a1002_7.length c_a1002_7] 63 (0, 0)), H_a1002_4, H_a1002_5] [H_a1002_7, H_a1_4, G] (PR.Post failC (fun (r : List (ByteArray × Int × Int × Int × List (Int × Int × ByteArray)) × List ByteArray × Int × List (Int × Int × ByteArray) × List ByteArray × Int) e l1 => ∃ (H0_ : Frag) (A0_ : Option Addr) (c0_ : Nat) (H1_ : Frag) (A1_ : Option Addr) (c1_ : Nat) (H2_ : Frag) (A2_ : Option Addr) (c2_ : Nat) (H3_ : Frag) (A3_ : Option Addr) (c3_ : Nat), OwnR rs42 42 H0_ (.slice A0_ r.1.length c0_) r.1 ∧ OwnT encS 9 1 H1_ (.slice A1_ r.2.1.length c1_) r.2.1 ∧ OwnT e53 53 3 H2_ (.slice A2_ r.2.2.2.1.length c2_) r.2.2.2.1 ∧ OwnT encS 9 1 H3_ (.slice A3_ r.2.2.2.2.1.length c3_) r.2.2.2.2.1 ∧ e = .returned (.tuple #[]) ∧ l1 = [blk b0 (.cells #[.slice A0_ r.1.length c0_, .slice A1_ r.2.1.length c1_, .pointer (some ⟨b1002_, 0, none⟩)] 65 (0, 0)), H0_, H1_, blk b1002_ (.cells #[.string a1002_0, .int .i64 a1002_1, .int .i64 a1002_2, .int .i64 r.2.2.1, .slice A2_ r.2.2.2.1.length c2_, .slice A3_ r.2.2.2.2.1.length c3_, .int .i64 r.2.2.2.2.2, .slice A_a1002_7 a1002_7.length c_a1002_7] 63 (0, 0)), H2_, H3_]) r)
 check_checker_loop : ∀ {a0_0 : List (ByteArray × Int × Int × Int × List (Int × Int × ByteArray))} {a0_1 : List ByteArray} {a1002_0 : ByteArray} {a1002_1 : Int} {a1002_2 : Int} {a1002_3 : Int} {a1002_4 : List (Int × Int × ByteArray)} {a1002_5 : List ByteArray} {a1002_6 : Int} {a1002_7 : List ByteArray} {a1_0 : Int} {a1_1 : ByteArray} {a1_2 : Int} {a1_3 : Int} {a1_4 : List Tree} {a2 : List Tree} {a3_0 : Int} {a3_1 : ByteArray} {a3_2 : Int} {a3_3 : Int} {a3_4 : List Tree} {a4 : Int} {b0 : Nat} {H_a0_0 : Frag} {A_a0_0 : Option Addr} {c_a0_0 : Nat} {H_a0_1 : Frag} {A_a0_1 : Option Addr} {c_a0_1 : Nat} {b1002_ : Nat} {H_a1002_4 : Frag} {A_a1002_4 : Option Addr} {c_a1002_4 : Nat} {H_a1002_5 : Frag} {A_a1002_5 : Option Addr} {c_a1002_5 : Nat} {H_a1002_7 : Frag} {A_a1002_7 : Option Addr} {c_a1002_7 : Nat} {H_a1_4 : Frag} {A_a1_4 : Option Addr} {c_a1_4 : Nat} {H_a2 : Frag} {A_a2 : Option Addr} {c_a2 : Nat} {H_a3_4 : Frag} {A_a3_4 : Option Addr} {c_a3_4 : Nat} {G : Frag} {r : PR (List (ByteArray × Int × Int × Int × List (Int × Int × ByteArray)) × List ByteArray × Int × List (Int × Int × ByteArray) × List ByteArray × Int) (Int × Int)} (h : R.check_checker_loop a0_0 a0_1 a1002_0 a1002_1 a1002_2 a1002_3 a1002_4 a1002_5 a1002_6 a1002_7 a1_0 a1_1 a1_2 a1_3 a1_4 a2 a3_0 a3_1 a3_2 a3_3 a3_4 a4 = some r) (R_a0_0 : OwnR rs42 42 H_a0_0 (.slice A_a0_0 a0_0.length c_a0_0) a0_0) (R_a0_1 : OwnT encS 9 1 H_a0_1 (.slice A_a0_1 a0_1.length c_a0_1) a0_1) (R_a1002_4 : OwnT e53 53 3 H_a1002_4 (.slice A_a1002_4 a1002_4.length c_a1002_4) a1002_4) (R_a1002_5 : OwnT encS 9 1 H_a1002_5 (.slice A_a1002_5 a1002_5.length c_a1002_5) a1002_5) (R_a1002_7 : RdT encS 1 H_a1002_7 (.slice A_a1002_7 a1002_7.length c_a1002_7) a1002_7) (R_a1_4 : RdR (rTree 36) H_a1_4 (.slice A_a1_4 a1_4.length c_a1_4) a1_4) (R_a2 : RdR (rTree 36) H_a2 (.slice A_a2 a2.length c_a2) a2) (R_a3_4 : RdR (rTree 36) H_a3_4 (.slice A_a3_4 a3_4.length c_a3_4) a3_4) (hG : GlP G), Ct Tryz.prog 39 #[.pointer (some ⟨b0, 0, none⟩), .agg #[.int .i64 a1_0, .string a1_1, .int .i64 a1_2, .int .i64 a1_3, .slice A_a1_4 a1_4.length c_a1_4], .slice A_a2 a2.length c_a2, .agg #[.int .i64 a3_0, .string a3_1, .int .i64 a3_2, .int .i64 a3_3, .slice A_a3_4 a3_4.length c_a3_4], .int .i64 a4] [blk b0 (.cells #[.slice A_a0_0 a0_0.length c_a0_0, .slice A_a0_1 a0_1.length c_a0_1, .pointer (some ⟨b1002_, 0, none⟩)] 65 (0, 0)), H_a0_0, H_a0_1, blk b1002_ (.cells #[.string a1002_0, .int .i64 a1002_1, .int .i64 a1002_2, .int .i64 a1002_3, .slice A_a1002_4 a1002_4.length c_a1002_4, .slice A_a1002_5 a1002_5.length c_a1002_5, .int .i64 a1002_6, .slice A_a1002_7 a1002_7.length c_a1002_7] 63 (0, 0)), H_a1002_4, H_a1002_5] [H_a1002_7, H_a1_4, H_a2, H_a3_4, G] (PR.Post failC (fun (r : List (ByteArray × Int × Int × Int × List (Int × Int × ByteArray)) × List ByteArray × Int × List (Int × Int × ByteArray) × List ByteArray × Int) e l1 => ∃ (H0_ : Frag) (A0_ : Option Addr) (c0_ : Nat) (H1_ : Frag) (A1_ : Option Addr) (c1_ : Nat) (H2_ : Frag) (A2_ : Option Addr) (c2_ : Nat) (H3_ : Frag) (A3_ : Option Addr) (c3_ : Nat), OwnR rs42 42 H0_ (.slice A0_ r.1.length c0_) r.1 ∧ OwnT encS 9 1 H1_ (.slice A1_ r.2.1.length c1_) r.2.1 ∧ OwnT e53 53 3 H2_ (.slice A2_ r.2.2.2.1.length c2_) r.2.2.2.1 ∧ OwnT encS 9 1 H3_ (.slice A3_ r.2.2.2.2.1.length c3_) r.2.2.2.2.1 ∧ e = .returned (.tuple #[]) ∧ l1 = [blk b0 (.cells #[.slice A0_ r.1.length c0_, .slice A1_ r.2.1.length c1_, .pointer (some ⟨b1002_, 0, none⟩)] 65 (0, 0)), H0_, H1_, blk b1002_ (.cells #[.string a1002_0, .int .i64 a1002_1, .int .i64 a1002_2, .int .i64 r.2.2.1, .slice A2_ r.2.2.2.1.length c2_, .slice A3_ r.2.2.2.2.1.length c3_, .int .i64 r.2.2.2.2.2, .slice A_a1002_7 a1002_7.length c_a1002_7] 63 (0, 0)), H2_, H3_]) r)
 check_checker_function : ∀ {a0_0 : List (ByteArray × Int × Int × Int × List (Int × Int × ByteArray))} {a0_1 : List ByteArray} {a1002_0 : ByteArray} {a1002_1 : Int} {a1002_2 : Int} {a1002_3 : Int} {a1002_4 : List (Int × Int × ByteArray)} {a1002_5 : List ByteArray} {a1002_6 : Int} {a1002_7 : List ByteArray} {a1_0 : Int} {a1_1 : ByteArray} {a1_2 : Int} {a1_3 : Int} {a1_4 : List Tree} {b0 : Nat} {H_a0_0 : Frag} {A_a0_0 : Option Addr} {c_a0_0 : Nat} {H_a0_1 : Frag} {A_a0_1 : Option Addr} {c_a0_1 : Nat} {b1002_ : Nat} {H_a1002_4 : Frag} {A_a1002_4 : Option Addr} {c_a1002_4 : Nat} {H_a1002_5 : Frag} {A_a1002_5 : Option Addr} {c_a1002_5 : Nat} {H_a1002_7 : Frag} {A_a1002_7 : Option Addr} {c_a1002_7 : Nat} {H_a1_4 : Frag} {A_a1_4 : Option Addr} {c_a1_4 : Nat} {G : Frag} {r : PR (List (ByteArray × Int × Int × Int × List (Int × Int × ByteArray)) × List ByteArray × Int × List (Int × Int × ByteArray) × List ByteArray × Int) (Int × Int)} (h : R.check_checker_function a0_0 a0_1 a1002_0 a1002_1 a1002_2 a1002_3 a1002_4 a1002_5 a1002_6 a1002_7 a1_0 a1_1 a1_2 a1_3 a1_4 = some r) (R_a0_0 : OwnR rs42 42 H_a0_0 (.slice A_a0_0 a0_0.length c_a0_0) a0_0) (R_a0_1 : OwnT encS 9 1 H_a0_1 (.slice A_a0_1 a0_1.length c_a0_1) a0_1) (R_a1002_4 : OwnT e53 53 3 H_a1002_4 (.slice A_a1002_4 a1002_4.length c_a1002_4) a1002_4) (R_a1002_5 : OwnT encS 9 1 H_a1002_5 (.slice A_a1002_5 a1002_5.length c_a1002_5) a1002_5) (R_a1002_7 : RdT encS 1 H_a1002_7 (.slice A_a1002_7 a1002_7.length c_a1002_7) a1002_7) (R_a1_4 : RdR (rTree 36) H_a1_4 (.slice A_a1_4 a1_4.length c_a1_4) a1_4) (hG : GlP G), Ct Tryz.prog 36 #[.pointer (some ⟨b0, 0, none⟩), .agg #[.int .i64 a1_0, .string a1_1, .int .i64 a1_2, .int .i64 a1_3, .slice A_a1_4 a1_4.length c_a1_4]] [blk b0 (.cells #[.slice A_a0_0 a0_0.length c_a0_0, .slice A_a0_1 a0_1.length c_a0_1, .pointer (some ⟨b1002_, 0, none⟩)] 65 (0, 0)), H_a0_0, H_a0_1, blk b1002_ (.cells #[.string a1002_0, .int .i64 a1002_1, .int .i64 a1002_2, .int .i64 a1002_3, .slice A_a1002_4 a1002_4.length c_a1002_4, .slice A_a1002_5 a1002_5.length c_a1002_5, .int .i64 a1002_6, .slice A_a1002_7 a1002_7.length c_a1002_7] 63 (0, 0)), H_a1002_4, H_a1002_5] [H_a1002_7, H_a1_4, G] (PR.Post failC (fun (r : List (ByteArray × Int × Int × Int × List (Int × Int × ByteArray)) × List ByteArray × Int × List (Int × Int × ByteArray) × List ByteArray × Int) e l1 => ∃ (H0_ : Frag) (A0_ : Option Addr) (c0_ : Nat) (H1_ : Frag) (A1_ : Option Addr) (c1_ : Nat) (H2_ : Frag) (A2_ : Option Addr) (c2_ : Nat) (H3_ : Frag) (A3_ : Option Addr) (c3_ : Nat), OwnR rs42 42 H0_ (.slice A0_ r.1.length c0_) r.1 ∧ OwnT encS 9 1 H1_ (.slice A1_ r.2.1.length c1_) r.2.1 ∧ OwnT e53 53 3 H2_ (.slice A2_ r.2.2.2.1.length c2_) r.2.2.2.1 ∧ OwnT encS 9 1 H3_ (.slice A3_ r.2.2.2.2.1.length c3_) r.2.2.2.2.1 ∧ e = .returned (.tuple #[]) ∧ l1 = [blk b0 (.cells #[.slice A0_ r.1.length c0_, .slice A1_ r.2.1.length c1_, .pointer (some ⟨b1002_, 0, none⟩)] 65 (0, 0)), H0_, H1_, blk b1002_ (.cells #[.string a1002_0, .int .i64 a1002_1, .int .i64 a1002_2, .int .i64 r.2.2.1, .slice A2_ r.2.2.2.1.length c2_, .slice A3_ r.2.2.2.2.1.length c3_, .int .i64 r.2.2.2.2.2, .slice A_a1002_7 a1002_7.length c_a1002_7] 63 (0, 0)), H2_, H3_]) r)
def check_checker_node.l0 : Nat → (Rc : CK) → (a1002_0 : ByteArray) → (a1002_1 : Int) → (a1002_2 : Int) → (a1002_7 : List ByteArray) → (a1_2 : Int) → (a1_4 : List Tree) → (x84 : Int) → (l85 : List (ByteArray × Int × Int × Int × List (Int × Int × ByteArray))) → (l90 : List ByteArray) → (x95 : Int) → (l96 : List (Int × Int × ByteArray)) → (l101 : List ByteArray) → (x106 : Int) → Option (PR (List (ByteArray × Int × Int × Int × List (Int × Int × ByteArray)) × List ByteArray × Int × List (Int × Int × ByteArray) × List ByteArray × Int) (Int × Int))
 | 0, _, _, _, _, _, _, _, _, _, _, _, _, _, _ => none
 | m107 + 1, Rc, a1002_0, a1002_1, a1002_2, a1002_7, a1_2, a1_4, x84, l85, l90, x95, l96, l101, x106 => cond (decide (x84 < ((a1_4.length : Nat) : Int))) ((lIdx a1_4 x84).bind fun x109 => PR.bind (Rc.check_checker_node l85 l90 a1002_0 a1002_1 a1002_2 x95 l96 l101 x106 a1002_7 x109.kind x109.text x109.n x109.at_ x109.kids (decide (x84 < a1_2))) fun r119 => check_checker_node.l0 m107 Rc a1002_0 a1002_1 a1002_2 a1002_7 a1_2 a1_4 (IntKind.i64.wrap (x84 + (1 : Int))) r119.1 r119.2.1 r119.2.2.1 r119.2.2.2.1 r119.2.2.2.2.1 r119.2.2.2.2.2) (some (PR.ok (l85, l90, x95, l96, l101, x106)))
def check_checker_node.g (Rc : CK) (k : Nat) (a0_0 : List (ByteArray × Int × Int × Int × List (Int × Int × ByteArray))) (a0_1 : List ByteArray) (a1002_0 : ByteArray) (a1002_1 : Int) (a1002_2 : Int) (a1002_3 : Int) (a1002_4 : List (Int × Int × ByteArray)) (a1002_5 : List ByteArray) (a1002_6 : Int) (a1002_7 : List ByteArray) (a1_0 : Int) (a1_1 : ByteArray) (a1_2 : Int) (a1_3 : Int) (a1_4 : List Tree) (a2 : Bool) : Option (PR (List (ByteArray × Int × Int × Int × List (Int × Int × ByteArray)) × List ByteArray × Int × List (Int × Int × ByteArray) × List ByteArray × Int) (Int × Int)) := cond (a1_0 == (20 : Int)) (PR.bind (Rc.check_checker_nodes a0_0 a0_1 a1002_0 a1002_1 a1002_2 a1002_3 a1002_4 a1002_5 a1002_6 a1002_7 a1_4) fun r3 => (lSub r3.2.2.2.2.1 (0 : Int) ((a1002_5.length : Nat) : Int)).bind fun l21 => some (PR.ok (r3.1, r3.2.1, r3.2.2.1, r3.2.2.2.1, l21, r3.2.2.2.2.2))) (cond (a1_0 == (31 : Int)) (PR.bind (Rc.check_checker_function a0_0 a0_1 a1002_0 a1002_1 a1002_2 a1002_3 a1002_4 a1002_5 a1002_6 a1002_7 a1_0 a1_1 a1_2 a1_3 a1_4) fun r24 => some (PR.ok (r24.1, r24.2.1, r24.2.2.1, r24.2.2.2.1, r24.2.2.2.2.1, r24.2.2.2.2.2))) (cond (a1_0 == (21 : Int)) (PR.bind (check_few.f k a1_0 a1_1 a1_2 a1_3 a1_4 a1_2 (50 : Int)) fun r43 => PR.bind (check_few.f k a1_0 a1_1 a1_2 a1_3 a1_4 (IntKind.i64.wrap (((a1_4.length : Nat) : Int) - a1_2)) (50 : Int)) fun r45 => (lSub a1_4 a1_2 ((a1_4.length : Nat) : Int)).bind fun l47 => PR.bind (Rc.check_checker_nodes a0_0 a0_1 a1002_0 a1002_1 a1002_2 a1002_3 a1002_4 a1002_5 a1002_6 a1002_7 l47) fun r51 => (lSub a1_4 (0 : Int) a1_2).bind fun l69 => PR.bind (check_checker_bring.f k r51.1 r51.2.1 a1002_0 a1002_1 a1002_2 r51.2.2.1 r51.2.2.2.1 r51.2.2.2.2.1 r51.2.2.2.2.2 a1002_7 a1_0 a1_1 a1_2 a1_3 a1_4 l69) fun r73 => some (PR.ok (r51.1, r51.2.1, r73.1, r51.2.2.2.1, r73.2, r51.2.2.2.2.2))) (cond (a1_0 == (22 : Int)) (PR.bind (check_few.f k a1_0 a1_1 a1_2 a1_3 a1_4 a1_2 (50 : Int)) fun r80 => PR.bind (check_few.f k a1_0 a1_1 a1_2 a1_3 a1_4 (IntKind.i64.wrap (((a1_4.length : Nat) : Int) - a1_2)) (50 : Int)) fun r82 => check_checker_node.l0 k Rc a1002_0 a1002_1 a1002_2 a1002_7 a1_2 a1_4 (0 : Int) a0_0 a0_1 a1002_3 a1002_4 a1002_5 a1002_6) (cond (a1_0 == (25 : Int)) ((lIdx a1_4 (0 : Int)).bind fun x138 => PR.bind (Rc.check_checker_node a0_0 a0_1 a1002_0 a1002_1 a1002_2 a1002_3 a1002_4 a1002_5 a1002_6 a1002_7 x138.kind x138.text x138.n x138.at_ x138.kids false) fun r147 => (lIdx a1_4 (1 : Int)).bind fun x165 => PR.bind (Rc.check_checker_loop r147.1 r147.2.1 a1002_0 a1002_1 a1002_2 r147.2.2.1 r147.2.2.2.1 r147.2.2.2.2.1 r147.2.2.2.2.2 a1002_7 a1_0 a1_1 a1_2 a1_3 a1_4 ([]) x165.kind x165.text x165.n x165.at_ x165.kids (0 : Int)) fun r174 => some (PR.ok (r174.1, r174.2.1, r174.2.2.1, r174.2.2.2.1, r174.2.2.2.2.1, r174.2.2.2.2.2))) (cond (a1_0 == (26 : Int)) ((lSub a1_4 (1 : Int) (IntKind.i64.wrap (((a1_4.length : Nat) : Int) - (1 : Int)))).bind fun l193 => PR.bind (Rc.check_checker_nodes a0_0 a0_1 a1002_0 a1002_1 a1002_2 a1002_3 a1002_4 a1002_5 a1002_6 a1002_7 l193) fun r197 => (lSub a1_4 (0 : Int) (1 : Int)).bind fun l215 => (lIdx a1_4 (IntKind.i64.wrap (((a1_4.length : Nat) : Int) - (1 : Int)))).bind fun x219 => PR.bind (Rc.check_checker_loop r197.1 r197.2.1 a1002_0 a1002_1 a1002_2 r197.2.2.1 r197.2.2.2.1 r197.2.2.2.2.1 r197.2.2.2.2.2 a1002_7 a1_0 a1_1 a1_2 a1_3 a1_4 l215 x219.kind x219.text x219.n x219.at_ x219.kids (3 : Int)) fun r228 => some (PR.ok (r228.1, r228.2.1, r228.2.2.1, r228.2.2.2.1, r228.2.2.2.2.1, r228.2.2.2.2.2))) (cond (a1_0 == (27 : Int)) (PR.bind (check_few.f k a1_0 a1_1 a1_2 a1_3 a1_4 a1_2 (50 : Int)) fun r247 => PR.bind (check_few.f k a1_0 a1_1 a1_2 a1_3 a1_4 (IntKind.i64.wrap ((IntKind.i64.wrap (((a1_4.length : Nat) : Int) - (1 : Int))) - a1_2)) (50 : Int)) fun r249 => (lSub a1_4 a1_2 (IntKind.i64.wrap (((a1_4.length : Nat) : Int) - (1 : Int)))).bind fun l251 => PR.bind (Rc.check_checker_nodes a0_0 a0_1 a1002_0 a1002_1 a1002_2 a1002_3 a1002_4 a1002_5 a1002_6 a1002_7 l251) fun r255 => (lSub a1_4 (0 : Int) a1_2).bind fun l273 => (lIdx a1_4 (IntKind.i64.wrap (((a1_4.length : Nat) : Int) - (1 : Int)))).bind fun x277 => PR.bind (Rc.check_checker_loop r255.1 r255.2.1 a1002_0 a1002_1 a1002_2 r255.2.2.1 r255.2.2.2.1 r255.2.2.2.2.1 r255.2.2.2.2.2 a1002_7 a1_0 a1_1 a1_2 a1_3 a1_4 l273 x277.kind x277.text x277.n x277.at_ x277.kids (3 : Int)) fun r286 => some (PR.ok (r286.1, r286.2.1, r286.2.2.1, r286.2.2.2.1, r286.2.2.2.2.1, r286.2.2.2.2.2))) (cond (a1_0 == (29 : Int)) (cond (a1002_6 == (0 : Int)) (PR.bind (check_fail.f k (5 : Int) a1_3) fun r306 => some (PR.ok (a0_0, a0_1, a1002_3, a1002_4, a1002_5, a1002_6))) (some (PR.ok (a0_0, a0_1, a1002_3, a1002_4, a1002_5, a1002_6)))) (PR.bind (Rc.check_checker_exp a0_0 a0_1 a1002_0 a1002_1 a1002_2 a1002_3 a1002_4 a1002_5 a1002_6 a1002_7 a1_0 a1_1 a1_2 a1_3 a1_4 a2) fun r308 => some (PR.ok (r308.1, r308.2.1, r308.2.2.1, r308.2.2.2.1, r308.2.2.2.2.1, r308.2.2.2.2.2))))))))))
set_option maxRecDepth 100000 in
theorem check_checker_node.okg {Rc : CK} (hR : Rc.Good) {k : Nat} {a0_0 : List (ByteArray × Int × Int × Int × List (Int × Int × ByteArray))} {a0_1 : List ByteArray} {a1002_0 : ByteArray} {a1002_1 : Int} {a1002_2 : Int} {a1002_3 : Int} {a1002_4 : List (Int × Int × ByteArray)} {a1002_5 : List ByteArray} {a1002_6 : Int} {a1002_7 : List ByteArray} {a1_0 : Int} {a1_1 : ByteArray} {a1_2 : Int} {a1_3 : Int} {a1_4 : List Tree} {a2 : Bool} {b0 : Nat} {H_a0_0 : Frag} {A_a0_0 : Option Addr} {c_a0_0 : Nat} {H_a0_1 : Frag} {A_a0_1 : Option Addr} {c_a0_1 : Nat} {b1002_ : Nat} {H_a1002_4 : Frag} {A_a1002_4 : Option Addr} {c_a1002_4 : Nat} {H_a1002_5 : Frag} {A_a1002_5 : Option Addr} {c_a1002_5 : Nat} {H_a1002_7 : Frag} {A_a1002_7 : Option Addr} {c_a1002_7 : Nat} {H_a1_4 : Frag} {A_a1_4 : Option Addr} {c_a1_4 : Nat} {G : Frag} {r : PR (List (ByteArray × Int × Int × Int × List (Int × Int × ByteArray)) × List ByteArray × Int × List (Int × Int × ByteArray) × List ByteArray × Int) (Int × Int)} (h : check_checker_node.g Rc k a0_0 a0_1 a1002_0 a1002_1 a1002_2 a1002_3 a1002_4 a1002_5 a1002_6 a1002_7 a1_0 a1_1 a1_2 a1_3 a1_4 a2 = some r) (R_a0_0 : OwnR rs42 42 H_a0_0 (.slice A_a0_0 a0_0.length c_a0_0) a0_0) (R_a0_1 : OwnT encS 9 1 H_a0_1 (.slice A_a0_1 a0_1.length c_a0_1) a0_1) (R_a1002_4 : OwnT e53 53 3 H_a1002_4 (.slice A_a1002_4 a1002_4.length c_a1002_4) a1002_4) (R_a1002_5 : OwnT encS 9 1 H_a1002_5 (.slice A_a1002_5 a1002_5.length c_a1002_5) a1002_5) (R_a1002_7 : RdT encS 1 H_a1002_7 (.slice A_a1002_7 a1002_7.length c_a1002_7) a1002_7) (R_a1_4 : RdR (rTree 36) H_a1_4 (.slice A_a1_4 a1_4.length c_a1_4) a1_4) (hG : GlP G) : Ct Tryz.prog 27 #[.pointer (some ⟨b0, 0, none⟩), .agg #[.int .i64 a1_0, .string a1_1, .int .i64 a1_2, .int .i64 a1_3, .slice A_a1_4 a1_4.length c_a1_4], .bool a2] [blk b0 (.cells #[.slice A_a0_0 a0_0.length c_a0_0, .slice A_a0_1 a0_1.length c_a0_1, .pointer (some ⟨b1002_, 0, none⟩)] 65 (0, 0)), H_a0_0, H_a0_1, blk b1002_ (.cells #[.string a1002_0, .int .i64 a1002_1, .int .i64 a1002_2, .int .i64 a1002_3, .slice A_a1002_4 a1002_4.length c_a1002_4, .slice A_a1002_5 a1002_5.length c_a1002_5, .int .i64 a1002_6, .slice A_a1002_7 a1002_7.length c_a1002_7] 63 (0, 0)), H_a1002_4, H_a1002_5] [H_a1002_7, H_a1_4, G] (PR.Post failC (fun (r : List (ByteArray × Int × Int × Int × List (Int × Int × ByteArray)) × List ByteArray × Int × List (Int × Int × ByteArray) × List ByteArray × Int) e l1 => ∃ (H0_ : Frag) (A0_ : Option Addr) (c0_ : Nat) (H1_ : Frag) (A1_ : Option Addr) (c1_ : Nat) (H2_ : Frag) (A2_ : Option Addr) (c2_ : Nat) (H3_ : Frag) (A3_ : Option Addr) (c3_ : Nat), OwnR rs42 42 H0_ (.slice A0_ r.1.length c0_) r.1 ∧ OwnT encS 9 1 H1_ (.slice A1_ r.2.1.length c1_) r.2.1 ∧ OwnT e53 53 3 H2_ (.slice A2_ r.2.2.2.1.length c2_) r.2.2.2.1 ∧ OwnT encS 9 1 H3_ (.slice A3_ r.2.2.2.2.1.length c3_) r.2.2.2.2.1 ∧ e = .returned (.tuple #[]) ∧ l1 = [blk b0 (.cells #[.slice A0_ r.1.length c0_, .slice A1_ r.2.1.length c1_, .pointer (some ⟨b1002_, 0, none⟩)] 65 (0, 0)), H0_, H1_, blk b1002_ (.cells #[.string a1002_0, .int .i64 a1002_1, .int .i64 a1002_2, .int .i64 r.2.2.1, .slice A2_ r.2.2.2.1.length c2_, .slice A3_ r.2.2.2.2.1.length c3_, .int .i64 r.2.2.2.2.2, .slice A_a1002_7 a1002_7.length c_a1002_7] 63 (0, 0)), H2_, H3_]) r) := by
 refine ct_enter (args := [.pointer (some ⟨b0, 0, none⟩), .agg #[.int .i64 a1_0, .string a1_1, .int .i64 a1_2, .int .i64 a1_3, .slice A_a1_4 a1_4.length c_a1_4], .bool a2]) Tryz.func27 rfl (Nat.le_of_ble_eq_true rfl) ?_
 intro A X hh_
 obtain ⟨hm_H_a1002_7, hm_H_a1_4, hm_G, _⟩ := hh_
 unfold check_checker_node.g at h
 refine K.eq (env' := [(0, .pointer (some ⟨b0, 0, none⟩)), (1, .agg #[.int .i64 a1_0, .string a1_1, .int .i64 a1_2, .int .i64 a1_3, .slice A_a1_4 a1_4.length c_a1_4]), (2, .bool a2)]) (l' := blk b0 (.cells #[.slice A_a0_0 a0_0.length c_a0_0, .slice A_a0_1 a0_1.length c_a0_1, .pointer (some ⟨b1002_, 0, none⟩)] 65 (0, 0)) :: H_a0_0 :: H_a0_1 :: blk b1002_ (.cells #[.string a1002_0, .int .i64 a1002_1, .int .i64 a1002_2, .int .i64 a1002_3, .slice A_a1002_4 a1002_4.length c_a1002_4, .slice A_a1002_5 a1002_5.length c_a1002_5, .int .i64 a1002_6, .slice A_a1002_7 a1002_7.length c_a1002_7] 63 (0, 0)) :: H_a1002_4 :: H_a1002_5 :: X) rfl rfl ?_
 refine k_seq ?_
 refine k_region ?_
 refine kl_new (.cells #[.int .i64 a1_0, .string a1_1, .int .i64 a1_2, .int .i64 a1_3, .slice A_a1_4 a1_4.length c_a1_4] 36 (0, 0)) (fun b => .pointer (some ⟨b, 0, none⟩)) (by kernel_rfl) (by kernel_rfl) (fun _ => by kernel_rfl) fun b1 => ?_
 refine k_nil ?_
 refine k_then ?_
 refine k_seq ?_
 refine k_region ?_
 refine kl_steps 1 [(0, .pointer (some ⟨b0, 0, none⟩)), (2, .bool a2), (4, .pointer (some ⟨b1, 0, none⟩)), (10, .pointer (some ⟨b1, 4, none⟩))] (by kernel_rfl) ?_
 refine kl_load (v := .slice A_a1_4 a1_4.length c_a1_4) [.val (.slice A_a1_4 a1_4.length c_a1_4)] [.ld ⟨b1, 4, none⟩ (.slice A_a1_4 a1_4.length c_a1_4)] (by kernel_rfl) (by kernel_rfl) (by kernel_rfl) ⟨⟨0, _, _, _, rfl, rfl, rfl⟩, trivial⟩ ?_
 refine kl_steps 3 [(0, .pointer (some ⟨b0, 0, none⟩)), (2, .bool a2), (4, .pointer (some ⟨b1, 0, none⟩)), (6, .int .i64 (IntKind.i64.wrap (((a1_4.length : Nat) : Int) - (1 : Int))))] (by kernel_rfl) ?_
 refine k_nil ?_
 refine k_then ?_
 refine k_seq ?_
 refine k_region ?_
 refine kl_steps 1 [(0, .pointer (some ⟨b0, 0, none⟩)), (2, .bool a2), (4, .pointer (some ⟨b1, 0, none⟩)), (6, .int .i64 (IntKind.i64.wrap (((a1_4.length : Nat) : Int) - (1 : Int)))), (14, .pointer (some ⟨b1, 0, none⟩))] (by kernel_rfl) ?_
 refine kl_load (v := .int .i64 a1_0) [.val (.int .i64 a1_0)] [.ld ⟨b1, 0, none⟩ (.int .i64 a1_0)] (by kernel_rfl) (by kernel_rfl) (by kernel_rfl) ⟨⟨0, _, _, _, rfl, rfl, rfl⟩, trivial⟩ ?_
 refine k_nil ?_
 refine k_then ?_
 refine k_block ?_
 refine k_seq ?_
 refine k_region ?_
 refine kl_steps 2 [(0, .pointer (some ⟨b0, 0, none⟩)), (2, .bool a2), (4, .pointer (some ⟨b1, 0, none⟩)), (6, .int .i64 (IntKind.i64.wrap (((a1_4.length : Nat) : Int) - (1 : Int)))), (15, .int .i64 a1_0), (20, .bool (a1_0 == (20 : Int)))] (by kernel_rfl) ?_
 refine k_nil ?_
 refine k_then ?_
 refine k_cond (t := (a1_0 == (20 : Int))) (by kernel_rfl) (fun t2 => ?_) (fun t2 => ?_)
 ·have h := condT h t2
  refine k_seq ?_
  refine k_region ?_
  refine kl_steps 3 [(0, .pointer (some ⟨b0, 0, none⟩)), (4, .pointer (some ⟨b1, 0, none⟩)), (24, .pointer (some ⟨b0, 2, none⟩))] (by kernel_rfl) ?_
  refine kl_load (v := .pointer (some ⟨b1002_, 0, none⟩)) [.val (.pointer (some ⟨b1002_, 0, none⟩))] [.ld ⟨b0, 2, none⟩ (.pointer (some ⟨b1002_, 0, none⟩))] (by kernel_rfl) (by kernel_rfl) (by kernel_rfl) ⟨⟨1, _, _, _, rfl, rfl, rfl⟩, trivial⟩ ?_
  refine kl_steps 2 [(0, .pointer (some ⟨b0, 0, none⟩)), (4, .pointer (some ⟨b1, 0, none⟩)), (27, .pointer (some ⟨b1002_, 5, none⟩))] (by kernel_rfl) ?_
  refine kl_load (v := .slice A_a1002_5 a1002_5.length c_a1002_5) [.val (.slice A_a1002_5 a1002_5.length c_a1002_5)] [.ld ⟨b1002_, 5, none⟩ (.slice A_a1002_5 a1002_5.length c_a1002_5)] (by kernel_rfl) (by kernel_rfl) (by kernel_rfl) ⟨⟨4, _, _, _, rfl, rfl, rfl⟩, trivial⟩ ?_
  refine kl_steps 2 [(0, .pointer (some ⟨b0, 0, none⟩)), (4, .pointer (some ⟨b1, 0, none⟩)), (7, .int .i64 ((a1002_5.length : Nat) : Int))] (by kernel_rfl) ?_
  refine k_nil ?_
  refine k_then ?_
  refine k_seq ?_
  refine k_region ?_
  refine kl_steps 2 [(0, .pointer (some ⟨b0, 0, none⟩)), (7, .int .i64 ((a1002_5.length : Nat) : Int)), (30, .pointer (some ⟨b0, 0, none⟩)), (31, .pointer (some ⟨b1, 4, none⟩))] (by kernel_rfl) ?_
  refine kl_load (v := .slice A_a1_4 a1_4.length c_a1_4) [.val (.slice A_a1_4 a1_4.length c_a1_4)] [.ld ⟨b1, 4, none⟩ (.slice A_a1_4 a1_4.length c_a1_4)] (by kernel_rfl) (by kernel_rfl) (by kernel_rfl) ⟨⟨0, _, _, _, rfl, rfl, rfl⟩, trivial⟩ ?_
  refine K.drop ?_
  refine K.mvN [_, _, _, _, _] _ _ ?_
  refine K.mvN [_, _, _, _, _] _ _ ?_
  refine K.mvN [_, _, _, _, _] _ _ ?_
  refine K.mvN [_, _, _, _, _] _ _ ?_
  refine K.mvN [_, _, _, _, _] _ _ ?_
  refine K.mvN [_, _, _, _, _] _ _ ?_
  rcases prBind h with ⟨i4, hr3, rfl⟩ | ⟨r3, hr3, h⟩
  ·refine kl_call (X) (by kernel_rfl) (by kernel_rfl) (by kernel_rfl) (hR.check_checker_nodes (b0 := b0) (b1002_ := b1002_) hr3 R_a0_0 R_a0_1 R_a1002_4 R_a1002_5 R_a1002_7 R_a1_4 hG) rfl ⟨hm_H_a1002_7, hm_H_a1_4, hm_G, trivial⟩ ?_
   rintro _ _ ⟨rfl, rfl⟩
   refine nx_pan ?_
   refine k_then_panic ?_
   refine k_blk_panic ?_
   refine k_panicked [] ?_
   exact k_end PR.badI
  refine kl_call (X) (by kernel_rfl) (by kernel_rfl) (by kernel_rfl) (hR.check_checker_nodes (b0 := b0) (b1002_ := b1002_) hr3 R_a0_0 R_a0_1 R_a1002_4 R_a1002_5 R_a1002_7 R_a1_4 hG) rfl ⟨hm_H_a1002_7, hm_H_a1_4, hm_G, trivial⟩ ?_
  rintro _ _ ⟨h5, A6, k7, h9, A10, k11, h13, A14, k15, h17, A18, k19, o8, o12, o16, o20, rfl, rfl⟩
  refine nx_ret ?_
  refine k_nil ?_
  refine k_then ?_
  refine k_region_plan [(0, 0), (1, 0), (2, 0), (3, 3), (4, 0), (5, 0), (6, 0), (7, 3), (8, 0), (9, 0), (10, 3), (11, 0), (12, 0)] (fun w => OnAll [blk b0 (.cells #[.slice A6 r3.1.length k7, .slice A10 r3.2.1.length k11, .pointer (some ⟨b1002_, 0, none⟩)] 65 (0, 0)), blk b1002_ (.cells #[.string a1002_0, .int .i64 a1002_1, .int .i64 a1002_2, .int .i64 r3.2.2.1, .slice A14 r3.2.2.2.1.length k15, .slice A18 r3.2.2.2.2.1.length k19, .int .i64 r3.2.2.2.2.2, .slice A_a1002_7 a1002_7.length c_a1002_7] 63 (0, 0))] w) (by kernel_rfl) (by kernel_rfl) (fun _ _ d _ _ h => by cases d <;> exact h) (fun w h_ => ⟨h_.sat.on _ (.head _), h_.sat.on _ (.tail _ (.tail _ (.tail _ (.head _)))), trivial⟩) ?_
  simp only [planOps, List.filterMap_cons, List.filterMap_nil, List.getElem?_toArray, List.getElem?_cons_zero, List.getElem?_cons_succ, Option.map_some, List.drop_succ_cons, List.drop_zero, List.length_cons, List.length_nil]
  refine kp_steps 3 [(0, .pointer (some ⟨b0, 0, none⟩)), (7, .int .i64 ((a1002_5.length : Nat) : Int)), (36, .pointer (some ⟨b0, 2, none⟩))] (by kernel_rfl) (by kernel_rfl) ?_
  refine kp_loadS (v := .pointer (some ⟨b1002_, 0, none⟩)) [blk b0 (.cells #[.slice A6 r3.1.length k7, .slice A10 r3.2.1.length k11, .pointer (some ⟨b1002_, 0, none⟩)] 65 (0, 0)), blk b1002_ (.cells #[.string a1002_0, .int .i64 a1002_1, .int .i64 a1002_2, .int .i64 r3.2.2.1, .slice A14 r3.2.2.2.1.length k15, .slice A18 r3.2.2.2.2.1.length k19, .int .i64 r3.2.2.2.2.2, .slice A_a1002_7 a1002_7.length c_a1002_7] 63 (0, 0))] [.val (.pointer (some ⟨b1002_, 0, none⟩))] [.ld ⟨b0, 2, none⟩ (.pointer (some ⟨b1002_, 0, none⟩))] (by kernel_rfl) (by kernel_rfl) (by kernel_rfl) (fun _ h => h) ⟨⟨0, _, _, _, rfl, rfl, rfl⟩, trivial⟩ ?_
  refine kp_steps 3 [(7, .int .i64 ((a1002_5.length : Nat) : Int)), (37, .pointer (some ⟨b1002_, 0, none⟩)), (40, .pointer (some ⟨b0, 2, none⟩))] (by kernel_rfl) (by kernel_rfl) ?_
  refine kp_loadS (v := .pointer (some ⟨b1002_, 0, none⟩)) [blk b0 (.cells #[.slice A6 r3.1.length k7, .slice A10 r3.2.1.length k11, .pointer (some ⟨b1002_, 0, none⟩)] 65 (0, 0)), blk b1002_ (.cells #[.string a1002_0, .int .i64 a1002_1, .int .i64 a1002_2, .int .i64 r3.2.2.1, .slice A14 r3.2.2.2.1.length k15, .slice A18 r3.2.2.2.2.1.length k19, .int .i64 r3.2.2.2.2.2, .slice A_a1002_7 a1002_7.length c_a1002_7] 63 (0, 0))] [.val (.pointer (some ⟨b1002_, 0, none⟩))] [.ld ⟨b0, 2, none⟩ (.pointer (some ⟨b1002_, 0, none⟩))] (by kernel_rfl) (by kernel_rfl) (by kernel_rfl) (fun _ h => h) ⟨⟨0, _, _, _, rfl, rfl, rfl⟩, trivial⟩ ?_
  refine kp_steps 2 [(7, .int .i64 ((a1002_5.length : Nat) : Int)), (37, .pointer (some ⟨b1002_, 0, none⟩)), (43, .pointer (some ⟨b1002_, 5, none⟩))] (by kernel_rfl) (by kernel_rfl) ?_
  refine kp_loadS (v := .slice A18 r3.2.2.2.2.1.length k19) [blk b0 (.cells #[.slice A6 r3.1.length k7, .slice A10 r3.2.1.length k11, .pointer (some ⟨b1002_, 0, none⟩)] 65 (0, 0)), blk b1002_ (.cells #[.string a1002_0, .int .i64 a1002_1, .int .i64 a1002_2, .int .i64 r3.2.2.1, .slice A14 r3.2.2.2.1.length k15, .slice A18 r3.2.2.2.2.1.length k19, .int .i64 r3.2.2.2.2.2, .slice A_a1002_7 a1002_7.length c_a1002_7] 63 (0, 0))] [.val (.slice A18 r3.2.2.2.2.1.length k19)] [.ld ⟨b1002_, 5, none⟩ (.slice A18 r3.2.2.2.2.1.length k19)] (by kernel_rfl) (by kernel_rfl) (by kernel_rfl) (fun _ h => h) ⟨⟨1, _, _, _, rfl, rfl, rfl⟩, trivial⟩ ?_
  refine kp_steps 1 [(37, .pointer (some ⟨b1002_, 0, none⟩)), (44, .slice A18 r3.2.2.2.2.1.length k19), (45, .int .i64 ((a1002_5.length : Nat) : Int))] (by kernel_rfl) (by kernel_rfl) ?_
  obtain ⟨l21, hl21, h⟩ := bindSome h
  refine kp_cutO (T := 9) (sz := 1) (k := .i64) (xs := r3.2.2.2.2.1) ((a1002_5.length : Nat) : Int) encS_ok rfl (by kernel_rfl) (by kernel_rfl) (by kernel_rfl) (by kernel_rfl) (by kernel_rfl) (by kernel_rfl) hl21 o20 fun o22 => ?_
  refine kp_done ?_
  refine kl_steps 2 [(46, .slice A18 l21.length k19), (48, .pointer (some ⟨b1002_, 5, none⟩))] (by kernel_rfl) ?_
  refine K.mv3 ?_
  refine kl_store (cs' := #[.string a1002_0, .int .i64 a1002_1, .int .i64 a1002_2, .int .i64 r3.2.2.1, .slice A14 r3.2.2.2.1.length k15, .slice A18 l21.length k19, .int .i64 r3.2.2.2.2.2, .slice A_a1002_7 a1002_7.length c_a1002_7]) [.st ⟨b1002_, 5, none⟩ (.slice A18 l21.length k19)] (by kernel_rfl) (by kernel_rfl) (by kernel_rfl) ⟨rfl, trivial⟩ (by kernel_rfl) ?_
  refine k_nil ?_
  refine k_blk ?_
  refine k_fall ?_
  obtain rfl := Option.some.inj h
  refine k_done (v := .tuple #[]) [] [] [blk b0 (.cells #[.slice A6 r3.1.length k7, .slice A10 r3.2.1.length k11, .pointer (some ⟨b1002_, 0, none⟩)] 65 (0, 0)), h5, h9, blk b1002_ (.cells #[.string a1002_0, .int .i64 a1002_1, .int .i64 a1002_2, .int .i64 r3.2.2.1, .slice A14 r3.2.2.2.1.length k15, .slice A18 l21.length k19, .int .i64 r3.2.2.2.2.2, .slice A_a1002_7 a1002_7.length c_a1002_7] 63 (0, 0)), h13, h17] (by kernel_rfl) (by kernel_rfl) trivial ?_
  refine K.mvN [_, _, _, _, _] _ _ ?_
  refine K.mvN [_, _, _, _, _] _ _ ?_
  refine K.mv2 ?_
  refine K.mvN [_, _, _, _, _] _ _ ?_
  refine K.mvN [_, _, _, _, _] _ _ ?_
  refine K.mvN [_, _, _, _, _] _ _ ?_
  exact k_end (PR.okI ⟨h5, A6, k7, h9, A10, k11, h13, A14, k15, h17, A18, k19, o8, o12, o16, o22, rfl, rfl⟩)
 ·have h := condF h t2
  refine k_seq ?_
  refine k_region ?_
  refine kl_steps 2 [(0, .pointer (some ⟨b0, 0, none⟩)), (2, .bool a2), (4, .pointer (some ⟨b1, 0, none⟩)), (6, .int .i64 (IntKind.i64.wrap (((a1_4.length : Nat) : Int) - (1 : Int)))), (15, .int .i64 a1_0), (49, .bool (a1_0 == (31 : Int)))] (by kernel_rfl) ?_
  refine k_nil ?_
  refine k_then ?_
  refine k_cond (t := (a1_0 == (31 : Int))) (by kernel_rfl) (fun t23 => ?_) (fun t23 => ?_)
  ·have h := condT h t23
   refine k_region ?_
   refine kl_steps 1 [(4, .pointer (some ⟨b1, 0, none⟩)), (51, .pointer (some ⟨b0, 0, none⟩))] (by kernel_rfl) ?_
   refine kl_load (v := .agg #[.int .i64 a1_0, .string a1_1, .int .i64 a1_2, .int .i64 a1_3, .slice A_a1_4 a1_4.length c_a1_4]) [.val (.int .i64 a1_0), .val (.string a1_1), .val (.int .i64 a1_2), .val (.int .i64 a1_3), .val (.slice A_a1_4 a1_4.length c_a1_4)] [.ld ⟨b1, 0, none⟩ (.int .i64 a1_0), .ld ⟨b1, 1, none⟩ (.string a1_1), .ld ⟨b1, 2, none⟩ (.int .i64 a1_2), .ld ⟨b1, 3, none⟩ (.int .i64 a1_3), .ld ⟨b1, 4, none⟩ (.slice A_a1_4 a1_4.length c_a1_4)] (by kernel_rfl) (by kernel_rfl) (by kernel_rfl) ⟨⟨0, _, _, _, rfl, rfl, rfl⟩, ⟨0, _, _, _, rfl, rfl, rfl⟩, ⟨0, _, _, _, rfl, rfl, rfl⟩, ⟨0, _, _, _, rfl, rfl, rfl⟩, ⟨0, _, _, _, rfl, rfl, rfl⟩, trivial⟩ ?_
   refine K.drop ?_
   refine K.mvN [_, _, _, _, _] _ _ ?_
   refine K.mvN [_, _, _, _, _] _ _ ?_
   refine K.mvN [_, _, _, _, _] _ _ ?_
   refine K.mvN [_, _, _, _, _] _ _ ?_
   refine K.mvN [_, _, _, _, _] _ _ ?_
   refine K.mvN [_, _, _, _, _] _ _ ?_
   rcases prBind h with ⟨i25, hr24, rfl⟩ | ⟨r24, hr24, h⟩
   ·refine kl_call (X) (by kernel_rfl) (by kernel_rfl) (by kernel_rfl) (hR.check_checker_function (b0 := b0) (b1002_ := b1002_) hr24 R_a0_0 R_a0_1 R_a1002_4 R_a1002_5 R_a1002_7 R_a1_4 hG) rfl ⟨hm_H_a1002_7, hm_H_a1_4, hm_G, trivial⟩ ?_
    rintro _ _ ⟨rfl, rfl⟩
    refine nx_pan ?_
    refine k_blk_panic ?_
    refine k_panicked [] ?_
    exact k_end PR.badI
   refine kl_call (X) (by kernel_rfl) (by kernel_rfl) (by kernel_rfl) (hR.check_checker_function (b0 := b0) (b1002_ := b1002_) hr24 R_a0_0 R_a0_1 R_a1002_4 R_a1002_5 R_a1002_7 R_a1_4 hG) rfl ⟨hm_H_a1002_7, hm_H_a1_4, hm_G, trivial⟩ ?_
   rintro _ _ ⟨h26, A27, k28, h30, A31, k32, h34, A35, k36, h38, A39, k40, o29, o33, o37, o41, rfl, rfl⟩
   refine nx_ret ?_
   refine k_nil ?_
   refine k_blk ?_
   refine k_fall ?_
   obtain rfl := Option.some.inj h
   refine k_done (v := .tuple #[]) [] [] [blk b0 (.cells #[.slice A27 r24.1.length k28, .slice A31 r24.2.1.length k32, .pointer (some ⟨b1002_, 0, none⟩)] 65 (0, 0)), h26, h30, blk b1002_ (.cells #[.string a1002_0, .int .i64 a1002_1, .int .i64 a1002_2, .int .i64 r24.2.2.1, .slice A35 r24.2.2.2.1.length k36, .slice A39 r24.2.2.2.2.1.length k40, .int .i64 r24.2.2.2.2.2, .slice A_a1002_7 a1002_7.length c_a1002_7] 63 (0, 0)), h34, h38] (by kernel_rfl) (by kernel_rfl) trivial ?_
   exact k_end (PR.okI ⟨h26, A27, k28, h30, A31, k32, h34, A35, k36, h38, A39, k40, o29, o33, o37, o41, rfl, rfl⟩)
  ·have h := condF h t23
   refine k_seq ?_
   refine k_region ?_
   refine kl_steps 2 [(0, .pointer (some ⟨b0, 0, none⟩)), (2, .bool a2), (4, .pointer (some ⟨b1, 0, none⟩)), (6, .int .i64 (IntKind.i64.wrap (((a1_4.length : Nat) : Int) - (1 : Int)))), (15, .int .i64 a1_0), (54, .bool (a1_0 == (21 : Int)))] (by kernel_rfl) ?_
   refine k_nil ?_
   refine k_then ?_
   refine k_cond (t := (a1_0 == (21 : Int))) (by kernel_rfl) (fun t42 => ?_) (fun t42 => ?_)
   ·have h := condT h t42
    refine k_seq ?_
    refine k_region ?_
    refine kl_load (v := .agg #[.int .i64 a1_0, .string a1_1, .int .i64 a1_2, .int .i64 a1_3, .slice A_a1_4 a1_4.length c_a1_4]) [.val (.int .i64 a1_0), .val (.string a1_1), .val (.int .i64 a1_2), .val (.int .i64 a1_3), .val (.slice A_a1_4 a1_4.length c_a1_4)] [.ld ⟨b1, 0, none⟩ (.int .i64 a1_0), .ld ⟨b1, 1, none⟩ (.string a1_1), .ld ⟨b1, 2, none⟩ (.int .i64 a1_2), .ld ⟨b1, 3, none⟩ (.int .i64 a1_3), .ld ⟨b1, 4, none⟩ (.slice A_a1_4 a1_4.length c_a1_4)] (by kernel_rfl) (by kernel_rfl) (by kernel_rfl) ⟨⟨0, _, _, _, rfl, rfl, rfl⟩, ⟨0, _, _, _, rfl, rfl, rfl⟩, ⟨0, _, _, _, rfl, rfl, rfl⟩, ⟨0, _, _, _, rfl, rfl, rfl⟩, ⟨0, _, _, _, rfl, rfl, rfl⟩, trivial⟩ ?_
    refine kl_steps 1 [(0, .pointer (some ⟨b0, 0, none⟩)), (4, .pointer (some ⟨b1, 0, none⟩)), (56, .agg #[.int .i64 a1_0, .string a1_1, .int .i64 a1_2, .int .i64 a1_3, .slice A_a1_4 a1_4.length c_a1_4]), (57, .pointer (some ⟨b1, 2, none⟩))] (by kernel_rfl) ?_
    refine kl_load (v := .int .i64 a1_2) [.val (.int .i64 a1_2)] [.ld ⟨b1, 2, none⟩ (.int .i64 a1_2)] (by kernel_rfl) (by kernel_rfl) (by kernel_rfl) ⟨⟨0, _, _, _, rfl, rfl, rfl⟩, trivial⟩ ?_
    rcases prBind h with ⟨i44, hr43, rfl⟩ | ⟨r43, hr43, h⟩
    ·refine kl_call (blk b1 (.cells #[.int .i64 a1_0, .string a1_1, .int .i64 a1_2, .int .i64 a1_3, .slice A_a1_4 a1_4.length c_a1_4] 36 (0, 0)) :: blk b0 (.cells #[.slice A_a0_0 a0_0.length c_a0_0, .slice A_a0_1 a0_1.length c_a0_1, .pointer (some ⟨b1002_, 0, none⟩)] 65 (0, 0)) :: H_a0_0 :: H_a0_1 :: blk b1002_ (.cells #[.string a1002_0, .int .i64 a1002_1, .int .i64 a1002_2, .int .i64 a1002_3, .slice A_a1002_4 a1002_4.length c_a1002_4, .slice A_a1002_5 a1002_5.length c_a1002_5, .int .i64 a1002_6, .slice A_a1002_7 a1002_7.length c_a1002_7] 63 (0, 0)) :: H_a1002_4 :: H_a1002_5 :: X) (by kernel_rfl) (by kernel_rfl) (by kernel_rfl) (check_few.ok hr43 R_a1_4) rfl ⟨(.tail _ (.tail _ (.tail _ (.tail _ (.tail _ (.tail _ (.tail _ hm_H_a1_4))))))), trivial⟩ ?_
     rintro _ _ ⟨rfl, rfl⟩
     refine nx_pan ?_
     refine k_then_panic ?_
     refine k_blk_panic ?_
     refine k_panicked [] ?_
     refine K.drop ?_
     refine K.drop ?_
     refine K.drop ?_
     refine K.drop ?_
     refine K.drop ?_
     refine K.drop ?_
     refine K.drop ?_
     exact k_end PR.badI
    refine kl_call (blk b1 (.cells #[.int .i64 a1_0, .string a1_1, .int .i64 a1_2, .int .i64 a1_3, .slice A_a1_4 a1_4.length c_a1_4] 36 (0, 0)) :: blk b0 (.cells #[.slice A_a0_0 a0_0.length c_a0_0, .slice A_a0_1 a0_1.length c_a0_1, .pointer (some ⟨b1002_, 0, none⟩)] 65 (0, 0)) :: H_a0_0 :: H_a0_1 :: blk b1002_ (.cells #[.string a1002_0, .int .i64 a1002_1, .int .i64 a1002_2, .int .i64 a1002_3, .slice A_a1002_4 a1002_4.length c_a1002_4, .slice A_a1002_5 a1002_5.length c_a1002_5, .int .i64 a1002_6, .slice A_a1002_7 a1002_7.length c_a1002_7] 63 (0, 0)) :: H_a1002_4 :: H_a1002_5 :: X) (by kernel_rfl) (by kernel_rfl) (by kernel_rfl) (check_few.ok hr43 R_a1_4) rfl ⟨(.tail _ (.tail _ (.tail _ (.tail _ (.tail _ (.tail _ (.tail _ hm_H_a1_4))))))), trivial⟩ ?_
    rintro _ _ ⟨rfl, rfl⟩
    refine nx_ret0 ?_
    refine k_nil ?_
    refine k_then ?_
    refine k_seq ?_
    refine k_region ?_
    refine kl_load (v := .agg #[.int .i64 a1_0, .string a1_1, .int .i64 a1_2, .int .i64 a1_3, .slice A_a1_4 a1_4.length c_a1_4]) [.val (.int .i64 a1_0), .val (.string a1_1), .val (.int .i64 a1_2), .val (.int .i64 a1_3), .val (.slice A_a1_4 a1_4.length c_a1_4)] [.ld ⟨b1, 0, none⟩ (.int .i64 a1_0), .ld ⟨b1, 1, none⟩ (.string a1_1), .ld ⟨b1, 2, none⟩ (.int .i64 a1_2), .ld ⟨b1, 3, none⟩ (.int .i64 a1_3), .ld ⟨b1, 4, none⟩ (.slice A_a1_4 a1_4.length c_a1_4)] (by kernel_rfl) (by kernel_rfl) (by kernel_rfl) ⟨⟨0, _, _, _, rfl, rfl, rfl⟩, ⟨0, _, _, _, rfl, rfl, rfl⟩, ⟨0, _, _, _, rfl, rfl, rfl⟩, ⟨0, _, _, _, rfl, rfl, rfl⟩, ⟨0, _, _, _, rfl, rfl, rfl⟩, trivial⟩ ?_
    refine kl_steps 1 [(0, .pointer (some ⟨b0, 0, none⟩)), (4, .pointer (some ⟨b1, 0, none⟩)), (60, .agg #[.int .i64 a1_0, .string a1_1, .int .i64 a1_2, .int .i64 a1_3, .slice A_a1_4 a1_4.length c_a1_4]), (61, .pointer (some ⟨b1, 4, none⟩))] (by kernel_rfl) ?_
    refine kl_load (v := .slice A_a1_4 a1_4.length c_a1_4) [.val (.slice A_a1_4 a1_4.length c_a1_4)] [.ld ⟨b1, 4, none⟩ (.slice A_a1_4 a1_4.length c_a1_4)] (by kernel_rfl) (by kernel_rfl) (by kernel_rfl) ⟨⟨0, _, _, _, rfl, rfl, rfl⟩, trivial⟩ ?_
    refine kl_steps 2 [(0, .pointer (some ⟨b0, 0, none⟩)), (4, .pointer (some ⟨b1, 0, none⟩)), (60, .agg #[.int .i64 a1_0, .string a1_1, .int .i64 a1_2, .int .i64 a1_3, .slice A_a1_4 a1_4.length c_a1_4]), (63, .int .i64 ((a1_4.length : Nat) : Int)), (64, .pointer (some ⟨b1, 2, none⟩))] (by kernel_rfl) ?_
    refine kl_load (v := .int .i64 a1_2) [.val (.int .i64 a1_2)] [.ld ⟨b1, 2, none⟩ (.int .i64 a1_2)] (by kernel_rfl) (by kernel_rfl) (by kernel_rfl) ⟨⟨0, _, _, _, rfl, rfl, rfl⟩, trivial⟩ ?_
    refine kl_steps 1 [(0, .pointer (some ⟨b0, 0, none⟩)), (4, .pointer (some ⟨b1, 0, none⟩)), (60, .agg #[.int .i64 a1_0, .string a1_1, .int .i64 a1_2, .int .i64 a1_3, .slice A_a1_4 a1_4.length c_a1_4]), (66, .int .i64 (IntKind.i64.wrap (((a1_4.length : Nat) : Int) - a1_2)))] (by kernel_rfl) ?_
    rcases prBind h with ⟨i46, hr45, rfl⟩ | ⟨r45, hr45, h⟩
    ·refine kl_call (blk b1 (.cells #[.int .i64 a1_0, .string a1_1, .int .i64 a1_2, .int .i64 a1_3, .slice A_a1_4 a1_4.length c_a1_4] 36 (0, 0)) :: blk b0 (.cells #[.slice A_a0_0 a0_0.length c_a0_0, .slice A_a0_1 a0_1.length c_a0_1, .pointer (some ⟨b1002_, 0, none⟩)] 65 (0, 0)) :: H_a0_0 :: H_a0_1 :: blk b1002_ (.cells #[.string a1002_0, .int .i64 a1002_1, .int .i64 a1002_2, .int .i64 a1002_3, .slice A_a1002_4 a1002_4.length c_a1002_4, .slice A_a1002_5 a1002_5.length c_a1002_5, .int .i64 a1002_6, .slice A_a1002_7 a1002_7.length c_a1002_7] 63 (0, 0)) :: H_a1002_4 :: H_a1002_5 :: X) (by kernel_rfl) (by kernel_rfl) (by kernel_rfl) (check_few.ok hr45 R_a1_4) rfl ⟨(.tail _ (.tail _ (.tail _ (.tail _ (.tail _ (.tail _ (.tail _ hm_H_a1_4))))))), trivial⟩ ?_
     rintro _ _ ⟨rfl, rfl⟩
     refine nx_pan ?_
     refine k_then_panic ?_
     refine k_blk_panic ?_
     refine k_panicked [] ?_
     refine K.drop ?_
     refine K.drop ?_
     refine K.drop ?_
     refine K.drop ?_
     refine K.drop ?_
     refine K.drop ?_
     refine K.drop ?_
     exact k_end PR.badI
    refine kl_call (blk b1 (.cells #[.int .i64 a1_0, .string a1_1, .int .i64 a1_2, .int .i64 a1_3, .slice A_a1_4 a1_4.length c_a1_4] 36 (0, 0)) :: blk b0 (.cells #[.slice A_a0_0 a0_0.length c_a0_0, .slice A_a0_1 a0_1.length c_a0_1, .pointer (some ⟨b1002_, 0, none⟩)] 65 (0, 0)) :: H_a0_0 :: H_a0_1 :: blk b1002_ (.cells #[.string a1002_0, .int .i64 a1002_1, .int .i64 a1002_2, .int .i64 a1002_3, .slice A_a1002_4 a1002_4.length c_a1002_4, .slice A_a1002_5 a1002_5.length c_a1002_5, .int .i64 a1002_6, .slice A_a1002_7 a1002_7.length c_a1002_7] 63 (0, 0)) :: H_a1002_4 :: H_a1002_5 :: X) (by kernel_rfl) (by kernel_rfl) (by kernel_rfl) (check_few.ok hr45 R_a1_4) rfl ⟨(.tail _ (.tail _ (.tail _ (.tail _ (.tail _ (.tail _ (.tail _ hm_H_a1_4))))))), trivial⟩ ?_
    rintro _ _ ⟨rfl, rfl⟩
    refine nx_ret0 ?_
    refine k_nil ?_
    refine k_then ?_
    refine k_seq ?_
    refine k_region ?_
    refine kl_steps 2 [(0, .pointer (some ⟨b0, 0, none⟩)), (4, .pointer (some ⟨b1, 0, none⟩)), (68, .pointer (some ⟨b0, 0, none⟩)), (69, .pointer (some ⟨b1, 4, none⟩))] (by kernel_rfl) ?_
    refine kl_load (v := .slice A_a1_4 a1_4.length c_a1_4) [.val (.slice A_a1_4 a1_4.length c_a1_4)] [.ld ⟨b1, 4, none⟩ (.slice A_a1_4 a1_4.length c_a1_4)] (by kernel_rfl) (by kernel_rfl) (by kernel_rfl) ⟨⟨0, _, _, _, rfl, rfl, rfl⟩, trivial⟩ ?_
    refine kl_steps 1 [(0, .pointer (some ⟨b0, 0, none⟩)), (4, .pointer (some ⟨b1, 0, none⟩)), (68, .pointer (some ⟨b0, 0, none⟩)), (70, .slice A_a1_4 a1_4.length c_a1_4), (71, .pointer (some ⟨b1, 2, none⟩))] (by kernel_rfl) ?_
    refine kl_load (v := .int .i64 a1_2) [.val (.int .i64 a1_2)] [.ld ⟨b1, 2, none⟩ (.int .i64 a1_2)] (by kernel_rfl) (by kernel_rfl) (by kernel_rfl) ⟨⟨0, _, _, _, rfl, rfl, rfl⟩, trivial⟩ ?_
    obtain ⟨l47, hl47, h⟩ := bindSome h
    refine kl_subR (T := 36) (R := (rTree 36)) (xs := a1_4) a1_2 ((a1_4.length : Nat) : Int) rfl (by kernel_rfl) (by kernel_rfl) (by kernel_rfl) (.inr ⟨_, .i64, rfl, (by kernel_rfl)⟩) (.inl ⟨rfl, rfl⟩) (by kernel_rfl) (by kernel_rfl) hl47 R_a1_4 fun A48 k49 o50 => ?_
    refine K.mvN [_, _, _, _, _, _] _ _ ?_
    refine K.mvN [_, _, _, _, _, _] _ _ ?_
    refine K.mvN [_, _, _, _, _, _] _ _ ?_
    refine K.mvN [_, _, _, _, _, _] _ _ ?_
    refine K.mvN [_, _, _, _, _, _] _ _ ?_
    refine K.mvN [_, _, _, _, _, _] _ _ ?_
    rcases prBind h with ⟨i52, hr51, rfl⟩ | ⟨r51, hr51, h⟩
    ·refine kl_call (blk b1 (.cells #[.int .i64 a1_0, .string a1_1, .int .i64 a1_2, .int .i64 a1_3, .slice A_a1_4 a1_4.length c_a1_4] 36 (0, 0)) :: X) (by kernel_rfl) (by kernel_rfl) (by kernel_rfl) (hR.check_checker_nodes (b0 := b0) (b1002_ := b1002_) hr51 R_a0_0 R_a0_1 R_a1002_4 R_a1002_5 R_a1002_7 o50 hG) rfl ⟨(.tail _ hm_H_a1002_7), (.tail _ hm_H_a1_4), (.tail _ hm_G), trivial⟩ ?_
     rintro _ _ ⟨rfl, rfl⟩
     refine nx_pan ?_
     refine k_then_panic ?_
     refine k_blk_panic ?_
     refine k_panicked [] ?_
     refine K.drop ?_
     exact k_end PR.badI
    refine kl_call (blk b1 (.cells #[.int .i64 a1_0, .string a1_1, .int .i64 a1_2, .int .i64 a1_3, .slice A_a1_4 a1_4.length c_a1_4] 36 (0, 0)) :: X) (by kernel_rfl) (by kernel_rfl) (by kernel_rfl) (hR.check_checker_nodes (b0 := b0) (b1002_ := b1002_) hr51 R_a0_0 R_a0_1 R_a1002_4 R_a1002_5 R_a1002_7 o50 hG) rfl ⟨(.tail _ hm_H_a1002_7), (.tail _ hm_H_a1_4), (.tail _ hm_G), trivial⟩ ?_
    rintro _ _ ⟨h53, A54, k55, h57, A58, k59, h61, A62, k63, h65, A66, k67, o56, o60, o64, o68, rfl, rfl⟩
    refine nx_ret ?_
    refine k_nil ?_
    refine k_then ?_
    refine k_region_plan [(0, 0), (1, 3), (2, 0), (3, 3), (4, 0), (5, 3), (6, 0)] (fun w => OnAll [blk b1 (.cells #[.int .i64 a1_0, .string a1_1, .int .i64 a1_2, .int .i64 a1_3, .slice A_a1_4 a1_4.length c_a1_4] 36 (0, 0))] w) (by kernel_rfl) (by kernel_rfl) (fun _ _ d _ _ h => by cases d <;> exact h) (fun w h_ => ⟨h_.sat.on _ (.tail _ (.tail _ (.tail _ (.tail _ (.tail _ (.tail _ (.head _))))))), trivial⟩) ?_
    simp only [planOps, List.filterMap_cons, List.filterMap_nil, List.getElem?_toArray, List.getElem?_cons_zero, List.getElem?_cons_succ, Option.map_some, List.drop_succ_cons, List.drop_zero, List.length_cons, List.length_nil]
    refine kp_steps 1 [(4, .pointer (some ⟨b1, 0, none⟩)), (75, .pointer (some ⟨b0, 0, none⟩))] (by kernel_rfl) (by kernel_rfl) ?_
    refine kp_loadS (v := .agg #[.int .i64 a1_0, .string a1_1, .int .i64 a1_2, .int .i64 a1_3, .slice A_a1_4 a1_4.length c_a1_4]) [blk b1 (.cells #[.int .i64 a1_0, .string a1_1, .int .i64 a1_2, .int .i64 a1_3, .slice A_a1_4 a1_4.length c_a1_4] 36 (0, 0))] [.val (.int .i64 a1_0), .val (.string a1_1), .val (.int .i64 a1_2), .val (.int .i64 a1_3), .val (.slice A_a1_4 a1_4.length c_a1_4)] [.ld ⟨b1, 0, none⟩ (.int .i64 a1_0), .ld ⟨b1, 1, none⟩ (.string a1_1), .ld ⟨b1, 2, none⟩ (.int .i64 a1_2), .ld ⟨b1, 3, none⟩ (.int .i64 a1_3), .ld ⟨b1, 4, none⟩ (.slice A_a1_4 a1_4.length c_a1_4)] (by kernel_rfl) (by kernel_rfl) (by kernel_rfl) (fun _ h => h) ⟨⟨0, _, _, _, rfl, rfl, rfl⟩, ⟨0, _, _, _, rfl, rfl, rfl⟩, ⟨0, _, _, _, rfl, rfl, rfl⟩, ⟨0, _, _, _, rfl, rfl, rfl⟩, ⟨0, _, _, _, rfl, rfl, rfl⟩, trivial⟩ ?_
    refine kp_steps 1 [(4, .pointer (some ⟨b1, 0, none⟩)), (75, .pointer (some ⟨b0, 0, none⟩)), (76, .agg #[.int .i64 a1_0, .string a1_1, .int .i64 a1_2, .int .i64 a1_3, .slice A_a1_4 a1_4.length c_a1_4]), (77, .pointer (some ⟨b1, 4, none⟩))] (by kernel_rfl) (by kernel_rfl) ?_
    refine kp_loadS (v := .slice A_a1_4 a1_4.length c_a1_4) [blk b1 (.cells #[.int .i64 a1_0, .string a1_1, .int .i64 a1_2, .int .i64 a1_3, .slice A_a1_4 a1_4.length c_a1_4] 36 (0, 0))] [.val (.slice A_a1_4 a1_4.length c_a1_4)] [.ld ⟨b1, 4, none⟩ (.slice A_a1_4 a1_4.length c_a1_4)] (by kernel_rfl) (by kernel_rfl) (by kernel_rfl) (fun _ h => h) ⟨⟨0, _, _, _, rfl, rfl, rfl⟩, trivial⟩ ?_
    refine kp_steps 1 [(75, .pointer (some ⟨b0, 0, none⟩)), (76, .agg #[.int .i64 a1_0, .string a1_1, .int .i64 a1_2, .int .i64 a1_3, .slice A_a1_4 a1_4.length c_a1_4]), (78, .slice A_a1_4 a1_4.length c_a1_4), (79, .pointer (some ⟨b1, 2, none⟩))] (by kernel_rfl) (by kernel_rfl) ?_
    refine kp_loadS (v := .int .i64 a1_2) [blk b1 (.cells #[.int .i64 a1_0, .string a1_1, .int .i64 a1_2, .int .i64 a1_3, .slice A_a1_4 a1_4.length c_a1_4] 36 (0, 0))] [.val (.int .i64 a1_2)] [.ld ⟨b1, 2, none⟩ (.int .i64 a1_2)] (by kernel_rfl) (by kernel_rfl) (by kernel_rfl) (fun _ h => h) ⟨⟨0, _, _, _, rfl, rfl, rfl⟩, trivial⟩ ?_
    obtain ⟨l69, hl69, h⟩ := bindSome h
    refine kp_subR (T := 36) (R := (rTree 36)) (xs := a1_4) (0 : Int) a1_2 rfl (by kernel_rfl) (by kernel_rfl) (by kernel_rfl) (.inl ⟨rfl, rfl⟩) (.inr ⟨_, .i64, rfl, (by kernel_rfl)⟩) (by kernel_rfl) (by kernel_rfl) hl69 R_a1_4 fun A70 k71 o72 => ?_
    refine kp_done ?_
    refine K.mvN [_, _, _, _, _] _ _ ?_
    refine K.mv4 ?_
    refine K.mv2 ?_
    rcases prBind h with ⟨i74, hr73, rfl⟩ | ⟨r73, hr73, h⟩
    ·refine kl_call (h53 :: h57 :: h61 :: blk b1 (.cells #[.int .i64 a1_0, .string a1_1, .int .i64 a1_2, .int .i64 a1_3, .slice A_a1_4 a1_4.length c_a1_4] 36 (0, 0)) :: X) (by kernel_rfl) (by kernel_rfl) (by kernel_rfl) (check_checker_bring.ok (b0 := b0) (b1002_ := b1002_) hr73 (OwnR.rd o56) (OwnT.rd o60) (OwnT.rd o64) o68 R_a1002_7 R_a1_4 o72) rfl ⟨(.head _), (.tail _ (.head _)), (.tail _ (.tail _ (.head _))), (.tail _ (.tail _ (.tail _ (.tail _ hm_H_a1002_7)))), (.tail _ (.tail _ (.tail _ (.tail _ hm_H_a1_4)))), (.tail _ (.tail _ (.tail _ (.tail _ hm_H_a1_4)))), trivial⟩ ?_
     rintro _ _ ⟨rfl, rfl⟩
     refine nx_pan ?_
     refine k_blk_panic ?_
     refine k_panicked [] ?_
     refine K.drop ?_
     refine K.drop ?_
     refine K.drop ?_
     refine K.drop ?_
     exact k_end PR.badI
    refine kl_call (h53 :: h57 :: h61 :: blk b1 (.cells #[.int .i64 a1_0, .string a1_1, .int .i64 a1_2, .int .i64 a1_3, .slice A_a1_4 a1_4.length c_a1_4] 36 (0, 0)) :: X) (by kernel_rfl) (by kernel_rfl) (by kernel_rfl) (check_checker_bring.ok (b0 := b0) (b1002_ := b1002_) hr73 (OwnR.rd o56) (OwnT.rd o60) (OwnT.rd o64) o68 R_a1002_7 R_a1_4 o72) rfl ⟨(.head _), (.tail _ (.head _)), (.tail _ (.tail _ (.head _))), (.tail _ (.tail _ (.tail _ (.tail _ hm_H_a1002_7)))), (.tail _ (.tail _ (.tail _ (.tail _ hm_H_a1_4)))), (.tail _ (.tail _ (.tail _ (.tail _ hm_H_a1_4)))), trivial⟩ ?_
    rintro _ _ ⟨h75, A76, k77, o78, rfl, rfl⟩
    refine nx_ret3 ?_
    refine K.mvN [_, _, _, _, _, _] _ _ ?_
    refine K.drop ?_
    refine k_nil ?_
    refine k_blk ?_
    refine k_fall ?_
    obtain rfl := Option.some.inj h
    refine k_done (v := .tuple #[]) [] [] [blk b0 (.cells #[.slice A54 r51.1.length k55, .slice A58 r51.2.1.length k59, .pointer (some ⟨b1002_, 0, none⟩)] 65 (0, 0)), h53, h57, blk b1002_ (.cells #[.string a1002_0, .int .i64 a1002_1, .int .i64 a1002_2, .int .i64 r73.1, .slice A62 r51.2.2.2.1.length k63, .slice A76 r73.2.length k77, .int .i64 r51.2.2.2.2.2, .slice A_a1002_7 a1002_7.length c_a1002_7] 63 (0, 0)), h61, h75] (by kernel_rfl) (by kernel_rfl) trivial ?_
    refine K.mv2 ?_
    refine K.mvN [_, _, _, _, _] _ _ ?_
    refine K.mv3 ?_
    refine K.mvN [_, _, _, _, _] _ _ ?_
    refine K.mvN [_, _, _, _, _] _ _ ?_
    refine K.mvN [_, _, _, _, _] _ _ ?_
    exact k_end (PR.okI ⟨h53, A54, k55, h57, A58, k59, h61, A62, k63, h75, A76, k77, o56, o60, o64, o78, rfl, rfl⟩)
   ·have h := condF h t42
    refine k_seq ?_
    refine k_region ?_
    refine kl_steps 2 [(0, .pointer (some ⟨b0, 0, none⟩)), (2, .bool a2), (4, .pointer (some ⟨b1, 0, none⟩)), (6, .int .i64 (IntKind.i64.wrap (((a1_4.length : Nat) : Int) - (1 : Int)))), (15, .int .i64 a1_0), (83, .bool (a1_0 == (22 : Int)))] (by kernel_rfl) ?_
    refine k_nil ?_
    refine k_then ?_
    refine k_cond (t := (a1_0 == (22 : Int))) (by kernel_rfl) (fun t79 => ?_) (fun t79 => ?_)
    ·have h := condT h t79
     refine k_seq ?_
     refine k_region ?_
     refine kl_load (v := .agg #[.int .i64 a1_0, .string a1_1, .int .i64 a1_2, .int .i64 a1_3, .slice A_a1_4 a1_4.length c_a1_4]) [.val (.int .i64 a1_0), .val (.string a1_1), .val (.int .i64 a1_2), .val (.int .i64 a1_3), .val (.slice A_a1_4 a1_4.length c_a1_4)] [.ld ⟨b1, 0, none⟩ (.int .i64 a1_0), .ld ⟨b1, 1, none⟩ (.string a1_1), .ld ⟨b1, 2, none⟩ (.int .i64 a1_2), .ld ⟨b1, 3, none⟩ (.int .i64 a1_3), .ld ⟨b1, 4, none⟩ (.slice A_a1_4 a1_4.length c_a1_4)] (by kernel_rfl) (by kernel_rfl) (by kernel_rfl) ⟨⟨0, _, _, _, rfl, rfl, rfl⟩, ⟨0, _, _, _, rfl, rfl, rfl⟩, ⟨0, _, _, _, rfl, rfl, rfl⟩, ⟨0, _, _, _, rfl, rfl, rfl⟩, ⟨0, _, _, _, rfl, rfl, rfl⟩, trivial⟩ ?_
     refine kl_steps 1 [(0, .pointer (some ⟨b0, 0, none⟩)), (4, .pointer (some ⟨b1, 0, none⟩)), (85, .agg #[.int .i64 a1_0, .string a1_1, .int .i64 a1_2, .int .i64 a1_3, .slice A_a1_4 a1_4.length c_a1_4]), (86, .pointer (some ⟨b1, 2, none⟩))] (by kernel_rfl) ?_
     refine kl_load (v := .int .i64 a1_2) [.val (.int .i64 a1_2)] [.ld ⟨b1, 2, none⟩ (.int .i64 a1_2)] (by kernel_rfl) (by kernel_rfl) (by kernel_rfl) ⟨⟨0, _, _, _, rfl, rfl, rfl⟩, trivial⟩ ?_
     rcases prBind h with ⟨i81, hr80, rfl⟩ | ⟨r80, hr80, h⟩
     ·refine kl_call (blk b1 (.cells #[.int .i64 a1_0, .string a1_1, .int .i64 a1_2, .int .i64 a1_3, .slice A_a1_4 a1_4.length c_a1_4] 36 (0, 0)) :: blk b0 (.cells #[.slice A_a0_0 a0_0.length c_a0_0, .slice A_a0_1 a0_1.length c_a0_1, .pointer (some ⟨b1002_, 0, none⟩)] 65 (0, 0)) :: H_a0_0 :: H_a0_1 :: blk b1002_ (.cells #[.string a1002_0, .int .i64 a1002_1, .int .i64 a1002_2, .int .i64 a1002_3, .slice A_a1002_4 a1002_4.length c_a1002_4, .slice A_a1002_5 a1002_5.length c_a1002_5, .int .i64 a1002_6, .slice A_a1002_7 a1002_7.length c_a1002_7] 63 (0, 0)) :: H_a1002_4 :: H_a1002_5 :: X) (by kernel_rfl) (by kernel_rfl) (by kernel_rfl) (check_few.ok hr80 R_a1_4) rfl ⟨(.tail _ (.tail _ (.tail _ (.tail _ (.tail _ (.tail _ (.tail _ hm_H_a1_4))))))), trivial⟩ ?_
      rintro _ _ ⟨rfl, rfl⟩
      refine nx_pan ?_
      refine k_then_panic ?_
      refine k_blk_panic ?_
      refine k_panicked [] ?_
      refine K.drop ?_
      refine K.drop ?_
      refine K.drop ?_
      refine K.drop ?_
      refine K.drop ?_
      refine K.drop ?_
      refine K.drop ?_
      exact k_end PR.badI
     refine kl_call (blk b1 (.cells #[.int .i64 a1_0, .string a1_1, .int .i64 a1_2, .int .i64 a1_3, .slice A_a1_4 a1_4.length c_a1_4] 36 (0, 0)) :: blk b0 (.cells #[.slice A_a0_0 a0_0.length c_a0_0, .slice A_a0_1 a0_1.length c_a0_1, .pointer (some ⟨b1002_, 0, none⟩)] 65 (0, 0)) :: H_a0_0 :: H_a0_1 :: blk b1002_ (.cells #[.string a1002_0, .int .i64 a1002_1, .int .i64 a1002_2, .int .i64 a1002_3, .slice A_a1002_4 a1002_4.length c_a1002_4, .slice A_a1002_5 a1002_5.length c_a1002_5, .int .i64 a1002_6, .slice A_a1002_7 a1002_7.length c_a1002_7] 63 (0, 0)) :: H_a1002_4 :: H_a1002_5 :: X) (by kernel_rfl) (by kernel_rfl) (by kernel_rfl) (check_few.ok hr80 R_a1_4) rfl ⟨(.tail _ (.tail _ (.tail _ (.tail _ (.tail _ (.tail _ (.tail _ hm_H_a1_4))))))), trivial⟩ ?_
     rintro _ _ ⟨rfl, rfl⟩
     refine nx_ret0 ?_
     refine k_nil ?_
     refine k_then ?_
     refine k_seq ?_
     refine k_region ?_
     refine kl_load (v := .agg #[.int .i64 a1_0, .string a1_1, .int .i64 a1_2, .int .i64 a1_3, .slice A_a1_4 a1_4.length c_a1_4]) [.val (.int .i64 a1_0), .val (.string a1_1), .val (.int .i64 a1_2), .val (.int .i64 a1_3), .val (.slice A_a1_4 a1_4.length c_a1_4)] [.ld ⟨b1, 0, none⟩ (.int .i64 a1_0), .ld ⟨b1, 1, none⟩ (.string a1_1), .ld ⟨b1, 2, none⟩ (.int .i64 a1_2), .ld ⟨b1, 3, none⟩ (.int .i64 a1_3), .ld ⟨b1, 4, none⟩ (.slice A_a1_4 a1_4.length c_a1_4)] (by kernel_rfl) (by kernel_rfl) (by kernel_rfl) ⟨⟨0, _, _, _, rfl, rfl, rfl⟩, ⟨0, _, _, _, rfl, rfl, rfl⟩, ⟨0, _, _, _, rfl, rfl, rfl⟩, ⟨0, _, _, _, rfl, rfl, rfl⟩, ⟨0, _, _, _, rfl, rfl, rfl⟩, trivial⟩ ?_
     refine kl_steps 1 [(0, .pointer (some ⟨b0, 0, none⟩)), (4, .pointer (some ⟨b1, 0, none⟩)), (89, .agg #[.int .i64 a1_0, .string a1_1, .int .i64 a1_2, .int .i64 a1_3, .slice A_a1_4 a1_4.length c_a1_4]), (90, .pointer (some ⟨b1, 4, none⟩))] (by kernel_rfl) ?_
     refine kl_load (v := .slice A_a1_4 a1_4.length c_a1_4) [.val (.slice A_a1_4 a1_4.length c_a1_4)] [.ld ⟨b1, 4, none⟩ (.slice A_a1_4 a1_4.length c_a1_4)] (by kernel_rfl) (by kernel_rfl) (by kernel_rfl) ⟨⟨0, _, _, _, rfl, rfl, rfl⟩, trivial⟩ ?_
     refine kl_steps 2 [(0, .pointer (some ⟨b0, 0, none⟩)), (4, .pointer (some ⟨b1, 0, none⟩)), (89, .agg #[.int .i64 a1_0, .string a1_1, .int .i64 a1_2, .int .i64 a1_3, .slice A_a1_4 a1_4.length c_a1_4]), (92, .int .i64 ((a1_4.length : Nat) : Int)), (93, .pointer (some ⟨b1, 2, none⟩))] (by kernel_rfl) ?_
     refine kl_load (v := .int .i64 a1_2) [.val (.int .i64 a1_2)] [.ld ⟨b1, 2, none⟩ (.int .i64 a1_2)] (by kernel_rfl) (by kernel_rfl) (by kernel_rfl) ⟨⟨0, _, _, _, rfl, rfl, rfl⟩, trivial⟩ ?_
     refine kl_steps 1 [(0, .pointer (some ⟨b0, 0, none⟩)), (4, .pointer (some ⟨b1, 0, none⟩)), (89, .agg #[.int .i64 a1_0, .string a1_1, .int .i64 a1_2, .int .i64 a1_3, .slice A_a1_4 a1_4.length c_a1_4]), (95, .int .i64 (IntKind.i64.wrap (((a1_4.length : Nat) : Int) - a1_2)))] (by kernel_rfl) ?_
     rcases prBind h with ⟨i83, hr82, rfl⟩ | ⟨r82, hr82, h⟩
     ·refine kl_call (blk b1 (.cells #[.int .i64 a1_0, .string a1_1, .int .i64 a1_2, .int .i64 a1_3, .slice A_a1_4 a1_4.length c_a1_4] 36 (0, 0)) :: blk b0 (.cells #[.slice A_a0_0 a0_0.length c_a0_0, .slice A_a0_1 a0_1.length c_a0_1, .pointer (some ⟨b1002_, 0, none⟩)] 65 (0, 0)) :: H_a0_0 :: H_a0_1 :: blk b1002_ (.cells #[.string a1002_0, .int .i64 a1002_1, .int .i64 a1002_2, .int .i64 a1002_3, .slice A_a1002_4 a1002_4.length c_a1002_4, .slice A_a1002_5 a1002_5.length c_a1002_5, .int .i64 a1002_6, .slice A_a1002_7 a1002_7.length c_a1002_7] 63 (0, 0)) :: H_a1002_4 :: H_a1002_5 :: X) (by kernel_rfl) (by kernel_rfl) (by kernel_rfl) (check_few.ok hr82 R_a1_4) rfl ⟨(.tail _ (.tail _ (.tail _ (.tail _ (.tail _ (.tail _ (.tail _ hm_H_a1_4))))))), trivial⟩ ?_
      rintro _ _ ⟨rfl, rfl⟩
      refine nx_pan ?_
      refine k_then_panic ?_
      refine k_blk_panic ?_
      refine k_panicked [] ?_
      refine K.drop ?_
      refine K.drop ?_
      refine K.drop ?_
      refine K.drop ?_
      refine K.drop ?_
      refine K.drop ?_
      refine K.drop ?_
      exact k_end PR.badI
     refine kl_call (blk b1 (.cells #[.int .i64 a1_0, .string a1_1, .int .i64 a1_2, .int .i64 a1_3, .slice A_a1_4 a1_4.length c_a1_4] 36 (0, 0)) :: blk b0 (.cells #[.slice A_a0_0 a0_0.length c_a0_0, .slice A_a0_1 a0_1.length c_a0_1, .pointer (some ⟨b1002_, 0, none⟩)] 65 (0, 0)) :: H_a0_0 :: H_a0_1 :: blk b1002_ (.cells #[.string a1002_0, .int .i64 a1002_1, .int .i64 a1002_2, .int .i64 a1002_3, .slice A_a1002_4 a1002_4.length c_a1002_4, .slice A_a1002_5 a1002_5.length c_a1002_5, .int .i64 a1002_6, .slice A_a1002_7 a1002_7.length c_a1002_7] 63 (0, 0)) :: H_a1002_4 :: H_a1002_5 :: X) (by kernel_rfl) (by kernel_rfl) (by kernel_rfl) (check_few.ok hr82 R_a1_4) rfl ⟨(.tail _ (.tail _ (.tail _ (.tail _ (.tail _ (.tail _ (.tail _ hm_H_a1_4))))))), trivial⟩ ?_
     rintro _ _ ⟨rfl, rfl⟩
     refine nx_ret0 ?_
     refine k_nil ?_
     refine k_then ?_
     refine k_seq ?_
     refine k_region ?_
     refine kl_steps 1 [(0, .pointer (some ⟨b0, 0, none⟩)), (4, .pointer (some ⟨b1, 0, none⟩)), (97, .pointer (some ⟨b1, 4, none⟩))] (by kernel_rfl) ?_
     refine kl_load (v := .slice A_a1_4 a1_4.length c_a1_4) [.val (.slice A_a1_4 a1_4.length c_a1_4)] [.ld ⟨b1, 4, none⟩ (.slice A_a1_4 a1_4.length c_a1_4)] (by kernel_rfl) (by kernel_rfl) (by kernel_rfl) ⟨⟨0, _, _, _, rfl, rfl, rfl⟩, trivial⟩ ?_
     refine kl_steps 2 [(0, .pointer (some ⟨b0, 0, none⟩)), (4, .pointer (some ⟨b1, 0, none⟩)), (98, .slice A_a1_4 a1_4.length c_a1_4), (99, .int .i64 ((a1_4.length : Nat) : Int)), (100, .int .i64 (0 : Int))] (by kernel_rfl) ?_
     refine k_nil ?_
     refine k_then ?_
     refine k_block ?_
     refine K.mvN [_, _, _, _, _, _] _ _ ?_
     refine K.mvN [_, _, _, _, _, _] _ _ ?_
     refine K.mvN [_, _, _, _, _] _ _ ?_
     refine K.mvN [_, _, _, _, _] _ _ ?_
     refine K.mvN [_, _, _, _, _, _] _ _ ?_
     refine K.mvN [_, _, _, _, _, _] _ _ ?_
     refine K.mvN [_, _, _, _, _, _] _ _ ?_
     refine k_loop (τ := Int × (List (ByteArray × Int × Int × Int × List (Int × Int × ByteArray))) × (List ByteArray) × Int × (List (Int × Int × ByteArray)) × (List ByteArray) × Int × Frag × (Option Addr) × Nat × Frag × (Option Addr) × Nat × Frag × (Option Addr) × Nat × Frag × (Option Addr) × Nat) (fun t => [(0, .pointer (some ⟨b0, 0, none⟩)), (4, .pointer (some ⟨b1, 0, none⟩)), (98, .slice A_a1_4 a1_4.length c_a1_4), (99, .int .i64 ((a1_4.length : Nat) : Int)), (100, .int .i64 t.1)]) (fun t => blk b1 (.cells #[.int .i64 a1_0, .string a1_1, .int .i64 a1_2, .int .i64 a1_3, .slice A_a1_4 a1_4.length c_a1_4] 36 (0, 0)) :: blk b0 (.cells #[.slice t.2.2.2.2.2.2.2.2.1 t.2.1.length t.2.2.2.2.2.2.2.2.2.1, .slice t.2.2.2.2.2.2.2.2.2.2.2.1 t.2.2.1.length t.2.2.2.2.2.2.2.2.2.2.2.2.1, .pointer (some ⟨b1002_, 0, none⟩)] 65 (0, 0)) :: blk b1002_ (.cells #[.string a1002_0, .int .i64 a1002_1, .int .i64 a1002_2, .int .i64 t.2.2.2.1, .slice t.2.2.2.2.2.2.2.2.2.2.2.2.2.2.1 t.2.2.2.2.1.length t.2.2.2.2.2.2.2.2.2.2.2.2.2.2.2.1, .slice t.2.2.2.2.2.2.2.2.2.2.2.2.2.2.2.2.2.1 t.2.2.2.2.2.1.length t.2.2.2.2.2.2.2.2.2.2.2.2.2.2.2.2.2.2, .int .i64 t.2.2.2.2.2.2.1, .slice A_a1002_7 a1002_7.length c_a1002_7] 63 (0, 0)) :: t.2.2.2.2.2.2.2.1 :: t.2.2.2.2.2.2.2.2.2.2.1 :: t.2.2.2.2.2.2.2.2.2.2.2.2.2.1 :: t.2.2.2.2.2.2.2.2.2.2.2.2.2.2.2.2.1 :: X) (fun m t => check_checker_node.l0 m Rc a1002_0 a1002_1 a1002_2 a1002_7 a1_2 a1_4 t.1 t.2.1 t.2.2.1 t.2.2.2.1 t.2.2.2.2.1 t.2.2.2.2.2.1 t.2.2.2.2.2.2.1 = some r ∧ OwnR rs42 42 t.2.2.2.2.2.2.2.1 (.slice t.2.2.2.2.2.2.2.2.1 t.2.1.length t.2.2.2.2.2.2.2.2.2.1) t.2.1 ∧ OwnT encS 9 1 t.2.2.2.2.2.2.2.2.2.2.1 (.slice t.2.2.2.2.2.2.2.2.2.2.2.1 t.2.2.1.length t.2.2.2.2.2.2.2.2.2.2.2.2.1) t.2.2.1 ∧ OwnT e53 53 3 t.2.2.2.2.2.2.2.2.2.2.2.2.2.1 (.slice t.2.2.2.2.2.2.2.2.2.2.2.2.2.2.1 t.2.2.2.2.1.length t.2.2.2.2.2.2.2.2.2.2.2.2.2.2.2.1) t.2.2.2.2.1 ∧ OwnT encS 9 1 t.2.2.2.2.2.2.2.2.2.2.2.2.2.2.2.2.1 (.slice t.2.2.2.2.2.2.2.2.2.2.2.2.2.2.2.2.2.1 t.2.2.2.2.2.1.length t.2.2.2.2.2.2.2.2.2.2.2.2.2.2.2.2.2.2) t.2.2.2.2.2.1) k ((0 : Int), a0_0, a0_1, a1002_3, a1002_4, a1002_5, a1002_6, H_a0_0, A_a0_0, c_a0_0, H_a0_1, A_a0_1, c_a0_1, H_a1002_4, A_a1002_4, c_a1002_4, H_a1002_5, A_a1002_5, c_a1002_5) ⟨h, R_a0_0, R_a0_1, R_a1002_4, R_a1002_5⟩ ⟨rfl, rfl, rfl, rfl, rfl, trivial⟩ rfl ?_
     clear h
     rintro m107 ⟨x84, l85, l90, x95, l96, l101, x106, h86, A87, k88, h91, A92, k93, h97, A98, k99, h102, A103, k104⟩ ⟨h, o89, o94, o100, o105⟩
     cases m107 with
     | zero => simp [check_checker_node.l0] at h
     | succ m107 =>
      simp only [check_checker_node.l0] at h
      refine k_seq ?_
      refine k_region ?_
      refine kl_steps 1 [(0, .pointer (some ⟨b0, 0, none⟩)), (4, .pointer (some ⟨b1, 0, none⟩)), (98, .slice A_a1_4 a1_4.length c_a1_4), (99, .int .i64 ((a1_4.length : Nat) : Int)), (100, .int .i64 x84), (101, .bool (decide (x84 < ((a1_4.length : Nat) : Int))))] (by kernel_rfl) ?_
      refine k_nil ?_
      refine k_then ?_
      refine k_seq ?_
      refine k_cond (t := decide (x84 < ((a1_4.length : Nat) : Int))) (by kernel_rfl) (fun t108 => ?_) (fun t108 => ?_)
      ·have h := condT h t108
       refine k_skip ?_
       refine k_then ?_
       refine k_seq ?_
       refine k_block ?_
       refine k_seq ?_
       refine k_region ?_
       refine kl_steps 1 [(0, .pointer (some ⟨b0, 0, none⟩)), (4, .pointer (some ⟨b1, 0, none⟩)), (98, .slice A_a1_4 a1_4.length c_a1_4), (99, .int .i64 ((a1_4.length : Nat) : Int)), (100, .int .i64 x84), (102, .int .i64 x84)] (by kernel_rfl) ?_
       obtain ⟨x109, hx109, h⟩ := bindSome h
       refine kl_elemR (T := 36) (kd := .i64) (R := (rTree 36)) rfl (by kernel_rfl) (by kernel_rfl) (by kernel_rfl) (by kernel_rfl) (by kernel_rfl) (by kernel_rfl) hx109 R_a1_4 fun p110 u113 q114 e111 y112 => ?_
       obtain ⟨A115, k116, rfl, o117⟩ := treeR_mk 36 q114
       refine kl_eloadN rfl (by kernel_rfl) (by kernel_rfl) (by kernel_rfl) (by kernel_rfl) (by kernel_rfl) e111 (.tail _ (.tail _ (.tail _ (.tail _ (.tail _ (.tail _ (.tail _ hm_H_a1_4))))))) ?_
       refine kl_new (.cells #[.int .i64 (0 : Int), .string (⟨#[]⟩ : ByteArray), .int .i64 (0 : Int), .int .i64 (0 : Int), .slice none 0 0] 36 (0, 0)) (fun b => .pointer (some ⟨b, 0, none⟩)) (by kernel_rfl) (by kernel_rfl) (fun _ => by kernel_rfl) fun b118 => ?_
       refine kl_steps 1 [(0, .pointer (some ⟨b0, 0, none⟩)), (4, .pointer (some ⟨b1, 0, none⟩)), (98, .slice A_a1_4 a1_4.length c_a1_4), (99, .int .i64 ((a1_4.length : Nat) : Int)), (100, .int .i64 x84), (104, .agg #[.int .i64 x109.kind, .string x109.text, .int .i64 x109.n, .int .i64 x109.at_, .slice A115 x109.kids.length k116]), (9, .pointer (some ⟨b118, 0, none⟩)), (8, .int .i64 x84)] (by kernel_rfl) ?_
       refine kl_store (cs' := #[.int .i64 x109.kind, .string x109.text, .int .i64 x109.n, .int .i64 x109.at_, .slice A115 x109.kids.length k116]) [.st ⟨b118, 0, none⟩ (.int .i64 x109.kind), .st ⟨b118, 1, none⟩ (.string x109.text), .st ⟨b118, 2, none⟩ (.int .i64 x109.n), .st ⟨b118, 3, none⟩ (.int .i64 x109.at_), .st ⟨b118, 4, none⟩ (.slice A115 x109.kids.length k116)] (by kernel_rfl) (by kernel_rfl) (by kernel_rfl) ⟨rfl, rfl, rfl, rfl, rfl, trivial⟩ (by kernel_rfl) ?_
       refine k_nil ?_
       refine k_then ?_
       refine k_region ?_
       refine kl_steps 1 [(0, .pointer (some ⟨b0, 0, none⟩)), (4, .pointer (some ⟨b1, 0, none⟩)), (98, .slice A_a1_4 a1_4.length c_a1_4), (99, .int .i64 ((a1_4.length : Nat) : Int)), (100, .int .i64 x84), (9, .pointer (some ⟨b118, 0, none⟩)), (8, .int .i64 x84), (105, .pointer (some ⟨b0, 0, none⟩))] (by kernel_rfl) ?_
       refine kl_load (v := .agg #[.int .i64 x109.kind, .string x109.text, .int .i64 x109.n, .int .i64 x109.at_, .slice A115 x109.kids.length k116]) [.val (.int .i64 x109.kind), .val (.string x109.text), .val (.int .i64 x109.n), .val (.int .i64 x109.at_), .val (.slice A115 x109.kids.length k116)] [.ld ⟨b118, 0, none⟩ (.int .i64 x109.kind), .ld ⟨b118, 1, none⟩ (.string x109.text), .ld ⟨b118, 2, none⟩ (.int .i64 x109.n), .ld ⟨b118, 3, none⟩ (.int .i64 x109.at_), .ld ⟨b118, 4, none⟩ (.slice A115 x109.kids.length k116)] (by kernel_rfl) (by kernel_rfl) (by kernel_rfl) ⟨⟨0, _, _, _, rfl, rfl, rfl⟩, ⟨0, _, _, _, rfl, rfl, rfl⟩, ⟨0, _, _, _, rfl, rfl, rfl⟩, ⟨0, _, _, _, rfl, rfl, rfl⟩, ⟨0, _, _, _, rfl, rfl, rfl⟩, trivial⟩ ?_
       refine K.drop ?_
       refine kl_steps 2 [(0, .pointer (some ⟨b0, 0, none⟩)), (4, .pointer (some ⟨b1, 0, none⟩)), (98, .slice A_a1_4 a1_4.length c_a1_4), (99, .int .i64 ((a1_4.length : Nat) : Int)), (100, .int .i64 x84), (105, .pointer (some ⟨b0, 0, none⟩)), (106, .agg #[.int .i64 x109.kind, .string x109.text, .int .i64 x109.n, .int .i64 x109.at_, .slice A115 x109.kids.length k116]), (107, .int .i64 x84), (108, .pointer (some ⟨b1, 2, none⟩))] (by kernel_rfl) ?_
       refine kl_load (v := .int .i64 a1_2) [.val (.int .i64 a1_2)] [.ld ⟨b1, 2, none⟩ (.int .i64 a1_2)] (by kernel_rfl) (by kernel_rfl) (by kernel_rfl) ⟨⟨0, _, _, _, rfl, rfl, rfl⟩, trivial⟩ ?_
       refine kl_steps 1 [(0, .pointer (some ⟨b0, 0, none⟩)), (4, .pointer (some ⟨b1, 0, none⟩)), (98, .slice A_a1_4 a1_4.length c_a1_4), (99, .int .i64 ((a1_4.length : Nat) : Int)), (100, .int .i64 x84), (105, .pointer (some ⟨b0, 0, none⟩)), (106, .agg #[.int .i64 x109.kind, .string x109.text, .int .i64 x109.n, .int .i64 x109.at_, .slice A115 x109.kids.length k116]), (110, .bool (decide (x84 < a1_2)))] (by kernel_rfl) ?_
       refine K.mvN [_, _, _, _, _, _] _ _ ?_
       refine K.mvN [_, _, _, _, _, _] _ _ ?_
       refine K.mv4 ?_
       refine K.mvN [_, _, _, _, _, _] _ _ ?_
       refine K.mvN [_, _, _, _, _, _] _ _ ?_
       refine K.mvN [_, _, _, _, _, _] _ _ ?_
       rcases prBind h with ⟨i120, hr119, rfl⟩ | ⟨r119, hr119, h⟩
       ·refine kl_call (blk b1 (.cells #[.int .i64 a1_0, .string a1_1, .int .i64 a1_2, .int .i64 a1_3, .slice A_a1_4 a1_4.length c_a1_4] 36 (0, 0)) :: X) (by kernel_rfl) (by kernel_rfl) (by kernel_rfl) (hR.check_checker_node (b0 := b0) (b1002_ := b1002_) hr119 o89 o94 o100 o105 R_a1002_7 o117 hG) rfl ⟨(.tail _ hm_H_a1002_7), (.tail _ hm_H_a1_4), (.tail _ hm_G), trivial⟩ ?_
        rintro _ _ ⟨rfl, rfl⟩
        refine nx_pan ?_
        refine k_blk_panic ?_
        refine k_then_panic ?_
        refine k_then_panic ?_
        refine k_blk_panic ?_
        refine k_blk_panic ?_
        refine k_panicked [] ?_
        refine K.drop ?_
        exact k_end PR.badI
       refine kl_call (blk b1 (.cells #[.int .i64 a1_0, .string a1_1, .int .i64 a1_2, .int .i64 a1_3, .slice A_a1_4 a1_4.length c_a1_4] 36 (0, 0)) :: X) (by kernel_rfl) (by kernel_rfl) (by kernel_rfl) (hR.check_checker_node (b0 := b0) (b1002_ := b1002_) hr119 o89 o94 o100 o105 R_a1002_7 o117 hG) rfl ⟨(.tail _ hm_H_a1002_7), (.tail _ hm_H_a1_4), (.tail _ hm_G), trivial⟩ ?_
       rintro _ _ ⟨h121, A122, k123, h125, A126, k127, h129, A130, k131, h133, A134, k135, o124, o128, o132, o136, rfl, rfl⟩
       refine nx_ret ?_
       refine k_nil ?_
       refine k_blk ?_
       refine k_then ?_
       refine k_region ?_
       refine kl_steps 2 [(0, .pointer (some ⟨b0, 0, none⟩)), (4, .pointer (some ⟨b1, 0, none⟩)), (98, .slice A_a1_4 a1_4.length c_a1_4), (99, .int .i64 ((a1_4.length : Nat) : Int)), (100, .int .i64 (IntKind.i64.wrap (x84 + (1 : Int))))] (by kernel_rfl) ?_
       refine k_nil ?_
       refine k_then ?_
       refine K.mvN [_, _, _, _, _] _ _ ?_
       refine K.mvN [_, _, _, _, _] _ _ ?_
       refine K.mv4 ?_
       refine K.mv4 ?_
       refine K.mvN [_, _, _, _, _] _ _ ?_
       refine K.mvN [_, _, _, _, _] _ _ ?_
       refine K.mvN [_, _, _, _, _, _] _ _ ?_
       exact k_again m107 (IntKind.i64.wrap (x84 + (1 : Int)), r119.1, r119.2.1, r119.2.2.1, r119.2.2.2.1, r119.2.2.2.2.1, r119.2.2.2.2.2, h121, A122, k123, h125, A126, k127, h129, A130, k131, h133, A134, k135) (Nat.lt_succ_self _) ⟨h, o124, o128, o132, o136⟩ ⟨rfl, rfl, rfl, rfl, rfl, trivial⟩ rfl
      ·have h := condF h t108
       refine k_exit ?_
       refine k_then_exit ?_
       refine k_then_exit ?_
       refine k_here ?_
       refine k_blk ?_
       refine k_fall ?_
       obtain rfl := Option.some.inj h
       refine k_done (v := .tuple #[]) [] [] [blk b0 (.cells #[.slice A87 l85.length k88, .slice A92 l90.length k93, .pointer (some ⟨b1002_, 0, none⟩)] 65 (0, 0)), h86, h91, blk b1002_ (.cells #[.string a1002_0, .int .i64 a1002_1, .int .i64 a1002_2, .int .i64 x95, .slice A98 l96.length k99, .slice A103 l101.length k104, .int .i64 x106, .slice A_a1002_7 a1002_7.length c_a1002_7] 63 (0, 0)), h97, h102] (by kernel_rfl) (by kernel_rfl) trivial ?_
       refine K.drop ?_
       refine K.mvN [_, _, _, _, _] _ _ ?_
       refine K.mvN [_, _, _, _, _] _ _ ?_
       refine K.mv3 ?_
       refine K.mvN [_, _, _, _, _] _ _ ?_
       refine K.mvN [_, _, _, _, _] _ _ ?_
       refine K.mvN [_, _, _, _, _] _ _ ?_
       exact k_end (PR.okI ⟨h86, A87, k88, h91, A92, k93, h97, A98, k99, h102, A103, k104, o89, o94, o100, o105, rfl, rfl⟩)
    ·have h := condF h t79
     refine k_seq ?_
     refine k_region ?_
     refine kl_steps 2 [(0, .pointer (some ⟨b0, 0, none⟩)), (2, .bool a2), (4, .pointer (some ⟨b1, 0, none⟩)), (6, .int .i64 (IntKind.i64.wrap (((a1_4.length : Nat) : Int) - (1 : Int)))), (15, .int .i64 a1_0), (113, .bool (a1_0 == (25 : Int)))] (by kernel_rfl) ?_
     refine k_nil ?_
     refine k_then ?_
     refine k_cond (t := (a1_0 == (25 : Int))) (by kernel_rfl) (fun t137 => ?_) (fun t137 => ?_)
     ·have h := condT h t137
      refine k_seq ?_
      refine k_region ?_
      refine kl_steps 2 [(0, .pointer (some ⟨b0, 0, none⟩)), (4, .pointer (some ⟨b1, 0, none⟩)), (115, .pointer (some ⟨b0, 0, none⟩)), (116, .pointer (some ⟨b1, 4, none⟩))] (by kernel_rfl) ?_
      refine kl_load (v := .slice A_a1_4 a1_4.length c_a1_4) [.val (.slice A_a1_4 a1_4.length c_a1_4)] [.ld ⟨b1, 4, none⟩ (.slice A_a1_4 a1_4.length c_a1_4)] (by kernel_rfl) (by kernel_rfl) (by kernel_rfl) ⟨⟨0, _, _, _, rfl, rfl, rfl⟩, trivial⟩ ?_
      obtain ⟨x138, hx138, h⟩ := bindSome h
      refine kl_elemR (T := 36) (kd := .i64) (R := (rTree 36)) rfl (by kernel_rfl) (by kernel_rfl) (by kernel_rfl) (by kernel_rfl) (by kernel_rfl) (by kernel_rfl) hx138 R_a1_4 fun p139 u142 q143 e140 y141 => ?_
      obtain ⟨A144, k145, rfl, o146⟩ := treeR_mk 36 q143
      refine kl_eloadN rfl (by kernel_rfl) (by kernel_rfl) (by kernel_rfl) (by kernel_rfl) (by kernel_rfl) e140 (.tail _ (.tail _ (.tail _ (.tail _ (.tail _ (.tail _ (.tail _ hm_H_a1_4))))))) ?_
      refine K.mvN [_, _, _, _, _, _] _ _ ?_
      refine K.mvN [_, _, _, _, _, _] _ _ ?_
      refine K.mvN [_, _, _, _, _, _] _ _ ?_
      refine K.mvN [_, _, _, _, _, _] _ _ ?_
      refine K.mvN [_, _, _, _, _, _] _ _ ?_
      refine K.mvN [_, _, _, _, _, _] _ _ ?_
      rcases prBind h with ⟨i148, hr147, rfl⟩ | ⟨r147, hr147, h⟩
      ·refine kl_call (blk b1 (.cells #[.int .i64 a1_0, .string a1_1, .int .i64 a1_2, .int .i64 a1_3, .slice A_a1_4 a1_4.length c_a1_4] 36 (0, 0)) :: X) (by kernel_rfl) (by kernel_rfl) (by kernel_rfl) (hR.check_checker_node (b0 := b0) (b1002_ := b1002_) hr147 R_a0_0 R_a0_1 R_a1002_4 R_a1002_5 R_a1002_7 o146 hG) rfl ⟨(.tail _ hm_H_a1002_7), (.tail _ hm_H_a1_4), (.tail _ hm_G), trivial⟩ ?_
       rintro _ _ ⟨rfl, rfl⟩
       refine nx_pan ?_
       refine k_then_panic ?_
       refine k_blk_panic ?_
       refine k_panicked [] ?_
       refine K.drop ?_
       exact k_end PR.badI
      refine kl_call (blk b1 (.cells #[.int .i64 a1_0, .string a1_1, .int .i64 a1_2, .int .i64 a1_3, .slice A_a1_4 a1_4.length c_a1_4] 36 (0, 0)) :: X) (by kernel_rfl) (by kernel_rfl) (by kernel_rfl) (hR.check_checker_node (b0 := b0) (b1002_ := b1002_) hr147 R_a0_0 R_a0_1 R_a1002_4 R_a1002_5 R_a1002_7 o146 hG) rfl ⟨(.tail _ hm_H_a1002_7), (.tail _ hm_H_a1_4), (.tail _ hm_G), trivial⟩ ?_
      rintro _ _ ⟨h149, A150, k151, h153, A154, k155, h157, A158, k159, h161, A162, k163, o152, o156, o160, o164, rfl, rfl⟩
      refine nx_ret ?_
      refine k_nil ?_
      refine k_then ?_
      refine k_region_plan [(0, 0), (1, 3), (2, 0), (3, 3), (4, 0), (5, 3)] (fun w => OnAll [blk b1 (.cells #[.int .i64 a1_0, .string a1_1, .int .i64 a1_2, .int .i64 a1_3, .slice A_a1_4 a1_4.length c_a1_4] 36 (0, 0)), H_a1_4] w) (by kernel_rfl) (by kernel_rfl) (fun _ _ d _ _ h => by cases d <;> exact h) (fun w h_ => ⟨h_.sat.on _ (.tail _ (.tail _ (.tail _ (.tail _ (.tail _ (.tail _ (.head _))))))), h_.sat.on _ (.tail _ (.tail _ (.tail _ (.tail _ (.tail _ (.tail _ (.tail _ hm_H_a1_4))))))), trivial⟩) ?_
      simp only [planOps, List.filterMap_cons, List.filterMap_nil, List.getElem?_toArray, List.getElem?_cons_zero, List.getElem?_cons_succ, Option.map_some, List.drop_succ_cons, List.drop_zero, List.length_cons, List.length_nil]
      refine kp_steps 1 [(4, .pointer (some ⟨b1, 0, none⟩)), (121, .pointer (some ⟨b0, 0, none⟩))] (by kernel_rfl) (by kernel_rfl) ?_
      refine kp_loadS (v := .agg #[.int .i64 a1_0, .string a1_1, .int .i64 a1_2, .int .i64 a1_3, .slice A_a1_4 a1_4.length c_a1_4]) [blk b1 (.cells #[.int .i64 a1_0, .string a1_1, .int .i64 a1_2, .int .i64 a1_3, .slice A_a1_4 a1_4.length c_a1_4] 36 (0, 0)), H_a1_4] [.val (.int .i64 a1_0), .val (.string a1_1), .val (.int .i64 a1_2), .val (.int .i64 a1_3), .val (.slice A_a1_4 a1_4.length c_a1_4)] [.ld ⟨b1, 0, none⟩ (.int .i64 a1_0), .ld ⟨b1, 1, none⟩ (.string a1_1), .ld ⟨b1, 2, none⟩ (.int .i64 a1_2), .ld ⟨b1, 3, none⟩ (.int .i64 a1_3), .ld ⟨b1, 4, none⟩ (.slice A_a1_4 a1_4.length c_a1_4)] (by kernel_rfl) (by kernel_rfl) (by kernel_rfl) (fun _ h => h) ⟨⟨0, _, _, _, rfl, rfl, rfl⟩, ⟨0, _, _, _, rfl, rfl, rfl⟩, ⟨0, _, _, _, rfl, rfl, rfl⟩, ⟨0, _, _, _, rfl, rfl, rfl⟩, ⟨0, _, _, _, rfl, rfl, rfl⟩, trivial⟩ ?_
      refine kp_steps 1 [(121, .pointer (some ⟨b0, 0, none⟩)), (122, .agg #[.int .i64 a1_0, .string a1_1, .int .i64 a1_2, .int .i64 a1_3, .slice A_a1_4 a1_4.length c_a1_4]), (123, .pointer (some ⟨b1, 4, none⟩))] (by kernel_rfl) (by kernel_rfl) ?_
      refine kp_loadS (v := .slice A_a1_4 a1_4.length c_a1_4) [blk b1 (.cells #[.int .i64 a1_0, .string a1_1, .int .i64 a1_2, .int .i64 a1_3, .slice A_a1_4 a1_4.length c_a1_4] 36 (0, 0)), H_a1_4] [.val (.slice A_a1_4 a1_4.length c_a1_4)] [.ld ⟨b1, 4, none⟩ (.slice A_a1_4 a1_4.length c_a1_4)] (by kernel_rfl) (by kernel_rfl) (by kernel_rfl) (fun _ h => h) ⟨⟨0, _, _, _, rfl, rfl, rfl⟩, trivial⟩ ?_
      obtain ⟨x165, hx165, h⟩ := bindSome h
      refine kp_elemR (T := 36) (kd := .i64) (R := (rTree 36)) rfl (by kernel_rfl) (by kernel_rfl) (by kernel_rfl) (by kernel_rfl) (by kernel_rfl) (by kernel_rfl) hx165 R_a1_4 fun p166 u169 q170 e167 y168 => ?_
      obtain ⟨A171, k172, rfl, o173⟩ := treeR_mk 36 q170
      refine kp_eloadN rfl (by kernel_rfl) (by kernel_rfl) (by kernel_rfl) (by kernel_rfl) (by kernel_rfl) e167 (fun w h_ => h_.mem _ (.tail _ (.head _))) ?_
      refine kp_done ?_
      refine k_none ?_
      refine K.mvN [_, _, _, _, _, _] _ _ ?_
      refine K.mvN [_, _, _, _, _, _] _ _ ?_
      refine K.mvN [_, _, _, _, _, _] _ _ ?_
      refine K.mvN [_, _, _, _, _, _] _ _ ?_
      refine K.mvN [_, _, _, _, _, _] _ _ ?_
      refine K.mvN [_, _, _, _, _, _] _ _ ?_
      rcases prBind h with ⟨i175, hr174, rfl⟩ | ⟨r174, hr174, h⟩
      ·refine kl_call (none_ :: blk b1 (.cells #[.int .i64 a1_0, .string a1_1, .int .i64 a1_2, .int .i64 a1_3, .slice A_a1_4 a1_4.length c_a1_4] 36 (0, 0)) :: X) (by kernel_rfl) (by kernel_rfl) (by kernel_rfl) (hR.check_checker_loop (b0 := b0) (b1002_ := b1002_) hr174 o152 o156 o160 o164 R_a1002_7 R_a1_4 (RdR.nil (rTree 36) none_) o173 hG) rfl ⟨(.tail _ (.tail _ hm_H_a1002_7)), (.tail _ (.tail _ hm_H_a1_4)), (.head _), (.tail _ (.tail _ hm_H_a1_4)), (.tail _ (.tail _ hm_G)), trivial⟩ ?_
       rintro _ _ ⟨rfl, rfl⟩
       refine nx_pan ?_
       refine k_blk_panic ?_
       refine k_panicked [] ?_
       refine K.drop ?_
       refine K.drop ?_
       exact k_end PR.badI
      refine kl_call (none_ :: blk b1 (.cells #[.int .i64 a1_0, .string a1_1, .int .i64 a1_2, .int .i64 a1_3, .slice A_a1_4 a1_4.length c_a1_4] 36 (0, 0)) :: X) (by kernel_rfl) (by kernel_rfl) (by kernel_rfl) (hR.check_checker_loop (b0 := b0) (b1002_ := b1002_) hr174 o152 o156 o160 o164 R_a1002_7 R_a1_4 (RdR.nil (rTree 36) none_) o173 hG) rfl ⟨(.tail _ (.tail _ hm_H_a1002_7)), (.tail _ (.tail _ hm_H_a1_4)), (.head _), (.tail _ (.tail _ hm_H_a1_4)), (.tail _ (.tail _ hm_G)), trivial⟩ ?_
      rintro _ _ ⟨h176, A177, k178, h180, A181, k182, h184, A185, k186, h188, A189, k190, o179, o183, o187, o191, rfl, rfl⟩
      refine nx_ret ?_
      refine K.mvN [_, _, _, _, _, _] _ _ ?_
      refine K.drop ?_
      refine K.mvN [_, _, _, _, _, _] _ _ ?_
      refine K.drop ?_
      refine k_nil ?_
      refine k_blk ?_
      refine k_fall ?_
      obtain rfl := Option.some.inj h
      refine k_done (v := .tuple #[]) [] [] [blk b0 (.cells #[.slice A177 r174.1.length k178, .slice A181 r174.2.1.length k182, .pointer (some ⟨b1002_, 0, none⟩)] 65 (0, 0)), h176, h180, blk b1002_ (.cells #[.string a1002_0, .int .i64 a1002_1, .int .i64 a1002_2, .int .i64 r174.2.2.1, .slice A185 r174.2.2.2.1.length k186, .slice A189 r174.2.2.2.2.1.length k190, .int .i64 r174.2.2.2.2.2, .slice A_a1002_7 a1002_7.length c_a1002_7] 63 (0, 0)), h184, h188] (by kernel_rfl) (by kernel_rfl) trivial ?_
      exact k_end (PR.okI ⟨h176, A177, k178, h180, A181, k182, h184, A185, k186, h188, A189, k190, o179, o183, o187, o191, rfl, rfl⟩)
     ·have h := condF h t137
      refine k_seq ?_
      refine k_region ?_
      refine kl_steps 2 [(0, .pointer (some ⟨b0, 0, none⟩)), (2, .bool a2), (4, .pointer (some ⟨b1, 0, none⟩)), (6, .int .i64 (IntKind.i64.wrap (((a1_4.length : Nat) : Int) - (1 : Int)))), (15, .int .i64 a1_0), (128, .bool (a1_0 == (26 : Int)))] (by kernel_rfl) ?_
      refine k_nil ?_
      refine k_then ?_
      refine k_cond (t := (a1_0 == (26 : Int))) (by kernel_rfl) (fun t192 => ?_) (fun t192 => ?_)
      ·have h := condT h t192
       refine k_seq ?_
       refine k_region ?_
       refine kl_steps 2 [(0, .pointer (some ⟨b0, 0, none⟩)), (4, .pointer (some ⟨b1, 0, none⟩)), (6, .int .i64 (IntKind.i64.wrap (((a1_4.length : Nat) : Int) - (1 : Int)))), (130, .pointer (some ⟨b0, 0, none⟩)), (131, .pointer (some ⟨b1, 4, none⟩))] (by kernel_rfl) ?_
       refine kl_load (v := .slice A_a1_4 a1_4.length c_a1_4) [.val (.slice A_a1_4 a1_4.length c_a1_4)] [.ld ⟨b1, 4, none⟩ (.slice A_a1_4 a1_4.length c_a1_4)] (by kernel_rfl) (by kernel_rfl) (by kernel_rfl) ⟨⟨0, _, _, _, rfl, rfl, rfl⟩, trivial⟩ ?_
       refine kl_steps 1 [(0, .pointer (some ⟨b0, 0, none⟩)), (4, .pointer (some ⟨b1, 0, none⟩)), (6, .int .i64 (IntKind.i64.wrap (((a1_4.length : Nat) : Int) - (1 : Int)))), (130, .pointer (some ⟨b0, 0, none⟩)), (132, .slice A_a1_4 a1_4.length c_a1_4), (133, .int .i64 (IntKind.i64.wrap (((a1_4.length : Nat) : Int) - (1 : Int))))] (by kernel_rfl) ?_
       obtain ⟨l193, hl193, h⟩ := bindSome h
       refine kl_subR (T := 36) (R := (rTree 36)) (xs := a1_4) (1 : Int) (IntKind.i64.wrap (((a1_4.length : Nat) : Int) - (1 : Int))) rfl (by kernel_rfl) (by kernel_rfl) (by kernel_rfl) (.inr ⟨_, .i64, rfl, (by kernel_rfl)⟩) (.inr ⟨_, .i64, rfl, (by kernel_rfl)⟩) (by kernel_rfl) (by kernel_rfl) hl193 R_a1_4 fun A194 k195 o196 => ?_
       refine K.mvN [_, _, _, _, _, _] _ _ ?_
       refine K.mvN [_, _, _, _, _, _] _ _ ?_
       refine K.mvN [_, _, _, _, _, _] _ _ ?_
       refine K.mvN [_, _, _, _, _, _] _ _ ?_
       refine K.mvN [_, _, _, _, _, _] _ _ ?_
       refine K.mvN [_, _, _, _, _, _] _ _ ?_
       rcases prBind h with ⟨i198, hr197, rfl⟩ | ⟨r197, hr197, h⟩
       ·refine kl_call (blk b1 (.cells #[.int .i64 a1_0, .string a1_1, .int .i64 a1_2, .int .i64 a1_3, .slice A_a1_4 a1_4.length c_a1_4] 36 (0, 0)) :: X) (by kernel_rfl) (by kernel_rfl) (by kernel_rfl) (hR.check_checker_nodes (b0 := b0) (b1002_ := b1002_) hr197 R_a0_0 R_a0_1 R_a1002_4 R_a1002_5 R_a1002_7 o196 hG) rfl ⟨(.tail _ hm_H_a1002_7), (.tail _ hm_H_a1_4), (.tail _ hm_G), trivial⟩ ?_
        rintro _ _ ⟨rfl, rfl⟩
        refine nx_pan ?_
        refine k_then_panic ?_
        refine k_blk_panic ?_
        refine k_panicked [] ?_
        refine K.drop ?_
        exact k_end PR.badI
       refine kl_call (blk b1 (.cells #[.int .i64 a1_0, .string a1_1, .int .i64 a1_2, .int .i64 a1_3, .slice A_a1_4 a1_4.length c_a1_4] 36 (0, 0)) :: X) (by kernel_rfl) (by kernel_rfl) (by kernel_rfl) (hR.check_checker_nodes (b0 := b0) (b1002_ := b1002_) hr197 R_a0_0 R_a0_1 R_a1002_4 R_a1002_5 R_a1002_7 o196 hG) rfl ⟨(.tail _ hm_H_a1002_7), (.tail _ hm_H_a1_4), (.tail _ hm_G), trivial⟩ ?_
       rintro _ _ ⟨h199, A200, k201, h203, A204, k205, h207, A208, k209, h211, A212, k213, o202, o206, o210, o214, rfl, rfl⟩
       refine nx_ret ?_
       refine k_nil ?_
       refine k_then ?_
       refine k_region_plan [(0, 0), (1, 3), (2, 0), (3, 3), (4, 0), (5, 0), (6, 3), (7, 0), (8, 0), (9, 3)] (fun w => OnAll [blk b1 (.cells #[.int .i64 a1_0, .string a1_1, .int .i64 a1_2, .int .i64 a1_3, .slice A_a1_4 a1_4.length c_a1_4] 36 (0, 0)), H_a1_4] w) (by kernel_rfl) (by kernel_rfl) (fun _ _ d _ _ h => by cases d <;> exact h) (fun w h_ => ⟨h_.sat.on _ (.tail _ (.tail _ (.tail _ (.tail _ (.tail _ (.tail _ (.head _))))))), h_.sat.on _ (.tail _ (.tail _ (.tail _ (.tail _ (.tail _ (.tail _ (.tail _ hm_H_a1_4))))))), trivial⟩) ?_
       simp only [planOps, List.filterMap_cons, List.filterMap_nil, List.getElem?_toArray, List.getElem?_cons_zero, List.getElem?_cons_succ, Option.map_some, List.drop_succ_cons, List.drop_zero, List.length_cons, List.length_nil]
       refine kp_steps 1 [(4, .pointer (some ⟨b1, 0, none⟩)), (6, .int .i64 (IntKind.i64.wrap (((a1_4.length : Nat) : Int) - (1 : Int)))), (136, .pointer (some ⟨b0, 0, none⟩))] (by kernel_rfl) (by kernel_rfl) ?_
       refine kp_loadS (v := .agg #[.int .i64 a1_0, .string a1_1, .int .i64 a1_2, .int .i64 a1_3, .slice A_a1_4 a1_4.length c_a1_4]) [blk b1 (.cells #[.int .i64 a1_0, .string a1_1, .int .i64 a1_2, .int .i64 a1_3, .slice A_a1_4 a1_4.length c_a1_4] 36 (0, 0)), H_a1_4] [.val (.int .i64 a1_0), .val (.string a1_1), .val (.int .i64 a1_2), .val (.int .i64 a1_3), .val (.slice A_a1_4 a1_4.length c_a1_4)] [.ld ⟨b1, 0, none⟩ (.int .i64 a1_0), .ld ⟨b1, 1, none⟩ (.string a1_1), .ld ⟨b1, 2, none⟩ (.int .i64 a1_2), .ld ⟨b1, 3, none⟩ (.int .i64 a1_3), .ld ⟨b1, 4, none⟩ (.slice A_a1_4 a1_4.length c_a1_4)] (by kernel_rfl) (by kernel_rfl) (by kernel_rfl) (fun _ h => h) ⟨⟨0, _, _, _, rfl, rfl, rfl⟩, ⟨0, _, _, _, rfl, rfl, rfl⟩, ⟨0, _, _, _, rfl, rfl, rfl⟩, ⟨0, _, _, _, rfl, rfl, rfl⟩, ⟨0, _, _, _, rfl, rfl, rfl⟩, trivial⟩ ?_
       refine kp_steps 1 [(4, .pointer (some ⟨b1, 0, none⟩)), (6, .int .i64 (IntKind.i64.wrap (((a1_4.length : Nat) : Int) - (1 : Int)))), (136, .pointer (some ⟨b0, 0, none⟩)), (137, .agg #[.int .i64 a1_0, .string a1_1, .int .i64 a1_2, .int .i64 a1_3, .slice A_a1_4 a1_4.length c_a1_4]), (138, .pointer (some ⟨b1, 4, none⟩))] (by kernel_rfl) (by kernel_rfl) ?_
       refine kp_loadS (v := .slice A_a1_4 a1_4.length c_a1_4) [blk b1 (.cells #[.int .i64 a1_0, .string a1_1, .int .i64 a1_2, .int .i64 a1_3, .slice A_a1_4 a1_4.length c_a1_4] 36 (0, 0)), H_a1_4] [.val (.slice A_a1_4 a1_4.length c_a1_4)] [.ld ⟨b1, 4, none⟩ (.slice A_a1_4 a1_4.length c_a1_4)] (by kernel_rfl) (by kernel_rfl) (by kernel_rfl) (fun _ h => h) ⟨⟨0, _, _, _, rfl, rfl, rfl⟩, trivial⟩ ?_
       obtain ⟨l215, hl215, h⟩ := bindSome h
       refine kp_subR (T := 36) (R := (rTree 36)) (xs := a1_4) (0 : Int) (1 : Int) rfl (by kernel_rfl) (by kernel_rfl) (by kernel_rfl) (.inl ⟨rfl, rfl⟩) (.inr ⟨_, .i64, rfl, (by kernel_rfl)⟩) (by kernel_rfl) (by kernel_rfl) hl215 R_a1_4 fun A216 k217 o218 => ?_
       refine kp_steps 1 [(6, .int .i64 (IntKind.i64.wrap (((a1_4.length : Nat) : Int) - (1 : Int)))), (136, .pointer (some ⟨b0, 0, none⟩)), (137, .agg #[.int .i64 a1_0, .string a1_1, .int .i64 a1_2, .int .i64 a1_3, .slice A_a1_4 a1_4.length c_a1_4]), (140, .slice A216 l215.length k217), (141, .pointer (some ⟨b1, 4, none⟩))] (by kernel_rfl) (by kernel_rfl) ?_
       refine kp_loadS (v := .slice A_a1_4 a1_4.length c_a1_4) [blk b1 (.cells #[.int .i64 a1_0, .string a1_1, .int .i64 a1_2, .int .i64 a1_3, .slice A_a1_4 a1_4.length c_a1_4] 36 (0, 0)), H_a1_4] [.val (.slice A_a1_4 a1_4.length c_a1_4)] [.ld ⟨b1, 4, none⟩ (.slice A_a1_4 a1_4.length c_a1_4)] (by kernel_rfl) (by kernel_rfl) (by kernel_rfl) (fun _ h => h) ⟨⟨0, _, _, _, rfl, rfl, rfl⟩, trivial⟩ ?_
       refine kp_steps 1 [(136, .pointer (some ⟨b0, 0, none⟩)), (137, .agg #[.int .i64 a1_0, .string a1_1, .int .i64 a1_2, .int .i64 a1_3, .slice A_a1_4 a1_4.length c_a1_4]), (140, .slice A216 l215.length k217), (142, .slice A_a1_4 a1_4.length c_a1_4), (143, .int .i64 (IntKind.i64.wrap (((a1_4.length : Nat) : Int) - (1 : Int))))] (by kernel_rfl) (by kernel_rfl) ?_
       obtain ⟨x219, hx219, h⟩ := bindSome h
       refine kp_elemR (T := 36) (kd := .i64) (R := (rTree 36)) rfl (by kernel_rfl) (by kernel_rfl) (by kernel_rfl) (by kernel_rfl) (by kernel_rfl) (by kernel_rfl) hx219 R_a1_4 fun p220 u223 q224 e221 y222 => ?_
       obtain ⟨A225, k226, rfl, o227⟩ := treeR_mk 36 q224
       refine kp_eloadN rfl (by kernel_rfl) (by kernel_rfl) (by kernel_rfl) (by kernel_rfl) (by kernel_rfl) e221 (fun w h_ => h_.mem _ (.tail _ (.head _))) ?_
       refine kp_done ?_
       refine K.mvN [_, _, _, _, _] _ _ ?_
       refine K.mvN [_, _, _, _, _] _ _ ?_
       refine K.mvN [_, _, _, _, _] _ _ ?_
       refine K.mvN [_, _, _, _, _] _ _ ?_
       refine K.mvN [_, _, _, _, _] _ _ ?_
       refine K.mvN [_, _, _, _, _] _ _ ?_
       rcases prBind h with ⟨i229, hr228, rfl⟩ | ⟨r228, hr228, h⟩
       ·refine kl_call (blk b1 (.cells #[.int .i64 a1_0, .string a1_1, .int .i64 a1_2, .int .i64 a1_3, .slice A_a1_4 a1_4.length c_a1_4] 36 (0, 0)) :: X) (by kernel_rfl) (by kernel_rfl) (by kernel_rfl) (hR.check_checker_loop (b0 := b0) (b1002_ := b1002_) hr228 o202 o206 o210 o214 R_a1002_7 R_a1_4 o218 o227 hG) rfl ⟨(.tail _ hm_H_a1002_7), (.tail _ hm_H_a1_4), (.tail _ hm_H_a1_4), (.tail _ hm_H_a1_4), (.tail _ hm_G), trivial⟩ ?_
        rintro _ _ ⟨rfl, rfl⟩
        refine nx_pan ?_
        refine k_blk_panic ?_
        refine k_panicked [] ?_
        refine K.drop ?_
        exact k_end PR.badI
       refine kl_call (blk b1 (.cells #[.int .i64 a1_0, .string a1_1, .int .i64 a1_2, .int .i64 a1_3, .slice A_a1_4 a1_4.length c_a1_4] 36 (0, 0)) :: X) (by kernel_rfl) (by kernel_rfl) (by kernel_rfl) (hR.check_checker_loop (b0 := b0) (b1002_ := b1002_) hr228 o202 o206 o210 o214 R_a1002_7 R_a1_4 o218 o227 hG) rfl ⟨(.tail _ hm_H_a1002_7), (.tail _ hm_H_a1_4), (.tail _ hm_H_a1_4), (.tail _ hm_H_a1_4), (.tail _ hm_G), trivial⟩ ?_
       rintro _ _ ⟨h230, A231, k232, h234, A235, k236, h238, A239, k240, h242, A243, k244, o233, o237, o241, o245, rfl, rfl⟩
       refine nx_ret ?_
       refine K.mvN [_, _, _, _, _, _] _ _ ?_
       refine K.drop ?_
       refine k_nil ?_
       refine k_blk ?_
       refine k_fall ?_
       obtain rfl := Option.some.inj h
       refine k_done (v := .tuple #[]) [] [] [blk b0 (.cells #[.slice A231 r228.1.length k232, .slice A235 r228.2.1.length k236, .pointer (some ⟨b1002_, 0, none⟩)] 65 (0, 0)), h230, h234, blk b1002_ (.cells #[.string a1002_0, .int .i64 a1002_1, .int .i64 a1002_2, .int .i64 r228.2.2.1, .slice A239 r228.2.2.2.1.length k240, .slice A243 r228.2.2.2.2.1.length k244, .int .i64 r228.2.2.2.2.2, .slice A_a1002_7 a1002_7.length c_a1002_7] 63 (0, 0)), h238, h242] (by kernel_rfl) (by kernel_rfl) trivial ?_
       exact k_end (PR.okI ⟨h230, A231, k232, h234, A235, k236, h238, A239, k240, h242, A243, k244, o233, o237, o241, o245, rfl, rfl⟩)
      ·have h := condF h t192
       refine k_seq ?_
       refine k_region ?_
       refine kl_steps 2 [(0, .pointer (some ⟨b0, 0, none⟩)), (2, .bool a2), (4, .pointer (some ⟨b1, 0, none⟩)), (6, .int .i64 (IntKind.i64.wrap (((a1_4.length : Nat) : Int) - (1 : Int)))), (15, .int .i64 a1_0), (147, .bool (a1_0 == (27 : Int)))] (by kernel_rfl) ?_
       refine k_nil ?_
       refine k_then ?_
       refine k_cond (t := (a1_0 == (27 : Int))) (by kernel_rfl) (fun t246 => ?_) (fun t246 => ?_)
       ·have h := condT h t246
        refine k_seq ?_
        refine k_region ?_
        refine kl_load (v := .agg #[.int .i64 a1_0, .string a1_1, .int .i64 a1_2, .int .i64 a1_3, .slice A_a1_4 a1_4.length c_a1_4]) [.val (.int .i64 a1_0), .val (.string a1_1), .val (.int .i64 a1_2), .val (.int .i64 a1_3), .val (.slice A_a1_4 a1_4.length c_a1_4)] [.ld ⟨b1, 0, none⟩ (.int .i64 a1_0), .ld ⟨b1, 1, none⟩ (.string a1_1), .ld ⟨b1, 2, none⟩ (.int .i64 a1_2), .ld ⟨b1, 3, none⟩ (.int .i64 a1_3), .ld ⟨b1, 4, none⟩ (.slice A_a1_4 a1_4.length c_a1_4)] (by kernel_rfl) (by kernel_rfl) (by kernel_rfl) ⟨⟨0, _, _, _, rfl, rfl, rfl⟩, ⟨0, _, _, _, rfl, rfl, rfl⟩, ⟨0, _, _, _, rfl, rfl, rfl⟩, ⟨0, _, _, _, rfl, rfl, rfl⟩, ⟨0, _, _, _, rfl, rfl, rfl⟩, trivial⟩ ?_
        refine kl_steps 1 [(0, .pointer (some ⟨b0, 0, none⟩)), (4, .pointer (some ⟨b1, 0, none⟩)), (6, .int .i64 (IntKind.i64.wrap (((a1_4.length : Nat) : Int) - (1 : Int)))), (149, .agg #[.int .i64 a1_0, .string a1_1, .int .i64 a1_2, .int .i64 a1_3, .slice A_a1_4 a1_4.length c_a1_4]), (150, .pointer (some ⟨b1, 2, none⟩))] (by kernel_rfl) ?_
        refine kl_load (v := .int .i64 a1_2) [.val (.int .i64 a1_2)] [.ld ⟨b1, 2, none⟩ (.int .i64 a1_2)] (by kernel_rfl) (by kernel_rfl) (by kernel_rfl) ⟨⟨0, _, _, _, rfl, rfl, rfl⟩, trivial⟩ ?_
        rcases prBind h with ⟨i248, hr247, rfl⟩ | ⟨r247, hr247, h⟩
        ·refine kl_call (blk b1 (.cells #[.int .i64 a1_0, .string a1_1, .int .i64 a1_2, .int .i64 a1_3, .slice A_a1_4 a1_4.length c_a1_4] 36 (0, 0)) :: blk b0 (.cells #[.slice A_a0_0 a0_0.length c_a0_0, .slice A_a0_1 a0_1.length c_a0_1, .pointer (some ⟨b1002_, 0, none⟩)] 65 (0, 0)) :: H_a0_0 :: H_a0_1 :: blk b1002_ (.cells #[.string a1002_0, .int .i64 a1002_1, .int .i64 a1002_2, .int .i64 a1002_3, .slice A_a1002_4 a1002_4.length c_a1002_4, .slice A_a1002_5 a1002_5.length c_a1002_5, .int .i64 a1002_6, .slice A_a1002_7 a1002_7.length c_a1002_7] 63 (0, 0)) :: H_a1002_4 :: H_a1002_5 :: X) (by kernel_rfl) (by kernel_rfl) (by kernel_rfl) (check_few.ok hr247 R_a1_4) rfl ⟨(.tail _ (.tail _ (.tail _ (.tail _ (.tail _ (.tail _ (.tail _ hm_H_a1_4))))))), trivial⟩ ?_
         rintro _ _ ⟨rfl, rfl⟩
         refine nx_pan ?_
         refine k_then_panic ?_
         refine k_blk_panic ?_
         refine k_panicked [] ?_
         refine K.drop ?_
         refine K.drop ?_
         refine K.drop ?_
         refine K.drop ?_
         refine K.drop ?_
         refine K.drop ?_
         refine K.drop ?_
         exact k_end PR.badI
        refine kl_call (blk b1 (.cells #[.int .i64 a1_0, .string a1_1, .int .i64 a1_2, .int .i64 a1_3, .slice A_a1_4 a1_4.length c_a1_4] 36 (0, 0)) :: blk b0 (.cells #[.slice A_a0_0 a0_0.length c_a0_0, .slice A_a0_1 a0_1.length c_a0_1, .pointer (some ⟨b1002_, 0, none⟩)] 65 (0, 0)) :: H_a0_0 :: H_a0_1 :: blk b1002_ (.cells #[.string a1002_0, .int .i64 a1002_1, .int .i64 a1002_2, .int .i64 a1002_3, .slice A_a1002_4 a1002_4.length c_a1002_4, .slice A_a1002_5 a1002_5.length c_a1002_5, .int .i64 a1002_6, .slice A_a1002_7 a1002_7.length c_a1002_7] 63 (0, 0)) :: H_a1002_4 :: H_a1002_5 :: X) (by kernel_rfl) (by kernel_rfl) (by kernel_rfl) (check_few.ok hr247 R_a1_4) rfl ⟨(.tail _ (.tail _ (.tail _ (.tail _ (.tail _ (.tail _ (.tail _ hm_H_a1_4))))))), trivial⟩ ?_
        rintro _ _ ⟨rfl, rfl⟩
        refine nx_ret0 ?_
        refine k_nil ?_
        refine k_then ?_
        refine k_seq ?_
        refine k_region ?_
        refine kl_load (v := .agg #[.int .i64 a1_0, .string a1_1, .int .i64 a1_2, .int .i64 a1_3, .slice A_a1_4 a1_4.length c_a1_4]) [.val (.int .i64 a1_0), .val (.string a1_1), .val (.int .i64 a1_2), .val (.int .i64 a1_3), .val (.slice A_a1_4 a1_4.length c_a1_4)] [.ld ⟨b1, 0, none⟩ (.int .i64 a1_0), .ld ⟨b1, 1, none⟩ (.string a1_1), .ld ⟨b1, 2, none⟩ (.int .i64 a1_2), .ld ⟨b1, 3, none⟩ (.int .i64 a1_3), .ld ⟨b1, 4, none⟩ (.slice A_a1_4 a1_4.length c_a1_4)] (by kernel_rfl) (by kernel_rfl) (by kernel_rfl) ⟨⟨0, _, _, _, rfl, rfl, rfl⟩, ⟨0, _, _, _, rfl, rfl, rfl⟩, ⟨0, _, _, _, rfl, rfl, rfl⟩, ⟨0, _, _, _, rfl, rfl, rfl⟩, ⟨0, _, _, _, rfl, rfl, rfl⟩, trivial⟩ ?_
        refine kl_steps 2 [(0, .pointer (some ⟨b0, 0, none⟩)), (4, .pointer (some ⟨b1, 0, none⟩)), (6, .int .i64 (IntKind.i64.wrap (((a1_4.length : Nat) : Int) - (1 : Int)))), (153, .agg #[.int .i64 a1_0, .string a1_1, .int .i64 a1_2, .int .i64 a1_3, .slice A_a1_4 a1_4.length c_a1_4]), (154, .int .i64 (IntKind.i64.wrap (((a1_4.length : Nat) : Int) - (1 : Int)))), (155, .pointer (some ⟨b1, 2, none⟩))] (by kernel_rfl) ?_
        refine kl_load (v := .int .i64 a1_2) [.val (.int .i64 a1_2)] [.ld ⟨b1, 2, none⟩ (.int .i64 a1_2)] (by kernel_rfl) (by kernel_rfl) (by kernel_rfl) ⟨⟨0, _, _, _, rfl, rfl, rfl⟩, trivial⟩ ?_
        refine kl_steps 1 [(0, .pointer (some ⟨b0, 0, none⟩)), (4, .pointer (some ⟨b1, 0, none⟩)), (6, .int .i64 (IntKind.i64.wrap (((a1_4.length : Nat) : Int) - (1 : Int)))), (153, .agg #[.int .i64 a1_0, .string a1_1, .int .i64 a1_2, .int .i64 a1_3, .slice A_a1_4 a1_4.length c_a1_4]), (157, .int .i64 (IntKind.i64.wrap ((IntKind.i64.wrap (((a1_4.length : Nat) : Int) - (1 : Int))) - a1_2)))] (by kernel_rfl) ?_
        rcases prBind h with ⟨i250, hr249, rfl⟩ | ⟨r249, hr249, h⟩
        ·refine kl_call (blk b1 (.cells #[.int .i64 a1_0, .string a1_1, .int .i64 a1_2, .int .i64 a1_3, .slice A_a1_4 a1_4.length c_a1_4] 36 (0, 0)) :: blk b0 (.cells #[.slice A_a0_0 a0_0.length c_a0_0, .slice A_a0_1 a0_1.length c_a0_1, .pointer (some ⟨b1002_, 0, none⟩)] 65 (0, 0)) :: H_a0_0 :: H_a0_1 :: blk b1002_ (.cells #[.string a1002_0, .int .i64 a1002_1, .int .i64 a1002_2, .int .i64 a1002_3, .slice A_a1002_4 a1002_4.length c_a1002_4, .slice A_a1002_5 a1002_5.length c_a1002_5, .int .i64 a1002_6, .slice A_a1002_7 a1002_7.length c_a1002_7] 63 (0, 0)) :: H_a1002_4 :: H_a1002_5 :: X) (by kernel_rfl) (by kernel_rfl) (by kernel_rfl) (check_few.ok hr249 R_a1_4) rfl ⟨(.tail _ (.tail _ (.tail _ (.tail _ (.tail _ (.tail _ (.tail _ hm_H_a1_4))))))), trivial⟩ ?_
         rintro _ _ ⟨rfl, rfl⟩
         refine nx_pan ?_
         refine k_then_panic ?_
         refine k_blk_panic ?_
         refine k_panicked [] ?_
         refine K.drop ?_
         refine K.drop ?_
         refine K.drop ?_
         refine K.drop ?_
         refine K.drop ?_
         refine K.drop ?_
         refine K.drop ?_
         exact k_end PR.badI
        refine kl_call (blk b1 (.cells #[.int .i64 a1_0, .string a1_1, .int .i64 a1_2, .int .i64 a1_3, .slice A_a1_4 a1_4.length c_a1_4] 36 (0, 0)) :: blk b0 (.cells #[.slice A_a0_0 a0_0.length c_a0_0, .slice A_a0_1 a0_1.length c_a0_1, .pointer (some ⟨b1002_, 0, none⟩)] 65 (0, 0)) :: H_a0_0 :: H_a0_1 :: blk b1002_ (.cells #[.string a1002_0, .int .i64 a1002_1, .int .i64 a1002_2, .int .i64 a1002_3, .slice A_a1002_4 a1002_4.length c_a1002_4, .slice A_a1002_5 a1002_5.length c_a1002_5, .int .i64 a1002_6, .slice A_a1002_7 a1002_7.length c_a1002_7] 63 (0, 0)) :: H_a1002_4 :: H_a1002_5 :: X) (by kernel_rfl) (by kernel_rfl) (by kernel_rfl) (check_few.ok hr249 R_a1_4) rfl ⟨(.tail _ (.tail _ (.tail _ (.tail _ (.tail _ (.tail _ (.tail _ hm_H_a1_4))))))), trivial⟩ ?_
        rintro _ _ ⟨rfl, rfl⟩
        refine nx_ret0 ?_
        refine k_nil ?_
        refine k_then ?_
        refine k_seq ?_
        refine k_region ?_
        refine kl_steps 2 [(0, .pointer (some ⟨b0, 0, none⟩)), (4, .pointer (some ⟨b1, 0, none⟩)), (6, .int .i64 (IntKind.i64.wrap (((a1_4.length : Nat) : Int) - (1 : Int)))), (159, .pointer (some ⟨b0, 0, none⟩)), (160, .pointer (some ⟨b1, 4, none⟩))] (by kernel_rfl) ?_
        refine kl_load (v := .slice A_a1_4 a1_4.length c_a1_4) [.val (.slice A_a1_4 a1_4.length c_a1_4)] [.ld ⟨b1, 4, none⟩ (.slice A_a1_4 a1_4.length c_a1_4)] (by kernel_rfl) (by kernel_rfl) (by kernel_rfl) ⟨⟨0, _, _, _, rfl, rfl, rfl⟩, trivial⟩ ?_
        refine kl_steps 1 [(0, .pointer (some ⟨b0, 0, none⟩)), (4, .pointer (some ⟨b1, 0, none⟩)), (6, .int .i64 (IntKind.i64.wrap (((a1_4.length : Nat) : Int) - (1 : Int)))), (159, .pointer (some ⟨b0, 0, none⟩)), (161, .slice A_a1_4 a1_4.length c_a1_4), (162, .pointer (some ⟨b1, 2, none⟩))] (by kernel_rfl) ?_
        refine kl_load (v := .int .i64 a1_2) [.val (.int .i64 a1_2)] [.ld ⟨b1, 2, none⟩ (.int .i64 a1_2)] (by kernel_rfl) (by kernel_rfl) (by kernel_rfl) ⟨⟨0, _, _, _, rfl, rfl, rfl⟩, trivial⟩ ?_
        refine kl_steps 1 [(0, .pointer (some ⟨b0, 0, none⟩)), (4, .pointer (some ⟨b1, 0, none⟩)), (6, .int .i64 (IntKind.i64.wrap (((a1_4.length : Nat) : Int) - (1 : Int)))), (159, .pointer (some ⟨b0, 0, none⟩)), (161, .slice A_a1_4 a1_4.length c_a1_4), (163, .int .i64 a1_2), (164, .int .i64 (IntKind.i64.wrap (((a1_4.length : Nat) : Int) - (1 : Int))))] (by kernel_rfl) ?_
        obtain ⟨l251, hl251, h⟩ := bindSome h
        refine kl_subR (T := 36) (R := (rTree 36)) (xs := a1_4) a1_2 (IntKind.i64.wrap (((a1_4.length : Nat) : Int) - (1 : Int))) rfl (by kernel_rfl) (by kernel_rfl) (by kernel_rfl) (.inr ⟨_, .i64, rfl, (by kernel_rfl)⟩) (.inr ⟨_, .i64, rfl, (by kernel_rfl)⟩) (by kernel_rfl) (by kernel_rfl) hl251 R_a1_4 fun A252 k253 o254 => ?_
        refine K.mvN [_, _, _, _, _, _] _ _ ?_
        refine K.mvN [_, _, _, _, _, _] _ _ ?_
        refine K.mvN [_, _, _, _, _, _] _ _ ?_
        refine K.mvN [_, _, _, _, _, _] _ _ ?_
        refine K.mvN [_, _, _, _, _, _] _ _ ?_
        refine K.mvN [_, _, _, _, _, _] _ _ ?_
        rcases prBind h with ⟨i256, hr255, rfl⟩ | ⟨r255, hr255, h⟩
        ·refine kl_call (blk b1 (.cells #[.int .i64 a1_0, .string a1_1, .int .i64 a1_2, .int .i64 a1_3, .slice A_a1_4 a1_4.length c_a1_4] 36 (0, 0)) :: X) (by kernel_rfl) (by kernel_rfl) (by kernel_rfl) (hR.check_checker_nodes (b0 := b0) (b1002_ := b1002_) hr255 R_a0_0 R_a0_1 R_a1002_4 R_a1002_5 R_a1002_7 o254 hG) rfl ⟨(.tail _ hm_H_a1002_7), (.tail _ hm_H_a1_4), (.tail _ hm_G), trivial⟩ ?_
         rintro _ _ ⟨rfl, rfl⟩
         refine nx_pan ?_
         refine k_then_panic ?_
         refine k_blk_panic ?_
         refine k_panicked [] ?_
         refine K.drop ?_
         exact k_end PR.badI
        refine kl_call (blk b1 (.cells #[.int .i64 a1_0, .string a1_1, .int .i64 a1_2, .int .i64 a1_3, .slice A_a1_4 a1_4.length c_a1_4] 36 (0, 0)) :: X) (by kernel_rfl) (by kernel_rfl) (by kernel_rfl) (hR.check_checker_nodes (b0 := b0) (b1002_ := b1002_) hr255 R_a0_0 R_a0_1 R_a1002_4 R_a1002_5 R_a1002_7 o254 hG) rfl ⟨(.tail _ hm_H_a1002_7), (.tail _ hm_H_a1_4), (.tail _ hm_G), trivial⟩ ?_
        rintro _ _ ⟨h257, A258, k259, h261, A262, k263, h265, A266, k267, h269, A270, k271, o260, o264, o268, o272, rfl, rfl⟩
        refine nx_ret ?_
        refine k_nil ?_
        refine k_then ?_
        refine k_region_plan [(0, 0), (1, 3), (2, 0), (3, 3), (4, 0), (5, 3), (6, 0), (7, 0), (8, 3), (9, 0), (10, 0), (11, 3)] (fun w => OnAll [blk b1 (.cells #[.int .i64 a1_0, .string a1_1, .int .i64 a1_2, .int .i64 a1_3, .slice A_a1_4 a1_4.length c_a1_4] 36 (0, 0)), H_a1_4] w) (by kernel_rfl) (by kernel_rfl) (fun _ _ d _ _ h => by cases d <;> exact h) (fun w h_ => ⟨h_.sat.on _ (.tail _ (.tail _ (.tail _ (.tail _ (.tail _ (.tail _ (.head _))))))), h_.sat.on _ (.tail _ (.tail _ (.tail _ (.tail _ (.tail _ (.tail _ (.tail _ hm_H_a1_4))))))), trivial⟩) ?_
        simp only [planOps, List.filterMap_cons, List.filterMap_nil, List.getElem?_toArray, List.getElem?_cons_zero, List.getElem?_cons_succ, Option.map_some, List.drop_succ_cons, List.drop_zero, List.length_cons, List.length_nil]
        refine kp_steps 1 [(4, .pointer (some ⟨b1, 0, none⟩)), (6, .int .i64 (IntKind.i64.wrap (((a1_4.length : Nat) : Int) - (1 : Int)))), (167, .pointer (some ⟨b0, 0, none⟩))] (by kernel_rfl) (by kernel_rfl) ?_
        refine kp_loadS (v := .agg #[.int .i64 a1_0, .string a1_1, .int .i64 a1_2, .int .i64 a1_3, .slice A_a1_4 a1_4.length c_a1_4]) [blk b1 (.cells #[.int .i64 a1_0, .string a1_1, .int .i64 a1_2, .int .i64 a1_3, .slice A_a1_4 a1_4.length c_a1_4] 36 (0, 0)), H_a1_4] [.val (.int .i64 a1_0), .val (.string a1_1), .val (.int .i64 a1_2), .val (.int .i64 a1_3), .val (.slice A_a1_4 a1_4.length c_a1_4)] [.ld ⟨b1, 0, none⟩ (.int .i64 a1_0), .ld ⟨b1, 1, none⟩ (.string a1_1), .ld ⟨b1, 2, none⟩ (.int .i64 a1_2), .ld ⟨b1, 3, none⟩ (.int .i64 a1_3), .ld ⟨b1, 4, none⟩ (.slice A_a1_4 a1_4.length c_a1_4)] (by kernel_rfl) (by kernel_rfl) (by kernel_rfl) (fun _ h => h) ⟨⟨0, _, _, _, rfl, rfl, rfl⟩, ⟨0, _, _, _, rfl, rfl, rfl⟩, ⟨0, _, _, _, rfl, rfl, rfl⟩, ⟨0, _, _, _, rfl, rfl, rfl⟩, ⟨0, _, _, _, rfl, rfl, rfl⟩, trivial⟩ ?_
        refine kp_steps 1 [(4, .pointer (some ⟨b1, 0, none⟩)), (6, .int .i64 (IntKind.i64.wrap (((a1_4.length : Nat) : Int) - (1 : Int)))), (167, .pointer (some ⟨b0, 0, none⟩)), (168, .agg #[.int .i64 a1_0, .string a1_1, .int .i64 a1_2, .int .i64 a1_3, .slice A_a1_4 a1_4.length c_a1_4]), (169, .pointer (some ⟨b1, 4, none⟩))] (by kernel_rfl) (by kernel_rfl) ?_
        refine kp_loadS (v := .slice A_a1_4 a1_4.length c_a1_4) [blk b1 (.cells #[.int .i64 a1_0, .string a1_1, .int .i64 a1_2, .int .i64 a1_3, .slice A_a1_4 a1_4.length c_a1_4] 36 (0, 0)), H_a1_4] [.val (.slice A_a1_4 a1_4.length c_a1_4)] [.ld ⟨b1, 4, none⟩ (.slice A_a1_4 a1_4.length c_a1_4)] (by kernel_rfl) (by kernel_rfl) (by kernel_rfl) (fun _ h => h) ⟨⟨0, _, _, _, rfl, rfl, rfl⟩, trivial⟩ ?_
        refine kp_steps 1 [(4, .pointer (some ⟨b1, 0, none⟩)), (6, .int .i64 (IntKind.i64.wrap (((a1_4.length : Nat) : Int) - (1 : Int)))), (167, .pointer (some ⟨b0, 0, none⟩)), (168, .agg #[.int .i64 a1_0, .string a1_1, .int .i64 a1_2, .int .i64 a1_3, .slice A_a1_4 a1_4.length c_a1_4]), (170, .slice A_a1_4 a1_4.length c_a1_4), (171, .pointer (some ⟨b1, 2, none⟩))] (by kernel_rfl) (by kernel_rfl) ?_
        refine kp_loadS (v := .int .i64 a1_2) [blk b1 (.cells #[.int .i64 a1_0, .string a1_1, .int .i64 a1_2, .int .i64 a1_3, .slice A_a1_4 a1_4.length c_a1_4] 36 (0, 0)), H_a1_4] [.val (.int .i64 a1_2)] [.ld ⟨b1, 2, none⟩ (.int .i64 a1_2)] (by kernel_rfl) (by kernel_rfl) (by kernel_rfl) (fun _ h => h) ⟨⟨0, _, _, _, rfl, rfl, rfl⟩, trivial⟩ ?_
        obtain ⟨l273, hl273, h⟩ := bindSome h
        refine kp_subR (T := 36) (R := (rTree 36)) (xs := a1_4) (0 : Int) a1_2 rfl (by kernel_rfl) (by kernel_rfl) (by kernel_rfl) (.inl ⟨rfl, rfl⟩) (.inr ⟨_, .i64, rfl, (by kernel_rfl)⟩) (by kernel_rfl) (by kernel_rfl) hl273 R_a1_4 fun A274 k275 o276 => ?_
        refine kp_steps 1 [(6, .int .i64 (IntKind.i64.wrap (((a1_4.length : Nat) : Int) - (1 : Int)))), (167, .pointer (some ⟨b0, 0, none⟩)), (168, .agg #[.int .i64 a1_0, .string a1_1, .int .i64 a1_2, .int .i64 a1_3, .slice A_a1_4 a1_4.length c_a1_4]), (173, .slice A274 l273.length k275), (174, .pointer (some ⟨b1, 4, none⟩))] (by kernel_rfl) (by kernel_rfl) ?_
        refine kp_loadS (v := .slice A_a1_4 a1_4.length c_a1_4) [blk b1 (.cells #[.int .i64 a1_0, .string a1_1, .int .i64 a1_2, .int .i64 a1_3, .slice A_a1_4 a1_4.length c_a1_4] 36 (0, 0)), H_a1_4] [.val (.slice A_a1_4 a1_4.length c_a1_4)] [.ld ⟨b1, 4, none⟩ (.slice A_a1_4 a1_4.length c_a1_4)] (by kernel_rfl) (by kernel_rfl) (by kernel_rfl) (fun _ h => h) ⟨⟨0, _, _, _, rfl, rfl, rfl⟩, trivial⟩ ?_
        refine kp_steps 1 [(167, .pointer (some ⟨b0, 0, none⟩)), (168, .agg #[.int .i64 a1_0, .string a1_1, .int .i64 a1_2, .int .i64 a1_3, .slice A_a1_4 a1_4.length c_a1_4]), (173, .slice A274 l273.length k275), (175, .slice A_a1_4 a1_4.length c_a1_4), (176, .int .i64 (IntKind.i64.wrap (((a1_4.length : Nat) : Int) - (1 : Int))))] (by kernel_rfl) (by kernel_rfl) ?_
        obtain ⟨x277, hx277, h⟩ := bindSome h
        refine kp_elemR (T := 36) (kd := .i64) (R := (rTree 36)) rfl (by kernel_rfl) (by kernel_rfl) (by kernel_rfl) (by kernel_rfl) (by kernel_rfl) (by kernel_rfl) hx277 R_a1_4 fun p278 u281 q282 e279 y280 => ?_
        obtain ⟨A283, k284, rfl, o285⟩ := treeR_mk 36 q282
        refine kp_eloadN rfl (by kernel_rfl) (by kernel_rfl) (by kernel_rfl) (by kernel_rfl) (by kernel_rfl) e279 (fun w h_ => h_.mem _ (.tail _ (.head _))) ?_
        refine kp_done ?_
        refine K.mvN [_, _, _, _, _] _ _ ?_
        refine K.mvN [_, _, _, _, _] _ _ ?_
        refine K.mvN [_, _, _, _, _] _ _ ?_
        refine K.mvN [_, _, _, _, _] _ _ ?_
        refine K.mvN [_, _, _, _, _] _ _ ?_
        refine K.mvN [_, _, _, _, _] _ _ ?_
        rcases prBind h with ⟨i287, hr286, rfl⟩ | ⟨r286, hr286, h⟩
        ·refine kl_call (blk b1 (.cells #[.int .i64 a1_0, .string a1_1, .int .i64 a1_2, .int .i64 a1_3, .slice A_a1_4 a1_4.length c_a1_4] 36 (0, 0)) :: X) (by kernel_rfl) (by kernel_rfl) (by kernel_rfl) (hR.check_checker_loop (b0 := b0) (b1002_ := b1002_) hr286 o260 o264 o268 o272 R_a1002_7 R_a1_4 o276 o285 hG) rfl ⟨(.tail _ hm_H_a1002_7), (.tail _ hm_H_a1_4), (.tail _ hm_H_a1_4), (.tail _ hm_H_a1_4), (.tail _ hm_G), trivial⟩ ?_
         rintro _ _ ⟨rfl, rfl⟩
         refine nx_pan ?_
         refine k_blk_panic ?_
         refine k_panicked [] ?_
         refine K.drop ?_
         exact k_end PR.badI
        refine kl_call (blk b1 (.cells #[.int .i64 a1_0, .string a1_1, .int .i64 a1_2, .int .i64 a1_3, .slice A_a1_4 a1_4.length c_a1_4] 36 (0, 0)) :: X) (by kernel_rfl) (by kernel_rfl) (by kernel_rfl) (hR.check_checker_loop (b0 := b0) (b1002_ := b1002_) hr286 o260 o264 o268 o272 R_a1002_7 R_a1_4 o276 o285 hG) rfl ⟨(.tail _ hm_H_a1002_7), (.tail _ hm_H_a1_4), (.tail _ hm_H_a1_4), (.tail _ hm_H_a1_4), (.tail _ hm_G), trivial⟩ ?_
        rintro _ _ ⟨h288, A289, k290, h292, A293, k294, h296, A297, k298, h300, A301, k302, o291, o295, o299, o303, rfl, rfl⟩
        refine nx_ret ?_
        refine K.mvN [_, _, _, _, _, _] _ _ ?_
        refine K.drop ?_
        refine k_nil ?_
        refine k_blk ?_
        refine k_fall ?_
        obtain rfl := Option.some.inj h
        refine k_done (v := .tuple #[]) [] [] [blk b0 (.cells #[.slice A289 r286.1.length k290, .slice A293 r286.2.1.length k294, .pointer (some ⟨b1002_, 0, none⟩)] 65 (0, 0)), h288, h292, blk b1002_ (.cells #[.string a1002_0, .int .i64 a1002_1, .int .i64 a1002_2, .int .i64 r286.2.2.1, .slice A297 r286.2.2.2.1.length k298, .slice A301 r286.2.2.2.2.1.length k302, .int .i64 r286.2.2.2.2.2, .slice A_a1002_7 a1002_7.length c_a1002_7] 63 (0, 0)), h296, h300] (by kernel_rfl) (by kernel_rfl) trivial ?_
        exact k_end (PR.okI ⟨h288, A289, k290, h292, A293, k294, h296, A297, k298, h300, A301, k302, o291, o295, o299, o303, rfl, rfl⟩)
       ·have h := condF h t246
        refine k_seq ?_
        refine k_region ?_
        refine kl_steps 2 [(0, .pointer (some ⟨b0, 0, none⟩)), (2, .bool a2), (4, .pointer (some ⟨b1, 0, none⟩)), (180, .bool (a1_0 == (29 : Int)))] (by kernel_rfl) ?_
        refine k_nil ?_
        refine k_then ?_
        refine k_cond (t := (a1_0 == (29 : Int))) (by kernel_rfl) (fun t304 => ?_) (fun t304 => ?_)
        ·have h := condT h t304
         refine k_seq ?_
         refine k_region ?_
         refine kl_steps 3 [(4, .pointer (some ⟨b1, 0, none⟩)), (184, .pointer (some ⟨b0, 2, none⟩))] (by kernel_rfl) ?_
         refine kl_load (v := .pointer (some ⟨b1002_, 0, none⟩)) [.val (.pointer (some ⟨b1002_, 0, none⟩))] [.ld ⟨b0, 2, none⟩ (.pointer (some ⟨b1002_, 0, none⟩))] (by kernel_rfl) (by kernel_rfl) (by kernel_rfl) ⟨⟨1, _, _, _, rfl, rfl, rfl⟩, trivial⟩ ?_
         refine kl_steps 2 [(4, .pointer (some ⟨b1, 0, none⟩)), (187, .pointer (some ⟨b1002_, 6, none⟩))] (by kernel_rfl) ?_
         refine kl_load (v := .int .i64 a1002_6) [.val (.int .i64 a1002_6)] [.ld ⟨b1002_, 6, none⟩ (.int .i64 a1002_6)] (by kernel_rfl) (by kernel_rfl) (by kernel_rfl) ⟨⟨4, _, _, _, rfl, rfl, rfl⟩, trivial⟩ ?_
         refine kl_steps 1 [(4, .pointer (some ⟨b1, 0, none⟩)), (189, .bool (a1002_6 == (0 : Int)))] (by kernel_rfl) ?_
         refine k_nil ?_
         refine k_then ?_
         refine k_cond (t := (a1002_6 == (0 : Int))) (by kernel_rfl) (fun t305 => ?_) (fun t305 => ?_)
         ·have h := condT h t305
          refine k_region ?_
          refine kl_steps 1 [(190, .pointer (some ⟨b1, 3, none⟩))] (by kernel_rfl) ?_
          refine kl_load (v := .int .i64 a1_3) [.val (.int .i64 a1_3)] [.ld ⟨b1, 3, none⟩ (.int .i64 a1_3)] (by kernel_rfl) (by kernel_rfl) (by kernel_rfl) ⟨⟨0, _, _, _, rfl, rfl, rfl⟩, trivial⟩ ?_
          refine K.drop ?_
          rcases prBind h with ⟨i307, hr306, rfl⟩ | ⟨r306, hr306, h⟩
          ·refine kl_call (blk b0 (.cells #[.slice A_a0_0 a0_0.length c_a0_0, .slice A_a0_1 a0_1.length c_a0_1, .pointer (some ⟨b1002_, 0, none⟩)] 65 (0, 0)) :: H_a0_0 :: H_a0_1 :: blk b1002_ (.cells #[.string a1002_0, .int .i64 a1002_1, .int .i64 a1002_2, .int .i64 a1002_3, .slice A_a1002_4 a1002_4.length c_a1002_4, .slice A_a1002_5 a1002_5.length c_a1002_5, .int .i64 a1002_6, .slice A_a1002_7 a1002_7.length c_a1002_7] 63 (0, 0)) :: H_a1002_4 :: H_a1002_5 :: X) (by kernel_rfl) (by kernel_rfl) (by kernel_rfl) (check_fail.ok hr306) rfl trivial ?_
           rintro _ _ ⟨rfl, rfl⟩
           refine nx_pan ?_
           refine k_blk_panic ?_
           refine k_panicked [] ?_
           refine K.drop ?_
           refine K.drop ?_
           refine K.drop ?_
           refine K.drop ?_
           refine K.drop ?_
           refine K.drop ?_
           exact k_end PR.badI
          refine kl_call (blk b0 (.cells #[.slice A_a0_0 a0_0.length c_a0_0, .slice A_a0_1 a0_1.length c_a0_1, .pointer (some ⟨b1002_, 0, none⟩)] 65 (0, 0)) :: H_a0_0 :: H_a0_1 :: blk b1002_ (.cells #[.string a1002_0, .int .i64 a1002_1, .int .i64 a1002_2, .int .i64 a1002_3, .slice A_a1002_4 a1002_4.length c_a1002_4, .slice A_a1002_5 a1002_5.length c_a1002_5, .int .i64 a1002_6, .slice A_a1002_7 a1002_7.length c_a1002_7] 63 (0, 0)) :: H_a1002_4 :: H_a1002_5 :: X) (by kernel_rfl) (by kernel_rfl) (by kernel_rfl) (check_fail.ok hr306) rfl trivial ?_
          rintro _ _ ⟨rfl, rfl⟩
          refine nx_ret0 ?_
          refine k_nil ?_
          refine k_blk ?_
          refine k_fall ?_
          obtain rfl := Option.some.inj h
          refine k_done (v := .tuple #[]) [] [] [blk b0 (.cells #[.slice A_a0_0 a0_0.length c_a0_0, .slice A_a0_1 a0_1.length c_a0_1, .pointer (some ⟨b1002_, 0, none⟩)] 65 (0, 0)), H_a0_0, H_a0_1, blk b1002_ (.cells #[.string a1002_0, .int .i64 a1002_1, .int .i64 a1002_2, .int .i64 a1002_3, .slice A_a1002_4 a1002_4.length c_a1002_4, .slice A_a1002_5 a1002_5.length c_a1002_5, .int .i64 a1002_6, .slice A_a1002_7 a1002_7.length c_a1002_7] 63 (0, 0)), H_a1002_4, H_a1002_5] (by kernel_rfl) (by kernel_rfl) trivial ?_
          exact k_end (PR.okI ⟨H_a0_0, A_a0_0, c_a0_0, H_a0_1, A_a0_1, c_a0_1, H_a1002_4, A_a1002_4, c_a1002_4, H_a1002_5, A_a1002_5, c_a1002_5, R_a0_0, R_a0_1, R_a1002_4, R_a1002_5, rfl, rfl⟩)
         ·have h := condF h t305
          refine k_skip ?_
          refine k_blk ?_
          refine k_fall ?_
          obtain rfl := Option.some.inj h
          refine k_done (v := .tuple #[]) [] [] [blk b0 (.cells #[.slice A_a0_0 a0_0.length c_a0_0, .slice A_a0_1 a0_1.length c_a0_1, .pointer (some ⟨b1002_, 0, none⟩)] 65 (0, 0)), H_a0_0, H_a0_1, blk b1002_ (.cells #[.string a1002_0, .int .i64 a1002_1, .int .i64 a1002_2, .int .i64 a1002_3, .slice A_a1002_4 a1002_4.length c_a1002_4, .slice A_a1002_5 a1002_5.length c_a1002_5, .int .i64 a1002_6, .slice A_a1002_7 a1002_7.length c_a1002_7] 63 (0, 0)), H_a1002_4, H_a1002_5] (by kernel_rfl) (by kernel_rfl) trivial ?_
          refine K.drop ?_
          exact k_end (PR.okI ⟨H_a0_0, A_a0_0, c_a0_0, H_a0_1, A_a0_1, c_a0_1, H_a1002_4, A_a1002_4, c_a1002_4, H_a1002_5, A_a1002_5, c_a1002_5, R_a0_0, R_a0_1, R_a1002_4, R_a1002_5, rfl, rfl⟩)
        ·have h := condF h t304
         refine k_region ?_
         refine kl_steps 1 [(2, .bool a2), (4, .pointer (some ⟨b1, 0, none⟩)), (16, .pointer (some ⟨b0, 0, none⟩))] (by kernel_rfl) ?_
         refine kl_load (v := .agg #[.int .i64 a1_0, .string a1_1, .int .i64 a1_2, .int .i64 a1_3, .slice A_a1_4 a1_4.length c_a1_4]) [.val (.int .i64 a1_0), .val (.string a1_1), .val (.int .i64 a1_2), .val (.int .i64 a1_3), .val (.slice A_a1_4 a1_4.length c_a1_4)] [.ld ⟨b1, 0, none⟩ (.int .i64 a1_0), .ld ⟨b1, 1, none⟩ (.string a1_1), .ld ⟨b1, 2, none⟩ (.int .i64 a1_2), .ld ⟨b1, 3, none⟩ (.int .i64 a1_3), .ld ⟨b1, 4, none⟩ (.slice A_a1_4 a1_4.length c_a1_4)] (by kernel_rfl) (by kernel_rfl) (by kernel_rfl) ⟨⟨0, _, _, _, rfl, rfl, rfl⟩, ⟨0, _, _, _, rfl, rfl, rfl⟩, ⟨0, _, _, _, rfl, rfl, rfl⟩, ⟨0, _, _, _, rfl, rfl, rfl⟩, ⟨0, _, _, _, rfl, rfl, rfl⟩, trivial⟩ ?_
         refine K.drop ?_
         refine kl_steps 1 [(16, .pointer (some ⟨b0, 0, none⟩)), (17, .agg #[.int .i64 a1_0, .string a1_1, .int .i64 a1_2, .int .i64 a1_3, .slice A_a1_4 a1_4.length c_a1_4]), (18, .bool a2)] (by kernel_rfl) ?_
         refine K.mvN [_, _, _, _, _] _ _ ?_
         refine K.mvN [_, _, _, _, _] _ _ ?_
         refine K.mvN [_, _, _, _, _] _ _ ?_
         refine K.mvN [_, _, _, _, _] _ _ ?_
         refine K.mvN [_, _, _, _, _] _ _ ?_
         refine K.mvN [_, _, _, _, _] _ _ ?_
         rcases prBind h with ⟨i309, hr308, rfl⟩ | ⟨r308, hr308, h⟩
         ·refine kl_call (X) (by kernel_rfl) (by kernel_rfl) (by kernel_rfl) (hR.check_checker_exp (b0 := b0) (b1002_ := b1002_) hr308 R_a0_0 R_a0_1 R_a1002_4 R_a1002_5 R_a1002_7 R_a1_4 hG) rfl ⟨hm_H_a1002_7, hm_H_a1_4, hm_G, trivial⟩ ?_
          rintro _ _ ⟨rfl, rfl⟩
          refine nx_pan ?_
          refine k_blk_panic ?_
          refine k_panicked [] ?_
          exact k_end PR.badI
         refine kl_call (X) (by kernel_rfl) (by kernel_rfl) (by kernel_rfl) (hR.check_checker_exp (b0 := b0) (b1002_ := b1002_) hr308 R_a0_0 R_a0_1 R_a1002_4 R_a1002_5 R_a1002_7 R_a1_4 hG) rfl ⟨hm_H_a1002_7, hm_H_a1_4, hm_G, trivial⟩ ?_
         rintro _ _ ⟨h310, A311, k312, h314, A315, k316, h318, A319, k320, h322, A323, k324, o313, o317, o321, o325, rfl, rfl⟩
         refine nx_ret ?_
         refine k_nil ?_
         refine k_blk ?_
         refine k_fall ?_
         obtain rfl := Option.some.inj h
         refine k_done (v := .tuple #[]) [] [] [blk b0 (.cells #[.slice A311 r308.1.length k312, .slice A315 r308.2.1.length k316, .pointer (some ⟨b1002_, 0, none⟩)] 65 (0, 0)), h310, h314, blk b1002_ (.cells #[.string a1002_0, .int .i64 a1002_1, .int .i64 a1002_2, .int .i64 r308.2.2.1, .slice A319 r308.2.2.2.1.length k320, .slice A323 r308.2.2.2.2.1.length k324, .int .i64 r308.2.2.2.2.2, .slice A_a1002_7 a1002_7.length c_a1002_7] 63 (0, 0)), h318, h322] (by kernel_rfl) (by kernel_rfl) trivial ?_
         exact k_end (PR.okI ⟨h310, A311, k312, h314, A315, k316, h318, A319, k320, h322, A323, k324, o313, o317, o321, o325, rfl, rfl⟩)
def check_checker_nodes.l0 : Nat → (Rc : CK) → (a1002_0 : ByteArray) → (a1002_1 : Int) → (a1002_2 : Int) → (a1002_7 : List ByteArray) → (a1 : List Tree) → (x1 : Int) → (l2 : List (ByteArray × Int × Int × Int × List (Int × Int × ByteArray))) → (l7 : List ByteArray) → (x12 : Int) → (l13 : List (Int × Int × ByteArray)) → (l18 : List ByteArray) → (x23 : Int) → Option (PR (List (ByteArray × Int × Int × Int × List (Int × Int × ByteArray)) × List ByteArray × Int × List (Int × Int × ByteArray) × List ByteArray × Int) (Int × Int))
 | 0, _, _, _, _, _, _, _, _, _, _, _, _, _ => none
 | m24 + 1, Rc, a1002_0, a1002_1, a1002_2, a1002_7, a1, x1, l2, l7, x12, l13, l18, x23 => cond (decide (x1 < ((a1.length : Nat) : Int))) ((lIdx a1 x1).bind fun x26 => PR.bind (Rc.check_checker_node l2 l7 a1002_0 a1002_1 a1002_2 x12 l13 l18 x23 a1002_7 x26.kind x26.text x26.n x26.at_ x26.kids false) fun r36 => check_checker_nodes.l0 m24 Rc a1002_0 a1002_1 a1002_2 a1002_7 a1 (IntKind.i64.wrap (x1 + (1 : Int))) r36.1 r36.2.1 r36.2.2.1 r36.2.2.2.1 r36.2.2.2.2.1 r36.2.2.2.2.2) (some (PR.ok (l2, l7, x12, l13, l18, x23)))
def check_checker_nodes.g (Rc : CK) (k : Nat) (a0_0 : List (ByteArray × Int × Int × Int × List (Int × Int × ByteArray))) (a0_1 : List ByteArray) (a1002_0 : ByteArray) (a1002_1 : Int) (a1002_2 : Int) (a1002_3 : Int) (a1002_4 : List (Int × Int × ByteArray)) (a1002_5 : List ByteArray) (a1002_6 : Int) (a1002_7 : List ByteArray) (a1 : List Tree) : Option (PR (List (ByteArray × Int × Int × Int × List (Int × Int × ByteArray)) × List ByteArray × Int × List (Int × Int × ByteArray) × List ByteArray × Int) (Int × Int)) := check_checker_nodes.l0 k Rc a1002_0 a1002_1 a1002_2 a1002_7 a1 (0 : Int) a0_0 a0_1 a1002_3 a1002_4 a1002_5 a1002_6
set_option maxRecDepth 100000 in
theorem check_checker_nodes.okg {Rc : CK} (hR : Rc.Good) {k : Nat} {a0_0 : List (ByteArray × Int × Int × Int × List (Int × Int × ByteArray))} {a0_1 : List ByteArray} {a1002_0 : ByteArray} {a1002_1 : Int} {a1002_2 : Int} {a1002_3 : Int} {a1002_4 : List (Int × Int × ByteArray)} {a1002_5 : List ByteArray} {a1002_6 : Int} {a1002_7 : List ByteArray} {a1 : List Tree} {b0 : Nat} {H_a0_0 : Frag} {A_a0_0 : Option Addr} {c_a0_0 : Nat} {H_a0_1 : Frag} {A_a0_1 : Option Addr} {c_a0_1 : Nat} {b1002_ : Nat} {H_a1002_4 : Frag} {A_a1002_4 : Option Addr} {c_a1002_4 : Nat} {H_a1002_5 : Frag} {A_a1002_5 : Option Addr} {c_a1002_5 : Nat} {H_a1002_7 : Frag} {A_a1002_7 : Option Addr} {c_a1002_7 : Nat} {H_a1 : Frag} {A_a1 : Option Addr} {c_a1 : Nat} {G : Frag} {r : PR (List (ByteArray × Int × Int × Int × List (Int × Int × ByteArray)) × List ByteArray × Int × List (Int × Int × ByteArray) × List ByteArray × Int) (Int × Int)} (h : check_checker_nodes.g Rc k a0_0 a0_1 a1002_0 a1002_1 a1002_2 a1002_3 a1002_4 a1002_5 a1002_6 a1002_7 a1 = some r) (R_a0_0 : OwnR rs42 42 H_a0_0 (.slice A_a0_0 a0_0.length c_a0_0) a0_0) (R_a0_1 : OwnT encS 9 1 H_a0_1 (.slice A_a0_1 a0_1.length c_a0_1) a0_1) (R_a1002_4 : OwnT e53 53 3 H_a1002_4 (.slice A_a1002_4 a1002_4.length c_a1002_4) a1002_4) (R_a1002_5 : OwnT encS 9 1 H_a1002_5 (.slice A_a1002_5 a1002_5.length c_a1002_5) a1002_5) (R_a1002_7 : RdT encS 1 H_a1002_7 (.slice A_a1002_7 a1002_7.length c_a1002_7) a1002_7) (R_a1 : RdR (rTree 36) H_a1 (.slice A_a1 a1.length c_a1) a1) (hG : GlP G) : Ct Tryz.prog 35 #[.pointer (some ⟨b0, 0, none⟩), .slice A_a1 a1.length c_a1] [blk b0 (.cells #[.slice A_a0_0 a0_0.length c_a0_0, .slice A_a0_1 a0_1.length c_a0_1, .pointer (some ⟨b1002_, 0, none⟩)] 65 (0, 0)), H_a0_0, H_a0_1, blk b1002_ (.cells #[.string a1002_0, .int .i64 a1002_1, .int .i64 a1002_2, .int .i64 a1002_3, .slice A_a1002_4 a1002_4.length c_a1002_4, .slice A_a1002_5 a1002_5.length c_a1002_5, .int .i64 a1002_6, .slice A_a1002_7 a1002_7.length c_a1002_7] 63 (0, 0)), H_a1002_4, H_a1002_5] [H_a1002_7, H_a1, G] (PR.Post failC (fun (r : List (ByteArray × Int × Int × Int × List (Int × Int × ByteArray)) × List ByteArray × Int × List (Int × Int × ByteArray) × List ByteArray × Int) e l1 => ∃ (H0_ : Frag) (A0_ : Option Addr) (c0_ : Nat) (H1_ : Frag) (A1_ : Option Addr) (c1_ : Nat) (H2_ : Frag) (A2_ : Option Addr) (c2_ : Nat) (H3_ : Frag) (A3_ : Option Addr) (c3_ : Nat), OwnR rs42 42 H0_ (.slice A0_ r.1.length c0_) r.1 ∧ OwnT encS 9 1 H1_ (.slice A1_ r.2.1.length c1_) r.2.1 ∧ OwnT e53 53 3 H2_ (.slice A2_ r.2.2.2.1.length c2_) r.2.2.2.1 ∧ OwnT encS 9 1 H3_ (.slice A3_ r.2.2.2.2.1.length c3_) r.2.2.2.2.1 ∧ e = .returned (.tuple #[]) ∧ l1 = [blk b0 (.cells #[.slice A0_ r.1.length c0_, .slice A1_ r.2.1.length c1_, .pointer (some ⟨b1002_, 0, none⟩)] 65 (0, 0)), H0_, H1_, blk b1002_ (.cells #[.string a1002_0, .int .i64 a1002_1, .int .i64 a1002_2, .int .i64 r.2.2.1, .slice A2_ r.2.2.2.1.length c2_, .slice A3_ r.2.2.2.2.1.length c3_, .int .i64 r.2.2.2.2.2, .slice A_a1002_7 a1002_7.length c_a1002_7] 63 (0, 0)), H2_, H3_]) r) := by
 refine ct_enter (args := [.pointer (some ⟨b0, 0, none⟩), .slice A_a1 a1.length c_a1]) Tryz.func35 rfl (Nat.le_of_ble_eq_true rfl) ?_
 intro A X hh_
 obtain ⟨hm_H_a1002_7, hm_H_a1, hm_G, _⟩ := hh_
 unfold check_checker_nodes.g at h
 refine K.eq (env' := [(0, .pointer (some ⟨b0, 0, none⟩)), (1, .slice A_a1 a1.length c_a1)]) (l' := blk b0 (.cells #[.slice A_a0_0 a0_0.length c_a0_0, .slice A_a0_1 a0_1.length c_a0_1, .pointer (some ⟨b1002_, 0, none⟩)] 65 (0, 0)) :: H_a0_0 :: H_a0_1 :: blk b1002_ (.cells #[.string a1002_0, .int .i64 a1002_1, .int .i64 a1002_2, .int .i64 a1002_3, .slice A_a1002_4 a1002_4.length c_a1002_4, .slice A_a1002_5 a1002_5.length c_a1002_5, .int .i64 a1002_6, .slice A_a1002_7 a1002_7.length c_a1002_7] 63 (0, 0)) :: H_a1002_4 :: H_a1002_5 :: X) rfl rfl ?_
 refine k_seq ?_
 refine k_region ?_
 refine kl_steps 3 [(0, .pointer (some ⟨b0, 0, none⟩)), (6, .slice A_a1 a1.length c_a1), (7, .int .i64 ((a1.length : Nat) : Int)), (8, .int .i64 (0 : Int))] (by kernel_rfl) ?_
 refine k_nil ?_
 refine k_then ?_
 refine k_block ?_
 refine K.mvN [_, _, _, _, _] _ _ ?_
 refine K.mvN [_, _, _, _, _] _ _ ?_
 refine K.mv4 ?_
 refine K.mv4 ?_
 refine K.mvN [_, _, _, _, _] _ _ ?_
 refine K.mvN [_, _, _, _, _] _ _ ?_
 refine k_loop (τ := Int × (List (ByteArray × Int × Int × Int × List (Int × Int × ByteArray))) × (List ByteArray) × Int × (List (Int × Int × ByteArray)) × (List ByteArray) × Int × Frag × (Option Addr) × Nat × Frag × (Option Addr) × Nat × Frag × (Option Addr) × Nat × Frag × (Option Addr) × Nat) (fun t => [(0, .pointer (some ⟨b0, 0, none⟩)), (6, .slice A_a1 a1.length c_a1), (7, .int .i64 ((a1.length : Nat) : Int)), (8, .int .i64 t.1)]) (fun t => blk b0 (.cells #[.slice t.2.2.2.2.2.2.2.2.1 t.2.1.length t.2.2.2.2.2.2.2.2.2.1, .slice t.2.2.2.2.2.2.2.2.2.2.2.1 t.2.2.1.length t.2.2.2.2.2.2.2.2.2.2.2.2.1, .pointer (some ⟨b1002_, 0, none⟩)] 65 (0, 0)) :: blk b1002_ (.cells #[.string a1002_0, .int .i64 a1002_1, .int .i64 a1002_2, .int .i64 t.2.2.2.1, .slice t.2.2.2.2.2.2.2.2.2.2.2.2.2.2.1 t.2.2.2.2.1.length t.2.2.2.2.2.2.2.2.2.2.2.2.2.2.2.1, .slice t.2.2.2.2.2.2.2.2.2.2.2.2.2.2.2.2.2.1 t.2.2.2.2.2.1.length t.2.2.2.2.2.2.2.2.2.2.2.2.2.2.2.2.2.2, .int .i64 t.2.2.2.2.2.2.1, .slice A_a1002_7 a1002_7.length c_a1002_7] 63 (0, 0)) :: t.2.2.2.2.2.2.2.1 :: t.2.2.2.2.2.2.2.2.2.2.1 :: t.2.2.2.2.2.2.2.2.2.2.2.2.2.1 :: t.2.2.2.2.2.2.2.2.2.2.2.2.2.2.2.2.1 :: X) (fun m t => check_checker_nodes.l0 m Rc a1002_0 a1002_1 a1002_2 a1002_7 a1 t.1 t.2.1 t.2.2.1 t.2.2.2.1 t.2.2.2.2.1 t.2.2.2.2.2.1 t.2.2.2.2.2.2.1 = some r ∧ OwnR rs42 42 t.2.2.2.2.2.2.2.1 (.slice t.2.2.2.2.2.2.2.2.1 t.2.1.length t.2.2.2.2.2.2.2.2.2.1) t.2.1 ∧ OwnT encS 9 1 t.2.2.2.2.2.2.2.2.2.2.1 (.slice t.2.2.2.2.2.2.2.2.2.2.2.1 t.2.2.1.length t.2.2.2.2.2.2.2.2.2.2.2.2.1) t.2.2.1 ∧ OwnT e53 53 3 t.2.2.2.2.2.2.2.2.2.2.2.2.2.1 (.slice t.2.2.2.2.2.2.2.2.2.2.2.2.2.2.1 t.2.2.2.2.1.length t.2.2.2.2.2.2.2.2.2.2.2.2.2.2.2.1) t.2.2.2.2.1 ∧ OwnT encS 9 1 t.2.2.2.2.2.2.2.2.2.2.2.2.2.2.2.2.1 (.slice t.2.2.2.2.2.2.2.2.2.2.2.2.2.2.2.2.2.1 t.2.2.2.2.2.1.length t.2.2.2.2.2.2.2.2.2.2.2.2.2.2.2.2.2.2) t.2.2.2.2.2.1) k ((0 : Int), a0_0, a0_1, a1002_3, a1002_4, a1002_5, a1002_6, H_a0_0, A_a0_0, c_a0_0, H_a0_1, A_a0_1, c_a0_1, H_a1002_4, A_a1002_4, c_a1002_4, H_a1002_5, A_a1002_5, c_a1002_5) ⟨h, R_a0_0, R_a0_1, R_a1002_4, R_a1002_5⟩ ⟨rfl, rfl, rfl, rfl, trivial⟩ rfl ?_
 clear h
 rintro m24 ⟨x1, l2, l7, x12, l13, l18, x23, h3, A4, k5, h8, A9, k10, h14, A15, k16, h19, A20, k21⟩ ⟨h, o6, o11, o17, o22⟩
 cases m24 with
 | zero => simp [check_checker_nodes.l0] at h
 | succ m24 =>
  simp only [check_checker_nodes.l0] at h
  refine k_seq ?_
  refine k_region ?_
  refine kl_steps 1 [(0, .pointer (some ⟨b0, 0, none⟩)), (6, .slice A_a1 a1.length c_a1), (7, .int .i64 ((a1.length : Nat) : Int)), (8, .int .i64 x1), (9, .bool (decide (x1 < ((a1.length : Nat) : Int))))] (by kernel_rfl) ?_
  refine k_nil ?_
  refine k_then ?_
  refine k_seq ?_
  refine k_cond (t := decide (x1 < ((a1.length : Nat) : Int))) (by kernel_rfl) (fun t25 => ?_) (fun t25 => ?_)
  ·have h := condT h t25
   refine k_skip ?_
   refine k_then ?_
   refine k_seq ?_
   refine k_block ?_
   refine k_seq ?_
   refine k_region ?_
   obtain ⟨x26, hx26, h⟩ := bindSome h
   refine kl_elemR (T := 36) (kd := .i64) (R := (rTree 36)) rfl (by kernel_rfl) (by kernel_rfl) (by kernel_rfl) (by kernel_rfl) (by kernel_rfl) (by kernel_rfl) hx26 R_a1 fun p27 u30 q31 e28 y29 => ?_
   obtain ⟨A32, k33, rfl, o34⟩ := treeR_mk 36 q31
   refine kl_eloadN rfl (by kernel_rfl) (by kernel_rfl) (by kernel_rfl) (by kernel_rfl) (by kernel_rfl) e28 (.tail _ (.tail _ (.tail _ (.tail _ (.tail _ (.tail _ hm_H_a1)))))) ?_
   refine kl_new (.cells #[.int .i64 (0 : Int), .string (⟨#[]⟩ : ByteArray), .int .i64 (0 : Int), .int .i64 (0 : Int), .slice none 0 0] 36 (0, 0)) (fun b => .pointer (some ⟨b, 0, none⟩)) (by kernel_rfl) (by kernel_rfl) (fun _ => by kernel_rfl) fun b35 => ?_
   refine kl_store (cs' := #[.int .i64 x26.kind, .string x26.text, .int .i64 x26.n, .int .i64 x26.at_, .slice A32 x26.kids.length k33]) [.st ⟨b35, 0, none⟩ (.int .i64 x26.kind), .st ⟨b35, 1, none⟩ (.string x26.text), .st ⟨b35, 2, none⟩ (.int .i64 x26.n), .st ⟨b35, 3, none⟩ (.int .i64 x26.at_), .st ⟨b35, 4, none⟩ (.slice A32 x26.kids.length k33)] (by kernel_rfl) (by kernel_rfl) (by kernel_rfl) ⟨rfl, rfl, rfl, rfl, rfl, trivial⟩ (by kernel_rfl) ?_
   refine k_nil ?_
   refine k_then ?_
   refine k_region ?_
   refine kl_steps 1 [(0, .pointer (some ⟨b0, 0, none⟩)), (6, .slice A_a1 a1.length c_a1), (7, .int .i64 ((a1.length : Nat) : Int)), (8, .int .i64 x1), (5, .pointer (some ⟨b35, 0, none⟩)), (12, .pointer (some ⟨b0, 0, none⟩))] (by kernel_rfl) ?_
   refine kl_load (v := .agg #[.int .i64 x26.kind, .string x26.text, .int .i64 x26.n, .int .i64 x26.at_, .slice A32 x26.kids.length k33]) [.val (.int .i64 x26.kind), .val (.string x26.text), .val (.int .i64 x26.n), .val (.int .i64 x26.at_), .val (.slice A32 x26.kids.length k33)] [.ld ⟨b35, 0, none⟩ (.int .i64 x26.kind), .ld ⟨b35, 1, none⟩ (.string x26.text), .ld ⟨b35, 2, none⟩ (.int .i64 x26.n), .ld ⟨b35, 3, none⟩ (.int .i64 x26.at_), .ld ⟨b35, 4, none⟩ (.slice A32 x26.kids.length k33)] (by kernel_rfl) (by kernel_rfl) (by kernel_rfl) ⟨⟨0, _, _, _, rfl, rfl, rfl⟩, ⟨0, _, _, _, rfl, rfl, rfl⟩, ⟨0, _, _, _, rfl, rfl, rfl⟩, ⟨0, _, _, _, rfl, rfl, rfl⟩, ⟨0, _, _, _, rfl, rfl, rfl⟩, trivial⟩ ?_
   refine K.drop ?_
   refine K.mvN [_, _, _, _, _] _ _ ?_
   refine K.mvN [_, _, _, _, _] _ _ ?_
   refine K.mv3 ?_
   refine K.mvN [_, _, _, _, _] _ _ ?_
   refine K.mvN [_, _, _, _, _] _ _ ?_
   refine K.mvN [_, _, _, _, _] _ _ ?_
   rcases prBind h with ⟨i37, hr36, rfl⟩ | ⟨r36, hr36, h⟩
   ·refine kl_call (X) (by kernel_rfl) (by kernel_rfl) (by kernel_rfl) (hR.check_checker_node (b0 := b0) (b1002_ := b1002_) hr36 o6 o11 o17 o22 R_a1002_7 o34 hG) rfl ⟨hm_H_a1002_7, hm_H_a1, hm_G, trivial⟩ ?_
    rintro _ _ ⟨rfl, rfl⟩
    refine nx_pan ?_
    refine k_blk_panic ?_
    refine k_then_panic ?_
    refine k_then_panic ?_
    refine k_blk_panic ?_
    refine k_panicked [] ?_
    exact k_end PR.badI
   refine kl_call (X) (by kernel_rfl) (by kernel_rfl) (by kernel_rfl) (hR.check_checker_node (b0 := b0) (b1002_ := b1002_) hr36 o6 o11 o17 o22 R_a1002_7 o34 hG) rfl ⟨hm_H_a1002_7, hm_H_a1, hm_G, trivial⟩ ?_
   rintro _ _ ⟨h38, A39, k40, h42, A43, k44, h46, A47, k48, h50, A51, k52, o41, o45, o49, o53, rfl, rfl⟩
   refine nx_ret ?_
   refine k_nil ?_
   refine k_blk ?_
   refine k_then ?_
   refine k_region ?_
   refine kl_steps 2 [(0, .pointer (some ⟨b0, 0, none⟩)), (6, .slice A_a1 a1.length c_a1), (7, .int .i64 ((a1.length : Nat) : Int)), (8, .int .i64 (IntKind.i64.wrap (x1 + (1 : Int))))] (by kernel_rfl) ?_
   refine k_nil ?_
   refine k_then ?_
   refine K.mvN [_, _, _, _, _] _ _ ?_
   refine K.mvN [_, _, _, _, _] _ _ ?_
   refine K.mv4 ?_
   refine K.mv4 ?_
   refine K.mvN [_, _, _, _, _] _ _ ?_
   refine K.mvN [_, _, _, _, _] _ _ ?_
   exact k_again m24 (IntKind.i64.wrap (x1 + (1 : Int)), r36.1, r36.2.1, r36.2.2.1, r36.2.2.2.1, r36.2.2.2.2.1, r36.2.2.2.2.2, h38, A39, k40, h42, A43, k44, h46, A47, k48, h50, A51, k52) (Nat.lt_succ_self _) ⟨h, o41, o45, o49, o53⟩ ⟨rfl, rfl, rfl, rfl, trivial⟩ rfl
  ·have h := condF h t25
   refine k_exit ?_
   refine k_then_exit ?_
   refine k_then_exit ?_
   refine k_here ?_
   refine k_fall ?_
   obtain rfl := Option.some.inj h
   refine k_done (v := .tuple #[]) [] [] [blk b0 (.cells #[.slice A4 l2.length k5, .slice A9 l7.length k10, .pointer (some ⟨b1002_, 0, none⟩)] 65 (0, 0)), h3, h8, blk b1002_ (.cells #[.string a1002_0, .int .i64 a1002_1, .int .i64 a1002_2, .int .i64 x12, .slice A15 l13.length k16, .slice A20 l18.length k21, .int .i64 x23, .slice A_a1002_7 a1002_7.length c_a1002_7] 63 (0, 0)), h14, h19] (by kernel_rfl) (by kernel_rfl) trivial ?_
   refine K.mvN [_, _, _, _, _] _ _ ?_
   refine K.mvN [_, _, _, _, _] _ _ ?_
   refine K.mv3 ?_
   refine K.mvN [_, _, _, _, _] _ _ ?_
   refine K.mvN [_, _, _, _, _] _ _ ?_
   refine K.mvN [_, _, _, _, _] _ _ ?_
   exact k_end (PR.okI ⟨h3, A4, k5, h8, A9, k10, h14, A15, k16, h19, A20, k21, o6, o11, o17, o22, rfl, rfl⟩)
def check_checker_exp.g (Rc : CK) (k : Nat) (a0_0 : List (ByteArray × Int × Int × Int × List (Int × Int × ByteArray))) (a0_1 : List ByteArray) (a1002_0 : ByteArray) (a1002_1 : Int) (a1002_2 : Int) (a1002_3 : Int) (a1002_4 : List (Int × Int × ByteArray)) (a1002_5 : List ByteArray) (a1002_6 : Int) (a1002_7 : List ByteArray) (a1_0 : Int) (a1_1 : ByteArray) (a1_2 : Int) (a1_3 : Int) (a1_4 : List Tree) (a2 : Bool) : Option (PR (List (ByteArray × Int × Int × Int × List (Int × Int × ByteArray)) × List ByteArray × Int × List (Int × Int × ByteArray) × List ByteArray × Int) (Int × Int)) := joinF (fun (l2 : List ByteArray) (l7 : List (Int × Int × ByteArray)) => PR.bind (Rc.check_checker_nodes a0_0 l2 a1002_0 a1002_1 a1002_2 a1002_3 l7 a1002_5 a1002_6 a1002_7 a1_4) fun r13 => some (PR.ok (r13.1, r13.2.1, r13.2.2.1, r13.2.2.2.1, r13.2.2.2.2.1, r13.2.2.2.2.2))) (fun J12 => cond (a1_0 == (8 : Int)) (PR.bind (check_few.f k a1_0 a1_1 a1_2 a1_3 a1_4 (IntKind.i64.wrap (((a1_4.length : Nat) : Int) - (1 : Int))) (50 : Int)) fun r32 => J12 a0_1 a1002_4) (cond (a1_0 == (30 : Int)) (PR.bind (check_few.f k a1_0 a1_1 a1_2 a1_3 a1_4 ((a1_4.length : Nat) : Int) (50 : Int)) fun r35 => J12 a0_1 a1002_4) (cond (a1_0 == (12 : Int)) (PR.bind (check_few.f k a1_0 a1_1 a1_2 a1_3 a1_4 ((a1_4.length : Nat) : Int) (200 : Int)) fun r38 => J12 a0_1 a1002_4) (cond (a1_0 == (4 : Int)) (PR.bind (check_checker_constant.f k a0_0 a0_1 a1002_0 a1002_1 a1002_2 a1002_3 a1002_4 a1002_5 a1002_6 a1002_7 a1_0 a1_1 a1_2 a1_3 a1_4 (2 : Int) a1_2 (⟨#[]⟩ : ByteArray)) fun r41 => J12 a0_1 r41) (cond (a1_0 == (5 : Int)) (PR.bind (check_checker_constant.f k a0_0 a0_1 a1002_0 a1002_1 a1002_2 a1002_3 a1002_4 a1002_5 a1002_6 a1002_7 a1_0 a1_1 a1_2 a1_3 a1_4 (3 : Int) (0 : Int) a1_1) fun r48 => J12 a0_1 r48) (cond (a1_0 == (6 : Int)) (PR.bind (check_checker_name.f k a0_0 a0_1 a1002_0 a1002_1 a1002_2 a1002_3 a1002_4 a1002_5 a1002_6 a1002_7 a1_0 a1_1 a1_2 a1_3 a1_4) fun r55 => J12 r55 a1002_4) (cond (a1_0 == (7 : Int)) ((lIdx a1_4 (0 : Int)).bind fun x62 => (cond (x62.kind == (6 : Int)) ((check_kept.f k x62.text).bind fun r95 => some r95) (some false) : Option Bool).bind fun q72 => cond q72 (joinF (fun (_ : Unit) => some (PR.ok (a0_0, a0_1, a1002_3, a1002_4, a1002_5, a1002_6))) (fun J74 => (lIdx a1_4 (1 : Int)).bind fun x75 => (cond a2 (some true) (cond (x75.kind != (5 : Int)) (some true) ((sCat x62.text (⟨#[46]⟩ : ByteArray)).bind fun s91 : ByteArray => (sCat s91 x75.text).bind fun s92 : ByteArray => (check_Library.f k s92).bind fun r93 => some (r93 == (0 : Int)))) : Option Bool).bind fun q85 => cond q85 (PR.bind (check_fail.f k (5 : Int) a1_3) fun r87 => J74 ()) (J74 ()))) (J12 a0_1 a1002_4)) (J12 a0_1 a1002_4))))))))
set_option maxRecDepth 100000 in
theorem check_checker_exp.okg {Rc : CK} (hR : Rc.Good) {k : Nat} {a0_0 : List (ByteArray × Int × Int × Int × List (Int × Int × ByteArray))} {a0_1 : List ByteArray} {a1002_0 : ByteArray} {a1002_1 : Int} {a1002_2 : Int} {a1002_3 : Int} {a1002_4 : List (Int × Int × ByteArray)} {a1002_5 : List ByteArray} {a1002_6 : Int} {a1002_7 : List ByteArray} {a1_0 : Int} {a1_1 : ByteArray} {a1_2 : Int} {a1_3 : Int} {a1_4 : List Tree} {a2 : Bool} {b0 : Nat} {H_a0_0 : Frag} {A_a0_0 : Option Addr} {c_a0_0 : Nat} {H_a0_1 : Frag} {A_a0_1 : Option Addr} {c_a0_1 : Nat} {b1002_ : Nat} {H_a1002_4 : Frag} {A_a1002_4 : Option Addr} {c_a1002_4 : Nat} {H_a1002_5 : Frag} {A_a1002_5 : Option Addr} {c_a1002_5 : Nat} {H_a1002_7 : Frag} {A_a1002_7 : Option Addr} {c_a1002_7 : Nat} {H_a1_4 : Frag} {A_a1_4 : Option Addr} {c_a1_4 : Nat} {G : Frag} {r : PR (List (ByteArray × Int × Int × Int × List (Int × Int × ByteArray)) × List ByteArray × Int × List (Int × Int × ByteArray) × List ByteArray × Int) (Int × Int)} (h : check_checker_exp.g Rc k a0_0 a0_1 a1002_0 a1002_1 a1002_2 a1002_3 a1002_4 a1002_5 a1002_6 a1002_7 a1_0 a1_1 a1_2 a1_3 a1_4 a2 = some r) (R_a0_0 : OwnR rs42 42 H_a0_0 (.slice A_a0_0 a0_0.length c_a0_0) a0_0) (R_a0_1 : OwnT encS 9 1 H_a0_1 (.slice A_a0_1 a0_1.length c_a0_1) a0_1) (R_a1002_4 : OwnT e53 53 3 H_a1002_4 (.slice A_a1002_4 a1002_4.length c_a1002_4) a1002_4) (R_a1002_5 : OwnT encS 9 1 H_a1002_5 (.slice A_a1002_5 a1002_5.length c_a1002_5) a1002_5) (R_a1002_7 : RdT encS 1 H_a1002_7 (.slice A_a1002_7 a1002_7.length c_a1002_7) a1002_7) (R_a1_4 : RdR (rTree 36) H_a1_4 (.slice A_a1_4 a1_4.length c_a1_4) a1_4) (hG : GlP G) : Ct Tryz.prog 40 #[.pointer (some ⟨b0, 0, none⟩), .agg #[.int .i64 a1_0, .string a1_1, .int .i64 a1_2, .int .i64 a1_3, .slice A_a1_4 a1_4.length c_a1_4], .bool a2] [blk b0 (.cells #[.slice A_a0_0 a0_0.length c_a0_0, .slice A_a0_1 a0_1.length c_a0_1, .pointer (some ⟨b1002_, 0, none⟩)] 65 (0, 0)), H_a0_0, H_a0_1, blk b1002_ (.cells #[.string a1002_0, .int .i64 a1002_1, .int .i64 a1002_2, .int .i64 a1002_3, .slice A_a1002_4 a1002_4.length c_a1002_4, .slice A_a1002_5 a1002_5.length c_a1002_5, .int .i64 a1002_6, .slice A_a1002_7 a1002_7.length c_a1002_7] 63 (0, 0)), H_a1002_4, H_a1002_5] [H_a1002_7, H_a1_4, G] (PR.Post failC (fun (r : List (ByteArray × Int × Int × Int × List (Int × Int × ByteArray)) × List ByteArray × Int × List (Int × Int × ByteArray) × List ByteArray × Int) e l1 => ∃ (H0_ : Frag) (A0_ : Option Addr) (c0_ : Nat) (H1_ : Frag) (A1_ : Option Addr) (c1_ : Nat) (H2_ : Frag) (A2_ : Option Addr) (c2_ : Nat) (H3_ : Frag) (A3_ : Option Addr) (c3_ : Nat), OwnR rs42 42 H0_ (.slice A0_ r.1.length c0_) r.1 ∧ OwnT encS 9 1 H1_ (.slice A1_ r.2.1.length c1_) r.2.1 ∧ OwnT e53 53 3 H2_ (.slice A2_ r.2.2.2.1.length c2_) r.2.2.2.1 ∧ OwnT encS 9 1 H3_ (.slice A3_ r.2.2.2.2.1.length c3_) r.2.2.2.2.1 ∧ e = .returned (.tuple #[]) ∧ l1 = [blk b0 (.cells #[.slice A0_ r.1.length c0_, .slice A1_ r.2.1.length c1_, .pointer (some ⟨b1002_, 0, none⟩)] 65 (0, 0)), H0_, H1_, blk b1002_ (.cells #[.string a1002_0, .int .i64 a1002_1, .int .i64 a1002_2, .int .i64 r.2.2.1, .slice A2_ r.2.2.2.1.length c2_, .slice A3_ r.2.2.2.2.1.length c3_, .int .i64 r.2.2.2.2.2, .slice A_a1002_7 a1002_7.length c_a1002_7] 63 (0, 0)), H2_, H3_]) r) := by
 refine ct_enter (args := [.pointer (some ⟨b0, 0, none⟩), .agg #[.int .i64 a1_0, .string a1_1, .int .i64 a1_2, .int .i64 a1_3, .slice A_a1_4 a1_4.length c_a1_4], .bool a2]) Tryz.func40 rfl (Nat.le_of_ble_eq_true rfl) ?_
 intro A X hh_
 obtain ⟨hm_H_a1002_7, hm_H_a1_4, hm_G, _⟩ := hh_
 unfold check_checker_exp.g at h
 refine K.eq (env' := [(0, .pointer (some ⟨b0, 0, none⟩)), (1, .agg #[.int .i64 a1_0, .string a1_1, .int .i64 a1_2, .int .i64 a1_3, .slice A_a1_4 a1_4.length c_a1_4]), (2, .bool a2)]) (l' := blk b0 (.cells #[.slice A_a0_0 a0_0.length c_a0_0, .slice A_a0_1 a0_1.length c_a0_1, .pointer (some ⟨b1002_, 0, none⟩)] 65 (0, 0)) :: H_a0_0 :: H_a0_1 :: blk b1002_ (.cells #[.string a1002_0, .int .i64 a1002_1, .int .i64 a1002_2, .int .i64 a1002_3, .slice A_a1002_4 a1002_4.length c_a1002_4, .slice A_a1002_5 a1002_5.length c_a1002_5, .int .i64 a1002_6, .slice A_a1002_7 a1002_7.length c_a1002_7] 63 (0, 0)) :: H_a1002_4 :: H_a1002_5 :: X) rfl rfl ?_
 refine k_seq ?_
 refine k_region ?_
 refine kl_new (.cells #[.int .i64 a1_0, .string a1_1, .int .i64 a1_2, .int .i64 a1_3, .slice A_a1_4 a1_4.length c_a1_4] 36 (0, 0)) (fun b => .pointer (some ⟨b, 0, none⟩)) (by kernel_rfl) (by kernel_rfl) (fun _ => by kernel_rfl) fun b1 => ?_
 refine k_nil ?_
 refine k_then ?_
 obtain ⟨J12, hJ12, h⟩ := joinSplit h
 refine k_cut (τ := (List ByteArray) × (List (Int × Int × ByteArray)) × Frag × (Option Addr) × Nat × Frag × (Option Addr) × Nat) (fun t => [(0, .pointer (some ⟨b0, 0, none⟩)), (4, .pointer (some ⟨b1, 0, none⟩))]) (fun t => blk b1 (.cells #[.int .i64 a1_0, .string a1_1, .int .i64 a1_2, .int .i64 a1_3, .slice A_a1_4 a1_4.length c_a1_4] 36 (0, 0)) :: blk b0 (.cells #[.slice A_a0_0 a0_0.length c_a0_0, .slice t.2.2.2.1 t.1.length t.2.2.2.2.1, .pointer (some ⟨b1002_, 0, none⟩)] 65 (0, 0)) :: H_a0_0 :: blk b1002_ (.cells #[.string a1002_0, .int .i64 a1002_1, .int .i64 a1002_2, .int .i64 a1002_3, .slice t.2.2.2.2.2.2.1 t.2.1.length t.2.2.2.2.2.2.2, .slice A_a1002_5 a1002_5.length c_a1002_5, .int .i64 a1002_6, .slice A_a1002_7 a1002_7.length c_a1002_7] 63 (0, 0)) :: H_a1002_5 :: t.2.2.1 :: t.2.2.2.2.2.1 :: X) (fun t => J12 t.1 t.2.1 = some r ∧ OwnT encS 9 1 t.2.2.1 (.slice t.2.2.2.1 t.1.length t.2.2.2.2.1) t.1 ∧ OwnT e53 53 3 t.2.2.2.2.2.1 (.slice t.2.2.2.2.2.2.1 t.2.1.length t.2.2.2.2.2.2.2) t.2.1) ?_ ?_
 ·rintro ⟨l2, l7, h3, A4, k5, h8, A9, k10⟩ ⟨h, o6, o11⟩
  subst hJ12
  refine k_region ?_
  refine kl_steps 2 [(90, .pointer (some ⟨b0, 0, none⟩)), (91, .pointer (some ⟨b1, 4, none⟩))] (by kernel_rfl) ?_
  refine kl_load (v := .slice A_a1_4 a1_4.length c_a1_4) [.val (.slice A_a1_4 a1_4.length c_a1_4)] [.ld ⟨b1, 4, none⟩ (.slice A_a1_4 a1_4.length c_a1_4)] (by kernel_rfl) (by kernel_rfl) (by kernel_rfl) ⟨⟨0, _, _, _, rfl, rfl, rfl⟩, trivial⟩ ?_
  refine K.drop ?_
  refine K.mv3 ?_
  refine K.mvN [_, _, _, _, _] _ _ ?_
  refine K.mv4 ?_
  refine K.mvN [_, _, _, _, _] _ _ ?_
  refine K.mvN [_, _, _, _, _] _ _ ?_
  refine K.mvN [_, _, _, _, _] _ _ ?_
  rcases prBind h with ⟨i14, hr13, rfl⟩ | ⟨r13, hr13, h⟩
  ·refine kl_call (X) (by kernel_rfl) (by kernel_rfl) (by kernel_rfl) (hR.check_checker_nodes (b0 := b0) (b1002_ := b1002_) hr13 R_a0_0 o6 o11 R_a1002_5 R_a1002_7 R_a1_4 hG) rfl ⟨hm_H_a1002_7, hm_H_a1_4, hm_G, trivial⟩ ?_
   rintro _ _ ⟨rfl, rfl⟩
   refine nx_pan ?_
   refine k_panicked [] ?_
   exact k_end PR.badI
  refine kl_call (X) (by kernel_rfl) (by kernel_rfl) (by kernel_rfl) (hR.check_checker_nodes (b0 := b0) (b1002_ := b1002_) hr13 R_a0_0 o6 o11 R_a1002_5 R_a1002_7 R_a1_4 hG) rfl ⟨hm_H_a1002_7, hm_H_a1_4, hm_G, trivial⟩ ?_
  rintro _ _ ⟨h15, A16, k17, h19, A20, k21, h23, A24, k25, h27, A28, k29, o18, o22, o26, o30, rfl, rfl⟩
  refine nx_ret ?_
  refine k_nil ?_
  refine k_fall ?_
  obtain rfl := Option.some.inj h
  refine k_done (v := .tuple #[]) [] [] [blk b0 (.cells #[.slice A16 r13.1.length k17, .slice A20 r13.2.1.length k21, .pointer (some ⟨b1002_, 0, none⟩)] 65 (0, 0)), h15, h19, blk b1002_ (.cells #[.string a1002_0, .int .i64 a1002_1, .int .i64 a1002_2, .int .i64 r13.2.2.1, .slice A24 r13.2.2.2.1.length k25, .slice A28 r13.2.2.2.2.1.length k29, .int .i64 r13.2.2.2.2.2, .slice A_a1002_7 a1002_7.length c_a1002_7] 63 (0, 0)), h23, h27] (by kernel_rfl) (by kernel_rfl) trivial ?_
  exact k_end (PR.okI ⟨h15, A16, k17, h19, A20, k21, h23, A24, k25, h27, A28, k29, o18, o22, o26, o30, rfl, rfl⟩)
 ·skip
  refine k_seq ?_
  refine k_region ?_
  refine kl_steps 1 [(0, .pointer (some ⟨b0, 0, none⟩)), (2, .bool a2), (4, .pointer (some ⟨b1, 0, none⟩)), (8, .pointer (some ⟨b1, 0, none⟩))] (by kernel_rfl) ?_
  refine kl_load (v := .int .i64 a1_0) [.val (.int .i64 a1_0)] [.ld ⟨b1, 0, none⟩ (.int .i64 a1_0)] (by kernel_rfl) (by kernel_rfl) (by kernel_rfl) ⟨⟨0, _, _, _, rfl, rfl, rfl⟩, trivial⟩ ?_
  refine k_nil ?_
  refine k_then ?_
  refine k_block ?_
  refine k_seq ?_
  refine k_region ?_
  refine kl_steps 2 [(0, .pointer (some ⟨b0, 0, none⟩)), (2, .bool a2), (4, .pointer (some ⟨b1, 0, none⟩)), (9, .int .i64 a1_0), (10, .bool (a1_0 == (8 : Int)))] (by kernel_rfl) ?_
  refine k_nil ?_
  refine k_then ?_
  refine k_cond (t := (a1_0 == (8 : Int))) (by kernel_rfl) (fun t31 => ?_) (fun t31 => ?_)
  ·have h := condT h t31
   refine k_region ?_
   refine kl_load (v := .agg #[.int .i64 a1_0, .string a1_1, .int .i64 a1_2, .int .i64 a1_3, .slice A_a1_4 a1_4.length c_a1_4]) [.val (.int .i64 a1_0), .val (.string a1_1), .val (.int .i64 a1_2), .val (.int .i64 a1_3), .val (.slice A_a1_4 a1_4.length c_a1_4)] [.ld ⟨b1, 0, none⟩ (.int .i64 a1_0), .ld ⟨b1, 1, none⟩ (.string a1_1), .ld ⟨b1, 2, none⟩ (.int .i64 a1_2), .ld ⟨b1, 3, none⟩ (.int .i64 a1_3), .ld ⟨b1, 4, none⟩ (.slice A_a1_4 a1_4.length c_a1_4)] (by kernel_rfl) (by kernel_rfl) (by kernel_rfl) ⟨⟨0, _, _, _, rfl, rfl, rfl⟩, ⟨0, _, _, _, rfl, rfl, rfl⟩, ⟨0, _, _, _, rfl, rfl, rfl⟩, ⟨0, _, _, _, rfl, rfl, rfl⟩, ⟨0, _, _, _, rfl, rfl, rfl⟩, trivial⟩ ?_
   refine kl_steps 1 [(0, .pointer (some ⟨b0, 0, none⟩)), (4, .pointer (some ⟨b1, 0, none⟩)), (12, .agg #[.int .i64 a1_0, .string a1_1, .int .i64 a1_2, .int .i64 a1_3, .slice A_a1_4 a1_4.length c_a1_4]), (13, .pointer (some ⟨b1, 4, none⟩))] (by kernel_rfl) ?_
   refine kl_load (v := .slice A_a1_4 a1_4.length c_a1_4) [.val (.slice A_a1_4 a1_4.length c_a1_4)] [.ld ⟨b1, 4, none⟩ (.slice A_a1_4 a1_4.length c_a1_4)] (by kernel_rfl) (by kernel_rfl) (by kernel_rfl) ⟨⟨0, _, _, _, rfl, rfl, rfl⟩, trivial⟩ ?_
   refine kl_steps 2 [(0, .pointer (some ⟨b0, 0, none⟩)), (4, .pointer (some ⟨b1, 0, none⟩)), (12, .agg #[.int .i64 a1_0, .string a1_1, .int .i64 a1_2, .int .i64 a1_3, .slice A_a1_4 a1_4.length c_a1_4]), (16, .int .i64 (IntKind.i64.wrap (((a1_4.length : Nat) : Int) - (1 : Int))))] (by kernel_rfl) ?_
   rcases prBind h with ⟨i33, hr32, rfl⟩ | ⟨r32, hr32, h⟩
   ·refine kl_call (blk b1 (.cells #[.int .i64 a1_0, .string a1_1, .int .i64 a1_2, .int .i64 a1_3, .slice A_a1_4 a1_4.length c_a1_4] 36 (0, 0)) :: blk b0 (.cells #[.slice A_a0_0 a0_0.length c_a0_0, .slice A_a0_1 a0_1.length c_a0_1, .pointer (some ⟨b1002_, 0, none⟩)] 65 (0, 0)) :: H_a0_0 :: H_a0_1 :: blk b1002_ (.cells #[.string a1002_0, .int .i64 a1002_1, .int .i64 a1002_2, .int .i64 a1002_3, .slice A_a1002_4 a1002_4.length c_a1002_4, .slice A_a1002_5 a1002_5.length c_a1002_5, .int .i64 a1002_6, .slice A_a1002_7 a1002_7.length c_a1002_7] 63 (0, 0)) :: H_a1002_4 :: H_a1002_5 :: X) (by kernel_rfl) (by kernel_rfl) (by kernel_rfl) (check_few.ok hr32 R_a1_4) rfl ⟨(.tail _ (.tail _ (.tail _ (.tail _ (.tail _ (.tail _ (.tail _ hm_H_a1_4))))))), trivial⟩ ?_
    rintro _ _ ⟨rfl, rfl⟩
    refine nx_pan ?_
    refine k_blk_panic ?_
    refine k_then_panic ?_
    refine k_panicked [] ?_
    refine K.drop ?_
    refine K.drop ?_
    refine K.drop ?_
    refine K.drop ?_
    refine K.drop ?_
    refine K.drop ?_
    refine K.drop ?_
    exact k_end PR.badI
   refine kl_call (blk b1 (.cells #[.int .i64 a1_0, .string a1_1, .int .i64 a1_2, .int .i64 a1_3, .slice A_a1_4 a1_4.length c_a1_4] 36 (0, 0)) :: blk b0 (.cells #[.slice A_a0_0 a0_0.length c_a0_0, .slice A_a0_1 a0_1.length c_a0_1, .pointer (some ⟨b1002_, 0, none⟩)] 65 (0, 0)) :: H_a0_0 :: H_a0_1 :: blk b1002_ (.cells #[.string a1002_0, .int .i64 a1002_1, .int .i64 a1002_2, .int .i64 a1002_3, .slice A_a1002_4 a1002_4.length c_a1002_4, .slice A_a1002_5 a1002_5.length c_a1002_5, .int .i64 a1002_6, .slice A_a1002_7 a1002_7.length c_a1002_7] 63 (0, 0)) :: H_a1002_4 :: H_a1002_5 :: X) (by kernel_rfl) (by kernel_rfl) (by kernel_rfl) (check_few.ok hr32 R_a1_4) rfl ⟨(.tail _ (.tail _ (.tail _ (.tail _ (.tail _ (.tail _ (.tail _ hm_H_a1_4))))))), trivial⟩ ?_
   rintro _ _ ⟨rfl, rfl⟩
   refine nx_ret0 ?_
   refine k_nil ?_
   refine k_blk ?_
   refine k_then ?_
   refine K.mvN [_, _, _, _, _] _ _ ?_
   refine K.mv4 ?_
   refine K.mvN [_, _, _, _, _, _] _ _ ?_
   refine K.mvN [_, _, _, _, _, _] _ _ ?_
   refine K.mvN [_, _, _, _, _, _] _ _ ?_
   refine K.mvN [_, _, _, _, _, _] _ _ ?_
   refine K.mvN [_, _, _, _, _, _] _ _ ?_
   exact k_meet (a0_1, a1002_4, H_a0_1, A_a0_1, c_a0_1, H_a1002_4, A_a1002_4, c_a1002_4) ⟨h, R_a0_1, R_a1002_4⟩ ⟨rfl, rfl, trivial⟩ rfl
  ·have h := condF h t31
   refine k_seq ?_
   refine k_region ?_
   refine kl_steps 2 [(0, .pointer (some ⟨b0, 0, none⟩)), (2, .bool a2), (4, .pointer (some ⟨b1, 0, none⟩)), (9, .int .i64 a1_0), (18, .bool (a1_0 == (30 : Int)))] (by kernel_rfl) ?_
   refine k_nil ?_
   refine k_then ?_
   refine k_cond (t := (a1_0 == (30 : Int))) (by kernel_rfl) (fun t34 => ?_) (fun t34 => ?_)
   ·have h := condT h t34
    refine k_region ?_
    refine kl_load (v := .agg #[.int .i64 a1_0, .string a1_1, .int .i64 a1_2, .int .i64 a1_3, .slice A_a1_4 a1_4.length c_a1_4]) [.val (.int .i64 a1_0), .val (.string a1_1), .val (.int .i64 a1_2), .val (.int .i64 a1_3), .val (.slice A_a1_4 a1_4.length c_a1_4)] [.ld ⟨b1, 0, none⟩ (.int .i64 a1_0), .ld ⟨b1, 1, none⟩ (.string a1_1), .ld ⟨b1, 2, none⟩ (.int .i64 a1_2), .ld ⟨b1, 3, none⟩ (.int .i64 a1_3), .ld ⟨b1, 4, none⟩ (.slice A_a1_4 a1_4.length c_a1_4)] (by kernel_rfl) (by kernel_rfl) (by kernel_rfl) ⟨⟨0, _, _, _, rfl, rfl, rfl⟩, ⟨0, _, _, _, rfl, rfl, rfl⟩, ⟨0, _, _, _, rfl, rfl, rfl⟩, ⟨0, _, _, _, rfl, rfl, rfl⟩, ⟨0, _, _, _, rfl, rfl, rfl⟩, trivial⟩ ?_
    refine kl_steps 1 [(0, .pointer (some ⟨b0, 0, none⟩)), (4, .pointer (some ⟨b1, 0, none⟩)), (20, .agg #[.int .i64 a1_0, .string a1_1, .int .i64 a1_2, .int .i64 a1_3, .slice A_a1_4 a1_4.length c_a1_4]), (21, .pointer (some ⟨b1, 4, none⟩))] (by kernel_rfl) ?_
    refine kl_load (v := .slice A_a1_4 a1_4.length c_a1_4) [.val (.slice A_a1_4 a1_4.length c_a1_4)] [.ld ⟨b1, 4, none⟩ (.slice A_a1_4 a1_4.length c_a1_4)] (by kernel_rfl) (by kernel_rfl) (by kernel_rfl) ⟨⟨0, _, _, _, rfl, rfl, rfl⟩, trivial⟩ ?_
    refine kl_steps 1 [(0, .pointer (some ⟨b0, 0, none⟩)), (4, .pointer (some ⟨b1, 0, none⟩)), (20, .agg #[.int .i64 a1_0, .string a1_1, .int .i64 a1_2, .int .i64 a1_3, .slice A_a1_4 a1_4.length c_a1_4]), (23, .int .i64 ((a1_4.length : Nat) : Int))] (by kernel_rfl) ?_
    rcases prBind h with ⟨i36, hr35, rfl⟩ | ⟨r35, hr35, h⟩
    ·refine kl_call (blk b1 (.cells #[.int .i64 a1_0, .string a1_1, .int .i64 a1_2, .int .i64 a1_3, .slice A_a1_4 a1_4.length c_a1_4] 36 (0, 0)) :: blk b0 (.cells #[.slice A_a0_0 a0_0.length c_a0_0, .slice A_a0_1 a0_1.length c_a0_1, .pointer (some ⟨b1002_, 0, none⟩)] 65 (0, 0)) :: H_a0_0 :: H_a0_1 :: blk b1002_ (.cells #[.string a1002_0, .int .i64 a1002_1, .int .i64 a1002_2, .int .i64 a1002_3, .slice A_a1002_4 a1002_4.length c_a1002_4, .slice A_a1002_5 a1002_5.length c_a1002_5, .int .i64 a1002_6, .slice A_a1002_7 a1002_7.length c_a1002_7] 63 (0, 0)) :: H_a1002_4 :: H_a1002_5 :: X) (by kernel_rfl) (by kernel_rfl) (by kernel_rfl) (check_few.ok hr35 R_a1_4) rfl ⟨(.tail _ (.tail _ (.tail _ (.tail _ (.tail _ (.tail _ (.tail _ hm_H_a1_4))))))), trivial⟩ ?_
     rintro _ _ ⟨rfl, rfl⟩
     refine nx_pan ?_
     refine k_blk_panic ?_
     refine k_then_panic ?_
     refine k_panicked [] ?_
     refine K.drop ?_
     refine K.drop ?_
     refine K.drop ?_
     refine K.drop ?_
     refine K.drop ?_
     refine K.drop ?_
     refine K.drop ?_
     exact k_end PR.badI
    refine kl_call (blk b1 (.cells #[.int .i64 a1_0, .string a1_1, .int .i64 a1_2, .int .i64 a1_3, .slice A_a1_4 a1_4.length c_a1_4] 36 (0, 0)) :: blk b0 (.cells #[.slice A_a0_0 a0_0.length c_a0_0, .slice A_a0_1 a0_1.length c_a0_1, .pointer (some ⟨b1002_, 0, none⟩)] 65 (0, 0)) :: H_a0_0 :: H_a0_1 :: blk b1002_ (.cells #[.string a1002_0, .int .i64 a1002_1, .int .i64 a1002_2, .int .i64 a1002_3, .slice A_a1002_4 a1002_4.length c_a1002_4, .slice A_a1002_5 a1002_5.length c_a1002_5, .int .i64 a1002_6, .slice A_a1002_7 a1002_7.length c_a1002_7] 63 (0, 0)) :: H_a1002_4 :: H_a1002_5 :: X) (by kernel_rfl) (by kernel_rfl) (by kernel_rfl) (check_few.ok hr35 R_a1_4) rfl ⟨(.tail _ (.tail _ (.tail _ (.tail _ (.tail _ (.tail _ (.tail _ hm_H_a1_4))))))), trivial⟩ ?_
    rintro _ _ ⟨rfl, rfl⟩
    refine nx_ret0 ?_
    refine k_nil ?_
    refine k_blk ?_
    refine k_then ?_
    refine K.mvN [_, _, _, _, _] _ _ ?_
    refine K.mv4 ?_
    refine K.mvN [_, _, _, _, _, _] _ _ ?_
    refine K.mvN [_, _, _, _, _, _] _ _ ?_
    refine K.mvN [_, _, _, _, _, _] _ _ ?_
    refine K.mvN [_, _, _, _, _, _] _ _ ?_
    refine K.mvN [_, _, _, _, _, _] _ _ ?_
    exact k_meet (a0_1, a1002_4, H_a0_1, A_a0_1, c_a0_1, H_a1002_4, A_a1002_4, c_a1002_4) ⟨h, R_a0_1, R_a1002_4⟩ ⟨rfl, rfl, trivial⟩ rfl
   ·have h := condF h t34
    refine k_seq ?_
    refine k_region ?_
    refine kl_steps 2 [(0, .pointer (some ⟨b0, 0, none⟩)), (2, .bool a2), (4, .pointer (some ⟨b1, 0, none⟩)), (9, .int .i64 a1_0), (25, .bool (a1_0 == (12 : Int)))] (by kernel_rfl) ?_
    refine k_nil ?_
    refine k_then ?_
    refine k_cond (t := (a1_0 == (12 : Int))) (by kernel_rfl) (fun t37 => ?_) (fun t37 => ?_)
    ·have h := condT h t37
     refine k_region ?_
     refine kl_load (v := .agg #[.int .i64 a1_0, .string a1_1, .int .i64 a1_2, .int .i64 a1_3, .slice A_a1_4 a1_4.length c_a1_4]) [.val (.int .i64 a1_0), .val (.string a1_1), .val (.int .i64 a1_2), .val (.int .i64 a1_3), .val (.slice A_a1_4 a1_4.length c_a1_4)] [.ld ⟨b1, 0, none⟩ (.int .i64 a1_0), .ld ⟨b1, 1, none⟩ (.string a1_1), .ld ⟨b1, 2, none⟩ (.int .i64 a1_2), .ld ⟨b1, 3, none⟩ (.int .i64 a1_3), .ld ⟨b1, 4, none⟩ (.slice A_a1_4 a1_4.length c_a1_4)] (by kernel_rfl) (by kernel_rfl) (by kernel_rfl) ⟨⟨0, _, _, _, rfl, rfl, rfl⟩, ⟨0, _, _, _, rfl, rfl, rfl⟩, ⟨0, _, _, _, rfl, rfl, rfl⟩, ⟨0, _, _, _, rfl, rfl, rfl⟩, ⟨0, _, _, _, rfl, rfl, rfl⟩, trivial⟩ ?_
     refine kl_steps 1 [(0, .pointer (some ⟨b0, 0, none⟩)), (4, .pointer (some ⟨b1, 0, none⟩)), (27, .agg #[.int .i64 a1_0, .string a1_1, .int .i64 a1_2, .int .i64 a1_3, .slice A_a1_4 a1_4.length c_a1_4]), (28, .pointer (some ⟨b1, 4, none⟩))] (by kernel_rfl) ?_
     refine kl_load (v := .slice A_a1_4 a1_4.length c_a1_4) [.val (.slice A_a1_4 a1_4.length c_a1_4)] [.ld ⟨b1, 4, none⟩ (.slice A_a1_4 a1_4.length c_a1_4)] (by kernel_rfl) (by kernel_rfl) (by kernel_rfl) ⟨⟨0, _, _, _, rfl, rfl, rfl⟩, trivial⟩ ?_
     refine kl_steps 1 [(0, .pointer (some ⟨b0, 0, none⟩)), (4, .pointer (some ⟨b1, 0, none⟩)), (27, .agg #[.int .i64 a1_0, .string a1_1, .int .i64 a1_2, .int .i64 a1_3, .slice A_a1_4 a1_4.length c_a1_4]), (30, .int .i64 ((a1_4.length : Nat) : Int))] (by kernel_rfl) ?_
     rcases prBind h with ⟨i39, hr38, rfl⟩ | ⟨r38, hr38, h⟩
     ·refine kl_call (blk b1 (.cells #[.int .i64 a1_0, .string a1_1, .int .i64 a1_2, .int .i64 a1_3, .slice A_a1_4 a1_4.length c_a1_4] 36 (0, 0)) :: blk b0 (.cells #[.slice A_a0_0 a0_0.length c_a0_0, .slice A_a0_1 a0_1.length c_a0_1, .pointer (some ⟨b1002_, 0, none⟩)] 65 (0, 0)) :: H_a0_0 :: H_a0_1 :: blk b1002_ (.cells #[.string a1002_0, .int .i64 a1002_1, .int .i64 a1002_2, .int .i64 a1002_3, .slice A_a1002_4 a1002_4.length c_a1002_4, .slice A_a1002_5 a1002_5.length c_a1002_5, .int .i64 a1002_6, .slice A_a1002_7 a1002_7.length c_a1002_7] 63 (0, 0)) :: H_a1002_4 :: H_a1002_5 :: X) (by kernel_rfl) (by kernel_rfl) (by kernel_rfl) (check_few.ok hr38 R_a1_4) rfl ⟨(.tail _ (.tail _ (.tail _ (.tail _ (.tail _ (.tail _ (.tail _ hm_H_a1_4))))))), trivial⟩ ?_
      rintro _ _ ⟨rfl, rfl⟩
      refine nx_pan ?_
      refine k_blk_panic ?_
      refine k_then_panic ?_
      refine k_panicked [] ?_
      refine K.drop ?_
      refine K.drop ?_
      refine K.drop ?_
      refine K.drop ?_
      refine K.drop ?_
      refine K.drop ?_
      refine K.drop ?_
      exact k_end PR.badI
     refine kl_call (blk b1 (.cells #[.int .i64 a1_0, .string a1_1, .int .i64 a1_2, .int .i64 a1_3, .slice A_a1_4 a1_4.length c_a1_4] 36 (0, 0)) :: blk b0 (.cells #[.slice A_a0_0 a0_0.length c_a0_0, .slice A_a0_1 a0_1.length c_a0_1, .pointer (some ⟨b1002_, 0, none⟩)] 65 (0, 0)) :: H_a0_0 :: H_a0_1 :: blk b1002_ (.cells #[.string a1002_0, .int .i64 a1002_1, .int .i64 a1002_2, .int .i64 a1002_3, .slice A_a1002_4 a1002_4.length c_a1002_4, .slice A_a1002_5 a1002_5.length c_a1002_5, .int .i64 a1002_6, .slice A_a1002_7 a1002_7.length c_a1002_7] 63 (0, 0)) :: H_a1002_4 :: H_a1002_5 :: X) (by kernel_rfl) (by kernel_rfl) (by kernel_rfl) (check_few.ok hr38 R_a1_4) rfl ⟨(.tail _ (.tail _ (.tail _ (.tail _ (.tail _ (.tail _ (.tail _ hm_H_a1_4))))))), trivial⟩ ?_
     rintro _ _ ⟨rfl, rfl⟩
     refine nx_ret0 ?_
     refine k_nil ?_
     refine k_blk ?_
     refine k_then ?_
     refine K.mvN [_, _, _, _, _] _ _ ?_
     refine K.mv4 ?_
     refine K.mvN [_, _, _, _, _, _] _ _ ?_
     refine K.mvN [_, _, _, _, _, _] _ _ ?_
     refine K.mvN [_, _, _, _, _, _] _ _ ?_
     refine K.mvN [_, _, _, _, _, _] _ _ ?_
     refine K.mvN [_, _, _, _, _, _] _ _ ?_
     exact k_meet (a0_1, a1002_4, H_a0_1, A_a0_1, c_a0_1, H_a1002_4, A_a1002_4, c_a1002_4) ⟨h, R_a0_1, R_a1002_4⟩ ⟨rfl, rfl, trivial⟩ rfl
    ·have h := condF h t37
     refine k_seq ?_
     refine k_region ?_
     refine kl_steps 2 [(0, .pointer (some ⟨b0, 0, none⟩)), (2, .bool a2), (4, .pointer (some ⟨b1, 0, none⟩)), (9, .int .i64 a1_0), (32, .bool (a1_0 == (4 : Int)))] (by kernel_rfl) ?_
     refine k_nil ?_
     refine k_then ?_
     refine k_cond (t := (a1_0 == (4 : Int))) (by kernel_rfl) (fun t40 => ?_) (fun t40 => ?_)
     ·have h := condT h t40
      refine k_region ?_
      refine kl_steps 1 [(0, .pointer (some ⟨b0, 0, none⟩)), (4, .pointer (some ⟨b1, 0, none⟩)), (34, .pointer (some ⟨b0, 0, none⟩))] (by kernel_rfl) ?_
      refine kl_load (v := .agg #[.int .i64 a1_0, .string a1_1, .int .i64 a1_2, .int .i64 a1_3, .slice A_a1_4 a1_4.length c_a1_4]) [.val (.int .i64 a1_0), .val (.string a1_1), .val (.int .i64 a1_2), .val (.int .i64 a1_3), .val (.slice A_a1_4 a1_4.length c_a1_4)] [.ld ⟨b1, 0, none⟩ (.int .i64 a1_0), .ld ⟨b1, 1, none⟩ (.string a1_1), .ld ⟨b1, 2, none⟩ (.int .i64 a1_2), .ld ⟨b1, 3, none⟩ (.int .i64 a1_3), .ld ⟨b1, 4, none⟩ (.slice A_a1_4 a1_4.length c_a1_4)] (by kernel_rfl) (by kernel_rfl) (by kernel_rfl) ⟨⟨0, _, _, _, rfl, rfl, rfl⟩, ⟨0, _, _, _, rfl, rfl, rfl⟩, ⟨0, _, _, _, rfl, rfl, rfl⟩, ⟨0, _, _, _, rfl, rfl, rfl⟩, ⟨0, _, _, _, rfl, rfl, rfl⟩, trivial⟩ ?_
      refine kl_steps 1 [(0, .pointer (some ⟨b0, 0, none⟩)), (4, .pointer (some ⟨b1, 0, none⟩)), (34, .pointer (some ⟨b0, 0, none⟩)), (35, .agg #[.int .i64 a1_0, .string a1_1, .int .i64 a1_2, .int .i64 a1_3, .slice A_a1_4 a1_4.length c_a1_4]), (36, .pointer (some ⟨b1, 2, none⟩))] (by kernel_rfl) ?_
      refine kl_load (v := .int .i64 a1_2) [.val (.int .i64 a1_2)] [.ld ⟨b1, 2, none⟩ (.int .i64 a1_2)] (by kernel_rfl) (by kernel_rfl) (by kernel_rfl) ⟨⟨0, _, _, _, rfl, rfl, rfl⟩, trivial⟩ ?_
      refine kl_steps 1 [(0, .pointer (some ⟨b0, 0, none⟩)), (4, .pointer (some ⟨b1, 0, none⟩)), (34, .pointer (some ⟨b0, 0, none⟩)), (35, .agg #[.int .i64 a1_0, .string a1_1, .int .i64 a1_2, .int .i64 a1_3, .slice A_a1_4 a1_4.length c_a1_4]), (38, .agg #[.int .i64 (2 : Int), .int .i64 a1_2, .string (⟨#[]⟩ : ByteArray)])] (by kernel_rfl) ?_
      refine K.mvN [_, _, _, _, _] _ _ ?_
      refine K.mvN [_, _, _, _, _] _ _ ?_
      refine K.mv3 ?_
      rcases prBind h with ⟨i42, hr41, rfl⟩ | ⟨r41, hr41, h⟩
      ·refine kl_call (blk b1 (.cells #[.int .i64 a1_0, .string a1_1, .int .i64 a1_2, .int .i64 a1_3, .slice A_a1_4 a1_4.length c_a1_4] 36 (0, 0)) :: H_a0_0 :: H_a0_1 :: H_a1002_5 :: X) (by kernel_rfl) (by kernel_rfl) (by kernel_rfl) (check_checker_constant.ok (b0 := b0) (b1002_ := b1002_) hr41 (OwnR.rd R_a0_0) (OwnT.rd R_a0_1) R_a1002_4 (OwnT.rd R_a1002_5) R_a1002_7 R_a1_4) rfl ⟨(.tail _ (.head _)), (.tail _ (.tail _ (.head _))), (.tail _ (.tail _ (.tail _ (.head _)))), (.tail _ (.tail _ (.tail _ (.tail _ hm_H_a1002_7)))), (.tail _ (.tail _ (.tail _ (.tail _ hm_H_a1_4)))), trivial⟩ ?_
       rintro _ _ ⟨rfl, rfl⟩
       refine nx_pan ?_
       refine k_blk_panic ?_
       refine k_then_panic ?_
       refine k_panicked [] ?_
       refine K.drop ?_
       refine K.drop ?_
       refine K.drop ?_
       refine K.drop ?_
       exact k_end PR.badI
      refine kl_call (blk b1 (.cells #[.int .i64 a1_0, .string a1_1, .int .i64 a1_2, .int .i64 a1_3, .slice A_a1_4 a1_4.length c_a1_4] 36 (0, 0)) :: H_a0_0 :: H_a0_1 :: H_a1002_5 :: X) (by kernel_rfl) (by kernel_rfl) (by kernel_rfl) (check_checker_constant.ok (b0 := b0) (b1002_ := b1002_) hr41 (OwnR.rd R_a0_0) (OwnT.rd R_a0_1) R_a1002_4 (OwnT.rd R_a1002_5) R_a1002_7 R_a1_4) rfl ⟨(.tail _ (.head _)), (.tail _ (.tail _ (.head _))), (.tail _ (.tail _ (.tail _ (.head _)))), (.tail _ (.tail _ (.tail _ (.tail _ hm_H_a1002_7)))), (.tail _ (.tail _ (.tail _ (.tail _ hm_H_a1_4)))), trivial⟩ ?_
      rintro _ _ ⟨h43, A44, k45, o46, rfl, rfl⟩
      refine nx_ret3 ?_
      refine k_nil ?_
      refine k_blk ?_
      refine k_then ?_
      refine K.mv2 ?_
      refine K.mvN [_, _, _, _, _] _ _ ?_
      refine K.mvN [_, _, _, _, _, _] _ _ ?_
      refine K.mv4 ?_
      refine K.mvN [_, _, _, _, _, _] _ _ ?_
      refine K.mvN [_, _, _, _, _] _ _ ?_
      refine K.mvN [_, _, _, _, _, _] _ _ ?_
      exact k_meet (a0_1, r41, H_a0_1, A_a0_1, c_a0_1, h43, A44, k45) ⟨h, R_a0_1, o46⟩ ⟨rfl, rfl, trivial⟩ rfl
     ·have h := condF h t40
      refine k_seq ?_
      refine k_region ?_
      refine kl_steps 2 [(0, .pointer (some ⟨b0, 0, none⟩)), (2, .bool a2), (4, .pointer (some ⟨b1, 0, none⟩)), (9, .int .i64 a1_0), (40, .bool (a1_0 == (5 : Int)))] (by kernel_rfl) ?_
      refine k_nil ?_
      refine k_then ?_
      refine k_cond (t := (a1_0 == (5 : Int))) (by kernel_rfl) (fun t47 => ?_) (fun t47 => ?_)
      ·have h := condT h t47
       refine k_region ?_
       refine kl_steps 1 [(0, .pointer (some ⟨b0, 0, none⟩)), (4, .pointer (some ⟨b1, 0, none⟩)), (42, .pointer (some ⟨b0, 0, none⟩))] (by kernel_rfl) ?_
       refine kl_load (v := .agg #[.int .i64 a1_0, .string a1_1, .int .i64 a1_2, .int .i64 a1_3, .slice A_a1_4 a1_4.length c_a1_4]) [.val (.int .i64 a1_0), .val (.string a1_1), .val (.int .i64 a1_2), .val (.int .i64 a1_3), .val (.slice A_a1_4 a1_4.length c_a1_4)] [.ld ⟨b1, 0, none⟩ (.int .i64 a1_0), .ld ⟨b1, 1, none⟩ (.string a1_1), .ld ⟨b1, 2, none⟩ (.int .i64 a1_2), .ld ⟨b1, 3, none⟩ (.int .i64 a1_3), .ld ⟨b1, 4, none⟩ (.slice A_a1_4 a1_4.length c_a1_4)] (by kernel_rfl) (by kernel_rfl) (by kernel_rfl) ⟨⟨0, _, _, _, rfl, rfl, rfl⟩, ⟨0, _, _, _, rfl, rfl, rfl⟩, ⟨0, _, _, _, rfl, rfl, rfl⟩, ⟨0, _, _, _, rfl, rfl, rfl⟩, ⟨0, _, _, _, rfl, rfl, rfl⟩, trivial⟩ ?_
       refine kl_steps 1 [(0, .pointer (some ⟨b0, 0, none⟩)), (4, .pointer (some ⟨b1, 0, none⟩)), (42, .pointer (some ⟨b0, 0, none⟩)), (43, .agg #[.int .i64 a1_0, .string a1_1, .int .i64 a1_2, .int .i64 a1_3, .slice A_a1_4 a1_4.length c_a1_4]), (44, .pointer (some ⟨b1, 1, none⟩))] (by kernel_rfl) ?_
       refine kl_load (v := .string a1_1) [.val (.string a1_1)] [.ld ⟨b1, 1, none⟩ (.string a1_1)] (by kernel_rfl) (by kernel_rfl) (by kernel_rfl) ⟨⟨0, _, _, _, rfl, rfl, rfl⟩, trivial⟩ ?_
       refine kl_steps 1 [(0, .pointer (some ⟨b0, 0, none⟩)), (4, .pointer (some ⟨b1, 0, none⟩)), (42, .pointer (some ⟨b0, 0, none⟩)), (43, .agg #[.int .i64 a1_0, .string a1_1, .int .i64 a1_2, .int .i64 a1_3, .slice A_a1_4 a1_4.length c_a1_4]), (46, .agg #[.int .i64 (3 : Int), .int .i64 (0 : Int), .string a1_1])] (by kernel_rfl) ?_
       refine K.mvN [_, _, _, _, _] _ _ ?_
       refine K.mvN [_, _, _, _, _] _ _ ?_
       refine K.mv3 ?_
       rcases prBind h with ⟨i49, hr48, rfl⟩ | ⟨r48, hr48, h⟩
       ·refine kl_call (blk b1 (.cells #[.int .i64 a1_0, .string a1_1, .int .i64 a1_2, .int .i64 a1_3, .slice A_a1_4 a1_4.length c_a1_4] 36 (0, 0)) :: H_a0_0 :: H_a0_1 :: H_a1002_5 :: X) (by kernel_rfl) (by kernel_rfl) (by kernel_rfl) (check_checker_constant.ok (b0 := b0) (b1002_ := b1002_) hr48 (OwnR.rd R_a0_0) (OwnT.rd R_a0_1) R_a1002_4 (OwnT.rd R_a1002_5) R_a1002_7 R_a1_4) rfl ⟨(.tail _ (.head _)), (.tail _ (.tail _ (.head _))), (.tail _ (.tail _ (.tail _ (.head _)))), (.tail _ (.tail _ (.tail _ (.tail _ hm_H_a1002_7)))), (.tail _ (.tail _ (.tail _ (.tail _ hm_H_a1_4)))), trivial⟩ ?_
        rintro _ _ ⟨rfl, rfl⟩
        refine nx_pan ?_
        refine k_blk_panic ?_
        refine k_then_panic ?_
        refine k_panicked [] ?_
        refine K.drop ?_
        refine K.drop ?_
        refine K.drop ?_
        refine K.drop ?_
        exact k_end PR.badI
       refine kl_call (blk b1 (.cells #[.int .i64 a1_0, .string a1_1, .int .i64 a1_2, .int .i64 a1_3, .slice A_a1_4 a1_4.length c_a1_4] 36 (0, 0)) :: H_a0_0 :: H_a0_1 :: H_a1002_5 :: X) (by kernel_rfl) (by kernel_rfl) (by kernel_rfl) (check_checker_constant.ok (b0 := b0) (b1002_ := b1002_) hr48 (OwnR.rd R_a0_0) (OwnT.rd R_a0_1) R_a1002_4 (OwnT.rd R_a1002_5) R_a1002_7 R_a1_4) rfl ⟨(.tail _ (.head _)), (.tail _ (.tail _ (.head _))), (.tail _ (.tail _ (.tail _ (.head _)))), (.tail _ (.tail _ (.tail _ (.tail _ hm_H_a1002_7)))), (.tail _ (.tail _ (.tail _ (.tail _ hm_H_a1_4)))), trivial⟩ ?_
       rintro _ _ ⟨h50, A51, k52, o53, rfl, rfl⟩
       refine nx_ret3 ?_
       refine k_nil ?_
       refine k_blk ?_
       refine k_then ?_
       refine K.mv2 ?_
       refine K.mvN [_, _, _, _, _] _ _ ?_
       refine K.mvN [_, _, _, _, _, _] _ _ ?_
       refine K.mv4 ?_
       refine K.mvN [_, _, _, _, _, _] _ _ ?_
       refine K.mvN [_, _, _, _, _] _ _ ?_
       refine K.mvN [_, _, _, _, _, _] _ _ ?_
       exact k_meet (a0_1, r48, H_a0_1, A_a0_1, c_a0_1, h50, A51, k52) ⟨h, R_a0_1, o53⟩ ⟨rfl, rfl, trivial⟩ rfl
      ·have h := condF h t47
       refine k_seq ?_
       refine k_region ?_
       refine kl_steps 2 [(0, .pointer (some ⟨b0, 0, none⟩)), (2, .bool a2), (4, .pointer (some ⟨b1, 0, none⟩)), (9, .int .i64 a1_0), (48, .bool (a1_0 == (6 : Int)))] (by kernel_rfl) ?_
       refine k_nil ?_
       refine k_then ?_
       refine k_cond (t := (a1_0 == (6 : Int))) (by kernel_rfl) (fun t54 => ?_) (fun t54 => ?_)
       ·have h := condT h t54
        refine k_region ?_
        refine kl_steps 1 [(0, .pointer (some ⟨b0, 0, none⟩)), (4, .pointer (some ⟨b1, 0, none⟩)), (50, .pointer (some ⟨b0, 0, none⟩))] (by kernel_rfl) ?_
        refine kl_load (v := .agg #[.int .i64 a1_0, .string a1_1, .int .i64 a1_2, .int .i64 a1_3, .slice A_a1_4 a1_4.length c_a1_4]) [.val (.int .i64 a1_0), .val (.string a1_1), .val (.int .i64 a1_2), .val (.int .i64 a1_3), .val (.slice A_a1_4 a1_4.length c_a1_4)] [.ld ⟨b1, 0, none⟩ (.int .i64 a1_0), .ld ⟨b1, 1, none⟩ (.string a1_1), .ld ⟨b1, 2, none⟩ (.int .i64 a1_2), .ld ⟨b1, 3, none⟩ (.int .i64 a1_3), .ld ⟨b1, 4, none⟩ (.slice A_a1_4 a1_4.length c_a1_4)] (by kernel_rfl) (by kernel_rfl) (by kernel_rfl) ⟨⟨0, _, _, _, rfl, rfl, rfl⟩, ⟨0, _, _, _, rfl, rfl, rfl⟩, ⟨0, _, _, _, rfl, rfl, rfl⟩, ⟨0, _, _, _, rfl, rfl, rfl⟩, ⟨0, _, _, _, rfl, rfl, rfl⟩, trivial⟩ ?_
        refine K.mv4 ?_
        refine K.mv4 ?_
        refine K.mv3 ?_
        rcases prBind h with ⟨i56, hr55, rfl⟩ | ⟨r55, hr55, h⟩
        ·refine kl_call (blk b1 (.cells #[.int .i64 a1_0, .string a1_1, .int .i64 a1_2, .int .i64 a1_3, .slice A_a1_4 a1_4.length c_a1_4] 36 (0, 0)) :: H_a0_0 :: H_a1002_4 :: H_a1002_5 :: X) (by kernel_rfl) (by kernel_rfl) (by kernel_rfl) (check_checker_name.ok (b0 := b0) (b1002_ := b1002_) hr55 (OwnR.rd R_a0_0) R_a0_1 (OwnT.rd R_a1002_4) (OwnT.rd R_a1002_5) R_a1002_7 R_a1_4) rfl ⟨(.tail _ (.head _)), (.tail _ (.tail _ (.head _))), (.tail _ (.tail _ (.tail _ (.head _)))), (.tail _ (.tail _ (.tail _ (.tail _ hm_H_a1002_7)))), (.tail _ (.tail _ (.tail _ (.tail _ hm_H_a1_4)))), trivial⟩ ?_
         rintro _ _ ⟨rfl, rfl⟩
         refine nx_pan ?_
         refine k_blk_panic ?_
         refine k_then_panic ?_
         refine k_panicked [] ?_
         refine K.drop ?_
         refine K.drop ?_
         refine K.drop ?_
         refine K.drop ?_
         exact k_end PR.badI
        refine kl_call (blk b1 (.cells #[.int .i64 a1_0, .string a1_1, .int .i64 a1_2, .int .i64 a1_3, .slice A_a1_4 a1_4.length c_a1_4] 36 (0, 0)) :: H_a0_0 :: H_a1002_4 :: H_a1002_5 :: X) (by kernel_rfl) (by kernel_rfl) (by kernel_rfl) (check_checker_name.ok (b0 := b0) (b1002_ := b1002_) hr55 (OwnR.rd R_a0_0) R_a0_1 (OwnT.rd R_a1002_4) (OwnT.rd R_a1002_5) R_a1002_7 R_a1_4) rfl ⟨(.tail _ (.head _)), (.tail _ (.tail _ (.head _))), (.tail _ (.tail _ (.tail _ (.head _)))), (.tail _ (.tail _ (.tail _ (.tail _ hm_H_a1002_7)))), (.tail _ (.tail _ (.tail _ (.tail _ hm_H_a1_4)))), trivial⟩ ?_
        rintro _ _ ⟨h57, A58, k59, o60, rfl, rfl⟩
        refine nx_ret3 ?_
        refine k_nil ?_
        refine k_blk ?_
        refine k_then ?_
        refine K.mvN [_, _, _, _, _] _ _ ?_
        refine K.mv2 ?_
        refine K.mvN [_, _, _, _, _, _] _ _ ?_
        refine K.mv4 ?_
        refine K.mvN [_, _, _, _, _, _] _ _ ?_
        refine K.mvN [_, _, _, _, _] _ _ ?_
        refine K.mvN [_, _, _, _, _, _] _ _ ?_
        exact k_meet (r55, a1002_4, h57, A58, k59, H_a1002_4, A_a1002_4, c_a1002_4) ⟨h, o60, R_a1002_4⟩ ⟨rfl, rfl, trivial⟩ rfl
       ·have h := condF h t54
        refine k_seq ?_
        refine k_region ?_
        refine kl_steps 2 [(0, .pointer (some ⟨b0, 0, none⟩)), (2, .bool a2), (4, .pointer (some ⟨b1, 0, none⟩)), (53, .bool (a1_0 == (7 : Int)))] (by kernel_rfl) ?_
        refine k_nil ?_
        refine k_then ?_
        refine k_cond (t := (a1_0 == (7 : Int))) (by kernel_rfl) (fun t61 => ?_) (fun t61 => ?_)
        ·have h := condT h t61
         refine k_seq ?_
         refine k_region ?_
         refine kl_steps 1 [(0, .pointer (some ⟨b0, 0, none⟩)), (2, .bool a2), (4, .pointer (some ⟨b1, 0, none⟩)), (55, .pointer (some ⟨b1, 4, none⟩))] (by kernel_rfl) ?_
         refine kl_load (v := .slice A_a1_4 a1_4.length c_a1_4) [.val (.slice A_a1_4 a1_4.length c_a1_4)] [.ld ⟨b1, 4, none⟩ (.slice A_a1_4 a1_4.length c_a1_4)] (by kernel_rfl) (by kernel_rfl) (by kernel_rfl) ⟨⟨0, _, _, _, rfl, rfl, rfl⟩, trivial⟩ ?_
         obtain ⟨x62, hx62, h⟩ := bindSome h
         refine kl_elemR (T := 36) (kd := .i64) (R := (rTree 36)) rfl (by kernel_rfl) (by kernel_rfl) (by kernel_rfl) (by kernel_rfl) (by kernel_rfl) (by kernel_rfl) hx62 R_a1_4 fun p63 u66 q67 e64 y65 => ?_
         obtain ⟨A68, k69, rfl, o70⟩ := treeR_mk 36 q67
         refine kl_eloadN rfl (by kernel_rfl) (by kernel_rfl) (by kernel_rfl) (by kernel_rfl) (by kernel_rfl) e64 (.tail _ (.tail _ (.tail _ (.tail _ (.tail _ (.tail _ (.tail _ hm_H_a1_4))))))) ?_
         refine kl_new (.cells #[.int .i64 (0 : Int), .string (⟨#[]⟩ : ByteArray), .int .i64 (0 : Int), .int .i64 (0 : Int), .slice none 0 0] 36 (0, 0)) (fun b => .pointer (some ⟨b, 0, none⟩)) (by kernel_rfl) (by kernel_rfl) (fun _ => by kernel_rfl) fun b71 => ?_
         refine kl_store (cs' := #[.int .i64 x62.kind, .string x62.text, .int .i64 x62.n, .int .i64 x62.at_, .slice A68 x62.kids.length k69]) [.st ⟨b71, 0, none⟩ (.int .i64 x62.kind), .st ⟨b71, 1, none⟩ (.string x62.text), .st ⟨b71, 2, none⟩ (.int .i64 x62.n), .st ⟨b71, 3, none⟩ (.int .i64 x62.at_), .st ⟨b71, 4, none⟩ (.slice A68 x62.kids.length k69)] (by kernel_rfl) (by kernel_rfl) (by kernel_rfl) ⟨rfl, rfl, rfl, rfl, rfl, trivial⟩ (by kernel_rfl) ?_
         refine k_nil ?_
         refine k_then ?_
         obtain ⟨q72, hq72, h⟩ := bindSome h
         refine k_cut1 [(0, .pointer (some ⟨b0, 0, none⟩)), (2, .bool a2), (4, .pointer (some ⟨b1, 0, none⟩)), (6, .pointer (some ⟨b71, 0, none⟩)), (66, .bool q72)] (blk b71 (.cells #[.int .i64 x62.kind, .string x62.text, .int .i64 x62.n, .int .i64 x62.at_, .slice A68 x62.kids.length k69] 36 (0, 0)) :: blk b1 (.cells #[.int .i64 a1_0, .string a1_1, .int .i64 a1_2, .int .i64 a1_3, .slice A_a1_4 a1_4.length c_a1_4] 36 (0, 0)) :: blk b0 (.cells #[.slice A_a0_0 a0_0.length c_a0_0, .slice A_a0_1 a0_1.length c_a0_1, .pointer (some ⟨b1002_, 0, none⟩)] 65 (0, 0)) :: H_a0_0 :: H_a0_1 :: blk b1002_ (.cells #[.string a1002_0, .int .i64 a1002_1, .int .i64 a1002_2, .int .i64 a1002_3, .slice A_a1002_4 a1002_4.length c_a1002_4, .slice A_a1002_5 a1002_5.length c_a1002_5, .int .i64 a1002_6, .slice A_a1002_7 a1002_7.length c_a1002_7] 63 (0, 0)) :: H_a1002_4 :: H_a1002_5 :: X) ?_ ?_
         ·clear hq72
          refine k_cond (t := q72) (by kernel_rfl) (fun t73 => ?_) (fun t73 => ?_)
          ·have h := condT h t73
           obtain ⟨J74, hJ74, h⟩ := joinSplit h
           refine k_cut (τ := Unit) (fun t => []) (fun t => blk b0 (.cells #[.slice A_a0_0 a0_0.length c_a0_0, .slice A_a0_1 a0_1.length c_a0_1, .pointer (some ⟨b1002_, 0, none⟩)] 65 (0, 0)) :: H_a0_0 :: H_a0_1 :: blk b1002_ (.cells #[.string a1002_0, .int .i64 a1002_1, .int .i64 a1002_2, .int .i64 a1002_3, .slice A_a1002_4 a1002_4.length c_a1002_4, .slice A_a1002_5 a1002_5.length c_a1002_5, .int .i64 a1002_6, .slice A_a1002_7 a1002_7.length c_a1002_7] 63 (0, 0)) :: H_a1002_4 :: H_a1002_5 :: X) (fun t => J74 () = some r) ?_ ?_
           ·rintro ⟨⟩ h
            subst hJ74
            refine k_ret ?_
            refine k_blk_ret ?_
            refine k_then_ret ?_
            obtain rfl := Option.some.inj h
            refine k_done (v := .tuple #[]) [] [] [blk b0 (.cells #[.slice A_a0_0 a0_0.length c_a0_0, .slice A_a0_1 a0_1.length c_a0_1, .pointer (some ⟨b1002_, 0, none⟩)] 65 (0, 0)), H_a0_0, H_a0_1, blk b1002_ (.cells #[.string a1002_0, .int .i64 a1002_1, .int .i64 a1002_2, .int .i64 a1002_3, .slice A_a1002_4 a1002_4.length c_a1002_4, .slice A_a1002_5 a1002_5.length c_a1002_5, .int .i64 a1002_6, .slice A_a1002_7 a1002_7.length c_a1002_7] 63 (0, 0)), H_a1002_4, H_a1002_5] (by kernel_rfl) (by kernel_rfl) trivial ?_
            exact k_end (PR.okI ⟨H_a0_0, A_a0_0, c_a0_0, H_a0_1, A_a0_1, c_a0_1, H_a1002_4, A_a1002_4, c_a1002_4, H_a1002_5, A_a1002_5, c_a1002_5, R_a0_0, R_a0_1, R_a1002_4, R_a1002_5, rfl, rfl⟩)
           ·skip
            refine k_seq ?_
            refine k_region ?_
            refine kl_steps 1 [(2, .bool a2), (4, .pointer (some ⟨b1, 0, none⟩)), (6, .pointer (some ⟨b71, 0, none⟩)), (67, .pointer (some ⟨b1, 4, none⟩))] (by kernel_rfl) ?_
            refine kl_load (v := .slice A_a1_4 a1_4.length c_a1_4) [.val (.slice A_a1_4 a1_4.length c_a1_4)] [.ld ⟨b1, 4, none⟩ (.slice A_a1_4 a1_4.length c_a1_4)] (by kernel_rfl) (by kernel_rfl) (by kernel_rfl) ⟨⟨1, _, _, _, rfl, rfl, rfl⟩, trivial⟩ ?_
            obtain ⟨x75, hx75, h⟩ := bindSome h
            refine kl_elemR (T := 36) (kd := .i64) (R := (rTree 36)) rfl (by kernel_rfl) (by kernel_rfl) (by kernel_rfl) (by kernel_rfl) (by kernel_rfl) (by kernel_rfl) hx75 R_a1_4 fun p76 u79 q80 e77 y78 => ?_
            obtain ⟨A81, k82, rfl, o83⟩ := treeR_mk 36 q80
            refine kl_eloadN rfl (by kernel_rfl) (by kernel_rfl) (by kernel_rfl) (by kernel_rfl) (by kernel_rfl) e77 (.tail _ (.tail _ (.tail _ (.tail _ (.tail _ (.tail _ (.tail _ (.tail _ hm_H_a1_4)))))))) ?_
            refine kl_new (.cells #[.int .i64 (0 : Int), .string (⟨#[]⟩ : ByteArray), .int .i64 (0 : Int), .int .i64 (0 : Int), .slice none 0 0] 36 (0, 0)) (fun b => .pointer (some ⟨b, 0, none⟩)) (by kernel_rfl) (by kernel_rfl) (fun _ => by kernel_rfl) fun b84 => ?_
            refine kl_store (cs' := #[.int .i64 x75.kind, .string x75.text, .int .i64 x75.n, .int .i64 x75.at_, .slice A81 x75.kids.length k82]) [.st ⟨b84, 0, none⟩ (.int .i64 x75.kind), .st ⟨b84, 1, none⟩ (.string x75.text), .st ⟨b84, 2, none⟩ (.int .i64 x75.n), .st ⟨b84, 3, none⟩ (.int .i64 x75.at_), .st ⟨b84, 4, none⟩ (.slice A81 x75.kids.length k82)] (by kernel_rfl) (by kernel_rfl) (by kernel_rfl) ⟨rfl, rfl, rfl, rfl, rfl, trivial⟩ (by kernel_rfl) ?_
            refine k_nil ?_
            refine k_then ?_
            obtain ⟨q85, hq85, h⟩ := bindSome h
            refine k_cut1 [(4, .pointer (some ⟨b1, 0, none⟩)), (86, .bool q85)] (blk b1 (.cells #[.int .i64 a1_0, .string a1_1, .int .i64 a1_2, .int .i64 a1_3, .slice A_a1_4 a1_4.length c_a1_4] 36 (0, 0)) :: blk b0 (.cells #[.slice A_a0_0 a0_0.length c_a0_0, .slice A_a0_1 a0_1.length c_a0_1, .pointer (some ⟨b1002_, 0, none⟩)] 65 (0, 0)) :: H_a0_0 :: H_a0_1 :: blk b1002_ (.cells #[.string a1002_0, .int .i64 a1002_1, .int .i64 a1002_2, .int .i64 a1002_3, .slice A_a1002_4 a1002_4.length c_a1002_4, .slice A_a1002_5 a1002_5.length c_a1002_5, .int .i64 a1002_6, .slice A_a1002_7 a1002_7.length c_a1002_7] 63 (0, 0)) :: H_a1002_4 :: H_a1002_5 :: X) ?_ ?_
            ·clear hq85
             refine k_cond (t := q85) (by kernel_rfl) (fun t86 => ?_) (fun t86 => ?_)
             ·have h := condT h t86
              refine k_region ?_
              refine kl_steps 1 [(87, .pointer (some ⟨b1, 3, none⟩))] (by kernel_rfl) ?_
              refine kl_load (v := .int .i64 a1_3) [.val (.int .i64 a1_3)] [.ld ⟨b1, 3, none⟩ (.int .i64 a1_3)] (by kernel_rfl) (by kernel_rfl) (by kernel_rfl) ⟨⟨0, _, _, _, rfl, rfl, rfl⟩, trivial⟩ ?_
              refine K.drop ?_
              rcases prBind h with ⟨i88, hr87, rfl⟩ | ⟨r87, hr87, h⟩
              ·refine kl_call (blk b0 (.cells #[.slice A_a0_0 a0_0.length c_a0_0, .slice A_a0_1 a0_1.length c_a0_1, .pointer (some ⟨b1002_, 0, none⟩)] 65 (0, 0)) :: H_a0_0 :: H_a0_1 :: blk b1002_ (.cells #[.string a1002_0, .int .i64 a1002_1, .int .i64 a1002_2, .int .i64 a1002_3, .slice A_a1002_4 a1002_4.length c_a1002_4, .slice A_a1002_5 a1002_5.length c_a1002_5, .int .i64 a1002_6, .slice A_a1002_7 a1002_7.length c_a1002_7] 63 (0, 0)) :: H_a1002_4 :: H_a1002_5 :: X) (by kernel_rfl) (by kernel_rfl) (by kernel_rfl) (check_fail.ok hr87) rfl trivial ?_
               rintro _ _ ⟨rfl, rfl⟩
               refine nx_pan ?_
               refine k_then_panic ?_
               refine k_blk_panic ?_
               refine k_then_panic ?_
               refine k_panicked [] ?_
               refine K.drop ?_
               refine K.drop ?_
               refine K.drop ?_
               refine K.drop ?_
               refine K.drop ?_
               refine K.drop ?_
               exact k_end PR.badI
              refine kl_call (blk b0 (.cells #[.slice A_a0_0 a0_0.length c_a0_0, .slice A_a0_1 a0_1.length c_a0_1, .pointer (some ⟨b1002_, 0, none⟩)] 65 (0, 0)) :: H_a0_0 :: H_a0_1 :: blk b1002_ (.cells #[.string a1002_0, .int .i64 a1002_1, .int .i64 a1002_2, .int .i64 a1002_3, .slice A_a1002_4 a1002_4.length c_a1002_4, .slice A_a1002_5 a1002_5.length c_a1002_5, .int .i64 a1002_6, .slice A_a1002_7 a1002_7.length c_a1002_7] 63 (0, 0)) :: H_a1002_4 :: H_a1002_5 :: X) (by kernel_rfl) (by kernel_rfl) (by kernel_rfl) (check_fail.ok hr87) rfl trivial ?_
              rintro _ _ ⟨rfl, rfl⟩
              refine nx_ret0 ?_
              refine k_nil ?_
              refine k_then ?_
              exact k_meet () h trivial rfl
             ·have h := condF h t86
              refine k_skip ?_
              refine k_then ?_
              refine K.drop ?_
              exact k_meet () h trivial rfl
            ·have h := hq85
             clear hq85
             refine k_region ?_
             refine kl_steps 2 [(4, .pointer (some ⟨b1, 0, none⟩)), (6, .pointer (some ⟨b71, 0, none⟩)), (7, .pointer (some ⟨b84, 0, none⟩)), (72, .bool a2)] (by kernel_rfl) ?_
             rcases Bool.eq_false_or_eq_true (a2) with t89 | t89
             ·have h := condT h t89
              refine K.weak (env' := [(4, .pointer (some ⟨b1, 0, none⟩)), (6, .pointer (some ⟨b71, 0, none⟩)), (7, .pointer (some ⟨b84, 0, none⟩)), (72, .bool true)]) ?_ ⟨rfl, rfl, rfl, congrArg (fun b => some (Value.bool b)) t89, trivial⟩
              refine kl_steps 14 [(4, .pointer (some ⟨b1, 0, none⟩)), (86, .bool true)] (by kernel_rfl) ?_
              refine k_nil ?_
              refine k_then ?_
              refine K.drop ?_
              refine K.drop ?_
              exact k_meet1 ⟨rfl, congrArg (fun b => some (Value.bool b)) (Option.some.inj h), trivial⟩
             ·have h := condF h t89
              refine K.weak (env' := [(4, .pointer (some ⟨b1, 0, none⟩)), (6, .pointer (some ⟨b71, 0, none⟩)), (7, .pointer (some ⟨b84, 0, none⟩)), (72, .bool false)]) ?_ ⟨rfl, rfl, rfl, congrArg (fun b => some (Value.bool b)) t89, trivial⟩
              refine kl_steps 1 [(4, .pointer (some ⟨b1, 0, none⟩)), (6, .pointer (some ⟨b71, 0, none⟩)), (7, .pointer (some ⟨b84, 0, none⟩)), (72, .bool false), (73, .pointer (some ⟨b84, 0, none⟩))] (by kernel_rfl) ?_
              refine kl_load (v := .int .i64 x75.kind) [.val (.int .i64 x75.kind)] [.ld ⟨b84, 0, none⟩ (.int .i64 x75.kind)] (by kernel_rfl) (by kernel_rfl) (by kernel_rfl) ⟨⟨0, _, _, _, rfl, rfl, rfl⟩, trivial⟩ ?_
              refine kl_steps 3 [(4, .pointer (some ⟨b1, 0, none⟩)), (6, .pointer (some ⟨b71, 0, none⟩)), (7, .pointer (some ⟨b84, 0, none⟩)), (77, .bool (x75.kind != (5 : Int)))] (by kernel_rfl) ?_
              rcases Bool.eq_false_or_eq_true ((x75.kind != (5 : Int))) with t90 | t90
              ·have h := condT h t90
               refine K.weak (env' := [(4, .pointer (some ⟨b1, 0, none⟩)), (6, .pointer (some ⟨b71, 0, none⟩)), (7, .pointer (some ⟨b84, 0, none⟩)), (77, .bool true)]) ?_ ⟨rfl, rfl, rfl, congrArg (fun b => some (Value.bool b)) t90, trivial⟩
               refine kl_steps 9 [(4, .pointer (some ⟨b1, 0, none⟩)), (86, .bool true)] (by kernel_rfl) ?_
               refine k_nil ?_
               refine k_then ?_
               refine K.drop ?_
               refine K.drop ?_
               exact k_meet1 ⟨rfl, congrArg (fun b => some (Value.bool b)) (Option.some.inj h), trivial⟩
              ·have h := condF h t90
               refine K.weak (env' := [(4, .pointer (some ⟨b1, 0, none⟩)), (6, .pointer (some ⟨b71, 0, none⟩)), (7, .pointer (some ⟨b84, 0, none⟩)), (77, .bool false)]) ?_ ⟨rfl, rfl, rfl, congrArg (fun b => some (Value.bool b)) t90, trivial⟩
               refine kl_steps 1 [(4, .pointer (some ⟨b1, 0, none⟩)), (7, .pointer (some ⟨b84, 0, none⟩)), (77, .bool false), (78, .pointer (some ⟨b71, 1, none⟩))] (by kernel_rfl) ?_
               refine kl_load (v := .string x62.text) [.val (.string x62.text)] [.ld ⟨b71, 1, none⟩ (.string x62.text)] (by kernel_rfl) (by kernel_rfl) (by kernel_rfl) ⟨⟨1, _, _, _, rfl, rfl, rfl⟩, trivial⟩ ?_
               refine K.mv1 ?_
               refine K.drop ?_
               obtain ⟨s91, hs91, h⟩ := bindSome h
               refine kl_cat rfl (by kernel_rfl) (by kernel_rfl) (by kernel_rfl) (by kernel_rfl) hs91 ?_
               refine kl_steps 1 [(4, .pointer (some ⟨b1, 0, none⟩)), (77, .bool false), (80, .string s91), (81, .pointer (some ⟨b84, 1, none⟩))] (by kernel_rfl) ?_
               refine kl_load (v := .string x75.text) [.val (.string x75.text)] [.ld ⟨b84, 1, none⟩ (.string x75.text)] (by kernel_rfl) (by kernel_rfl) (by kernel_rfl) ⟨⟨0, _, _, _, rfl, rfl, rfl⟩, trivial⟩ ?_
               refine K.drop ?_
               obtain ⟨s92, hs92, h⟩ := bindSome h
               refine kl_cat rfl (by kernel_rfl) (by kernel_rfl) (by kernel_rfl) (by kernel_rfl) hs92 ?_
               obtain ⟨r93, hr93, h⟩ := bindSome h
               refine kl_callv (by kernel_rfl) (by kernel_rfl) (by kernel_rfl) (check_Library.ok hr93 hG) ⟨(.tail _ (.tail _ (.tail _ (.tail _ (.tail _ (.tail _ (.tail _ hm_G))))))), trivial⟩ ?_
               refine kl_steps 2 [(4, .pointer (some ⟨b1, 0, none⟩)), (86, .bool (r93 == (0 : Int)))] (by kernel_rfl) ?_
               refine k_nil ?_
               refine k_then ?_
               exact k_meet1 ⟨rfl, congrArg (fun b => some (Value.bool b)) (Option.some.inj h), trivial⟩
          ·have h := condF h t73
           refine k_skip ?_
           refine k_blk ?_
           refine k_then ?_
           refine K.drop ?_
           refine K.mvN [_, _, _, _, _] _ _ ?_
           refine K.mv4 ?_
           refine K.mvN [_, _, _, _, _, _] _ _ ?_
           refine K.mvN [_, _, _, _, _, _] _ _ ?_
           refine K.mvN [_, _, _, _, _, _] _ _ ?_
           refine K.mvN [_, _, _, _, _, _] _ _ ?_
           refine K.mvN [_, _, _, _, _, _] _ _ ?_
           exact k_meet (a0_1, a1002_4, H_a0_1, A_a0_1, c_a0_1, H_a1002_4, A_a1002_4, c_a1002_4) ⟨h, R_a0_1, R_a1002_4⟩ ⟨rfl, rfl, trivial⟩ rfl
         ·have h := hq72
          clear hq72
          refine k_region ?_
          refine kl_steps 1 [(0, .pointer (some ⟨b0, 0, none⟩)), (2, .bool a2), (4, .pointer (some ⟨b1, 0, none⟩)), (6, .pointer (some ⟨b71, 0, none⟩)), (59, .pointer (some ⟨b71, 0, none⟩))] (by kernel_rfl) ?_
          refine kl_load (v := .int .i64 x62.kind) [.val (.int .i64 x62.kind)] [.ld ⟨b71, 0, none⟩ (.int .i64 x62.kind)] (by kernel_rfl) (by kernel_rfl) (by kernel_rfl) ⟨⟨0, _, _, _, rfl, rfl, rfl⟩, trivial⟩ ?_
          refine kl_steps 2 [(0, .pointer (some ⟨b0, 0, none⟩)), (2, .bool a2), (4, .pointer (some ⟨b1, 0, none⟩)), (6, .pointer (some ⟨b71, 0, none⟩)), (62, .bool (x62.kind == (6 : Int)))] (by kernel_rfl) ?_
          rcases Bool.eq_false_or_eq_true ((x62.kind == (6 : Int))) with t94 | t94
          ·have h := condT h t94
           refine K.weak (env' := [(0, .pointer (some ⟨b0, 0, none⟩)), (2, .bool a2), (4, .pointer (some ⟨b1, 0, none⟩)), (6, .pointer (some ⟨b71, 0, none⟩)), (62, .bool true)]) ?_ ⟨rfl, rfl, rfl, rfl, congrArg (fun b => some (Value.bool b)) t94, trivial⟩
           refine kl_steps 1 [(0, .pointer (some ⟨b0, 0, none⟩)), (2, .bool a2), (4, .pointer (some ⟨b1, 0, none⟩)), (6, .pointer (some ⟨b71, 0, none⟩)), (62, .bool true), (63, .pointer (some ⟨b71, 1, none⟩))] (by kernel_rfl) ?_
           refine kl_load (v := .string x62.text) [.val (.string x62.text)] [.ld ⟨b71, 1, none⟩ (.string x62.text)] (by kernel_rfl) (by kernel_rfl) (by kernel_rfl) ⟨⟨0, _, _, _, rfl, rfl, rfl⟩, trivial⟩ ?_
           obtain ⟨r95, hr95, h⟩ := bindSome h
           refine kl_callv (by kernel_rfl) (by kernel_rfl) (by kernel_rfl) (check_kept.ok hr95) trivial ?_
           refine kl_steps 1 [(0, .pointer (some ⟨b0, 0, none⟩)), (2, .bool a2), (4, .pointer (some ⟨b1, 0, none⟩)), (6, .pointer (some ⟨b71, 0, none⟩)), (66, .bool r95)] (by kernel_rfl) ?_
           refine k_nil ?_
           refine k_then ?_
           exact k_meet1 ⟨rfl, rfl, rfl, rfl, congrArg (fun b => some (Value.bool b)) (Option.some.inj h), trivial⟩
          ·have h := condF h t94
           refine K.weak (env' := [(0, .pointer (some ⟨b0, 0, none⟩)), (2, .bool a2), (4, .pointer (some ⟨b1, 0, none⟩)), (6, .pointer (some ⟨b71, 0, none⟩)), (62, .bool false)]) ?_ ⟨rfl, rfl, rfl, rfl, congrArg (fun b => some (Value.bool b)) t94, trivial⟩
           refine kl_steps 4 [(0, .pointer (some ⟨b0, 0, none⟩)), (2, .bool a2), (4, .pointer (some ⟨b1, 0, none⟩)), (6, .pointer (some ⟨b71, 0, none⟩)), (66, .bool false)] (by kernel_rfl) ?_
           refine k_nil ?_
           refine k_then ?_
           exact k_meet1 ⟨rfl, rfl, rfl, rfl, congrArg (fun b => some (Value.bool b)) (Option.some.inj h), trivial⟩
        ·have h := condF h t61
         refine k_skip ?_
         refine k_blk ?_
         refine k_then ?_
         refine K.mvN [_, _, _, _, _] _ _ ?_
         refine K.mv4 ?_
         refine K.mvN [_, _, _, _, _, _] _ _ ?_
         refine K.mvN [_, _, _, _, _, _] _ _ ?_
         refine K.mvN [_, _, _, _, _, _] _ _ ?_
         refine K.mvN [_, _, _, _, _, _] _ _ ?_
         refine K.mvN [_, _, _, _, _, _] _ _ ?_
         exact k_meet (a0_1, a1002_4, H_a0_1, A_a0_1, c_a0_1, H_a1002_4, A_a1002_4, c_a1002_4) ⟨h, R_a0_1, R_a1002_4⟩ ⟨rfl, rfl, trivial⟩ rfl
def check_checker_loop.g (Rc : CK) (k : Nat) (a0_0 : List (ByteArray × Int × Int × Int × List (Int × Int × ByteArray))) (a0_1 : List ByteArray) (a1002_0 : ByteArray) (a1002_1 : Int) (a1002_2 : Int) (a1002_3 : Int) (a1002_4 : List (Int × Int × ByteArray)) (a1002_5 : List ByteArray) (a1002_6 : Int) (a1002_7 : List ByteArray) (a1_0 : Int) (a1_1 : ByteArray) (a1_2 : Int) (a1_3 : Int) (a1_4 : List Tree) (a2 : List Tree) (a3_0 : Int) (a3_1 : ByteArray) (a3_2 : Int) (a3_3 : Int) (a3_4 : List Tree) (a4 : Int) : Option (PR (List (ByteArray × Int × Int × Int × List (Int × Int × ByteArray)) × List ByteArray × Int × List (Int × Int × ByteArray) × List ByteArray × Int) (Int × Int)) := (apdZ 16 a1002_5 (⟨#[]⟩ : ByteArray) a4).bind fun l3 => joinF (fun (x8 : Int) (l9 : List ByteArray) => PR.bind (Rc.check_checker_node a0_0 a0_1 a1002_0 a1002_1 a1002_2 x8 a1002_4 l9 (IntKind.i64.wrap (a1002_6 + (1 : Int))) a1002_7 a3_0 a3_1 a3_2 a3_3 a3_4 false) fun r15 => (lSub r15.2.2.2.2.1 (0 : Int) ((a1002_5.length : Nat) : Int)).bind fun l33 => some (PR.ok (r15.1, r15.2.1, r15.2.2.1, r15.2.2.2.1, l33, IntKind.i64.wrap (r15.2.2.2.2.2 - (1 : Int))))) (fun J14 => cond (decide (a4 > (0 : Int))) (PR.bind (check_checker_bring.f k a0_0 a0_1 a1002_0 a1002_1 a1002_2 a1002_3 a1002_4 l3 a1002_6 a1002_7 a1_0 a1_1 a1_2 a1_3 a1_4 a2) fun r36 => J14 r36.1 r36.2) (J14 a1002_3 l3))
set_option maxRecDepth 100000 in
theorem check_checker_loop.okg {Rc : CK} (hR : Rc.Good) {k : Nat} {a0_0 : List (ByteArray × Int × Int × Int × List (Int × Int × ByteArray))} {a0_1 : List ByteArray} {a1002_0 : ByteArray} {a1002_1 : Int} {a1002_2 : Int} {a1002_3 : Int} {a1002_4 : List (Int × Int × ByteArray)} {a1002_5 : List ByteArray} {a1002_6 : Int} {a1002_7 : List ByteArray} {a1_0 : Int} {a1_1 : ByteArray} {a1_2 : Int} {a1_3 : Int} {a1_4 : List Tree} {a2 : List Tree} {a3_0 : Int} {a3_1 : ByteArray} {a3_2 : Int} {a3_3 : Int} {a3_4 : List Tree} {a4 : Int} {b0 : Nat} {H_a0_0 : Frag} {A_a0_0 : Option Addr} {c_a0_0 : Nat} {H_a0_1 : Frag} {A_a0_1 : Option Addr} {c_a0_1 : Nat} {b1002_ : Nat} {H_a1002_4 : Frag} {A_a1002_4 : Option Addr} {c_a1002_4 : Nat} {H_a1002_5 : Frag} {A_a1002_5 : Option Addr} {c_a1002_5 : Nat} {H_a1002_7 : Frag} {A_a1002_7 : Option Addr} {c_a1002_7 : Nat} {H_a1_4 : Frag} {A_a1_4 : Option Addr} {c_a1_4 : Nat} {H_a2 : Frag} {A_a2 : Option Addr} {c_a2 : Nat} {H_a3_4 : Frag} {A_a3_4 : Option Addr} {c_a3_4 : Nat} {G : Frag} {r : PR (List (ByteArray × Int × Int × Int × List (Int × Int × ByteArray)) × List ByteArray × Int × List (Int × Int × ByteArray) × List ByteArray × Int) (Int × Int)} (h : check_checker_loop.g Rc k a0_0 a0_1 a1002_0 a1002_1 a1002_2 a1002_3 a1002_4 a1002_5 a1002_6 a1002_7 a1_0 a1_1 a1_2 a1_3 a1_4 a2 a3_0 a3_1 a3_2 a3_3 a3_4 a4 = some r) (R_a0_0 : OwnR rs42 42 H_a0_0 (.slice A_a0_0 a0_0.length c_a0_0) a0_0) (R_a0_1 : OwnT encS 9 1 H_a0_1 (.slice A_a0_1 a0_1.length c_a0_1) a0_1) (R_a1002_4 : OwnT e53 53 3 H_a1002_4 (.slice A_a1002_4 a1002_4.length c_a1002_4) a1002_4) (R_a1002_5 : OwnT encS 9 1 H_a1002_5 (.slice A_a1002_5 a1002_5.length c_a1002_5) a1002_5) (R_a1002_7 : RdT encS 1 H_a1002_7 (.slice A_a1002_7 a1002_7.length c_a1002_7) a1002_7) (R_a1_4 : RdR (rTree 36) H_a1_4 (.slice A_a1_4 a1_4.length c_a1_4) a1_4) (R_a2 : RdR (rTree 36) H_a2 (.slice A_a2 a2.length c_a2) a2) (R_a3_4 : RdR (rTree 36) H_a3_4 (.slice A_a3_4 a3_4.length c_a3_4) a3_4) (hG : GlP G) : Ct Tryz.prog 39 #[.pointer (some ⟨b0, 0, none⟩), .agg #[.int .i64 a1_0, .string a1_1, .int .i64 a1_2, .int .i64 a1_3, .slice A_a1_4 a1_4.length c_a1_4], .slice A_a2 a2.length c_a2, .agg #[.int .i64 a3_0, .string a3_1, .int .i64 a3_2, .int .i64 a3_3, .slice A_a3_4 a3_4.length c_a3_4], .int .i64 a4] [blk b0 (.cells #[.slice A_a0_0 a0_0.length c_a0_0, .slice A_a0_1 a0_1.length c_a0_1, .pointer (some ⟨b1002_, 0, none⟩)] 65 (0, 0)), H_a0_0, H_a0_1, blk b1002_ (.cells #[.string a1002_0, .int .i64 a1002_1, .int .i64 a1002_2, .int .i64 a1002_3, .slice A_a1002_4 a1002_4.length c_a1002_4, .slice A_a1002_5 a1002_5.length c_a1002_5, .int .i64 a1002_6, .slice A_a1002_7 a1002_7.length c_a1002_7] 63 (0, 0)), H_a1002_4, H_a1002_5] [H_a1002_7, H_a1_4, H_a2, H_a3_4, G] (PR.Post failC (fun (r : List (ByteArray × Int × Int × Int × List (Int × Int × ByteArray)) × List ByteArray × Int × List (Int × Int × ByteArray) × List ByteArray × Int) e l1 => ∃ (H0_ : Frag) (A0_ : Option Addr) (c0_ : Nat) (H1_ : Frag) (A1_ : Option Addr) (c1_ : Nat) (H2_ : Frag) (A2_ : Option Addr) (c2_ : Nat) (H3_ : Frag) (A3_ : Option Addr) (c3_ : Nat), OwnR rs42 42 H0_ (.slice A0_ r.1.length c0_) r.1 ∧ OwnT encS 9 1 H1_ (.slice A1_ r.2.1.length c1_) r.2.1 ∧ OwnT e53 53 3 H2_ (.slice A2_ r.2.2.2.1.length c2_) r.2.2.2.1 ∧ OwnT encS 9 1 H3_ (.slice A3_ r.2.2.2.2.1.length c3_) r.2.2.2.2.1 ∧ e = .returned (.tuple #[]) ∧ l1 = [blk b0 (.cells #[.slice A0_ r.1.length c0_, .slice A1_ r.2.1.length c1_, .pointer (some ⟨b1002_, 0, none⟩)] 65 (0, 0)), H0_, H1_, blk b1002_ (.cells #[.string a1002_0, .int .i64 a1002_1, .int .i64 a1002_2, .int .i64 r.2.2.1, .slice A2_ r.2.2.2.1.length c2_, .slice A3_ r.2.2.2.2.1.length c3_, .int .i64 r.2.2.2.2.2, .slice A_a1002_7 a1002_7.length c_a1002_7] 63 (0, 0)), H2_, H3_]) r) := by
 refine ct_enter (args := [.pointer (some ⟨b0, 0, none⟩), .agg #[.int .i64 a1_0, .string a1_1, .int .i64 a1_2, .int .i64 a1_3, .slice A_a1_4 a1_4.length c_a1_4], .slice A_a2 a2.length c_a2, .agg #[.int .i64 a3_0, .string a3_1, .int .i64 a3_2, .int .i64 a3_3, .slice A_a3_4 a3_4.length c_a3_4], .int .i64 a4]) Tryz.func39 rfl (Nat.le_of_ble_eq_true rfl) ?_
 intro A X hh_
 obtain ⟨hm_H_a1002_7, hm_H_a1_4, hm_H_a2, hm_H_a3_4, hm_G, _⟩ := hh_
 unfold check_checker_loop.g at h
 refine K.eq (env' := [(0, .pointer (some ⟨b0, 0, none⟩)), (1, .agg #[.int .i64 a1_0, .string a1_1, .int .i64 a1_2, .int .i64 a1_3, .slice A_a1_4 a1_4.length c_a1_4]), (2, .slice A_a2 a2.length c_a2), (3, .agg #[.int .i64 a3_0, .string a3_1, .int .i64 a3_2, .int .i64 a3_3, .slice A_a3_4 a3_4.length c_a3_4]), (4, .int .i64 a4)]) (l' := blk b0 (.cells #[.slice A_a0_0 a0_0.length c_a0_0, .slice A_a0_1 a0_1.length c_a0_1, .pointer (some ⟨b1002_, 0, none⟩)] 65 (0, 0)) :: H_a0_0 :: H_a0_1 :: blk b1002_ (.cells #[.string a1002_0, .int .i64 a1002_1, .int .i64 a1002_2, .int .i64 a1002_3, .slice A_a1002_4 a1002_4.length c_a1002_4, .slice A_a1002_5 a1002_5.length c_a1002_5, .int .i64 a1002_6, .slice A_a1002_7 a1002_7.length c_a1002_7] 63 (0, 0)) :: H_a1002_4 :: H_a1002_5 :: X) rfl rfl ?_
 refine k_seq ?_
 refine k_region ?_
 refine kl_new (.cells #[.int .i64 a1_0, .string a1_1, .int .i64 a1_2, .int .i64 a1_3, .slice A_a1_4 a1_4.length c_a1_4] 36 (0, 0)) (fun b => .pointer (some ⟨b, 0, none⟩)) (by kernel_rfl) (by kernel_rfl) (fun _ => by kernel_rfl) fun b1 => ?_
 refine kl_new (.cells #[.int .i64 a3_0, .string a3_1, .int .i64 a3_2, .int .i64 a3_3, .slice A_a3_4 a3_4.length c_a3_4] 36 (0, 0)) (fun b => .pointer (some ⟨b, 0, none⟩)) (by kernel_rfl) (by kernel_rfl) (fun _ => by kernel_rfl) fun b2 => ?_
 refine k_nil ?_
 refine k_then ?_
 refine k_seq ?_
 refine k_region ?_
 refine kl_steps 3 [(0, .pointer (some ⟨b0, 0, none⟩)), (2, .slice A_a2 a2.length c_a2), (4, .int .i64 a4), (6, .pointer (some ⟨b1, 0, none⟩)), (8, .pointer (some ⟨b2, 0, none⟩)), (13, .pointer (some ⟨b0, 2, none⟩))] (by kernel_rfl) ?_
 refine kl_load (v := .pointer (some ⟨b1002_, 0, none⟩)) [.val (.pointer (some ⟨b1002_, 0, none⟩))] [.ld ⟨b0, 2, none⟩ (.pointer (some ⟨b1002_, 0, none⟩))] (by kernel_rfl) (by kernel_rfl) (by kernel_rfl) ⟨⟨2, _, _, _, rfl, rfl, rfl⟩, trivial⟩ ?_
 refine kl_steps 2 [(0, .pointer (some ⟨b0, 0, none⟩)), (2, .slice A_a2 a2.length c_a2), (4, .int .i64 a4), (6, .pointer (some ⟨b1, 0, none⟩)), (8, .pointer (some ⟨b2, 0, none⟩)), (16, .pointer (some ⟨b1002_, 5, none⟩))] (by kernel_rfl) ?_
 refine kl_load (v := .slice A_a1002_5 a1002_5.length c_a1002_5) [.val (.slice A_a1002_5 a1002_5.length c_a1002_5)] [.ld ⟨b1002_, 5, none⟩ (.slice A_a1002_5 a1002_5.length c_a1002_5)] (by kernel_rfl) (by kernel_rfl) (by kernel_rfl) ⟨⟨5, _, _, _, rfl, rfl, rfl⟩, trivial⟩ ?_
 refine kl_steps 2 [(0, .pointer (some ⟨b0, 0, none⟩)), (2, .slice A_a2 a2.length c_a2), (4, .int .i64 a4), (6, .pointer (some ⟨b1, 0, none⟩)), (8, .pointer (some ⟨b2, 0, none⟩)), (10, .int .i64 ((a1002_5.length : Nat) : Int))] (by kernel_rfl) ?_
 refine k_nil ?_
 refine k_then ?_
 refine k_seq ?_
 refine k_region_plan [(0, 0), (1, 0), (2, 0), (3, 3), (4, 0), (5, 0), (6, 0), (7, 3), (8, 0), (9, 0), (10, 3), (11, 0), (12, 1)] (fun w => OnAll [blk b0 (.cells #[.slice A_a0_0 a0_0.length c_a0_0, .slice A_a0_1 a0_1.length c_a0_1, .pointer (some ⟨b1002_, 0, none⟩)] 65 (0, 0)), blk b1002_ (.cells #[.string a1002_0, .int .i64 a1002_1, .int .i64 a1002_2, .int .i64 a1002_3, .slice A_a1002_4 a1002_4.length c_a1002_4, .slice A_a1002_5 a1002_5.length c_a1002_5, .int .i64 a1002_6, .slice A_a1002_7 a1002_7.length c_a1002_7] 63 (0, 0))] w) (by kernel_rfl) (by kernel_rfl) (fun _ _ d _ _ h => by cases d <;> exact h) (fun w h_ => ⟨h_.sat.on _ (.tail _ (.tail _ (.head _))), h_.sat.on _ (.tail _ (.tail _ (.tail _ (.tail _ (.tail _ (.head _)))))), trivial⟩) ?_
 simp only [planOps, List.filterMap_cons, List.filterMap_nil, List.getElem?_toArray, List.getElem?_cons_zero, List.getElem?_cons_succ, Option.map_some, List.drop_succ_cons, List.drop_zero, List.length_cons, List.length_nil]
 refine kp_steps 3 [(0, .pointer (some ⟨b0, 0, none⟩)), (2, .slice A_a2 a2.length c_a2), (4, .int .i64 a4), (6, .pointer (some ⟨b1, 0, none⟩)), (8, .pointer (some ⟨b2, 0, none⟩)), (10, .int .i64 ((a1002_5.length : Nat) : Int)), (21, .pointer (some ⟨b0, 2, none⟩))] (by kernel_rfl) (by kernel_rfl) ?_
 refine kp_loadS (v := .pointer (some ⟨b1002_, 0, none⟩)) [blk b0 (.cells #[.slice A_a0_0 a0_0.length c_a0_0, .slice A_a0_1 a0_1.length c_a0_1, .pointer (some ⟨b1002_, 0, none⟩)] 65 (0, 0)), blk b1002_ (.cells #[.string a1002_0, .int .i64 a1002_1, .int .i64 a1002_2, .int .i64 a1002_3, .slice A_a1002_4 a1002_4.length c_a1002_4, .slice A_a1002_5 a1002_5.length c_a1002_5, .int .i64 a1002_6, .slice A_a1002_7 a1002_7.length c_a1002_7] 63 (0, 0))] [.val (.pointer (some ⟨b1002_, 0, none⟩))] [.ld ⟨b0, 2, none⟩ (.pointer (some ⟨b1002_, 0, none⟩))] (by kernel_rfl) (by kernel_rfl) (by kernel_rfl) (fun _ h => h) ⟨⟨0, _, _, _, rfl, rfl, rfl⟩, trivial⟩ ?_
 refine kp_steps 3 [(0, .pointer (some ⟨b0, 0, none⟩)), (2, .slice A_a2 a2.length c_a2), (4, .int .i64 a4), (6, .pointer (some ⟨b1, 0, none⟩)), (8, .pointer (some ⟨b2, 0, none⟩)), (10, .int .i64 ((a1002_5.length : Nat) : Int)), (22, .pointer (some ⟨b1002_, 0, none⟩)), (25, .pointer (some ⟨b0, 2, none⟩))] (by kernel_rfl) (by kernel_rfl) ?_
 refine kp_loadS (v := .pointer (some ⟨b1002_, 0, none⟩)) [blk b0 (.cells #[.slice A_a0_0 a0_0.length c_a0_0, .slice A_a0_1 a0_1.length c_a0_1, .pointer (some ⟨b1002_, 0, none⟩)] 65 (0, 0)), blk b1002_ (.cells #[.string a1002_0, .int .i64 a1002_1, .int .i64 a1002_2, .int .i64 a1002_3, .slice A_a1002_4 a1002_4.length c_a1002_4, .slice A_a1002_5 a1002_5.length c_a1002_5, .int .i64 a1002_6, .slice A_a1002_7 a1002_7.length c_a1002_7] 63 (0, 0))] [.val (.pointer (some ⟨b1002_, 0, none⟩))] [.ld ⟨b0, 2, none⟩ (.pointer (some ⟨b1002_, 0, none⟩))] (by kernel_rfl) (by kernel_rfl) (by kernel_rfl) (fun _ h => h) ⟨⟨0, _, _, _, rfl, rfl, rfl⟩, trivial⟩ ?_
 refine kp_steps 2 [(0, .pointer (some ⟨b0, 0, none⟩)), (2, .slice A_a2 a2.length c_a2), (4, .int .i64 a4), (6, .pointer (some ⟨b1, 0, none⟩)), (8, .pointer (some ⟨b2, 0, none⟩)), (10, .int .i64 ((a1002_5.length : Nat) : Int)), (22, .pointer (some ⟨b1002_, 0, none⟩)), (28, .pointer (some ⟨b1002_, 5, none⟩))] (by kernel_rfl) (by kernel_rfl) ?_
 refine kp_loadS (v := .slice A_a1002_5 a1002_5.length c_a1002_5) [blk b0 (.cells #[.slice A_a0_0 a0_0.length c_a0_0, .slice A_a0_1 a0_1.length c_a0_1, .pointer (some ⟨b1002_, 0, none⟩)] 65 (0, 0)), blk b1002_ (.cells #[.string a1002_0, .int .i64 a1002_1, .int .i64 a1002_2, .int .i64 a1002_3, .slice A_a1002_4 a1002_4.length c_a1002_4, .slice A_a1002_5 a1002_5.length c_a1002_5, .int .i64 a1002_6, .slice A_a1002_7 a1002_7.length c_a1002_7] 63 (0, 0))] [.val (.slice A_a1002_5 a1002_5.length c_a1002_5)] [.ld ⟨b1002_, 5, none⟩ (.slice A_a1002_5 a1002_5.length c_a1002_5)] (by kernel_rfl) (by kernel_rfl) (by kernel_rfl) (fun _ h => h) ⟨⟨1, _, _, _, rfl, rfl, rfl⟩, trivial⟩ ?_
 refine kp_steps 1 [(0, .pointer (some ⟨b0, 0, none⟩)), (2, .slice A_a2 a2.length c_a2), (4, .int .i64 a4), (6, .pointer (some ⟨b1, 0, none⟩)), (8, .pointer (some ⟨b2, 0, none⟩)), (10, .int .i64 ((a1002_5.length : Nat) : Int)), (22, .pointer (some ⟨b1002_, 0, none⟩)), (29, .slice A_a1002_5 a1002_5.length c_a1002_5), (30, .int .i64 a4)] (by kernel_rfl) (by kernel_rfl) ?_
 refine kp_turn (by kernel_rfl) ?_
 refine K.mvN [_, _, _, _, _, _, _] _ _ ?_
 obtain ⟨l3, hl3, h⟩ := bindSome h
 refine op_apdZ (kz := .i64) (z0 := (⟨#[]⟩ : ByteArray)) .i64 encS_ok (by kernel_rfl) rfl ety26 (by kernel_rfl) (by kernel_rfl) (by kernel_rfl) (by kernel_rfl) hl3 R_a1002_5 fun h4 A5 k6 o7 => ?_
 refine k_and (fun w h_ => ⟨h_.sat.on _ (.tail _ (.tail _ (.tail _ (.head _)))), h_.sat.on _ (.tail _ (.tail _ (.tail _ (.tail _ (.tail _ (.tail _ (.head _))))))), trivial⟩) ?_
 refine kp_done ?_
 refine kl_steps 2 [(0, .pointer (some ⟨b0, 0, none⟩)), (2, .slice A_a2 a2.length c_a2), (4, .int .i64 a4), (6, .pointer (some ⟨b1, 0, none⟩)), (8, .pointer (some ⟨b2, 0, none⟩)), (10, .int .i64 ((a1002_5.length : Nat) : Int)), (31, .slice A5 l3.length k6), (33, .pointer (some ⟨b1002_, 5, none⟩))] (by kernel_rfl) ?_
 refine K.mvN [_, _, _, _, _, _] _ _ ?_
 refine kl_store (cs' := #[.string a1002_0, .int .i64 a1002_1, .int .i64 a1002_2, .int .i64 a1002_3, .slice A_a1002_4 a1002_4.length c_a1002_4, .slice A5 l3.length k6, .int .i64 a1002_6, .slice A_a1002_7 a1002_7.length c_a1002_7]) [.st ⟨b1002_, 5, none⟩ (.slice A5 l3.length k6)] (by kernel_rfl) (by kernel_rfl) (by kernel_rfl) ⟨rfl, trivial⟩ (by kernel_rfl) ?_
 refine k_nil ?_
 refine k_then ?_
 obtain ⟨J14, hJ14, h⟩ := joinSplit h
 refine k_cut (τ := Int × (List ByteArray) × Frag × (Option Addr) × Nat) (fun t => [(0, .pointer (some ⟨b0, 0, none⟩)), (8, .pointer (some ⟨b2, 0, none⟩)), (10, .int .i64 ((a1002_5.length : Nat) : Int))]) (fun t => blk b1002_ (.cells #[.string a1002_0, .int .i64 a1002_1, .int .i64 a1002_2, .int .i64 t.1, .slice A_a1002_4 a1002_4.length c_a1002_4, .slice t.2.2.2.1 t.2.1.length t.2.2.2.2, .int .i64 a1002_6, .slice A_a1002_7 a1002_7.length c_a1002_7] 63 (0, 0)) :: blk b2 (.cells #[.int .i64 a3_0, .string a3_1, .int .i64 a3_2, .int .i64 a3_3, .slice A_a3_4 a3_4.length c_a3_4] 36 (0, 0)) :: blk b0 (.cells #[.slice A_a0_0 a0_0.length c_a0_0, .slice A_a0_1 a0_1.length c_a0_1, .pointer (some ⟨b1002_, 0, none⟩)] 65 (0, 0)) :: H_a0_0 :: H_a0_1 :: H_a1002_4 :: t.2.2.1 :: X) (fun t => J14 t.1 t.2.1 = some r ∧ OwnT encS 9 1 t.2.2.1 (.slice t.2.2.2.1 t.2.1.length t.2.2.2.2) t.2.1) ?_ ?_
 ·rintro ⟨x8, l9, h10, A11, k12⟩ ⟨h, o13⟩
  subst hJ14
  refine k_seq ?_
  refine k_region ?_
  refine kl_steps 3 [(0, .pointer (some ⟨b0, 0, none⟩)), (8, .pointer (some ⟨b2, 0, none⟩)), (10, .int .i64 ((a1002_5.length : Nat) : Int)), (42, .pointer (some ⟨b0, 2, none⟩))] (by kernel_rfl) ?_
  refine kl_load (v := .pointer (some ⟨b1002_, 0, none⟩)) [.val (.pointer (some ⟨b1002_, 0, none⟩))] [.ld ⟨b0, 2, none⟩ (.pointer (some ⟨b1002_, 0, none⟩))] (by kernel_rfl) (by kernel_rfl) (by kernel_rfl) ⟨⟨2, _, _, _, rfl, rfl, rfl⟩, trivial⟩ ?_
  refine kl_steps 2 [(0, .pointer (some ⟨b0, 0, none⟩)), (8, .pointer (some ⟨b2, 0, none⟩)), (10, .int .i64 ((a1002_5.length : Nat) : Int)), (43, .pointer (some ⟨b1002_, 0, none⟩)), (45, .pointer (some ⟨b1002_, 6, none⟩))] (by kernel_rfl) ?_
  refine kl_load (v := .int .i64 a1002_6) [.val (.int .i64 a1002_6)] [.ld ⟨b1002_, 6, none⟩ (.int .i64 a1002_6)] (by kernel_rfl) (by kernel_rfl) (by kernel_rfl) ⟨⟨0, _, _, _, rfl, rfl, rfl⟩, trivial⟩ ?_
  refine kl_steps 3 [(0, .pointer (some ⟨b0, 0, none⟩)), (8, .pointer (some ⟨b2, 0, none⟩)), (10, .int .i64 ((a1002_5.length : Nat) : Int)), (47, .int .i64 (IntKind.i64.wrap (a1002_6 + (1 : Int)))), (49, .pointer (some ⟨b1002_, 6, none⟩))] (by kernel_rfl) ?_
  refine kl_store (cs' := #[.string a1002_0, .int .i64 a1002_1, .int .i64 a1002_2, .int .i64 x8, .slice A_a1002_4 a1002_4.length c_a1002_4, .slice A11 l9.length k12, .int .i64 (IntKind.i64.wrap (a1002_6 + (1 : Int))), .slice A_a1002_7 a1002_7.length c_a1002_7]) [.st ⟨b1002_, 6, none⟩ (.int .i64 (IntKind.i64.wrap (a1002_6 + (1 : Int))))] (by kernel_rfl) (by kernel_rfl) (by kernel_rfl) ⟨rfl, trivial⟩ (by kernel_rfl) ?_
  refine k_nil ?_
  refine k_then ?_
  refine k_seq ?_
  refine k_region ?_
  refine kl_steps 1 [(0, .pointer (some ⟨b0, 0, none⟩)), (8, .pointer (some ⟨b2, 0, none⟩)), (10, .int .i64 ((a1002_5.length : Nat) : Int)), (50, .pointer (some ⟨b0, 0, none⟩))] (by kernel_rfl) ?_
  refine kl_load (v := .agg #[.int .i64 a3_0, .string a3_1, .int .i64 a3_2, .int .i64 a3_3, .slice A_a3_4 a3_4.length c_a3_4]) [.val (.int .i64 a3_0), .val (.string a3_1), .val (.int .i64 a3_2), .val (.int .i64 a3_3), .val (.slice A_a3_4 a3_4.length c_a3_4)] [.ld ⟨b2, 0, none⟩ (.int .i64 a3_0), .ld ⟨b2, 1, none⟩ (.string a3_1), .ld ⟨b2, 2, none⟩ (.int .i64 a3_2), .ld ⟨b2, 3, none⟩ (.int .i64 a3_3), .ld ⟨b2, 4, none⟩ (.slice A_a3_4 a3_4.length c_a3_4)] (by kernel_rfl) (by kernel_rfl) (by kernel_rfl) ⟨⟨1, _, _, _, rfl, rfl, rfl⟩, ⟨1, _, _, _, rfl, rfl, rfl⟩, ⟨1, _, _, _, rfl, rfl, rfl⟩, ⟨1, _, _, _, rfl, rfl, rfl⟩, ⟨1, _, _, _, rfl, rfl, rfl⟩, trivial⟩ ?_
  refine K.mv1 ?_
  refine K.drop ?_
  refine K.mvN [_, _, _, _, _] _ _ ?_
  refine K.mvN [_, _, _, _, _] _ _ ?_
  refine K.mv2 ?_
  refine K.mvN [_, _, _, _, _] _ _ ?_
  refine K.mvN [_, _, _, _, _] _ _ ?_
  refine K.mvN [_, _, _, _, _] _ _ ?_
  rcases prBind h with ⟨i16, hr15, rfl⟩ | ⟨r15, hr15, h⟩
  ·refine kl_call (X) (by kernel_rfl) (by kernel_rfl) (by kernel_rfl) (hR.check_checker_node (b0 := b0) (b1002_ := b1002_) hr15 R_a0_0 R_a0_1 R_a1002_4 o13 R_a1002_7 R_a3_4 hG) rfl ⟨hm_H_a1002_7, hm_H_a3_4, hm_G, trivial⟩ ?_
   rintro _ _ ⟨rfl, rfl⟩
   refine nx_pan ?_
   refine k_then_panic ?_
   refine k_panicked [] ?_
   exact k_end PR.badI
  refine kl_call (X) (by kernel_rfl) (by kernel_rfl) (by kernel_rfl) (hR.check_checker_node (b0 := b0) (b1002_ := b1002_) hr15 R_a0_0 R_a0_1 R_a1002_4 o13 R_a1002_7 R_a3_4 hG) rfl ⟨hm_H_a1002_7, hm_H_a3_4, hm_G, trivial⟩ ?_
  rintro _ _ ⟨h17, A18, k19, h21, A22, k23, h25, A26, k27, h29, A30, k31, o20, o24, o28, o32, rfl, rfl⟩
  refine nx_ret ?_
  refine k_nil ?_
  refine k_then ?_
  refine k_seq ?_
  refine k_region ?_
  refine kl_steps 3 [(0, .pointer (some ⟨b0, 0, none⟩)), (10, .int .i64 ((a1002_5.length : Nat) : Int)), (55, .pointer (some ⟨b0, 2, none⟩))] (by kernel_rfl) ?_
  refine kl_load (v := .pointer (some ⟨b1002_, 0, none⟩)) [.val (.pointer (some ⟨b1002_, 0, none⟩))] [.ld ⟨b0, 2, none⟩ (.pointer (some ⟨b1002_, 0, none⟩))] (by kernel_rfl) (by kernel_rfl) (by kernel_rfl) ⟨⟨0, _, _, _, rfl, rfl, rfl⟩, trivial⟩ ?_
  refine kl_steps 2 [(0, .pointer (some ⟨b0, 0, none⟩)), (10, .int .i64 ((a1002_5.length : Nat) : Int)), (56, .pointer (some ⟨b1002_, 0, none⟩)), (58, .pointer (some ⟨b1002_, 6, none⟩))] (by kernel_rfl) ?_
  refine kl_load (v := .int .i64 r15.2.2.2.2.2) [.val (.int .i64 r15.2.2.2.2.2)] [.ld ⟨b1002_, 6, none⟩ (.int .i64 r15.2.2.2.2.2)] (by kernel_rfl) (by kernel_rfl) (by kernel_rfl) ⟨⟨3, _, _, _, rfl, rfl, rfl⟩, trivial⟩ ?_
  refine kl_steps 3 [(0, .pointer (some ⟨b0, 0, none⟩)), (10, .int .i64 ((a1002_5.length : Nat) : Int)), (60, .int .i64 (IntKind.i64.wrap (r15.2.2.2.2.2 - (1 : Int)))), (62, .pointer (some ⟨b1002_, 6, none⟩))] (by kernel_rfl) ?_
  refine K.mv3 ?_
  refine kl_store (cs' := #[.string a1002_0, .int .i64 a1002_1, .int .i64 a1002_2, .int .i64 r15.2.2.1, .slice A26 r15.2.2.2.1.length k27, .slice A30 r15.2.2.2.2.1.length k31, .int .i64 (IntKind.i64.wrap (r15.2.2.2.2.2 - (1 : Int))), .slice A_a1002_7 a1002_7.length c_a1002_7]) [.st ⟨b1002_, 6, none⟩ (.int .i64 (IntKind.i64.wrap (r15.2.2.2.2.2 - (1 : Int))))] (by kernel_rfl) (by kernel_rfl) (by kernel_rfl) ⟨rfl, trivial⟩ (by kernel_rfl) ?_
  refine k_nil ?_
  refine k_then ?_
  refine k_region_plan [(0, 0), (1, 0), (2, 0), (3, 3), (4, 0), (5, 0), (6, 0), (7, 3), (8, 0), (9, 0), (10, 3), (11, 0), (12, 0)] (fun w => OnAll [blk b1002_ (.cells #[.string a1002_0, .int .i64 a1002_1, .int .i64 a1002_2, .int .i64 r15.2.2.1, .slice A26 r15.2.2.2.1.length k27, .slice A30 r15.2.2.2.2.1.length k31, .int .i64 (IntKind.i64.wrap (r15.2.2.2.2.2 - (1 : Int))), .slice A_a1002_7 a1002_7.length c_a1002_7] 63 (0, 0)), blk b0 (.cells #[.slice A18 r15.1.length k19, .slice A22 r15.2.1.length k23, .pointer (some ⟨b1002_, 0, none⟩)] 65 (0, 0))] w) (by kernel_rfl) (by kernel_rfl) (fun _ _ d _ _ h => by cases d <;> exact h) (fun w h_ => ⟨h_.sat.on _ (.head _), h_.sat.on _ (.tail _ (.head _)), trivial⟩) ?_
  simp only [planOps, List.filterMap_cons, List.filterMap_nil, List.getElem?_toArray, List.getElem?_cons_zero, List.getElem?_cons_succ, Option.map_some, List.drop_succ_cons, List.drop_zero, List.length_cons, List.length_nil]
  refine kp_steps 3 [(0, .pointer (some ⟨b0, 0, none⟩)), (10, .int .i64 ((a1002_5.length : Nat) : Int)), (65, .pointer (some ⟨b0, 2, none⟩))] (by kernel_rfl) (by kernel_rfl) ?_
  refine kp_loadS (v := .pointer (some ⟨b1002_, 0, none⟩)) [blk b1002_ (.cells #[.string a1002_0, .int .i64 a1002_1, .int .i64 a1002_2, .int .i64 r15.2.2.1, .slice A26 r15.2.2.2.1.length k27, .slice A30 r15.2.2.2.2.1.length k31, .int .i64 (IntKind.i64.wrap (r15.2.2.2.2.2 - (1 : Int))), .slice A_a1002_7 a1002_7.length c_a1002_7] 63 (0, 0)), blk b0 (.cells #[.slice A18 r15.1.length k19, .slice A22 r15.2.1.length k23, .pointer (some ⟨b1002_, 0, none⟩)] 65 (0, 0))] [.val (.pointer (some ⟨b1002_, 0, none⟩))] [.ld ⟨b0, 2, none⟩ (.pointer (some ⟨b1002_, 0, none⟩))] (by kernel_rfl) (by kernel_rfl) (by kernel_rfl) (fun _ h => h) ⟨⟨1, _, _, _, rfl, rfl, rfl⟩, trivial⟩ ?_
  refine kp_steps 3 [(10, .int .i64 ((a1002_5.length : Nat) : Int)), (66, .pointer (some ⟨b1002_, 0, none⟩)), (69, .pointer (some ⟨b0, 2, none⟩))] (by kernel_rfl) (by kernel_rfl) ?_
  refine kp_loadS (v := .pointer (some ⟨b1002_, 0, none⟩)) [blk b1002_ (.cells #[.string a1002_0, .int .i64 a1002_1, .int .i64 a1002_2, .int .i64 r15.2.2.1, .slice A26 r15.2.2.2.1.length k27, .slice A30 r15.2.2.2.2.1.length k31, .int .i64 (IntKind.i64.wrap (r15.2.2.2.2.2 - (1 : Int))), .slice A_a1002_7 a1002_7.length c_a1002_7] 63 (0, 0)), blk b0 (.cells #[.slice A18 r15.1.length k19, .slice A22 r15.2.1.length k23, .pointer (some ⟨b1002_, 0, none⟩)] 65 (0, 0))] [.val (.pointer (some ⟨b1002_, 0, none⟩))] [.ld ⟨b0, 2, none⟩ (.pointer (some ⟨b1002_, 0, none⟩))] (by kernel_rfl) (by kernel_rfl) (by kernel_rfl) (fun _ h => h) ⟨⟨1, _, _, _, rfl, rfl, rfl⟩, trivial⟩ ?_
  refine kp_steps 2 [(10, .int .i64 ((a1002_5.length : Nat) : Int)), (66, .pointer (some ⟨b1002_, 0, none⟩)), (72, .pointer (some ⟨b1002_, 5, none⟩))] (by kernel_rfl) (by kernel_rfl) ?_
  refine kp_loadS (v := .slice A30 r15.2.2.2.2.1.length k31) [blk b1002_ (.cells #[.string a1002_0, .int .i64 a1002_1, .int .i64 a1002_2, .int .i64 r15.2.2.1, .slice A26 r15.2.2.2.1.length k27, .slice A30 r15.2.2.2.2.1.length k31, .int .i64 (IntKind.i64.wrap (r15.2.2.2.2.2 - (1 : Int))), .slice A_a1002_7 a1002_7.length c_a1002_7] 63 (0, 0)), blk b0 (.cells #[.slice A18 r15.1.length k19, .slice A22 r15.2.1.length k23, .pointer (some ⟨b1002_, 0, none⟩)] 65 (0, 0))] [.val (.slice A30 r15.2.2.2.2.1.length k31)] [.ld ⟨b1002_, 5, none⟩ (.slice A30 r15.2.2.2.2.1.length k31)] (by kernel_rfl) (by kernel_rfl) (by kernel_rfl) (fun _ h => h) ⟨⟨0, _, _, _, rfl, rfl, rfl⟩, trivial⟩ ?_
  refine kp_steps 1 [(66, .pointer (some ⟨b1002_, 0, none⟩)), (73, .slice A30 r15.2.2.2.2.1.length k31), (74, .int .i64 ((a1002_5.length : Nat) : Int))] (by kernel_rfl) (by kernel_rfl) ?_
  obtain ⟨l33, hl33, h⟩ := bindSome h
  refine kp_cutO (T := 9) (sz := 1) (k := .i64) (xs := r15.2.2.2.2.1) ((a1002_5.length : Nat) : Int) encS_ok rfl (by kernel_rfl) (by kernel_rfl) (by kernel_rfl) (by kernel_rfl) (by kernel_rfl) (by kernel_rfl) hl33 o32 fun o34 => ?_
  refine kp_done ?_
  refine kl_steps 2 [(75, .slice A30 l33.length k31), (77, .pointer (some ⟨b1002_, 5, none⟩))] (by kernel_rfl) ?_
  refine kl_store (cs' := #[.string a1002_0, .int .i64 a1002_1, .int .i64 a1002_2, .int .i64 r15.2.2.1, .slice A26 r15.2.2.2.1.length k27, .slice A30 l33.length k31, .int .i64 (IntKind.i64.wrap (r15.2.2.2.2.2 - (1 : Int))), .slice A_a1002_7 a1002_7.length c_a1002_7]) [.st ⟨b1002_, 5, none⟩ (.slice A30 l33.length k31)] (by kernel_rfl) (by kernel_rfl) (by kernel_rfl) ⟨rfl, trivial⟩ (by kernel_rfl) ?_
  refine k_nil ?_
  refine k_fall ?_
  obtain rfl := Option.some.inj h
  refine k_done (v := .tuple #[]) [] [] [blk b0 (.cells #[.slice A18 r15.1.length k19, .slice A22 r15.2.1.length k23, .pointer (some ⟨b1002_, 0, none⟩)] 65 (0, 0)), h17, h21, blk b1002_ (.cells #[.string a1002_0, .int .i64 a1002_1, .int .i64 a1002_2, .int .i64 r15.2.2.1, .slice A26 r15.2.2.2.1.length k27, .slice A30 l33.length k31, .int .i64 (IntKind.i64.wrap (r15.2.2.2.2.2 - (1 : Int))), .slice A_a1002_7 a1002_7.length c_a1002_7] 63 (0, 0)), h25, h29] (by kernel_rfl) (by kernel_rfl) trivial ?_
  refine K.mvN [_, _, _, _, _] _ _ ?_
  refine K.mvN [_, _, _, _, _] _ _ ?_
  refine K.mv2 ?_
  refine K.mvN [_, _, _, _, _] _ _ ?_
  refine K.mvN [_, _, _, _, _] _ _ ?_
  refine K.mvN [_, _, _, _, _] _ _ ?_
  exact k_end (PR.okI ⟨h17, A18, k19, h21, A22, k23, h25, A26, k27, h29, A30, k31, o20, o24, o28, o34, rfl, rfl⟩)
 ·skip
  refine k_seq ?_
  refine k_region ?_
  refine kl_steps 2 [(0, .pointer (some ⟨b0, 0, none⟩)), (2, .slice A_a2 a2.length c_a2), (6, .pointer (some ⟨b1, 0, none⟩)), (8, .pointer (some ⟨b2, 0, none⟩)), (10, .int .i64 ((a1002_5.length : Nat) : Int)), (35, .bool (decide (a4 > (0 : Int))))] (by kernel_rfl) ?_
  refine k_nil ?_
  refine k_then ?_
  refine k_cond (t := decide (a4 > (0 : Int))) (by kernel_rfl) (fun t35 => ?_) (fun t35 => ?_)
  ·have h := condT h t35
   refine k_region ?_
   refine kl_steps 1 [(0, .pointer (some ⟨b0, 0, none⟩)), (2, .slice A_a2 a2.length c_a2), (6, .pointer (some ⟨b1, 0, none⟩)), (8, .pointer (some ⟨b2, 0, none⟩)), (10, .int .i64 ((a1002_5.length : Nat) : Int)), (36, .pointer (some ⟨b0, 0, none⟩))] (by kernel_rfl) ?_
   refine kl_load (v := .agg #[.int .i64 a1_0, .string a1_1, .int .i64 a1_2, .int .i64 a1_3, .slice A_a1_4 a1_4.length c_a1_4]) [.val (.int .i64 a1_0), .val (.string a1_1), .val (.int .i64 a1_2), .val (.int .i64 a1_3), .val (.slice A_a1_4 a1_4.length c_a1_4)] [.ld ⟨b1, 0, none⟩ (.int .i64 a1_0), .ld ⟨b1, 1, none⟩ (.string a1_1), .ld ⟨b1, 2, none⟩ (.int .i64 a1_2), .ld ⟨b1, 3, none⟩ (.int .i64 a1_3), .ld ⟨b1, 4, none⟩ (.slice A_a1_4 a1_4.length c_a1_4)] (by kernel_rfl) (by kernel_rfl) (by kernel_rfl) ⟨⟨3, _, _, _, rfl, rfl, rfl⟩, ⟨3, _, _, _, rfl, rfl, rfl⟩, ⟨3, _, _, _, rfl, rfl, rfl⟩, ⟨3, _, _, _, rfl, rfl, rfl⟩, ⟨3, _, _, _, rfl, rfl, rfl⟩, trivial⟩ ?_
   refine K.mv3 ?_
   refine K.drop ?_
   refine kl_steps 1 [(0, .pointer (some ⟨b0, 0, none⟩)), (8, .pointer (some ⟨b2, 0, none⟩)), (10, .int .i64 ((a1002_5.length : Nat) : Int)), (36, .pointer (some ⟨b0, 0, none⟩)), (37, .agg #[.int .i64 a1_0, .string a1_1, .int .i64 a1_2, .int .i64 a1_3, .slice A_a1_4 a1_4.length c_a1_4]), (38, .slice A_a2 a2.length c_a2)] (by kernel_rfl) ?_
   refine K.mv1 ?_
   refine K.mv1 ?_
   refine K.mv3 ?_
   rcases prBind h with ⟨i37, hr36, rfl⟩ | ⟨r36, hr36, h⟩
   ·refine kl_call (blk b2 (.cells #[.int .i64 a3_0, .string a3_1, .int .i64 a3_2, .int .i64 a3_3, .slice A_a3_4 a3_4.length c_a3_4] 36 (0, 0)) :: H_a0_0 :: H_a0_1 :: H_a1002_4 :: X) (by kernel_rfl) (by kernel_rfl) (by kernel_rfl) (check_checker_bring.ok (b0 := b0) (b1002_ := b1002_) hr36 (OwnR.rd R_a0_0) (OwnT.rd R_a0_1) (OwnT.rd R_a1002_4) o7 R_a1002_7 R_a1_4 R_a2) rfl ⟨(.tail _ (.head _)), (.tail _ (.tail _ (.head _))), (.tail _ (.tail _ (.tail _ (.head _)))), (.tail _ (.tail _ (.tail _ (.tail _ hm_H_a1002_7)))), (.tail _ (.tail _ (.tail _ (.tail _ hm_H_a1_4)))), (.tail _ (.tail _ (.tail _ (.tail _ hm_H_a2)))), trivial⟩ ?_
    rintro _ _ ⟨rfl, rfl⟩
    refine nx_pan ?_
    refine k_then_panic ?_
    refine k_panicked [] ?_
    refine K.drop ?_
    refine K.drop ?_
    refine K.drop ?_
    refine K.drop ?_
    exact k_end PR.badI
   refine kl_call (blk b2 (.cells #[.int .i64 a3_0, .string a3_1, .int .i64 a3_2, .int .i64 a3_3, .slice A_a3_4 a3_4.length c_a3_4] 36 (0, 0)) :: H_a0_0 :: H_a0_1 :: H_a1002_4 :: X) (by kernel_rfl) (by kernel_rfl) (by kernel_rfl) (check_checker_bring.ok (b0 := b0) (b1002_ := b1002_) hr36 (OwnR.rd R_a0_0) (OwnT.rd R_a0_1) (OwnT.rd R_a1002_4) o7 R_a1002_7 R_a1_4 R_a2) rfl ⟨(.tail _ (.head _)), (.tail _ (.tail _ (.head _))), (.tail _ (.tail _ (.tail _ (.head _)))), (.tail _ (.tail _ (.tail _ (.tail _ hm_H_a1002_7)))), (.tail _ (.tail _ (.tail _ (.tail _ hm_H_a1_4)))), (.tail _ (.tail _ (.tail _ (.tail _ hm_H_a2)))), trivial⟩ ?_
   rintro _ _ ⟨h38, A39, k40, o41, rfl, rfl⟩
   refine nx_ret3 ?_
   refine k_nil ?_
   refine k_then ?_
   refine K.mv2 ?_
   refine K.mvN [_, _, _, _, _, _] _ _ ?_
   refine K.mvN [_, _, _, _, _, _] _ _ ?_
   refine K.mvN [_, _, _, _, _, _] _ _ ?_
   refine K.mv4 ?_
   refine K.mvN [_, _, _, _, _, _] _ _ ?_
   refine K.mvN [_, _, _, _, _, _] _ _ ?_
   exact k_meet (r36.1, r36.2, h38, A39, k40) ⟨h, o41⟩ ⟨rfl, rfl, rfl, trivial⟩ rfl
  ·have h := condF h t35
   refine k_skip ?_
   refine k_then ?_
   refine K.mv3 ?_
   refine K.drop ?_
   refine K.mv1 ?_
   refine K.mvN [_, _, _, _, _, _] _ _ ?_
   refine K.mvN [_, _, _, _, _, _] _ _ ?_
   refine K.mvN [_, _, _, _, _, _] _ _ ?_
   refine K.mvN [_, _, _, _, _, _] _ _ ?_
   refine K.mvN [_, _, _, _, _, _] _ _ ?_
   refine K.mvN [_, _, _, _, _, _] _ _ ?_
   exact k_meet (a1002_3, l3, h4, A5, k6) ⟨h, o7⟩ ⟨rfl, rfl, rfl, trivial⟩ rfl
def check_checker_function.g (Rc : CK) (k : Nat) (a0_0 : List (ByteArray × Int × Int × Int × List (Int × Int × ByteArray))) (a0_1 : List ByteArray) (a1002_0 : ByteArray) (a1002_1 : Int) (a1002_2 : Int) (a1002_3 : Int) (a1002_4 : List (Int × Int × ByteArray)) (a1002_5 : List ByteArray) (a1002_6 : Int) (a1002_7 : List ByteArray) (a1_0 : Int) (a1_1 : ByteArray) (a1_2 : Int) (a1_3 : Int) (a1_4 : List Tree) : Option (PR (List (ByteArray × Int × Int × Int × List (Int × Int × ByteArray)) × List ByteArray × Int × List (Int × Int × ByteArray) × List ByteArray × Int) (Int × Int)) := PR.bind (check_few.f k a1_0 a1_1 a1_2 a1_3 a1_4 ((a0_0.length : Nat) : Int) (100 : Int)) fun r2 => joinF (fun (_ : Unit) => PR.bind (check_few.f k a1_0 a1_1 a1_2 a1_3 a1_4 a1_2 (50 : Int)) fun r5 => (check_checker_global.f k a0_0 a0_1 a1002_0 a1002_1 a1002_2 a1002_3 a1002_4 a1002_5 a1002_6 a1002_7 a1_1).bind fun r7 => (lSub a1_4 (0 : Int) a1_2).bind fun l13 => PR.bind (check_checker_bring.f k a0_0 r7 a1_1 a1_3 a1_2 (0 : Int) ([]) ([]) (0 : Int) a1002_5 a1_0 a1_1 a1_2 a1_3 a1_4 l13) fun r17 => (lIdx a1_4 a1_2).bind fun x23 => PR.bind (Rc.check_checker_node a0_0 r7 a1_1 a1_3 a1_2 r17.1 ([]) r17.2 (0 : Int) a1002_5 x23.kind x23.text x23.n x23.at_ x23.kids false) fun r32 => (apd 64 r32.1 [(a1_1, a1_3, a1_2, r32.2.2.1, r32.2.2.2.1)]).bind fun l53 => some (PR.ok (l53, r32.2.1, a1002_3, a1002_4, a1002_5, a1002_6))) (fun J4 => (check_kept.f k a1_1).bind fun r58 => cond r58 (PR.bind (check_fail.f k (5 : Int) a1_3) fun r60 => J4 ()) (J4 ()))
set_option maxRecDepth 100000 in
theorem check_checker_function.okg {Rc : CK} (hR : Rc.Good) {k : Nat} {a0_0 : List (ByteArray × Int × Int × Int × List (Int × Int × ByteArray))} {a0_1 : List ByteArray} {a1002_0 : ByteArray} {a1002_1 : Int} {a1002_2 : Int} {a1002_3 : Int} {a1002_4 : List (Int × Int × ByteArray)} {a1002_5 : List ByteArray} {a1002_6 : Int} {a1002_7 : List ByteArray} {a1_0 : Int} {a1_1 : ByteArray} {a1_2 : Int} {a1_3 : Int} {a1_4 : List Tree} {b0 : Nat} {H_a0_0 : Frag} {A_a0_0 : Option Addr} {c_a0_0 : Nat} {H_a0_1 : Frag} {A_a0_1 : Option Addr} {c_a0_1 : Nat} {b1002_ : Nat} {H_a1002_4 : Frag} {A_a1002_4 : Option Addr} {c_a1002_4 : Nat} {H_a1002_5 : Frag} {A_a1002_5 : Option Addr} {c_a1002_5 : Nat} {H_a1002_7 : Frag} {A_a1002_7 : Option Addr} {c_a1002_7 : Nat} {H_a1_4 : Frag} {A_a1_4 : Option Addr} {c_a1_4 : Nat} {G : Frag} {r : PR (List (ByteArray × Int × Int × Int × List (Int × Int × ByteArray)) × List ByteArray × Int × List (Int × Int × ByteArray) × List ByteArray × Int) (Int × Int)} (h : check_checker_function.g Rc k a0_0 a0_1 a1002_0 a1002_1 a1002_2 a1002_3 a1002_4 a1002_5 a1002_6 a1002_7 a1_0 a1_1 a1_2 a1_3 a1_4 = some r) (R_a0_0 : OwnR rs42 42 H_a0_0 (.slice A_a0_0 a0_0.length c_a0_0) a0_0) (R_a0_1 : OwnT encS 9 1 H_a0_1 (.slice A_a0_1 a0_1.length c_a0_1) a0_1) (R_a1002_4 : OwnT e53 53 3 H_a1002_4 (.slice A_a1002_4 a1002_4.length c_a1002_4) a1002_4) (R_a1002_5 : OwnT encS 9 1 H_a1002_5 (.slice A_a1002_5 a1002_5.length c_a1002_5) a1002_5) (R_a1002_7 : RdT encS 1 H_a1002_7 (.slice A_a1002_7 a1002_7.length c_a1002_7) a1002_7) (R_a1_4 : RdR (rTree 36) H_a1_4 (.slice A_a1_4 a1_4.length c_a1_4) a1_4) (hG : GlP G) : Ct Tryz.prog 36 #[.pointer (some ⟨b0, 0, none⟩), .agg #[.int .i64 a1_0, .string a1_1, .int .i64 a1_2, .int .i64 a1_3, .slice A_a1_4 a1_4.length c_a1_4]] [blk b0 (.cells #[.slice A_a0_0 a0_0.length c_a0_0, .slice A_a0_1 a0_1.length c_a0_1, .pointer (some ⟨b1002_, 0, none⟩)] 65 (0, 0)), H_a0_0, H_a0_1, blk b1002_ (.cells #[.string a1002_0, .int .i64 a1002_1, .int .i64 a1002_2, .int .i64 a1002_3, .slice A_a1002_4 a1002_4.length c_a1002_4, .slice A_a1002_5 a1002_5.length c_a1002_5, .int .i64 a1002_6, .slice A_a1002_7 a1002_7.length c_a1002_7] 63 (0, 0)), H_a1002_4, H_a1002_5] [H_a1002_7, H_a1_4, G] (PR.Post failC (fun (r : List (ByteArray × Int × Int × Int × List (Int × Int × ByteArray)) × List ByteArray × Int × List (Int × Int × ByteArray) × List ByteArray × Int) e l1 => ∃ (H0_ : Frag) (A0_ : Option Addr) (c0_ : Nat) (H1_ : Frag) (A1_ : Option Addr) (c1_ : Nat) (H2_ : Frag) (A2_ : Option Addr) (c2_ : Nat) (H3_ : Frag) (A3_ : Option Addr) (c3_ : Nat), OwnR rs42 42 H0_ (.slice A0_ r.1.length c0_) r.1 ∧ OwnT encS 9 1 H1_ (.slice A1_ r.2.1.length c1_) r.2.1 ∧ OwnT e53 53 3 H2_ (.slice A2_ r.2.2.2.1.length c2_) r.2.2.2.1 ∧ OwnT encS 9 1 H3_ (.slice A3_ r.2.2.2.2.1.length c3_) r.2.2.2.2.1 ∧ e = .returned (.tuple #[]) ∧ l1 = [blk b0 (.cells #[.slice A0_ r.1.length c0_, .slice A1_ r.2.1.length c1_, .pointer (some ⟨b1002_, 0, none⟩)] 65 (0, 0)), H0_, H1_, blk b1002_ (.cells #[.string a1002_0, .int .i64 a1002_1, .int .i64 a1002_2, .int .i64 r.2.2.1, .slice A2_ r.2.2.2.1.length c2_, .slice A3_ r.2.2.2.2.1.length c3_, .int .i64 r.2.2.2.2.2, .slice A_a1002_7 a1002_7.length c_a1002_7] 63 (0, 0)), H2_, H3_]) r) := by
 refine ct_enter (args := [.pointer (some ⟨b0, 0, none⟩), .agg #[.int .i64 a1_0, .string a1_1, .int .i64 a1_2, .int .i64 a1_3, .slice A_a1_4 a1_4.length c_a1_4]]) Tryz.func36 rfl (Nat.le_of_ble_eq_true rfl) ?_
 intro A X hh_
 obtain ⟨hm_H_a1002_7, hm_H_a1_4, hm_G, _⟩ := hh_
 unfold check_checker_function.g at h
 refine K.eq (env' := [(0, .pointer (some ⟨b0, 0, none⟩)), (1, .agg #[.int .i64 a1_0, .string a1_1, .int .i64 a1_2, .int .i64 a1_3, .slice A_a1_4 a1_4.length c_a1_4])]) (l' := blk b0 (.cells #[.slice A_a0_0 a0_0.length c_a0_0, .slice A_a0_1 a0_1.length c_a0_1, .pointer (some ⟨b1002_, 0, none⟩)] 65 (0, 0)) :: H_a0_0 :: H_a0_1 :: blk b1002_ (.cells #[.string a1002_0, .int .i64 a1002_1, .int .i64 a1002_2, .int .i64 a1002_3, .slice A_a1002_4 a1002_4.length c_a1002_4, .slice A_a1002_5 a1002_5.length c_a1002_5, .int .i64 a1002_6, .slice A_a1002_7 a1002_7.length c_a1002_7] 63 (0, 0)) :: H_a1002_4 :: H_a1002_5 :: X) rfl rfl ?_
 refine k_seq ?_
 refine k_region ?_
 refine kl_new (.cells #[.int .i64 a1_0, .string a1_1, .int .i64 a1_2, .int .i64 a1_3, .slice A_a1_4 a1_4.length c_a1_4] 36 (0, 0)) (fun b => .pointer (some ⟨b, 0, none⟩)) (by kernel_rfl) (by kernel_rfl) (fun _ => by kernel_rfl) fun b1 => ?_
 refine k_nil ?_
 refine k_then ?_
 refine k_seq ?_
 refine k_region_plan [(0, 3), (1, 0), (2, 0), (3, 0), (4, 0), (5, 3), (6, 0)] (fun w => OnAll [blk b1 (.cells #[.int .i64 a1_0, .string a1_1, .int .i64 a1_2, .int .i64 a1_3, .slice A_a1_4 a1_4.length c_a1_4] 36 (0, 0)), blk b0 (.cells #[.slice A_a0_0 a0_0.length c_a0_0, .slice A_a0_1 a0_1.length c_a0_1, .pointer (some ⟨b1002_, 0, none⟩)] 65 (0, 0))] w) (by kernel_rfl) (by kernel_rfl) (fun _ _ d _ _ h => by cases d <;> exact h) (fun w h_ => ⟨h_.sat.on _ (.head _), h_.sat.on _ (.tail _ (.head _)), trivial⟩) ?_
 simp only [planOps, List.filterMap_cons, List.filterMap_nil, List.getElem?_toArray, List.getElem?_cons_zero, List.getElem?_cons_succ, Option.map_some, List.drop_succ_cons, List.drop_zero, List.length_cons, List.length_nil]
 refine kp_loadS (v := .agg #[.int .i64 a1_0, .string a1_1, .int .i64 a1_2, .int .i64 a1_3, .slice A_a1_4 a1_4.length c_a1_4]) [blk b1 (.cells #[.int .i64 a1_0, .string a1_1, .int .i64 a1_2, .int .i64 a1_3, .slice A_a1_4 a1_4.length c_a1_4] 36 (0, 0)), blk b0 (.cells #[.slice A_a0_0 a0_0.length c_a0_0, .slice A_a0_1 a0_1.length c_a0_1, .pointer (some ⟨b1002_, 0, none⟩)] 65 (0, 0))] [.val (.int .i64 a1_0), .val (.string a1_1), .val (.int .i64 a1_2), .val (.int .i64 a1_3), .val (.slice A_a1_4 a1_4.length c_a1_4)] [.ld ⟨b1, 0, none⟩ (.int .i64 a1_0), .ld ⟨b1, 1, none⟩ (.string a1_1), .ld ⟨b1, 2, none⟩ (.int .i64 a1_2), .ld ⟨b1, 3, none⟩ (.int .i64 a1_3), .ld ⟨b1, 4, none⟩ (.slice A_a1_4 a1_4.length c_a1_4)] (by kernel_rfl) (by kernel_rfl) (by kernel_rfl) (fun _ h => h) ⟨⟨0, _, _, _, rfl, rfl, rfl⟩, ⟨0, _, _, _, rfl, rfl, rfl⟩, ⟨0, _, _, _, rfl, rfl, rfl⟩, ⟨0, _, _, _, rfl, rfl, rfl⟩, ⟨0, _, _, _, rfl, rfl, rfl⟩, trivial⟩ ?_
 refine kp_steps 4 [(0, .pointer (some ⟨b0, 0, none⟩)), (3, .pointer (some ⟨b1, 0, none⟩)), (5, .agg #[.int .i64 a1_0, .string a1_1, .int .i64 a1_2, .int .i64 a1_3, .slice A_a1_4 a1_4.length c_a1_4]), (9, .pointer (some ⟨b0, 0, none⟩))] (by kernel_rfl) (by kernel_rfl) ?_
 refine kp_loadS (v := .slice A_a0_0 a0_0.length c_a0_0) [blk b1 (.cells #[.int .i64 a1_0, .string a1_1, .int .i64 a1_2, .int .i64 a1_3, .slice A_a1_4 a1_4.length c_a1_4] 36 (0, 0)), blk b0 (.cells #[.slice A_a0_0 a0_0.length c_a0_0, .slice A_a0_1 a0_1.length c_a0_1, .pointer (some ⟨b1002_, 0, none⟩)] 65 (0, 0))] [.val (.slice A_a0_0 a0_0.length c_a0_0)] [.ld ⟨b0, 0, none⟩ (.slice A_a0_0 a0_0.length c_a0_0)] (by kernel_rfl) (by kernel_rfl) (by kernel_rfl) (fun _ h => h) ⟨⟨1, _, _, _, rfl, rfl, rfl⟩, trivial⟩ ?_
 refine kp_steps 1 [(0, .pointer (some ⟨b0, 0, none⟩)), (3, .pointer (some ⟨b1, 0, none⟩)), (5, .agg #[.int .i64 a1_0, .string a1_1, .int .i64 a1_2, .int .i64 a1_3, .slice A_a1_4 a1_4.length c_a1_4]), (11, .int .i64 ((a0_0.length : Nat) : Int))] (by kernel_rfl) (by kernel_rfl) ?_
 refine kp_done ?_
 rcases prBind h with ⟨i3, hr2, rfl⟩ | ⟨r2, hr2, h⟩
 ·refine kl_call (blk b1 (.cells #[.int .i64 a1_0, .string a1_1, .int .i64 a1_2, .int .i64 a1_3, .slice A_a1_4 a1_4.length c_a1_4] 36 (0, 0)) :: blk b0 (.cells #[.slice A_a0_0 a0_0.length c_a0_0, .slice A_a0_1 a0_1.length c_a0_1, .pointer (some ⟨b1002_, 0, none⟩)] 65 (0, 0)) :: H_a0_0 :: H_a0_1 :: blk b1002_ (.cells #[.string a1002_0, .int .i64 a1002_1, .int .i64 a1002_2, .int .i64 a1002_3, .slice A_a1002_4 a1002_4.length c_a1002_4, .slice A_a1002_5 a1002_5.length c_a1002_5, .int .i64 a1002_6, .slice A_a1002_7 a1002_7.length c_a1002_7] 63 (0, 0)) :: H_a1002_4 :: H_a1002_5 :: X) (by kernel_rfl) (by kernel_rfl) (by kernel_rfl) (check_few.ok hr2 R_a1_4) rfl ⟨(.tail _ (.tail _ (.tail _ (.tail _ (.tail _ (.tail _ (.tail _ hm_H_a1_4))))))), trivial⟩ ?_
  rintro _ _ ⟨rfl, rfl⟩
  refine nx_pan ?_
  refine k_then_panic ?_
  refine k_panicked [] ?_
  refine K.drop ?_
  refine K.drop ?_
  refine K.drop ?_
  refine K.drop ?_
  refine K.drop ?_
  refine K.drop ?_
  refine K.drop ?_
  exact k_end PR.badI
 refine kl_call (blk b1 (.cells #[.int .i64 a1_0, .string a1_1, .int .i64 a1_2, .int .i64 a1_3, .slice A_a1_4 a1_4.length c_a1_4] 36 (0, 0)) :: blk b0 (.cells #[.slice A_a0_0 a0_0.length c_a0_0, .slice A_a0_1 a0_1.length c_a0_1, .pointer (some ⟨b1002_, 0, none⟩)] 65 (0, 0)) :: H_a0_0 :: H_a0_1 :: blk b1002_ (.cells #[.string a1002_0, .int .i64 a1002_1, .int .i64 a1002_2, .int .i64 a1002_3, .slice A_a1002_4 a1002_4.length c_a1002_4, .slice A_a1002_5 a1002_5.length c_a1002_5, .int .i64 a1002_6, .slice A_a1002_7 a1002_7.length c_a1002_7] 63 (0, 0)) :: H_a1002_4 :: H_a1002_5 :: X) (by kernel_rfl) (by kernel_rfl) (by kernel_rfl) (check_few.ok hr2 R_a1_4) rfl ⟨(.tail _ (.tail _ (.tail _ (.tail _ (.tail _ (.tail _ (.tail _ hm_H_a1_4))))))), trivial⟩ ?_
 rintro _ _ ⟨rfl, rfl⟩
 refine nx_ret0 ?_
 refine k_nil ?_
 refine k_then ?_
 obtain ⟨J4, hJ4, h⟩ := joinSplit h
 refine k_cut (τ := Unit) (fun t => [(0, .pointer (some ⟨b0, 0, none⟩)), (3, .pointer (some ⟨b1, 0, none⟩))]) (fun t => blk b1 (.cells #[.int .i64 a1_0, .string a1_1, .int .i64 a1_2, .int .i64 a1_3, .slice A_a1_4 a1_4.length c_a1_4] 36 (0, 0)) :: blk b0 (.cells #[.slice A_a0_0 a0_0.length c_a0_0, .slice A_a0_1 a0_1.length c_a0_1, .pointer (some ⟨b1002_, 0, none⟩)] 65 (0, 0)) :: H_a0_0 :: H_a0_1 :: blk b1002_ (.cells #[.string a1002_0, .int .i64 a1002_1, .int .i64 a1002_2, .int .i64 a1002_3, .slice A_a1002_4 a1002_4.length c_a1002_4, .slice A_a1002_5 a1002_5.length c_a1002_5, .int .i64 a1002_6, .slice A_a1002_7 a1002_7.length c_a1002_7] 63 (0, 0)) :: H_a1002_4 :: H_a1002_5 :: X) (fun t => J4 () = some r) ?_ ?_
 ·rintro ⟨⟩ h
  subst hJ4
  refine k_seq ?_
  refine k_region ?_
  refine kl_load (v := .agg #[.int .i64 a1_0, .string a1_1, .int .i64 a1_2, .int .i64 a1_3, .slice A_a1_4 a1_4.length c_a1_4]) [.val (.int .i64 a1_0), .val (.string a1_1), .val (.int .i64 a1_2), .val (.int .i64 a1_3), .val (.slice A_a1_4 a1_4.length c_a1_4)] [.ld ⟨b1, 0, none⟩ (.int .i64 a1_0), .ld ⟨b1, 1, none⟩ (.string a1_1), .ld ⟨b1, 2, none⟩ (.int .i64 a1_2), .ld ⟨b1, 3, none⟩ (.int .i64 a1_3), .ld ⟨b1, 4, none⟩ (.slice A_a1_4 a1_4.length c_a1_4)] (by kernel_rfl) (by kernel_rfl) (by kernel_rfl) ⟨⟨0, _, _, _, rfl, rfl, rfl⟩, ⟨0, _, _, _, rfl, rfl, rfl⟩, ⟨0, _, _, _, rfl, rfl, rfl⟩, ⟨0, _, _, _, rfl, rfl, rfl⟩, ⟨0, _, _, _, rfl, rfl, rfl⟩, trivial⟩ ?_
  refine kl_steps 1 [(0, .pointer (some ⟨b0, 0, none⟩)), (3, .pointer (some ⟨b1, 0, none⟩)), (19, .agg #[.int .i64 a1_0, .string a1_1, .int .i64 a1_2, .int .i64 a1_3, .slice A_a1_4 a1_4.length c_a1_4]), (20, .pointer (some ⟨b1, 2, none⟩))] (by kernel_rfl) ?_
  refine kl_load (v := .int .i64 a1_2) [.val (.int .i64 a1_2)] [.ld ⟨b1, 2, none⟩ (.int .i64 a1_2)] (by kernel_rfl) (by kernel_rfl) (by kernel_rfl) ⟨⟨0, _, _, _, rfl, rfl, rfl⟩, trivial⟩ ?_
  rcases prBind h with ⟨i6, hr5, rfl⟩ | ⟨r5, hr5, h⟩
  ·refine kl_call (blk b1 (.cells #[.int .i64 a1_0, .string a1_1, .int .i64 a1_2, .int .i64 a1_3, .slice A_a1_4 a1_4.length c_a1_4] 36 (0, 0)) :: blk b0 (.cells #[.slice A_a0_0 a0_0.length c_a0_0, .slice A_a0_1 a0_1.length c_a0_1, .pointer (some ⟨b1002_, 0, none⟩)] 65 (0, 0)) :: H_a0_0 :: H_a0_1 :: blk b1002_ (.cells #[.string a1002_0, .int .i64 a1002_1, .int .i64 a1002_2, .int .i64 a1002_3, .slice A_a1002_4 a1002_4.length c_a1002_4, .slice A_a1002_5 a1002_5.length c_a1002_5, .int .i64 a1002_6, .slice A_a1002_7 a1002_7.length c_a1002_7] 63 (0, 0)) :: H_a1002_4 :: H_a1002_5 :: X) (by kernel_rfl) (by kernel_rfl) (by kernel_rfl) (check_few.ok hr5 R_a1_4) rfl ⟨(.tail _ (.tail _ (.tail _ (.tail _ (.tail _ (.tail _ (.tail _ hm_H_a1_4))))))), trivial⟩ ?_
   rintro _ _ ⟨rfl, rfl⟩
   refine nx_pan ?_
   refine k_then_panic ?_
   refine k_panicked [] ?_
   refine K.drop ?_
   refine K.drop ?_
   refine K.drop ?_
   refine K.drop ?_
   refine K.drop ?_
   refine K.drop ?_
   refine K.drop ?_
   exact k_end PR.badI
  refine kl_call (blk b1 (.cells #[.int .i64 a1_0, .string a1_1, .int .i64 a1_2, .int .i64 a1_3, .slice A_a1_4 a1_4.length c_a1_4] 36 (0, 0)) :: blk b0 (.cells #[.slice A_a0_0 a0_0.length c_a0_0, .slice A_a0_1 a0_1.length c_a0_1, .pointer (some ⟨b1002_, 0, none⟩)] 65 (0, 0)) :: H_a0_0 :: H_a0_1 :: blk b1002_ (.cells #[.string a1002_0, .int .i64 a1002_1, .int .i64 a1002_2, .int .i64 a1002_3, .slice A_a1002_4 a1002_4.length c_a1002_4, .slice A_a1002_5 a1002_5.length c_a1002_5, .int .i64 a1002_6, .slice A_a1002_7 a1002_7.length c_a1002_7] 63 (0, 0)) :: H_a1002_4 :: H_a1002_5 :: X) (by kernel_rfl) (by kernel_rfl) (by kernel_rfl) (check_few.ok hr5 R_a1_4) rfl ⟨(.tail _ (.tail _ (.tail _ (.tail _ (.tail _ (.tail _ (.tail _ hm_H_a1_4))))))), trivial⟩ ?_
  rintro _ _ ⟨rfl, rfl⟩
  refine nx_ret0 ?_
  refine k_nil ?_
  refine k_then ?_
  refine k_seq ?_
  refine k_region ?_
  refine kl_steps 2 [(0, .pointer (some ⟨b0, 0, none⟩)), (3, .pointer (some ⟨b1, 0, none⟩)), (23, .pointer (some ⟨b0, 0, none⟩)), (24, .pointer (some ⟨b1, 1, none⟩))] (by kernel_rfl) ?_
  refine kl_load (v := .string a1_1) [.val (.string a1_1)] [.ld ⟨b1, 1, none⟩ (.string a1_1)] (by kernel_rfl) (by kernel_rfl) (by kernel_rfl) ⟨⟨0, _, _, _, rfl, rfl, rfl⟩, trivial⟩ ?_
  refine K.mv4 ?_
  refine K.mv4 ?_
  refine K.mv3 ?_
  obtain ⟨r7, hr7, h⟩ := bindSome h
  refine kl_call (blk b1 (.cells #[.int .i64 a1_0, .string a1_1, .int .i64 a1_2, .int .i64 a1_3, .slice A_a1_4 a1_4.length c_a1_4] 36 (0, 0)) :: H_a0_0 :: H_a1002_4 :: H_a1002_5 :: X) (by kernel_rfl) (by kernel_rfl) (by kernel_rfl) (check_checker_global.ok (b0 := b0) (b1002_ := b1002_) hr7 (OwnR.rd R_a0_0) R_a0_1 (OwnT.rd R_a1002_4) (OwnT.rd R_a1002_5) R_a1002_7) rfl ⟨(.tail _ (.head _)), (.tail _ (.tail _ (.head _))), (.tail _ (.tail _ (.tail _ (.head _)))), (.tail _ (.tail _ (.tail _ (.tail _ hm_H_a1002_7)))), trivial⟩ ?_
  rintro _ _ ⟨h8, A9, k10, o11, rfl, rfl⟩
  refine nx_ret3 ?_
  refine k_nil ?_
  refine k_then ?_
  refine k_seq ?_
  refine k_region ?_
  refine kl_steps 3 [(0, .pointer (some ⟨b0, 0, none⟩)), (3, .pointer (some ⟨b1, 0, none⟩)), (29, .pointer (some ⟨b0, 2, none⟩))] (by kernel_rfl) ?_
  refine kl_load (v := .pointer (some ⟨b1002_, 0, none⟩)) [.val (.pointer (some ⟨b1002_, 0, none⟩))] [.ld ⟨b0, 2, none⟩ (.pointer (some ⟨b1002_, 0, none⟩))] (by kernel_rfl) (by kernel_rfl) (by kernel_rfl) ⟨⟨0, _, _, _, rfl, rfl, rfl⟩, trivial⟩ ?_
  refine kl_steps 1 [(0, .pointer (some ⟨b0, 0, none⟩)), (3, .pointer (some ⟨b1, 0, none⟩)), (4, .pointer (some ⟨b1002_, 0, none⟩))] (by kernel_rfl) ?_
  refine k_nil ?_
  refine k_then ?_
  refine k_seq ?_
  refine k_region_plan [(0, 0), (1, 0), (2, 3), (3, 0), (4, 3), (5, 0), (6, 3), (7, 0), (8, 0), (9, 0), (10, 0), (11, 3)] (fun w => OnAll [blk b1002_ (.cells #[.string a1002_0, .int .i64 a1002_1, .int .i64 a1002_2, .int .i64 a1002_3, .slice A_a1002_4 a1002_4.length c_a1002_4, .slice A_a1002_5 a1002_5.length c_a1002_5, .int .i64 a1002_6, .slice A_a1002_7 a1002_7.length c_a1002_7] 63 (0, 0)), blk b1 (.cells #[.int .i64 a1_0, .string a1_1, .int .i64 a1_2, .int .i64 a1_3, .slice A_a1_4 a1_4.length c_a1_4] 36 (0, 0))] w) (by kernel_rfl) (by kernel_rfl) (fun _ _ d _ _ h => by cases d <;> exact h) (fun w h_ => ⟨h_.sat.on _ (.tail _ (.tail _ (.head _))), h_.sat.on _ (.tail _ (.tail _ (.tail _ (.head _)))), trivial⟩) ?_
  simp only [planOps, List.filterMap_cons, List.filterMap_nil, List.getElem?_toArray, List.getElem?_cons_zero, List.getElem?_cons_succ, Option.map_some, List.drop_succ_cons, List.drop_zero, List.length_cons, List.length_nil]
  refine kp_steps 2 [(0, .pointer (some ⟨b0, 0, none⟩)), (3, .pointer (some ⟨b1, 0, none⟩)), (4, .pointer (some ⟨b1002_, 0, none⟩)), (31, .pointer (some ⟨b0, 0, none⟩)), (32, .pointer (some ⟨b1, 1, none⟩))] (by kernel_rfl) (by kernel_rfl) ?_
  refine kp_loadS (v := .string a1_1) [blk b1002_ (.cells #[.string a1002_0, .int .i64 a1002_1, .int .i64 a1002_2, .int .i64 a1002_3, .slice A_a1002_4 a1002_4.length c_a1002_4, .slice A_a1002_5 a1002_5.length c_a1002_5, .int .i64 a1002_6, .slice A_a1002_7 a1002_7.length c_a1002_7] 63 (0, 0)), blk b1 (.cells #[.int .i64 a1_0, .string a1_1, .int .i64 a1_2, .int .i64 a1_3, .slice A_a1_4 a1_4.length c_a1_4] 36 (0, 0))] [.val (.string a1_1)] [.ld ⟨b1, 1, none⟩ (.string a1_1)] (by kernel_rfl) (by kernel_rfl) (by kernel_rfl) (fun _ h => h) ⟨⟨1, _, _, _, rfl, rfl, rfl⟩, trivial⟩ ?_
  refine kp_steps 1 [(0, .pointer (some ⟨b0, 0, none⟩)), (3, .pointer (some ⟨b1, 0, none⟩)), (4, .pointer (some ⟨b1002_, 0, none⟩)), (31, .pointer (some ⟨b0, 0, none⟩)), (33, .string a1_1), (34, .pointer (some ⟨b1, 3, none⟩))] (by kernel_rfl) (by kernel_rfl) ?_
  refine kp_loadS (v := .int .i64 a1_3) [blk b1002_ (.cells #[.string a1002_0, .int .i64 a1002_1, .int .i64 a1002_2, .int .i64 a1002_3, .slice A_a1002_4 a1002_4.length c_a1002_4, .slice A_a1002_5 a1002_5.length c_a1002_5, .int .i64 a1002_6, .slice A_a1002_7 a1002_7.length c_a1002_7] 63 (0, 0)), blk b1 (.cells #[.int .i64 a1_0, .string a1_1, .int .i64 a1_2, .int .i64 a1_3, .slice A_a1_4 a1_4.length c_a1_4] 36 (0, 0))] [.val (.int .i64 a1_3)] [.ld ⟨b1, 3, none⟩ (.int .i64 a1_3)] (by kernel_rfl) (by kernel_rfl) (by kernel_rfl) (fun _ h => h) ⟨⟨1, _, _, _, rfl, rfl, rfl⟩, trivial⟩ ?_
  refine kp_steps 1 [(0, .pointer (some ⟨b0, 0, none⟩)), (3, .pointer (some ⟨b1, 0, none⟩)), (4, .pointer (some ⟨b1002_, 0, none⟩)), (31, .pointer (some ⟨b0, 0, none⟩)), (33, .string a1_1), (35, .int .i64 a1_3), (36, .pointer (some ⟨b1, 2, none⟩))] (by kernel_rfl) (by kernel_rfl) ?_
  refine kp_loadS (v := .int .i64 a1_2) [blk b1002_ (.cells #[.string a1002_0, .int .i64 a1002_1, .int .i64 a1002_2, .int .i64 a1002_3, .slice A_a1002_4 a1002_4.length c_a1002_4, .slice A_a1002_5 a1002_5.length c_a1002_5, .int .i64 a1002_6, .slice A_a1002_7 a1002_7.length c_a1002_7] 63 (0, 0)), blk b1 (.cells #[.int .i64 a1_0, .string a1_1, .int .i64 a1_2, .int .i64 a1_3, .slice A_a1_4 a1_4.length c_a1_4] 36 (0, 0))] [.val (.int .i64 a1_2)] [.ld ⟨b1, 2, none⟩ (.int .i64 a1_2)] (by kernel_rfl) (by kernel_rfl) (by kernel_rfl) (fun _ h => h) ⟨⟨1, _, _, _, rfl, rfl, rfl⟩, trivial⟩ ?_
  refine kp_steps 4 [(0, .pointer (some ⟨b0, 0, none⟩)), (3, .pointer (some ⟨b1, 0, none⟩)), (4, .pointer (some ⟨b1002_, 0, none⟩)), (31, .pointer (some ⟨b0, 0, none⟩)), (38, .agg #[.string a1_1, .int .i64 a1_3, .int .i64 a1_2, .int .i64 (0 : Int), .slice none 0 0]), (41, .pointer (some ⟨b1002_, 5, none⟩))] (by kernel_rfl) (by kernel_rfl) ?_
  refine kp_loadS (v := .slice A_a1002_5 a1002_5.length c_a1002_5) [blk b1002_ (.cells #[.string a1002_0, .int .i64 a1002_1, .int .i64 a1002_2, .int .i64 a1002_3, .slice A_a1002_4 a1002_4.length c_a1002_4, .slice A_a1002_5 a1002_5.length c_a1002_5, .int .i64 a1002_6, .slice A_a1002_7 a1002_7.length c_a1002_7] 63 (0, 0)), blk b1 (.cells #[.int .i64 a1_0, .string a1_1, .int .i64 a1_2, .int .i64 a1_3, .slice A_a1_4 a1_4.length c_a1_4] 36 (0, 0))] [.val (.slice A_a1002_5 a1002_5.length c_a1002_5)] [.ld ⟨b1002_, 5, none⟩ (.slice A_a1002_5 a1002_5.length c_a1002_5)] (by kernel_rfl) (by kernel_rfl) (by kernel_rfl) (fun _ h => h) ⟨⟨0, _, _, _, rfl, rfl, rfl⟩, trivial⟩ ?_
  refine kp_done ?_
  refine kl_steps 1 [(0, .pointer (some ⟨b0, 0, none⟩)), (3, .pointer (some ⟨b1, 0, none⟩)), (4, .pointer (some ⟨b1002_, 0, none⟩)), (31, .pointer (some ⟨b0, 0, none⟩)), (43, .agg #[.string a1_1, .int .i64 a1_3, .int .i64 a1_2, .int .i64 (0 : Int), .slice none 0 0, .slice none 0 0, .int .i64 (0 : Int), .slice A_a1002_5 a1002_5.length c_a1002_5])] (by kernel_rfl) ?_
  refine kl_new (.cells #[.string a1_1, .int .i64 a1_3, .int .i64 a1_2, .int .i64 (0 : Int), .slice none 0 0, .slice none 0 0, .int .i64 (0 : Int), .slice A_a1002_5 a1002_5.length c_a1002_5] 63 (0, 0)) (fun b => .pointer (some ⟨b, 0, none⟩)) (by kernel_rfl) (by kernel_rfl) (fun _ => by kernel_rfl) fun b12 => ?_
  refine kl_steps 2 [(0, .pointer (some ⟨b0, 0, none⟩)), (3, .pointer (some ⟨b1, 0, none⟩)), (4, .pointer (some ⟨b1002_, 0, none⟩)), (44, .pointer (some ⟨b12, 0, none⟩)), (46, .pointer (some ⟨b0, 2, none⟩))] (by kernel_rfl) ?_
  refine K.mv1 ?_
  refine kl_store (cs' := #[.slice A_a0_0 a0_0.length c_a0_0, .slice A9 r7.length k10, .pointer (some ⟨b12, 0, none⟩)]) [.st ⟨b0, 2, none⟩ (.pointer (some ⟨b12, 0, none⟩))] (by kernel_rfl) (by kernel_rfl) (by kernel_rfl) ⟨rfl, trivial⟩ (by kernel_rfl) ?_
  refine k_nil ?_
  refine k_then ?_
  refine k_seq ?_
  refine k_region_plan [(0, 0), (1, 3), (2, 0), (3, 3), (4, 0), (5, 3), (6, 0)] (fun w => OnAll [blk b1 (.cells #[.int .i64 a1_0, .string a1_1, .int .i64 a1_2, .int .i64 a1_3, .slice A_a1_4 a1_4.length c_a1_4] 36 (0, 0))] w) (by kernel_rfl) (by kernel_rfl) (fun _ _ d _ _ h => by cases d <;> exact h) (fun w h_ => ⟨h_.sat.on _ (.tail _ (.tail _ (.tail _ (.tail _ (.head _))))), trivial⟩) ?_
  simp only [planOps, List.filterMap_cons, List.filterMap_nil, List.getElem?_toArray, List.getElem?_cons_zero, List.getElem?_cons_succ, Option.map_some, List.drop_succ_cons, List.drop_zero, List.length_cons, List.length_nil]
  refine kp_steps 1 [(0, .pointer (some ⟨b0, 0, none⟩)), (3, .pointer (some ⟨b1, 0, none⟩)), (4, .pointer (some ⟨b1002_, 0, none⟩)), (47, .pointer (some ⟨b0, 0, none⟩))] (by kernel_rfl) (by kernel_rfl) ?_
  refine kp_loadS (v := .agg #[.int .i64 a1_0, .string a1_1, .int .i64 a1_2, .int .i64 a1_3, .slice A_a1_4 a1_4.length c_a1_4]) [blk b1 (.cells #[.int .i64 a1_0, .string a1_1, .int .i64 a1_2, .int .i64 a1_3, .slice A_a1_4 a1_4.length c_a1_4] 36 (0, 0))] [.val (.int .i64 a1_0), .val (.string a1_1), .val (.int .i64 a1_2), .val (.int .i64 a1_3), .val (.slice A_a1_4 a1_4.length c_a1_4)] [.ld ⟨b1, 0, none⟩ (.int .i64 a1_0), .ld ⟨b1, 1, none⟩ (.string a1_1), .ld ⟨b1, 2, none⟩ (.int .i64 a1_2), .ld ⟨b1, 3, none⟩ (.int .i64 a1_3), .ld ⟨b1, 4, none⟩ (.slice A_a1_4 a1_4.length c_a1_4)] (by kernel_rfl) (by kernel_rfl) (by kernel_rfl) (fun _ h => h) ⟨⟨0, _, _, _, rfl, rfl, rfl⟩, ⟨0, _, _, _, rfl, rfl, rfl⟩, ⟨0, _, _, _, rfl, rfl, rfl⟩, ⟨0, _, _, _, rfl, rfl, rfl⟩, ⟨0, _, _, _, rfl, rfl, rfl⟩, trivial⟩ ?_
  refine kp_steps 1 [(0, .pointer (some ⟨b0, 0, none⟩)), (3, .pointer (some ⟨b1, 0, none⟩)), (4, .pointer (some ⟨b1002_, 0, none⟩)), (47, .pointer (some ⟨b0, 0, none⟩)), (48, .agg #[.int .i64 a1_0, .string a1_1, .int .i64 a1_2, .int .i64 a1_3, .slice A_a1_4 a1_4.length c_a1_4]), (49, .pointer (some ⟨b1, 4, none⟩))] (by kernel_rfl) (by kernel_rfl) ?_
  refine kp_loadS (v := .slice A_a1_4 a1_4.length c_a1_4) [blk b1 (.cells #[.int .i64 a1_0, .string a1_1, .int .i64 a1_2, .int .i64 a1_3, .slice A_a1_4 a1_4.length c_a1_4] 36 (0, 0))] [.val (.slice A_a1_4 a1_4.length c_a1_4)] [.ld ⟨b1, 4, none⟩ (.slice A_a1_4 a1_4.length c_a1_4)] (by kernel_rfl) (by kernel_rfl) (by kernel_rfl) (fun _ h => h) ⟨⟨0, _, _, _, rfl, rfl, rfl⟩, trivial⟩ ?_
  refine kp_steps 1 [(0, .pointer (some ⟨b0, 0, none⟩)), (3, .pointer (some ⟨b1, 0, none⟩)), (4, .pointer (some ⟨b1002_, 0, none⟩)), (47, .pointer (some ⟨b0, 0, none⟩)), (48, .agg #[.int .i64 a1_0, .string a1_1, .int .i64 a1_2, .int .i64 a1_3, .slice A_a1_4 a1_4.length c_a1_4]), (50, .slice A_a1_4 a1_4.length c_a1_4), (51, .pointer (some ⟨b1, 2, none⟩))] (by kernel_rfl) (by kernel_rfl) ?_
  refine kp_loadS (v := .int .i64 a1_2) [blk b1 (.cells #[.int .i64 a1_0, .string a1_1, .int .i64 a1_2, .int .i64 a1_3, .slice A_a1_4 a1_4.length c_a1_4] 36 (0, 0))] [.val (.int .i64 a1_2)] [.ld ⟨b1, 2, none⟩ (.int .i64 a1_2)] (by kernel_rfl) (by kernel_rfl) (by kernel_rfl) (fun _ h => h) ⟨⟨0, _, _, _, rfl, rfl, rfl⟩, trivial⟩ ?_
  obtain ⟨l13, hl13, h⟩ := bindSome h
  refine kp_subR (T := 36) (R := (rTree 36)) (xs := a1_4) (0 : Int) a1_2 rfl (by kernel_rfl) (by kernel_rfl) (by kernel_rfl) (.inl ⟨rfl, rfl⟩) (.inr ⟨_, .i64, rfl, (by kernel_rfl)⟩) (by kernel_rfl) (by kernel_rfl) hl13 R_a1_4 fun A14 k15 o16 => ?_
  refine kp_done ?_
  refine k_none ?_
  refine k_none ?_
  refine K.mv3 ?_
  refine K.mv3 ?_
  rcases prBind h with ⟨i18, hr17, rfl⟩ | ⟨r17, hr17, h⟩
  ·refine kl_call (none_ :: h8 :: blk b1002_ (.cells #[.string a1002_0, .int .i64 a1002_1, .int .i64 a1002_2, .int .i64 a1002_3, .slice A_a1002_4 a1002_4.length c_a1002_4, .slice A_a1002_5 a1002_5.length c_a1002_5, .int .i64 a1002_6, .slice A_a1002_7 a1002_7.length c_a1002_7] 63 (0, 0)) :: blk b1 (.cells #[.int .i64 a1_0, .string a1_1, .int .i64 a1_2, .int .i64 a1_3, .slice A_a1_4 a1_4.length c_a1_4] 36 (0, 0)) :: H_a0_0 :: H_a1002_4 :: H_a1002_5 :: X) (by kernel_rfl) (by kernel_rfl) (by kernel_rfl) (check_checker_bring.ok (b0 := b0) (b1002_ := b12) hr17 (OwnR.rd R_a0_0) (OwnT.rd o11) (RdT.nil e53 3 none_) (OwnT.nil encS 9 1 none_) (OwnT.rd R_a1002_5) R_a1_4 o16) rfl ⟨(.tail _ (.tail _ (.tail _ (.tail _ (.head _))))), (.tail _ (.head _)), (.head _), (.tail _ (.tail _ (.tail _ (.tail _ (.tail _ (.tail _ (.head _))))))), (.tail _ (.tail _ (.tail _ (.tail _ (.tail _ (.tail _ (.tail _ hm_H_a1_4))))))), (.tail _ (.tail _ (.tail _ (.tail _ (.tail _ (.tail _ (.tail _ hm_H_a1_4))))))), trivial⟩ ?_
   rintro _ _ ⟨rfl, rfl⟩
   refine nx_pan ?_
   refine k_then_panic ?_
   refine k_panicked [] ?_
   refine K.drop ?_
   refine K.drop ?_
   refine K.drop ?_
   refine K.drop ?_
   refine K.drop ?_
   refine K.drop ?_
   refine K.drop ?_
   exact k_end PR.badI
  refine kl_call (none_ :: h8 :: blk b1002_ (.cells #[.string a1002_0, .int .i64 a1002_1, .int .i64 a1002_2, .int .i64 a1002_3, .slice A_a1002_4 a1002_4.length c_a1002_4, .slice A_a1002_5 a1002_5.length c_a1002_5, .int .i64 a1002_6, .slice A_a1002_7 a1002_7.length c_a1002_7] 63 (0, 0)) :: blk b1 (.cells #[.int .i64 a1_0, .string a1_1, .int .i64 a1_2, .int .i64 a1_3, .slice A_a1_4 a1_4.length c_a1_4] 36 (0, 0)) :: H_a0_0 :: H_a1002_4 :: H_a1002_5 :: X) (by kernel_rfl) (by kernel_rfl) (by kernel_rfl) (check_checker_bring.ok (b0 := b0) (b1002_ := b12) hr17 (OwnR.rd R_a0_0) (OwnT.rd o11) (RdT.nil e53 3 none_) (OwnT.nil encS 9 1 none_) (OwnT.rd R_a1002_5) R_a1_4 o16) rfl ⟨(.tail _ (.tail _ (.tail _ (.tail _ (.head _))))), (.tail _ (.head _)), (.head _), (.tail _ (.tail _ (.tail _ (.tail _ (.tail _ (.tail _ (.head _))))))), (.tail _ (.tail _ (.tail _ (.tail _ (.tail _ (.tail _ (.tail _ hm_H_a1_4))))))), (.tail _ (.tail _ (.tail _ (.tail _ (.tail _ (.tail _ (.tail _ hm_H_a1_4))))))), trivial⟩ ?_
  rintro _ _ ⟨h19, A20, k21, o22, rfl, rfl⟩
  refine nx_ret3 ?_
  refine K.mv3 ?_
  refine K.drop ?_
  refine k_nil ?_
  refine k_then ?_
  refine k_seq ?_
  refine k_region ?_
  refine kl_steps 2 [(0, .pointer (some ⟨b0, 0, none⟩)), (3, .pointer (some ⟨b1, 0, none⟩)), (4, .pointer (some ⟨b1002_, 0, none⟩)), (55, .pointer (some ⟨b0, 0, none⟩)), (56, .pointer (some ⟨b1, 4, none⟩))] (by kernel_rfl) ?_
  refine kl_load (v := .slice A_a1_4 a1_4.length c_a1_4) [.val (.slice A_a1_4 a1_4.length c_a1_4)] [.ld ⟨b1, 4, none⟩ (.slice A_a1_4 a1_4.length c_a1_4)] (by kernel_rfl) (by kernel_rfl) (by kernel_rfl) ⟨⟨5, _, _, _, rfl, rfl, rfl⟩, trivial⟩ ?_
  refine kl_steps 1 [(0, .pointer (some ⟨b0, 0, none⟩)), (4, .pointer (some ⟨b1002_, 0, none⟩)), (55, .pointer (some ⟨b0, 0, none⟩)), (57, .slice A_a1_4 a1_4.length c_a1_4), (58, .pointer (some ⟨b1, 2, none⟩))] (by kernel_rfl) ?_
  refine kl_load (v := .int .i64 a1_2) [.val (.int .i64 a1_2)] [.ld ⟨b1, 2, none⟩ (.int .i64 a1_2)] (by kernel_rfl) (by kernel_rfl) (by kernel_rfl) ⟨⟨5, _, _, _, rfl, rfl, rfl⟩, trivial⟩ ?_
  refine K.mvN [_, _, _, _, _] _ _ ?_
  refine K.drop ?_
  obtain ⟨x23, hx23, h⟩ := bindSome h
  refine kl_elemR (T := 36) (kd := .i64) (R := (rTree 36)) rfl (by kernel_rfl) (by kernel_rfl) (by kernel_rfl) (by kernel_rfl) (by kernel_rfl) (by kernel_rfl) hx23 R_a1_4 fun p24 u27 q28 e25 y26 => ?_
  obtain ⟨A29, k30, rfl, o31⟩ := treeR_mk 36 q28
  refine kl_eloadN rfl (by kernel_rfl) (by kernel_rfl) (by kernel_rfl) (by kernel_rfl) (by kernel_rfl) e25 (.tail _ (.tail _ (.tail _ (.tail _ (.tail _ (.tail _ (.tail _ (.tail _ hm_H_a1_4)))))))) ?_
  refine k_none ?_
  refine K.mv3 ?_
  refine K.mv1 ?_
  refine K.mv3 ?_
  refine K.mv4 ?_
  refine K.mvN [_, _, _, _, _, _] _ _ ?_
  refine K.mvN [_, _, _, _, _] _ _ ?_
  rcases prBind h with ⟨i33, hr32, rfl⟩ | ⟨r32, hr32, h⟩
  ·refine kl_call (blk b1002_ (.cells #[.string a1002_0, .int .i64 a1002_1, .int .i64 a1002_2, .int .i64 a1002_3, .slice A_a1002_4 a1002_4.length c_a1002_4, .slice A_a1002_5 a1002_5.length c_a1002_5, .int .i64 a1002_6, .slice A_a1002_7 a1002_7.length c_a1002_7] 63 (0, 0)) :: H_a1002_4 :: H_a1002_5 :: X) (by kernel_rfl) (by kernel_rfl) (by kernel_rfl) (hR.check_checker_node (b0 := b0) (b1002_ := b12) hr32 R_a0_0 o11 (OwnT.nil e53 53 3 none_) o22 (OwnT.rd R_a1002_5) o31 hG) rfl ⟨(.tail _ (.tail _ (.head _))), (.tail _ (.tail _ (.tail _ hm_H_a1_4))), (.tail _ (.tail _ (.tail _ hm_G))), trivial⟩ ?_
   rintro _ _ ⟨rfl, rfl⟩
   refine nx_pan ?_
   refine k_then_panic ?_
   refine k_panicked [] ?_
   refine K.drop ?_
   refine K.drop ?_
   refine K.drop ?_
   exact k_end PR.badI
  refine kl_call (blk b1002_ (.cells #[.string a1002_0, .int .i64 a1002_1, .int .i64 a1002_2, .int .i64 a1002_3, .slice A_a1002_4 a1002_4.length c_a1002_4, .slice A_a1002_5 a1002_5.length c_a1002_5, .int .i64 a1002_6, .slice A_a1002_7 a1002_7.length c_a1002_7] 63 (0, 0)) :: H_a1002_4 :: H_a1002_5 :: X) (by kernel_rfl) (by kernel_rfl) (by kernel_rfl) (hR.check_checker_node (b0 := b0) (b1002_ := b12) hr32 R_a0_0 o11 (OwnT.nil e53 53 3 none_) o22 (OwnT.rd R_a1002_5) o31 hG) rfl ⟨(.tail _ (.tail _ (.head _))), (.tail _ (.tail _ (.tail _ hm_H_a1_4))), (.tail _ (.tail _ (.tail _ hm_G))), trivial⟩ ?_
  rintro _ _ ⟨h34, A35, k36, h38, A39, k40, h42, A43, k44, h46, A47, k48, o37, o41, o45, o49, rfl, rfl⟩
  refine nx_ret ?_
  refine k_nil ?_
  refine k_then ?_
  refine k_seq ?_
  refine k_region_plan [(0, 0), (1, 0), (2, 0), (3, 0), (4, 0), (5, 3), (6, 0), (7, 0), (8, 0), (9, 3), (10, 0), (11, 0), (12, 3), (13, 1)] (fun w => OnAll [blk b0 (.cells #[.slice A35 r32.1.length k36, .slice A39 r32.2.1.length k40, .pointer (some ⟨b12, 0, none⟩)] 65 (0, 0)), blk b12 (.cells #[.string a1_1, .int .i64 a1_3, .int .i64 a1_2, .int .i64 r32.2.2.1, .slice A43 r32.2.2.2.1.length k44, .slice A47 r32.2.2.2.2.1.length k48, .int .i64 r32.2.2.2.2.2, .slice A_a1002_5 a1002_5.length c_a1002_5] 63 (0, 0))] w) (by kernel_rfl) (by kernel_rfl) (fun _ _ d _ _ h => by cases d <;> exact h) (fun w h_ => ⟨h_.sat.on _ (.head _), h_.sat.on _ (.tail _ (.tail _ (.tail _ (.head _)))), trivial⟩) ?_
  simp only [planOps, List.filterMap_cons, List.filterMap_nil, List.getElem?_toArray, List.getElem?_cons_zero, List.getElem?_cons_succ, Option.map_some, List.drop_succ_cons, List.drop_zero, List.length_cons, List.length_nil]
  refine kp_steps 5 [(0, .pointer (some ⟨b0, 0, none⟩)), (4, .pointer (some ⟨b1002_, 0, none⟩)), (63, .pointer (some ⟨b0, 0, none⟩)), (67, .pointer (some ⟨b0, 0, none⟩))] (by kernel_rfl) (by kernel_rfl) ?_
  refine kp_loadS (v := .slice A35 r32.1.length k36) [blk b0 (.cells #[.slice A35 r32.1.length k36, .slice A39 r32.2.1.length k40, .pointer (some ⟨b12, 0, none⟩)] 65 (0, 0)), blk b12 (.cells #[.string a1_1, .int .i64 a1_3, .int .i64 a1_2, .int .i64 r32.2.2.1, .slice A43 r32.2.2.2.1.length k44, .slice A47 r32.2.2.2.2.1.length k48, .int .i64 r32.2.2.2.2.2, .slice A_a1002_5 a1002_5.length c_a1002_5] 63 (0, 0))] [.val (.slice A35 r32.1.length k36)] [.ld ⟨b0, 0, none⟩ (.slice A35 r32.1.length k36)] (by kernel_rfl) (by kernel_rfl) (by kernel_rfl) (fun _ h => h) ⟨⟨0, _, _, _, rfl, rfl, rfl⟩, trivial⟩ ?_
  refine kp_steps 3 [(0, .pointer (some ⟨b0, 0, none⟩)), (4, .pointer (some ⟨b1002_, 0, none⟩)), (63, .pointer (some ⟨b0, 0, none⟩)), (68, .slice A35 r32.1.length k36), (71, .pointer (some ⟨b0, 2, none⟩))] (by kernel_rfl) (by kernel_rfl) ?_
  refine kp_loadS (v := .pointer (some ⟨b12, 0, none⟩)) [blk b0 (.cells #[.slice A35 r32.1.length k36, .slice A39 r32.2.1.length k40, .pointer (some ⟨b12, 0, none⟩)] 65 (0, 0)), blk b12 (.cells #[.string a1_1, .int .i64 a1_3, .int .i64 a1_2, .int .i64 r32.2.2.1, .slice A43 r32.2.2.2.1.length k44, .slice A47 r32.2.2.2.2.1.length k48, .int .i64 r32.2.2.2.2.2, .slice A_a1002_5 a1002_5.length c_a1002_5] 63 (0, 0))] [.val (.pointer (some ⟨b12, 0, none⟩))] [.ld ⟨b0, 2, none⟩ (.pointer (some ⟨b12, 0, none⟩))] (by kernel_rfl) (by kernel_rfl) (by kernel_rfl) (fun _ h => h) ⟨⟨0, _, _, _, rfl, rfl, rfl⟩, trivial⟩ ?_
  refine kp_steps 2 [(0, .pointer (some ⟨b0, 0, none⟩)), (4, .pointer (some ⟨b1002_, 0, none⟩)), (63, .pointer (some ⟨b0, 0, none⟩)), (68, .slice A35 r32.1.length k36), (74, .pointer (some ⟨b12, 0, none⟩))] (by kernel_rfl) (by kernel_rfl) ?_
  refine kp_loadS (v := .agg #[.string a1_1, .int .i64 a1_3, .int .i64 a1_2, .int .i64 r32.2.2.1, .slice A43 r32.2.2.2.1.length k44]) [blk b0 (.cells #[.slice A35 r32.1.length k36, .slice A39 r32.2.1.length k40, .pointer (some ⟨b12, 0, none⟩)] 65 (0, 0)), blk b12 (.cells #[.string a1_1, .int .i64 a1_3, .int .i64 a1_2, .int .i64 r32.2.2.1, .slice A43 r32.2.2.2.1.length k44, .slice A47 r32.2.2.2.2.1.length k48, .int .i64 r32.2.2.2.2.2, .slice A_a1002_5 a1002_5.length c_a1002_5] 63 (0, 0))] [.val (.string a1_1), .val (.int .i64 a1_3), .val (.int .i64 a1_2), .val (.int .i64 r32.2.2.1), .val (.slice A43 r32.2.2.2.1.length k44)] [.ld ⟨b12, 0, none⟩ (.string a1_1), .ld ⟨b12, 1, none⟩ (.int .i64 a1_3), .ld ⟨b12, 2, none⟩ (.int .i64 a1_2), .ld ⟨b12, 3, none⟩ (.int .i64 r32.2.2.1), .ld ⟨b12, 4, none⟩ (.slice A43 r32.2.2.2.1.length k44)] (by kernel_rfl) (by kernel_rfl) (by kernel_rfl) (fun _ h => h) ⟨⟨1, _, _, _, rfl, rfl, rfl⟩, ⟨1, _, _, _, rfl, rfl, rfl⟩, ⟨1, _, _, _, rfl, rfl, rfl⟩, ⟨1, _, _, _, rfl, rfl, rfl⟩, ⟨1, _, _, _, rfl, rfl, rfl⟩, trivial⟩ ?_
  refine kp_turn (by kernel_rfl) ?_
  refine op_new (.cells #[.string a1_1, .int .i64 a1_3, .int .i64 a1_2, .int .i64 r32.2.2.1, .slice A43 r32.2.2.2.1.length k44] 42 (0, 0)) (fun b => .slice (some ⟨b, 0, none⟩) 1 1) (by kernel_rfl) (fun _ => by kernel_rfl) fun b50 => ?_
  refine k_and (fun w h_ => ⟨h_.sat.on _ (.tail _ (.head _)), h_.sat.on _ (.tail _ (.tail _ (.tail _ (.tail _ (.head _))))), trivial⟩) ?_
  refine kp_done ?_
  refine K.mvN [_, _, _, _, _] _ _ ?_
  refine K.mv1 ?_
  refine k_row (T := 42) (n := 1) (xs := [(a1_1, a1_3, a1_2, r32.2.2.1, r32.2.2.2.1)]) (RowI.one (rs42_o (x := (a1_1, a1_3, a1_2, r32.2.2.1, r32.2.2.2.1)) o45)) rfl rfl (Nat.le_of_ble_eq_true rfl) fun h51 o52 => ?_
  refine K.mv2 ?_
  obtain ⟨l53, hl53, h⟩ := bindSome h
  refine kl_apdR rfl ety25 rfl (by kernel_rfl) (by kernel_rfl) (by kernel_rfl) (by kernel_rfl) (by kernel_rfl) hl53 o37 o52 fun h54 A55 k56 o57 => ?_
  refine kl_steps 3 [(0, .pointer (some ⟨b0, 0, none⟩)), (4, .pointer (some ⟨b1002_, 0, none⟩)), (77, .slice A55 l53.length k56), (80, .pointer (some ⟨b0, 0, none⟩))] (by kernel_rfl) ?_
  refine K.mv1 ?_
  refine kl_store (cs' := #[.slice A55 l53.length k56, .slice A39 r32.2.1.length k40, .pointer (some ⟨b12, 0, none⟩)]) [.st ⟨b0, 0, none⟩ (.slice A55 l53.length k56)] (by kernel_rfl) (by kernel_rfl) (by kernel_rfl) ⟨rfl, trivial⟩ (by kernel_rfl) ?_
  refine k_nil ?_
  refine k_then ?_
  refine k_region ?_
  refine kl_steps 4 [(82, .pointer (some ⟨b1002_, 0, none⟩)), (84, .pointer (some ⟨b0, 2, none⟩))] (by kernel_rfl) ?_
  refine kl_store (cs' := #[.slice A55 l53.length k56, .slice A39 r32.2.1.length k40, .pointer (some ⟨b1002_, 0, none⟩)]) [.st ⟨b0, 2, none⟩ (.pointer (some ⟨b1002_, 0, none⟩))] (by kernel_rfl) (by kernel_rfl) (by kernel_rfl) ⟨rfl, trivial⟩ (by kernel_rfl) ?_
  refine K.mv3 ?_
  refine K.drop ?_
  refine K.mv3 ?_
  refine K.drop ?_
  refine k_nil ?_
  refine k_fall ?_
  obtain rfl := Option.some.inj h
  refine k_done (v := .tuple #[]) [] [] [blk b0 (.cells #[.slice A55 l53.length k56, .slice A39 r32.2.1.length k40, .pointer (some ⟨b1002_, 0, none⟩)] 65 (0, 0)), h54, h38, blk b1002_ (.cells #[.string a1002_0, .int .i64 a1002_1, .int .i64 a1002_2, .int .i64 a1002_3, .slice A_a1002_4 a1002_4.length c_a1002_4, .slice A_a1002_5 a1002_5.length c_a1002_5, .int .i64 a1002_6, .slice A_a1002_7 a1002_7.length c_a1002_7] 63 (0, 0)), H_a1002_4, H_a1002_5] (by kernel_rfl) (by kernel_rfl) trivial ?_
  exact k_end (PR.okI ⟨h54, A55, k56, h38, A39, k40, H_a1002_4, A_a1002_4, c_a1002_4, H_a1002_5, A_a1002_5, c_a1002_5, o57, o41, R_a1002_4, R_a1002_5, rfl, rfl⟩)
 ·skip
  refine k_seq ?_
  refine k_region ?_
  refine kl_steps 1 [(0, .pointer (some ⟨b0, 0, none⟩)), (3, .pointer (some ⟨b1, 0, none⟩)), (13, .pointer (some ⟨b1, 1, none⟩))] (by kernel_rfl) ?_
  refine kl_load (v := .string a1_1) [.val (.string a1_1)] [.ld ⟨b1, 1, none⟩ (.string a1_1)] (by kernel_rfl) (by kernel_rfl) (by kernel_rfl) ⟨⟨0, _, _, _, rfl, rfl, rfl⟩, trivial⟩ ?_
  obtain ⟨r58, hr58, h⟩ := bindSome h
  refine kl_callv (by kernel_rfl) (by kernel_rfl) (by kernel_rfl) (check_kept.ok hr58) trivial ?_
  refine k_nil ?_
  refine k_then ?_
  refine k_cond (t := r58) (by kernel_rfl) (fun t59 => ?_) (fun t59 => ?_)
  ·have h := condT h t59
   refine k_region ?_
   refine kl_steps 1 [(0, .pointer (some ⟨b0, 0, none⟩)), (3, .pointer (some ⟨b1, 0, none⟩)), (16, .pointer (some ⟨b1, 3, none⟩))] (by kernel_rfl) ?_
   refine kl_load (v := .int .i64 a1_3) [.val (.int .i64 a1_3)] [.ld ⟨b1, 3, none⟩ (.int .i64 a1_3)] (by kernel_rfl) (by kernel_rfl) (by kernel_rfl) ⟨⟨0, _, _, _, rfl, rfl, rfl⟩, trivial⟩ ?_
   rcases prBind h with ⟨i61, hr60, rfl⟩ | ⟨r60, hr60, h⟩
   ·refine kl_call (blk b1 (.cells #[.int .i64 a1_0, .string a1_1, .int .i64 a1_2, .int .i64 a1_3, .slice A_a1_4 a1_4.length c_a1_4] 36 (0, 0)) :: blk b0 (.cells #[.slice A_a0_0 a0_0.length c_a0_0, .slice A_a0_1 a0_1.length c_a0_1, .pointer (some ⟨b1002_, 0, none⟩)] 65 (0, 0)) :: H_a0_0 :: H_a0_1 :: blk b1002_ (.cells #[.string a1002_0, .int .i64 a1002_1, .int .i64 a1002_2, .int .i64 a1002_3, .slice A_a1002_4 a1002_4.length c_a1002_4, .slice A_a1002_5 a1002_5.length c_a1002_5, .int .i64 a1002_6, .slice A_a1002_7 a1002_7.length c_a1002_7] 63 (0, 0)) :: H_a1002_4 :: H_a1002_5 :: X) (by kernel_rfl) (by kernel_rfl) (by kernel_rfl) (check_fail.ok hr60) rfl trivial ?_
    rintro _ _ ⟨rfl, rfl⟩
    refine nx_pan ?_
    refine k_then_panic ?_
    refine k_panicked [] ?_
    refine K.drop ?_
    refine K.drop ?_
    refine K.drop ?_
    refine K.drop ?_
    refine K.drop ?_
    refine K.drop ?_
    refine K.drop ?_
    exact k_end PR.badI
   refine kl_call (blk b1 (.cells #[.int .i64 a1_0, .string a1_1, .int .i64 a1_2, .int .i64 a1_3, .slice A_a1_4 a1_4.length c_a1_4] 36 (0, 0)) :: blk b0 (.cells #[.slice A_a0_0 a0_0.length c_a0_0, .slice A_a0_1 a0_1.length c_a0_1, .pointer (some ⟨b1002_, 0, none⟩)] 65 (0, 0)) :: H_a0_0 :: H_a0_1 :: blk b1002_ (.cells #[.string a1002_0, .int .i64 a1002_1, .int .i64 a1002_2, .int .i64 a1002_3, .slice A_a1002_4 a1002_4.length c_a1002_4, .slice A_a1002_5 a1002_5.length c_a1002_5, .int .i64 a1002_6, .slice A_a1002_7 a1002_7.length c_a1002_7] 63 (0, 0)) :: H_a1002_4 :: H_a1002_5 :: X) (by kernel_rfl) (by kernel_rfl) (by kernel_rfl) (check_fail.ok hr60) rfl trivial ?_
   rintro _ _ ⟨rfl, rfl⟩
   refine nx_ret0 ?_
   refine k_nil ?_
   refine k_then ?_
   exact k_meet () h ⟨rfl, rfl, trivial⟩ rfl
  ·have h := condF h t59
   refine k_skip ?_
   refine k_then ?_
   exact k_meet () h ⟨rfl, rfl, trivial⟩ rfl
def CK.at : Nat → CK
 | 0 => ⟨fun _ _ _ _ _ _ _ _ _ _ _ _ _ _ _ _ => none, fun _ _ _ _ _ _ _ _ _ _ _ => none, fun _ _ _ _ _ _ _ _ _ _ _ _ _ _ _ _ => none, fun _ _ _ _ _ _ _ _ _ _ _ _ _ _ _ _ _ _ _ _ _ _ => none, fun _ _ _ _ _ _ _ _ _ _ _ _ _ _ _ => none⟩
 | k + 1 => ⟨fun a0_0 a0_1 a1002_0 a1002_1 a1002_2 a1002_3 a1002_4 a1002_5 a1002_6 a1002_7 a1_0 a1_1 a1_2 a1_3 a1_4 a2 => check_checker_node.g (CK.at k) k a0_0 a0_1 a1002_0 a1002_1 a1002_2 a1002_3 a1002_4 a1002_5 a1002_6 a1002_7 a1_0 a1_1 a1_2 a1_3 a1_4 a2, fun a0_0 a0_1 a1002_0 a1002_1 a1002_2 a1002_3 a1002_4 a1002_5 a1002_6 a1002_7 a1 => check_checker_nodes.g (CK.at k) k a0_0 a0_1 a1002_0 a1002_1 a1002_2 a1002_3 a1002_4 a1002_5 a1002_6 a1002_7 a1, fun a0_0 a0_1 a1002_0 a1002_1 a1002_2 a1002_3 a1002_4 a1002_5 a1002_6 a1002_7 a1_0 a1_1 a1_2 a1_3 a1_4 a2 => check_checker_exp.g (CK.at k) k a0_0 a0_1 a1002_0 a1002_1 a1002_2 a1002_3 a1002_4 a1002_5 a1002_6 a1002_7 a1_0 a1_1 a1_2 a1_3 a1_4 a2, fun a0_0 a0_1 a1002_0 a1002_1 a1002_2 a1002_3 a1002_4 a1002_5 a1002_6 a1002_7 a1_0 a1_1 a1_2 a1_3 a1_4 a2 a3_0 a3_1 a3_2 a3_3 a3_4 a4 => check_checker_loop.g (CK.at k) k a0_0 a0_1 a1002_0 a1002_1 a1002_2 a1002_3 a1002_4 a1002_5 a1002_6 a1002_7 a1_0 a1_1 a1_2 a1_3 a1_4 a2 a3_0 a3_1 a3_2 a3_3 a3_4 a4, fun a0_0 a0_1 a1002_0 a1002_1 a1002_2 a1002_3 a1002_4 a1002_5 a1002_6 a1002_7 a1_0 a1_1 a1_2 a1_3 a1_4 => check_checker_function.g (CK.at k) k a0_0 a0_1 a1002_0 a1002_1 a1002_2 a1002_3 a1002_4 a1002_5 a1002_6 a1002_7 a1_0 a1_1 a1_2 a1_3 a1_4⟩
theorem CK.good : ∀ k, (CK.at k).Good
 | 0 => ⟨fun h _ _ _ _ _ _ _ => (by cases (show (none : Option _) = some _ from h)), fun h _ _ _ _ _ _ _ => (by cases (show (none : Option _) = some _ from h)), fun h _ _ _ _ _ _ _ => (by cases (show (none : Option _) = some _ from h)), fun h _ _ _ _ _ _ _ _ _ => (by cases (show (none : Option _) = some _ from h)), fun h _ _ _ _ _ _ _ => (by cases (show (none : Option _) = some _ from h))⟩
 | k + 1 => ⟨fun h R_a0_0 R_a0_1 R_a1002_4 R_a1002_5 R_a1002_7 R_a1_4 hG => check_checker_node.okg (CK.good k) h R_a0_0 R_a0_1 R_a1002_4 R_a1002_5 R_a1002_7 R_a1_4 hG, fun h R_a0_0 R_a0_1 R_a1002_4 R_a1002_5 R_a1002_7 R_a1 hG => check_checker_nodes.okg (CK.good k) h R_a0_0 R_a0_1 R_a1002_4 R_a1002_5 R_a1002_7 R_a1 hG, fun h R_a0_0 R_a0_1 R_a1002_4 R_a1002_5 R_a1002_7 R_a1_4 hG => check_checker_exp.okg (CK.good k) h R_a0_0 R_a0_1 R_a1002_4 R_a1002_5 R_a1002_7 R_a1_4 hG, fun h R_a0_0 R_a0_1 R_a1002_4 R_a1002_5 R_a1002_7 R_a1_4 R_a2 R_a3_4 hG => check_checker_loop.okg (CK.good k) h R_a0_0 R_a0_1 R_a1002_4 R_a1002_5 R_a1002_7 R_a1_4 R_a2 R_a3_4 hG, fun h R_a0_0 R_a0_1 R_a1002_4 R_a1002_5 R_a1002_7 R_a1_4 hG => check_checker_function.okg (CK.good k) h R_a0_0 R_a0_1 R_a1002_4 R_a1002_5 R_a1002_7 R_a1_4 hG⟩
def check_checker_node.f (k : Nat) (a0_0 : List (ByteArray × Int × Int × Int × List (Int × Int × ByteArray))) (a0_1 : List ByteArray) (a1002_0 : ByteArray) (a1002_1 : Int) (a1002_2 : Int) (a1002_3 : Int) (a1002_4 : List (Int × Int × ByteArray)) (a1002_5 : List ByteArray) (a1002_6 : Int) (a1002_7 : List ByteArray) (a1_0 : Int) (a1_1 : ByteArray) (a1_2 : Int) (a1_3 : Int) (a1_4 : List Tree) (a2 : Bool) : Option (PR (List (ByteArray × Int × Int × Int × List (Int × Int × ByteArray)) × List ByteArray × Int × List (Int × Int × ByteArray) × List ByteArray × Int) (Int × Int)) := check_checker_node.g (CK.at k) k a0_0 a0_1 a1002_0 a1002_1 a1002_2 a1002_3 a1002_4 a1002_5 a1002_6 a1002_7 a1_0 a1_1 a1_2 a1_3 a1_4 a2
theorem check_checker_node.ok {k : Nat} {a0_0 : List (ByteArray × Int × Int × Int × List (Int × Int × ByteArray))} {a0_1 : List ByteArray} {a1002_0 : ByteArray} {a1002_1 : Int} {a1002_2 : Int} {a1002_3 : Int} {a1002_4 : List (Int × Int × ByteArray)} {a1002_5 : List ByteArray} {a1002_6 : Int} {a1002_7 : List ByteArray} {a1_0 : Int} {a1_1 : ByteArray} {a1_2 : Int} {a1_3 : Int} {a1_4 : List Tree} {a2 : Bool} {b0 : Nat} {H_a0_0 : Frag} {A_a0_0 : Option Addr} {c_a0_0 : Nat} {H_a0_1 : Frag} {A_a0_1 : Option Addr} {c_a0_1 : Nat} {b1002_ : Nat} {H_a1002_4 : Frag} {A_a1002_4 : Option Addr} {c_a1002_4 : Nat} {H_a1002_5 : Frag} {A_a1002_5 : Option Addr} {c_a1002_5 : Nat} {H_a1002_7 : Frag} {A_a1002_7 : Option Addr} {c_a1002_7 : Nat} {H_a1_4 : Frag} {A_a1_4 : Option Addr} {c_a1_4 : Nat} {G : Frag} {r : PR (List (ByteArray × Int × Int × Int × List (Int × Int × ByteArray)) × List ByteArray × Int × List (Int × Int × ByteArray) × List ByteArray × Int) (Int × Int)} (h : check_checker_node.f k a0_0 a0_1 a1002_0 a1002_1 a1002_2 a1002_3 a1002_4 a1002_5 a1002_6 a1002_7 a1_0 a1_1 a1_2 a1_3 a1_4 a2 = some r) (R_a0_0 : OwnR rs42 42 H_a0_0 (.slice A_a0_0 a0_0.length c_a0_0) a0_0) (R_a0_1 : OwnT encS 9 1 H_a0_1 (.slice A_a0_1 a0_1.length c_a0_1) a0_1) (R_a1002_4 : OwnT e53 53 3 H_a1002_4 (.slice A_a1002_4 a1002_4.length c_a1002_4) a1002_4) (R_a1002_5 : OwnT encS 9 1 H_a1002_5 (.slice A_a1002_5 a1002_5.length c_a1002_5) a1002_5) (R_a1002_7 : RdT encS 1 H_a1002_7 (.slice A_a1002_7 a1002_7.length c_a1002_7) a1002_7) (R_a1_4 : RdR (rTree 36) H_a1_4 (.slice A_a1_4 a1_4.length c_a1_4) a1_4) (hG : GlP G) : Ct Tryz.prog 27 #[.pointer (some ⟨b0, 0, none⟩), .agg #[.int .i64 a1_0, .string a1_1, .int .i64 a1_2, .int .i64 a1_3, .slice A_a1_4 a1_4.length c_a1_4], .bool a2] [blk b0 (.cells #[.slice A_a0_0 a0_0.length c_a0_0, .slice A_a0_1 a0_1.length c_a0_1, .pointer (some ⟨b1002_, 0, none⟩)] 65 (0, 0)), H_a0_0, H_a0_1, blk b1002_ (.cells #[.string a1002_0, .int .i64 a1002_1, .int .i64 a1002_2, .int .i64 a1002_3, .slice A_a1002_4 a1002_4.length c_a1002_4, .slice A_a1002_5 a1002_5.length c_a1002_5, .int .i64 a1002_6, .slice A_a1002_7 a1002_7.length c_a1002_7] 63 (0, 0)), H_a1002_4, H_a1002_5] [H_a1002_7, H_a1_4, G] (PR.Post failC (fun (r : List (ByteArray × Int × Int × Int × List (Int × Int × ByteArray)) × List ByteArray × Int × List (Int × Int × ByteArray) × List ByteArray × Int) e l1 => ∃ (H0_ : Frag) (A0_ : Option Addr) (c0_ : Nat) (H1_ : Frag) (A1_ : Option Addr) (c1_ : Nat) (H2_ : Frag) (A2_ : Option Addr) (c2_ : Nat) (H3_ : Frag) (A3_ : Option Addr) (c3_ : Nat), OwnR rs42 42 H0_ (.slice A0_ r.1.length c0_) r.1 ∧ OwnT encS 9 1 H1_ (.slice A1_ r.2.1.length c1_) r.2.1 ∧ OwnT e53 53 3 H2_ (.slice A2_ r.2.2.2.1.length c2_) r.2.2.2.1 ∧ OwnT encS 9 1 H3_ (.slice A3_ r.2.2.2.2.1.length c3_) r.2.2.2.2.1 ∧ e = .returned (.tuple #[]) ∧ l1 = [blk b0 (.cells #[.slice A0_ r.1.length c0_, .slice A1_ r.2.1.length c1_, .pointer (some ⟨b1002_, 0, none⟩)] 65 (0, 0)), H0_, H1_, blk b1002_ (.cells #[.string a1002_0, .int .i64 a1002_1, .int .i64 a1002_2, .int .i64 r.2.2.1, .slice A2_ r.2.2.2.1.length c2_, .slice A3_ r.2.2.2.2.1.length c3_, .int .i64 r.2.2.2.2.2, .slice A_a1002_7 a1002_7.length c_a1002_7] 63 (0, 0)), H2_, H3_]) r) := check_checker_node.okg (CK.good k) h R_a0_0 R_a0_1 R_a1002_4 R_a1002_5 R_a1002_7 R_a1_4 hG
def check_checker_nodes.f (k : Nat) (a0_0 : List (ByteArray × Int × Int × Int × List (Int × Int × ByteArray))) (a0_1 : List ByteArray) (a1002_0 : ByteArray) (a1002_1 : Int) (a1002_2 : Int) (a1002_3 : Int) (a1002_4 : List (Int × Int × ByteArray)) (a1002_5 : List ByteArray) (a1002_6 : Int) (a1002_7 : List ByteArray) (a1 : List Tree) : Option (PR (List (ByteArray × Int × Int × Int × List (Int × Int × ByteArray)) × List ByteArray × Int × List (Int × Int × ByteArray) × List ByteArray × Int) (Int × Int)) := check_checker_nodes.g (CK.at k) k a0_0 a0_1 a1002_0 a1002_1 a1002_2 a1002_3 a1002_4 a1002_5 a1002_6 a1002_7 a1
theorem check_checker_nodes.ok {k : Nat} {a0_0 : List (ByteArray × Int × Int × Int × List (Int × Int × ByteArray))} {a0_1 : List ByteArray} {a1002_0 : ByteArray} {a1002_1 : Int} {a1002_2 : Int} {a1002_3 : Int} {a1002_4 : List (Int × Int × ByteArray)} {a1002_5 : List ByteArray} {a1002_6 : Int} {a1002_7 : List ByteArray} {a1 : List Tree} {b0 : Nat} {H_a0_0 : Frag} {A_a0_0 : Option Addr} {c_a0_0 : Nat} {H_a0_1 : Frag} {A_a0_1 : Option Addr} {c_a0_1 : Nat} {b1002_ : Nat} {H_a1002_4 : Frag} {A_a1002_4 : Option Addr} {c_a1002_4 : Nat} {H_a1002_5 : Frag} {A_a1002_5 : Option Addr} {c_a1002_5 : Nat} {H_a1002_7 : Frag} {A_a1002_7 : Option Addr} {c_a1002_7 : Nat} {H_a1 : Frag} {A_a1 : Option Addr} {c_a1 : Nat} {G : Frag} {r : PR (List (ByteArray × Int × Int × Int × List (Int × Int × ByteArray)) × List ByteArray × Int × List (Int × Int × ByteArray) × List ByteArray × Int) (Int × Int)} (h : check_checker_nodes.f k a0_0 a0_1 a1002_0 a1002_1 a1002_2 a1002_3 a1002_4 a1002_5 a1002_6 a1002_7 a1 = some r) (R_a0_0 : OwnR rs42 42 H_a0_0 (.slice A_a0_0 a0_0.length c_a0_0) a0_0) (R_a0_1 : OwnT encS 9 1 H_a0_1 (.slice A_a0_1 a0_1.length c_a0_1) a0_1) (R_a1002_4 : OwnT e53 53 3 H_a1002_4 (.slice A_a1002_4 a1002_4.length c_a1002_4) a1002_4) (R_a1002_5 : OwnT encS 9 1 H_a1002_5 (.slice A_a1002_5 a1002_5.length c_a1002_5) a1002_5) (R_a1002_7 : RdT encS 1 H_a1002_7 (.slice A_a1002_7 a1002_7.length c_a1002_7) a1002_7) (R_a1 : RdR (rTree 36) H_a1 (.slice A_a1 a1.length c_a1) a1) (hG : GlP G) : Ct Tryz.prog 35 #[.pointer (some ⟨b0, 0, none⟩), .slice A_a1 a1.length c_a1] [blk b0 (.cells #[.slice A_a0_0 a0_0.length c_a0_0, .slice A_a0_1 a0_1.length c_a0_1, .pointer (some ⟨b1002_, 0, none⟩)] 65 (0, 0)), H_a0_0, H_a0_1, blk b1002_ (.cells #[.string a1002_0, .int .i64 a1002_1, .int .i64 a1002_2, .int .i64 a1002_3, .slice A_a1002_4 a1002_4.length c_a1002_4, .slice A_a1002_5 a1002_5.length c_a1002_5, .int .i64 a1002_6, .slice A_a1002_7 a1002_7.length c_a1002_7] 63 (0, 0)), H_a1002_4, H_a1002_5] [H_a1002_7, H_a1, G] (PR.Post failC (fun (r : List (ByteArray × Int × Int × Int × List (Int × Int × ByteArray)) × List ByteArray × Int × List (Int × Int × ByteArray) × List ByteArray × Int) e l1 => ∃ (H0_ : Frag) (A0_ : Option Addr) (c0_ : Nat) (H1_ : Frag) (A1_ : Option Addr) (c1_ : Nat) (H2_ : Frag) (A2_ : Option Addr) (c2_ : Nat) (H3_ : Frag) (A3_ : Option Addr) (c3_ : Nat), OwnR rs42 42 H0_ (.slice A0_ r.1.length c0_) r.1 ∧ OwnT encS 9 1 H1_ (.slice A1_ r.2.1.length c1_) r.2.1 ∧ OwnT e53 53 3 H2_ (.slice A2_ r.2.2.2.1.length c2_) r.2.2.2.1 ∧ OwnT encS 9 1 H3_ (.slice A3_ r.2.2.2.2.1.length c3_) r.2.2.2.2.1 ∧ e = .returned (.tuple #[]) ∧ l1 = [blk b0 (.cells #[.slice A0_ r.1.length c0_, .slice A1_ r.2.1.length c1_, .pointer (some ⟨b1002_, 0, none⟩)] 65 (0, 0)), H0_, H1_, blk b1002_ (.cells #[.string a1002_0, .int .i64 a1002_1, .int .i64 a1002_2, .int .i64 r.2.2.1, .slice A2_ r.2.2.2.1.length c2_, .slice A3_ r.2.2.2.2.1.length c3_, .int .i64 r.2.2.2.2.2, .slice A_a1002_7 a1002_7.length c_a1002_7] 63 (0, 0)), H2_, H3_]) r) := check_checker_nodes.okg (CK.good k) h R_a0_0 R_a0_1 R_a1002_4 R_a1002_5 R_a1002_7 R_a1 hG
def check_checker_exp.f (k : Nat) (a0_0 : List (ByteArray × Int × Int × Int × List (Int × Int × ByteArray))) (a0_1 : List ByteArray) (a1002_0 : ByteArray) (a1002_1 : Int) (a1002_2 : Int) (a1002_3 : Int) (a1002_4 : List (Int × Int × ByteArray)) (a1002_5 : List ByteArray) (a1002_6 : Int) (a1002_7 : List ByteArray) (a1_0 : Int) (a1_1 : ByteArray) (a1_2 : Int) (a1_3 : Int) (a1_4 : List Tree) (a2 : Bool) : Option (PR (List (ByteArray × Int × Int × Int × List (Int × Int × ByteArray)) × List ByteArray × Int × List (Int × Int × ByteArray) × List ByteArray × Int) (Int × Int)) := check_checker_exp.g (CK.at k) k a0_0 a0_1 a1002_0 a1002_1 a1002_2 a1002_3 a1002_4 a1002_5 a1002_6 a1002_7 a1_0 a1_1 a1_2 a1_3 a1_4 a2
theorem check_checker_exp.ok {k : Nat} {a0_0 : List (ByteArray × Int × Int × Int × List (Int × Int × ByteArray))} {a0_1 : List ByteArray} {a1002_0 : ByteArray} {a1002_1 : Int} {a1002_2 : Int} {a1002_3 : Int} {a1002_4 : List (Int × Int × ByteArray)} {a1002_5 : List ByteArray} {a1002_6 : Int} {a1002_7 : List ByteArray} {a1_0 : Int} {a1_1 : ByteArray} {a1_2 : Int} {a1_3 : Int} {a1_4 : List Tree} {a2 : Bool} {b0 : Nat} {H_a0_0 : Frag} {A_a0_0 : Option Addr} {c_a0_0 : Nat} {H_a0_1 : Frag} {A_a0_1 : Option Addr} {c_a0_1 : Nat} {b1002_ : Nat} {H_a1002_4 : Frag} {A_a1002_4 : Option Addr} {c_a1002_4 : Nat} {H_a1002_5 : Frag} {A_a1002_5 : Option Addr} {c_a1002_5 : Nat} {H_a1002_7 : Frag} {A_a1002_7 : Option Addr} {c_a1002_7 : Nat} {H_a1_4 : Frag} {A_a1_4 : Option Addr} {c_a1_4 : Nat} {G : Frag} {r : PR (List (ByteArray × Int × Int × Int × List (Int × Int × ByteArray)) × List ByteArray × Int × List (Int × Int × ByteArray) × List ByteArray × Int) (Int × Int)} (h : check_checker_exp.f k a0_0 a0_1 a1002_0 a1002_1 a1002_2 a1002_3 a1002_4 a1002_5 a1002_6 a1002_7 a1_0 a1_1 a1_2 a1_3 a1_4 a2 = some r) (R_a0_0 : OwnR rs42 42 H_a0_0 (.slice A_a0_0 a0_0.length c_a0_0) a0_0) (R_a0_1 : OwnT encS 9 1 H_a0_1 (.slice A_a0_1 a0_1.length c_a0_1) a0_1) (R_a1002_4 : OwnT e53 53 3 H_a1002_4 (.slice A_a1002_4 a1002_4.length c_a1002_4) a1002_4) (R_a1002_5 : OwnT encS 9 1 H_a1002_5 (.slice A_a1002_5 a1002_5.length c_a1002_5) a1002_5) (R_a1002_7 : RdT encS 1 H_a1002_7 (.slice A_a1002_7 a1002_7.length c_a1002_7) a1002_7) (R_a1_4 : RdR (rTree 36) H_a1_4 (.slice A_a1_4 a1_4.length c_a1_4) a1_4) (hG : GlP G) : Ct Tryz.prog 40 #[.pointer (some ⟨b0, 0, none⟩), .agg #[.int .i64 a1_0, .string a1_1, .int .i64 a1_2, .int .i64 a1_3, .slice A_a1_4 a1_4.length c_a1_4], .bool a2] [blk b0 (.cells #[.slice A_a0_0 a0_0.length c_a0_0, .slice A_a0_1 a0_1.length c_a0_1, .pointer (some ⟨b1002_, 0, none⟩)] 65 (0, 0)), H_a0_0, H_a0_1, blk b1002_ (.cells #[.string a1002_0, .int .i64 a1002_1, .int .i64 a1002_2, .int .i64 a1002_3, .slice A_a1002_4 a1002_4.length c_a1002_4, .slice A_a1002_5 a1002_5.length c_a1002_5, .int .i64 a1002_6, .slice A_a1002_7 a1002_7.length c_a1002_7] 63 (0, 0)), H_a1002_4, H_a1002_5] [H_a1002_7, H_a1_4, G] (PR.Post failC (fun (r : List (ByteArray × Int × Int × Int × List (Int × Int × ByteArray)) × List ByteArray × Int × List (Int × Int × ByteArray) × List ByteArray × Int) e l1 => ∃ (H0_ : Frag) (A0_ : Option Addr) (c0_ : Nat) (H1_ : Frag) (A1_ : Option Addr) (c1_ : Nat) (H2_ : Frag) (A2_ : Option Addr) (c2_ : Nat) (H3_ : Frag) (A3_ : Option Addr) (c3_ : Nat), OwnR rs42 42 H0_ (.slice A0_ r.1.length c0_) r.1 ∧ OwnT encS 9 1 H1_ (.slice A1_ r.2.1.length c1_) r.2.1 ∧ OwnT e53 53 3 H2_ (.slice A2_ r.2.2.2.1.length c2_) r.2.2.2.1 ∧ OwnT encS 9 1 H3_ (.slice A3_ r.2.2.2.2.1.length c3_) r.2.2.2.2.1 ∧ e = .returned (.tuple #[]) ∧ l1 = [blk b0 (.cells #[.slice A0_ r.1.length c0_, .slice A1_ r.2.1.length c1_, .pointer (some ⟨b1002_, 0, none⟩)] 65 (0, 0)), H0_, H1_, blk b1002_ (.cells #[.string a1002_0, .int .i64 a1002_1, .int .i64 a1002_2, .int .i64 r.2.2.1, .slice A2_ r.2.2.2.1.length c2_, .slice A3_ r.2.2.2.2.1.length c3_, .int .i64 r.2.2.2.2.2, .slice A_a1002_7 a1002_7.length c_a1002_7] 63 (0, 0)), H2_, H3_]) r) := check_checker_exp.okg (CK.good k) h R_a0_0 R_a0_1 R_a1002_4 R_a1002_5 R_a1002_7 R_a1_4 hG
def check_checker_loop.f (k : Nat) (a0_0 : List (ByteArray × Int × Int × Int × List (Int × Int × ByteArray))) (a0_1 : List ByteArray) (a1002_0 : ByteArray) (a1002_1 : Int) (a1002_2 : Int) (a1002_3 : Int) (a1002_4 : List (Int × Int × ByteArray)) (a1002_5 : List ByteArray) (a1002_6 : Int) (a1002_7 : List ByteArray) (a1_0 : Int) (a1_1 : ByteArray) (a1_2 : Int) (a1_3 : Int) (a1_4 : List Tree) (a2 : List Tree) (a3_0 : Int) (a3_1 : ByteArray) (a3_2 : Int) (a3_3 : Int) (a3_4 : List Tree) (a4 : Int) : Option (PR (List (ByteArray × Int × Int × Int × List (Int × Int × ByteArray)) × List ByteArray × Int × List (Int × Int × ByteArray) × List ByteArray × Int) (Int × Int)) := check_checker_loop.g (CK.at k) k a0_0 a0_1 a1002_0 a1002_1 a1002_2 a1002_3 a1002_4 a1002_5 a1002_6 a1002_7 a1_0 a1_1 a1_2 a1_3 a1_4 a2 a3_0 a3_1 a3_2 a3_3 a3_4 a4
theorem check_checker_loop.ok {k : Nat} {a0_0 : List (ByteArray × Int × Int × Int × List (Int × Int × ByteArray))} {a0_1 : List ByteArray} {a1002_0 : ByteArray} {a1002_1 : Int} {a1002_2 : Int} {a1002_3 : Int} {a1002_4 : List (Int × Int × ByteArray)} {a1002_5 : List ByteArray} {a1002_6 : Int} {a1002_7 : List ByteArray} {a1_0 : Int} {a1_1 : ByteArray} {a1_2 : Int} {a1_3 : Int} {a1_4 : List Tree} {a2 : List Tree} {a3_0 : Int} {a3_1 : ByteArray} {a3_2 : Int} {a3_3 : Int} {a3_4 : List Tree} {a4 : Int} {b0 : Nat} {H_a0_0 : Frag} {A_a0_0 : Option Addr} {c_a0_0 : Nat} {H_a0_1 : Frag} {A_a0_1 : Option Addr} {c_a0_1 : Nat} {b1002_ : Nat} {H_a1002_4 : Frag} {A_a1002_4 : Option Addr} {c_a1002_4 : Nat} {H_a1002_5 : Frag} {A_a1002_5 : Option Addr} {c_a1002_5 : Nat} {H_a1002_7 : Frag} {A_a1002_7 : Option Addr} {c_a1002_7 : Nat} {H_a1_4 : Frag} {A_a1_4 : Option Addr} {c_a1_4 : Nat} {H_a2 : Frag} {A_a2 : Option Addr} {c_a2 : Nat} {H_a3_4 : Frag} {A_a3_4 : Option Addr} {c_a3_4 : Nat} {G : Frag} {r : PR (List (ByteArray × Int × Int × Int × List (Int × Int × ByteArray)) × List ByteArray × Int × List (Int × Int × ByteArray) × List ByteArray × Int) (Int × Int)} (h : check_checker_loop.f k a0_0 a0_1 a1002_0 a1002_1 a1002_2 a1002_3 a1002_4 a1002_5 a1002_6 a1002_7 a1_0 a1_1 a1_2 a1_3 a1_4 a2 a3_0 a3_1 a3_2 a3_3 a3_4 a4 = some r) (R_a0_0 : OwnR rs42 42 H_a0_0 (.slice A_a0_0 a0_0.length c_a0_0) a0_0) (R_a0_1 : OwnT encS 9 1 H_a0_1 (.slice A_a0_1 a0_1.length c_a0_1) a0_1) (R_a1002_4 : OwnT e53 53 3 H_a1002_4 (.slice A_a1002_4 a1002_4.length c_a1002_4) a1002_4) (R_a1002_5 : OwnT encS 9 1 H_a1002_5 (.slice A_a1002_5 a1002_5.length c_a1002_5) a1002_5) (R_a1002_7 : RdT encS 1 H_a1002_7 (.slice A_a1002_7 a1002_7.length c_a1002_7) a1002_7) (R_a1_4 : RdR (rTree 36) H_a1_4 (.slice A_a1_4 a1_4.length c_a1_4) a1_4) (R_a2 : RdR (rTree 36) H_a2 (.slice A_a2 a2.length c_a2) a2) (R_a3_4 : RdR (rTree 36) H_a3_4 (.slice A_a3_4 a3_4.length c_a3_4) a3_4) (hG : GlP G) : Ct Tryz.prog 39 #[.pointer (some ⟨b0, 0, none⟩), .agg #[.int .i64 a1_0, .string a1_1, .int .i64 a1_2, .int .i64 a1_3, .slice A_a1_4 a1_4.length c_a1_4], .slice A_a2 a2.length c_a2, .agg #[.int .i64 a3_0, .string a3_1, .int .i64 a3_2, .int .i64 a3_3, .slice A_a3_4 a3_4.length c_a3_4], .int .i64 a4] [blk b0 (.cells #[.slice A_a0_0 a0_0.length c_a0_0, .slice A_a0_1 a0_1.length c_a0_1, .pointer (some ⟨b1002_, 0, none⟩)] 65 (0, 0)), H_a0_0, H_a0_1, blk b1002_ (.cells #[.string a1002_0, .int .i64 a1002_1, .int .i64 a1002_2, .int .i64 a1002_3, .slice A_a1002_4 a1002_4.length c_a1002_4, .slice A_a1002_5 a1002_5.length c_a1002_5, .int .i64 a1002_6, .slice A_a1002_7 a1002_7.length c_a1002_7] 63 (0, 0)), H_a1002_4, H_a1002_5] [H_a1002_7, H_a1_4, H_a2, H_a3_4, G] (PR.Post failC (fun (r : List (ByteArray × Int × Int × Int × List (Int × Int × ByteArray)) × List ByteArray × Int × List (Int × Int × ByteArray) × List ByteArray × Int) e l1 => ∃ (H0_ : Frag) (A0_ : Option Addr) (c0_ : Nat) (H1_ : Frag) (A1_ : Option Addr) (c1_ : Nat) (H2_ : Frag) (A2_ : Option Addr) (c2_ : Nat) (H3_ : Frag) (A3_ : Option Addr) (c3_ : Nat), OwnR rs42 42 H0_ (.slice A0_ r.1.length c0_) r.1 ∧ OwnT encS 9 1 H1_ (.slice A1_ r.2.1.length c1_) r.2.1 ∧ OwnT e53 53 3 H2_ (.slice A2_ r.2.2.2.1.length c2_) r.2.2.2.1 ∧ OwnT encS 9 1 H3_ (.slice A3_ r.2.2.2.2.1.length c3_) r.2.2.2.2.1 ∧ e = .returned (.tuple #[]) ∧ l1 = [blk b0 (.cells #[.slice A0_ r.1.length c0_, .slice A1_ r.2.1.length c1_, .pointer (some ⟨b1002_, 0, none⟩)] 65 (0, 0)), H0_, H1_, blk b1002_ (.cells #[.string a1002_0, .int .i64 a1002_1, .int .i64 a1002_2, .int .i64 r.2.2.1, .slice A2_ r.2.2.2.1.length c2_, .slice A3_ r.2.2.2.2.1.length c3_, .int .i64 r.2.2.2.2.2, .slice A_a1002_7 a1002_7.length c_a1002_7] 63 (0, 0)), H2_, H3_]) r) := check_checker_loop.okg (CK.good k) h R_a0_0 R_a0_1 R_a1002_4 R_a1002_5 R_a1002_7 R_a1_4 R_a2 R_a3_4 hG
def check_checker_function.f (k : Nat) (a0_0 : List (ByteArray × Int × Int × Int × List (Int × Int × ByteArray))) (a0_1 : List ByteArray) (a1002_0 : ByteArray) (a1002_1 : Int) (a1002_2 : Int) (a1002_3 : Int) (a1002_4 : List (Int × Int × ByteArray)) (a1002_5 : List ByteArray) (a1002_6 : Int) (a1002_7 : List ByteArray) (a1_0 : Int) (a1_1 : ByteArray) (a1_2 : Int) (a1_3 : Int) (a1_4 : List Tree) : Option (PR (List (ByteArray × Int × Int × Int × List (Int × Int × ByteArray)) × List ByteArray × Int × List (Int × Int × ByteArray) × List ByteArray × Int) (Int × Int)) := check_checker_function.g (CK.at k) k a0_0 a0_1 a1002_0 a1002_1 a1002_2 a1002_3 a1002_4 a1002_5 a1002_6 a1002_7 a1_0 a1_1 a1_2 a1_3 a1_4
theorem check_checker_function.ok {k : Nat} {a0_0 : List (ByteArray × Int × Int × Int × List (Int × Int × ByteArray))} {a0_1 : List ByteArray} {a1002_0 : ByteArray} {a1002_1 : Int} {a1002_2 : Int} {a1002_3 : Int} {a1002_4 : List (Int × Int × ByteArray)} {a1002_5 : List ByteArray} {a1002_6 : Int} {a1002_7 : List ByteArray} {a1_0 : Int} {a1_1 : ByteArray} {a1_2 : Int} {a1_3 : Int} {a1_4 : List Tree} {b0 : Nat} {H_a0_0 : Frag} {A_a0_0 : Option Addr} {c_a0_0 : Nat} {H_a0_1 : Frag} {A_a0_1 : Option Addr} {c_a0_1 : Nat} {b1002_ : Nat} {H_a1002_4 : Frag} {A_a1002_4 : Option Addr} {c_a1002_4 : Nat} {H_a1002_5 : Frag} {A_a1002_5 : Option Addr} {c_a1002_5 : Nat} {H_a1002_7 : Frag} {A_a1002_7 : Option Addr} {c_a1002_7 : Nat} {H_a1_4 : Frag} {A_a1_4 : Option Addr} {c_a1_4 : Nat} {G : Frag} {r : PR (List (ByteArray × Int × Int × Int × List (Int × Int × ByteArray)) × List ByteArray × Int × List (Int × Int × ByteArray) × List ByteArray × Int) (Int × Int)} (h : check_checker_function.f k a0_0 a0_1 a1002_0 a1002_1 a1002_2 a1002_3 a1002_4 a1002_5 a1002_6 a1002_7 a1_0 a1_1 a1_2 a1_3 a1_4 = some r) (R_a0_0 : OwnR rs42 42 H_a0_0 (.slice A_a0_0 a0_0.length c_a0_0) a0_0) (R_a0_1 : OwnT encS 9 1 H_a0_1 (.slice A_a0_1 a0_1.length c_a0_1) a0_1) (R_a1002_4 : OwnT e53 53 3 H_a1002_4 (.slice A_a1002_4 a1002_4.length c_a1002_4) a1002_4) (R_a1002_5 : OwnT encS 9 1 H_a1002_5 (.slice A_a1002_5 a1002_5.length c_a1002_5) a1002_5) (R_a1002_7 : RdT encS 1 H_a1002_7 (.slice A_a1002_7 a1002_7.length c_a1002_7) a1002_7) (R_a1_4 : RdR (rTree 36) H_a1_4 (.slice A_a1_4 a1_4.length c_a1_4) a1_4) (hG : GlP G) : Ct Tryz.prog 36 #[.pointer (some ⟨b0, 0, none⟩), .agg #[.int .i64 a1_0, .string a1_1, .int .i64 a1_2, .int .i64 a1_3, .slice A_a1_4 a1_4.length c_a1_4]] [blk b0 (.cells #[.slice A_a0_0 a0_0.length c_a0_0, .slice A_a0_1 a0_1.length c_a0_1, .pointer (some ⟨b1002_, 0, none⟩)] 65 (0, 0)), H_a0_0, H_a0_1, blk b1002_ (.cells #[.string a1002_0, .int .i64 a1002_1, .int .i64 a1002_2, .int .i64 a1002_3, .slice A_a1002_4 a1002_4.length c_a1002_4, .slice A_a1002_5 a1002_5.length c_a1002_5, .int .i64 a1002_6, .slice A_a1002_7 a1002_7.length c_a1002_7] 63 (0, 0)), H_a1002_4, H_a1002_5] [H_a1002_7, H_a1_4, G] (PR.Post failC (fun (r : List (ByteArray × Int × Int × Int × List (Int × Int × ByteArray)) × List ByteArray × Int × List (Int × Int × ByteArray) × List ByteArray × Int) e l1 => ∃ (H0_ : Frag) (A0_ : Option Addr) (c0_ : Nat) (H1_ : Frag) (A1_ : Option Addr) (c1_ : Nat) (H2_ : Frag) (A2_ : Option Addr) (c2_ : Nat) (H3_ : Frag) (A3_ : Option Addr) (c3_ : Nat), OwnR rs42 42 H0_ (.slice A0_ r.1.length c0_) r.1 ∧ OwnT encS 9 1 H1_ (.slice A1_ r.2.1.length c1_) r.2.1 ∧ OwnT e53 53 3 H2_ (.slice A2_ r.2.2.2.1.length c2_) r.2.2.2.1 ∧ OwnT encS 9 1 H3_ (.slice A3_ r.2.2.2.2.1.length c3_) r.2.2.2.2.1 ∧ e = .returned (.tuple #[]) ∧ l1 = [blk b0 (.cells #[.slice A0_ r.1.length c0_, .slice A1_ r.2.1.length c1_, .pointer (some ⟨b1002_, 0, none⟩)] 65 (0, 0)), H0_, H1_, blk b1002_ (.cells #[.string a1002_0, .int .i64 a1002_1, .int .i64 a1002_2, .int .i64 r.2.2.1, .slice A2_ r.2.2.2.1.length c2_, .slice A3_ r.2.2.2.2.1.length c3_, .int .i64 r.2.2.2.2.2, .slice A_a1002_7 a1002_7.length c_a1002_7] 63 (0, 0)), H2_, H3_]) r) := check_checker_function.okg (CK.good k) h R_a0_0 R_a0_1 R_a1002_4 R_a1002_5 R_a1002_7 R_a1_4 hG
end Go.Proofs.YtdkgnlaneccioaaGreatDoor
