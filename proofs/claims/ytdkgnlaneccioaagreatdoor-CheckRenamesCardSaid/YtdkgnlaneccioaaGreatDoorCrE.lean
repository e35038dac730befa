/- Texts of mine for checkRenames_card, part 5. -/
import Derived.Test.YtdkgnlaneccioaaGreatDoorCrD
set_option linter.unusedSimpArgs false
set_option linter.unusedVariables false
set_option linter.unusedSectionVars false
namespace Go.Proofs.YtdkgnlaneccioaaGreatDoor
open Go Go.RowKit
theorem ety25 : ElemTy Tryz.prog 25 42 5 64 Tryz.t42 (.agg #[sv noS, iv 0, iv 0, iv 0, nS]) := ⟨by kernel_rfl, by kernel_rfl, by kernel_rfl, by kernel_rfl, by kernel_rfl, by kernel_rfl, by decide⟩
structure CK where
 check_checker_node : (a0_0 : List (ByteArray × Int × Int × Int × List (Int × Int × ByteArray))) → (a0_1 : List ByteArray) → (a1002_0 : ByteArray) → (a1002_1 : Int) → (a1002_2 : Int) → (a1002_3 : Int) → (a1002_4 : List (Int × Int × ByteArray)) → (a1002_5 : List ByteArray) → (a1002_6 : Int) → (a1002_7 : List ByteArray) → (a1_0 : Int) → (a1_1 : ByteArray) → (a1_2 : Int) → (a1_3 : Int) → (a1_4 : List Tree) → (a2 : Bool) → Option (PR (List (ByteArray × Int × Int × Int × List (Int × Int × ByteArray)) × List ByteArray × Int × List (Int × Int × ByteArray) × List ByteArray × Int) (Int × Int))
 check_checker_nodes : (a0_0 : List (ByteArray × Int × Int × Int × List (Int × Int × ByteArray))) → (a0_1 : List ByteArray) → (a1002_0 : ByteArray) → (a1002_1 : Int) → (a1002_2 : Int) → (a1002_3 : Int) → (a1002_4 : List (Int × Int × ByteArray)) → (a1002_5 : List ByteArray) → (a1002_6 : Int) → (a1002_7 : List ByteArray) → (a1 : List Tree) → Option (PR (List (ByteArray × Int × Int × Int × List (Int × Int × ByteArray)) × List ByteArray × Int × List (Int × Int × ByteArray) × List ByteArray × Int) (Int × Int))
 check_checker_exp : (a0_0 : List (ByteArray × Int × Int × Int × List (Int × Int × ByteArray))) → (a0_1 : List ByteArray) → (a1002_0 : ByteArray) → (a1002_1 : Int) → (a1002_2 : Int) → (a1002_3 : Int) → (a1002_4 : List (Int × Int × ByteArray)) → (a1002_5 : List ByteArray) → (a1002_6 : Int) → (a1002_7 : List ByteArray) → (a1_0 : Int) → (a1_1 : ByteArray) → (a1_2 : Int) → (a1_3 : Int) → (a1_4 : List Tree) → (a2 : Bool) → Option (PR (List (ByteArray × Int × Int × Int × List (Int × Int × ByteArray)) × List ByteArray × Int × List (Int × Int × ByteArray) × List ByteArray × Int) (Int × Int))
 check_checker_loop : (a0_0 : List (ByteArray × Int × Int × Int × List (Int × Int × ByteArray))) → (a0_1 : List ByteArray) → (a1002_0 : ByteArray) → (a1002_1 : Int) → (a1002_2 : Int) → (a1002_3 : Int) → (a1002_4 : List (Int × Int × ByteArray)) → (a1002_5 : List ByteArray) → (a1002_6 : Int) → (a1002_7 : List ByteArray) → (a1_0 : Int) → (a1_1 : ByteArray) → (a1_2 : Int) → (a1_3 : Int) → (a1_4 : List Tree) → (a2 : List Tree) → (a3_0 : Int) → (a3_1 : ByteArray) → (a3_2 : Int) → (a3_3 : Int) → (a3_4 : List Tree) → (a4 : Int) → Option (PR (List (ByteArray × Int × Int × Int × List (Int × Int × ByteArray)) × List ByteArray × Int × List (Int × Int × ByteArray) × List ByteArray × Int) (Int × Int))
 check_checker_function : (a0_0 : List (ByteArray × Int × Int × Int × List (Int × Int × ByteArray))) → (a0_1 : List ByteArray) → (a1002_0 : ByteArray) → (a1002_1 : Int) → (a1002_2 : Int) → (a1002_3 : Int) → (a1002_4 : List (Int × Int × ByteArray)) → (a1002_5 : List ByteArray) → (a1002_6 : Int) → (a1002_7 : List ByteArray) → (a1_0 : Int) → (a1_1 : ByteArray) → (a1_2 : Int) → (a1_3 : Int) → (a1_4 : List Tree) → Option (PR (List (ByteArray × Int × Int × Int × List (Int × Int × ByteArray)) × List ByteArray × Int × List (Int × Int × ByteArray) × List ByteArray × Int) (Int × Int))
structure CK.Good (R : CK) : Prop where
 check_checker_node : ∀ {a0_0 : List (ByteArray × Int × Int × Int × List (Int × Int × ByteArray))} {a0_1 : List ByteArray} {a1002_0 : ByteArray} {a1002_1 : Int} {a1002_2 : Int} {a1002_3 : Int} {a1002_4 : List (Int × Int × ByteArray)} {a1002_5 : List ByteArray} {a1002_6 : Int} {a1002_7 : List ByteArray} {a1_0 : Int} {a1_1 : ByteArray} {a1_2 : Int} {a1_3 : Int} {a1_4 : List Tree} {a2 : Bool} {b0 : Nat} {H_a0_0 : Frag} {A_a0_0 : Option Addr} {c_a0_0 : Nat} {H_a0_1 : Frag} {A_a0_1 : Option Addr} {c_a0_1 : Nat} {b1002_ : Nat} {H_a1002_4 : Frag} {A_a1002_4 : Option Addr} {c_a1002_4 : Nat} {H_a1002_5 : Frag} {A_a1002_5 : Option Addr} {c_a1002_5 : Nat} {H_a1002_7 : Frag} {A_a1002_7 : Option Addr} {c_a1002_7 : Nat} {H_a1_4 : Frag} {A_a1_4 : Option Addr} {c_a1_4 : Nat} {G : Frag} {r : PR (List (ByteArray × Int × Int × Int × List (Int × Int × ByteArray)) × List ByteArray × Int × List (Int × Int × ByteArray) × List ByteArray × Int) (Int × Int)} (h : R.check_checker_node a0_0 a0_1 a1002_0 a1002_1 a1002_2 a1002_3 a1002_4 a1002_5 a1002_6 a1002_7 a1_0 a1_1 a1_2 a1_3 a1_4 a2 = some r) (R_a0_0 : OwnR rs42 42 H_a0_0 (.slice A_a0_0 a0_0.length c_a0_0) a0_0) (R_a0_1 : OwnT encS 9 1 H_a0_1 (.slice A_a0_1 a0_1.length c_a0_1) a0_1) (R_a1002_4 : OwnT e53 53 3 H_a1002_4 (.slice A_a1002_4 a1002_4.length c_a1002_4) a1002_4) (R_a1002_5 : OwnT encS 9 1 H_a1002_5 (.slice A_a1002_5 a1002_5.length c_a1002_5) a1002_5) (R_a1002_7 : RdT encS 1 H_a1002_7 (.slice A_a1002_7 a1002_7.length c_a1002_7) a1002_7) (R_a1_4 : RdR (rTree 36) H_a1_4 (.slice A_a1_4 a1_4.length c_a1_4) a1_4) (hG : GlP G), Ct Tryz.prog 27 #[pt b0, .agg #[iv a1_0, sv a1_1, iv a1_2, iv a1_3, .slice A_a1_4 a1_4.length c_a1_4], bv a2] [bk b0 #[.slice A_a0_0 a0_0.length c_a0_0, .slice A_a0_1 a0_1.length c_a0_1, pt b1002_] 65, H_a0_0, H_a0_1, bk b1002_ #[sv a1002_0, iv a1002_1, iv a1002_2, iv a1002_3, .slice A_a1002_4 a1002_4.length c_a1002_4, .slice A_a1002_5 a1002_5.length c_a1002_5, iv a1002_6, .slice A_a1002_7 a1002_7.length c_a1002_7] 63, H_a1002_4, H_a1002_5] [H_a1002_7, H_a1_4, G] (PR.Post failC (fun (r : List (ByteArray × Int × Int × Int × List (Int × Int × ByteArray)) × List ByteArray × Int × List (Int × Int × ByteArray) × List ByteArray × Int) e l1 => ∃ (H0_ : Frag) (A0_ : Option Addr) (c0_ : Nat) (H1_ : Frag) (A1_ : Option Addr) (c1_ : Nat) (H2_ : Frag) (A2_ : Option Addr) (c2_ : Nat) (H3_ : Frag) (A3_ : Option Addr) (c3_ : Nat), OwnR rs42 42 H0_ (.slice A0_ r.1.length c0_) r.1 ∧ OwnT encS 9 1 H1_ (.slice A1_ r.2.1.length c1_) r.2.1 ∧ OwnT e53 53 3 H2_ (.slice A2_ r.2.2.2.1.length c2_) r.2.2.2.1 ∧ OwnT encS 9 1 H3_ (.slice A3_ r.2.2.2.2.1.length c3_) r.2.2.2.2.1 ∧ e = .returned (.tuple #[]) ∧ l1 = [bk b0 #[.slice A0_ r.1.length c0_, .slice A1_ r.2.1.length c1_, pt b1002_] 65, H0_, H1_, bk b1002_ #[sv a1002_0, iv a1002_1, iv a1002_2, iv r.2.2.1, .slice A2_ r.2.2.2.1.length c2_, .slice A3_ r.2.2.2.2.1.length c3_, iv r.2.2.2.2.2, .slice A_a1002_7 a1002_7.length c_a1002_7] 63, H2_, H3_]) r)
 check_checker_nodes : ∀ {a0_0 : List (ByteArray × Int × Int × Int × List (Int × Int × ByteArray))} {a0_1 : List ByteArray} {a1002_0 : ByteArray} {a1002_1 : Int} {a1002_2 : Int} {a1002_3 : Int} {a1002_4 : List (Int × Int × ByteArray)} {a1002_5 : List ByteArray} {a1002_6 : Int} {a1002_7 : List ByteArray} {a1 : List Tree} {b0 : Nat} {H_a0_0 : Frag} {A_a0_0 : Option Addr} {c_a0_0 : Nat} {H_a0_1 : Frag} {A_a0_1 : Option Addr} {c_a0_1 : Nat} {b1002_ : Nat} {H_a1002_4 : Frag} {A_a1002_4 : Option Addr} {c_a1002_4 : Nat} {H_a1002_5 : Frag} {A_a1002_5 : Option Addr} {c_a1002_5 : Nat} {H_a1002_7 : Frag} {A_a1002_7 : Option Addr} {c_a1002_7 : Nat} {H_a1 : Frag} {A_a1 : Option Addr} {c_a1 : Nat} {G : Frag} {r : PR (List (ByteArray × Int × Int × Int × List (Int × Int × ByteArray)) × List ByteArray × Int × List (Int × Int × ByteArray) × List ByteArray × Int) (Int × Int)} (h : R.check_checker_nodes a0_0 a0_1 a1002_0 a1002_1 a1002_2 a1002_3 a1002_4 a1002_5 a1002_6 a1002_7 a1 = some r) (R_a0_0 : OwnR rs42 42 H_a0_0 (.slice A_a0_0 a0_0.length c_a0_0) a0_0) (R_a0_1 : OwnT encS 9 1 H_a0_1 (.slice A_a0_1 a0_1.length c_a0_1) a0_1) (R_a1002_4 : OwnT e53 53 3 H_a1002_4 (.slice A_a1002_4 a1002_4.length c_a1002_4) a1002_4) (R_a1002_5 : OwnT encS 9 1 H_a1002_5 (.slice A_a1002_5 a1002_5.length c_a1002_5) a1002_5) (R_a1002_7 : RdT encS 1 H_a1002_7 (.slice A_a1002_7 a1002_7.length c_a1002_7) a1002_7) (R_a1 : RdR (rTree 36) H_a1 (.slice A_a1 a1.length c_a1) a1) (hG : GlP G), Ct Tryz.prog 35 #[pt b0, .slice A_a1 a1.length c_a1] [bk b0 #[.slice A_a0_0 a0_0.length c_a0_0, .slice A_a0_1 a0_1.length c_a0_1, pt b1002_] 65, H_a0_0, H_a0_1, bk b1002_ #[sv a1002_0, iv a1002_1, iv a1002_2, iv a1002_3, .slice A_a1002_4 a1002_4.length c_a1002_4, .slice A_a1002_5 a1002_5.length c_a1002_5, iv a1002_6, .slice A_a1002_7 a1002_7.length c_a1002_7] 63, H_a1002_4, H_a1002_5] [H_a1002_7, H_a1, G] (PR.Post failC (fun (r : List (ByteArray × Int × Int × Int × List (Int × Int × ByteArray)) × List ByteArray × Int × List (Int × Int × ByteArray) × List ByteArray × Int) e l1 => ∃ (H0_ : Frag) (A0_ : Option Addr) (c0_ : Nat) (H1_ : Frag) (A1_ : Option Addr) (c1_ : Nat) (H2_ : Frag) (A2_ : Option Addr) (c2_ : Nat) (H3_ : Frag) (A3_ : Option Addr) (c3_ : Nat), OwnR rs42 42 H0_ (.slice A0_ r.1.length c0_) r.1 ∧ OwnT encS 9 1 H1_ (.slice A1_ r.2.1.length c1_) r.2.1 ∧ OwnT e53 53 3 H2_ (.slice A2_ r.2.2.2.1.length c2_) r.2.2.2.1 ∧ OwnT encS 9 1 H3_ (.slice A3_ r.2.2.2.2.1.length c3_) r.2.2.2.2.1 ∧ e = .returned (.tuple #[]) ∧ l1 = [bk b0 #[.slice A0_ r.1.length c0_, .slice A1_ r.2.1.length c1_, pt b1002_] 65, H0_, H1_, bk b1002_ #[sv a1002_0, iv a1002_1, iv a1002_2, iv r.2.2.1, .slice A2_ r.2.2.2.1.length c2_, .slice A3_ r.2.2.2.2.1.length c3_, iv r.2.2.2.2.2, .slice A_a1002_7 a1002_7.length c_a1002_7] 63, H2_, H3_]) r)
 check_checker_exp : ∀ {a0_0 : List (ByteArray × Int × Int × Int × List (Int × Int × ByteArray))} {a0_1 : List ByteArray} {a1002_0 : ByteArray} {a1002_1 : Int} {a1002_2 : Int} {a1002_3 : Int} {a1002_4 : List (Int × Int × ByteArray)} {a1002_5 : List ByteArray} {a1002_6 : Int} {a1002_7 : List ByteArray} {a1_0 : Int} {a1_1 : ByteArray} {a1_2 : Int} {a1_3 : Int} {a1_4 : List Tree} {a2 : Bool} {b0 : Nat} {H_a0_0 : Frag} {A_a0_0 : Option Addr} {c_a0_0 : Nat} {H_a0_1 : Frag} {A_a0_1 : Option Addr} {c_a0_1 : Nat} {b1002_ : Nat} {H_a1002_4 : Frag} {A_a1002_4 : Option Addr} {c_a1002_4 : Nat} {H_a1002_5 : Frag} {A_a1002_5 : Option Addr} {c_a1002_5 : Nat} {H_a1002_7 : Frag} {A_a1002_7 : Option Addr} {c_a1002_7 : Nat} {H_a1_4 : Frag} {A_a1_4 : Option Addr} {c_a1_4 : Nat} {G : Frag} {r : PR (List (ByteArray × Int × Int × Int × List (Int × Int × ByteArray)) × List ByteArray × Int × List (Int × Int × ByteArray) × List ByteArray × Int) (Int × Int)} (h : R.check_checker_exp a0_0 a0_1 a1002_0 a1002_1 a1002_2 a1002_3 a1002_4 a1002_5 a1002_6 a1002_7 a1_0 a1_1 a1_2 a1_3 a1_4 a2 = some r) (R_a0_0 : OwnR rs42 42 H_a0_0 (.slice A_a0_0 a0_0.length c_a0_0) a0_0) (R_a0_1 : OwnT encS 9 1 H_a0_1 (.slice A_a0_1 a0_1.length c_a0_1) a0_1) (R_a1002_4 : OwnT e53 53 3 H_a1002_4 (.slice A_a1002_4 a1002_4.length c_a1002_4) a1002_4) (R_a1002_5 : OwnT encS 9 1 H_a1002_5 (.slice A_a1002_5 a1002_5.length c_a1002_5) a1002_5) (R_a1002_7 : RdT encS 1 H_a1002_7 (.slice A_a1002_7 a1002_7.length c_a1002_7) a1002_7) (R_a1_4 : RdR (rTree 36) H_a1_4 (.slice A_a1_4 a1_4.length c_a1_4) a1_4) (hG : GlP G), Ct Tryz.prog 40 #[pt b0, .agg #[iv a1_0, sv a1_1, iv a1_2, iv a1_3, .slice A_a1_4 a1_4.length c_a1_4], bv a2] [bk b0 #[.slice A_a0_0 a0_0.length c_a0_0, .slice A_a0_1 a0_1.length c_a0_1, pt b1002_] 65, H_a0_0, H_a0_1, bk b1002_ #[sv a1002_0, iv a1002_1, iv a1002_2, iv a1002_3, .slice A_a1002_4 a1002_4.length c_a1002_4, .slice A_a1002_5 a1002_5.length c_a1002_5, iv a1002_6, .slice A_a1002_7 a1002_7.length c_a1002_7] 63, H_a1002_4, H_a1002_5] [H_a1002_7, H_a1_4, G] (PR.Post failC (fun (r : List (ByteArray × Int × Int × Int × List (Int × Int × ByteArray)) × List ByteArray × Int × List (Int × Int × ByteArray) × List ByteArray × Int) e l1 => ∃ (H0_ : Frag) (A0_ : Option Addr) (c0_ : Nat) (H1_ : Frag) (A1_ : Option Addr) (c1_ : Nat) (H2_ : Frag) (A2_ : Option Addr) (c2_ : Nat) (H3_ : Frag) (A3_ : Option Addr) (c3_ : Nat), OwnR rs42 42 H0_ (.slice A0_ r.1.length c0_) r.1 ∧ OwnT encS 9 1 H1_ (.slice A1_ r.2.1.length c1_) r.2.1 ∧ OwnT e53 53 3 H2_ (.slice A2_ r.2.2.2.1.length c2_) r.2.2.2.1 ∧ OwnT encS 9 1 H3_ (.slice A3_ r.2.2.2.2.1.length c3_) r.2.2.2.2.1 ∧ e = .returned (.tuple #[]) ∧ l1 = [bk b0 #[.slice A0_ r.1.length c0_, .slice A1_ r.2.1.length c1_, pt b1002_] 65, H0_, H1_, bk b1002_ #[sv a1002_0, iv a1002_1, iv a1002_2, iv r.2.2.1, .slice A2_ r.2.2.2.1.length c2_, .slice A3_ r.2.2.2.2.1.length c3_, iv r.2.2.2.2.2, .slice A_a1002_7 a1002_7.length c_a1002_7] 63, H2_, H3_]) r)
 check_checker_loop : ∀ {a0_0 : List (ByteArray × Int × Int × Int × List (Int × Int × ByteArray))} {a0_1 : List ByteArray} {a1002_0 : ByteArray} {a1002_1 : Int} {a1002_2 : Int} {a1002_3 : Int} {a1002_4 : List (Int × Int × ByteArray)} {a1002_5 : List ByteArray} {a1002_6 : Int} {a1002_7 : List ByteArray} {a1_0 : Int} {a1_1 : ByteArray} {a1_2 : Int} {a1_3 : Int} {a1_4 : List Tree} {a2 : List Tree} {a3_0 : Int} {a3_1 : ByteArray} {a3_2 : Int} {a3_3 : Int} {a3_4 : List Tree} {a4 : Int} {b0 : Nat} {H_a0_0 : Frag} {A_a0_0 : Option Addr} {c_a0_0 : Nat} {H_a0_1 : Frag} {A_a0_1 : Option Addr} {c_a0_1 : Nat} {b1002_ : Nat} {H_a1002_4 : Frag} {A_a1002_4 : Option Addr} {c_a1002_4 : Nat} {H_a1002_5 : Frag} {A_a1002_5 : Option Addr} {c_a1002_5 : Nat} {H_a1002_7 : Frag} {A_a1002_7 : Option Addr} {c_a1002_7 : Nat} {H_a1_4 : Frag} {A_a1_4 : Option Addr} {c_a1_4 : Nat} {H_a2 : Frag} {A_a2 : Option Addr} {c_a2 : Nat} {H_a3_4 : Frag} {A_a3_4 : Option Addr} {c_a3_4 : Nat} {G : Frag} {r : PR (List (ByteArray × Int × Int × Int × List (Int × Int × ByteArray)) × List ByteArray × Int × List (Int × Int × ByteArray) × List ByteArray × Int) (Int × Int)} (h : R.check_checker_loop a0_0 a0_1 a1002_0 a1002_1 a1002_2 a1002_3 a1002_4 a1002_5 a1002_6 a1002_7 a1_0 a1_1 a1_2 a1_3 a1_4 a2 a3_0 a3_1 a3_2 a3_3 a3_4 a4 = some r) (R_a0_0 : OwnR rs42 42 H_a0_0 (.slice A_a0_0 a0_0.length c_a0_0) a0_0) (R_a0_1 : OwnT encS 9 1 H_a0_1 (.slice A_a0_1 a0_1.length c_a0_1) a0_1) (R_a1002_4 : OwnT e53 53 3 H_a1002_4 (.slice A_a1002_4 a1002_4.length c_a1002_4) a1002_4) (R_a1002_5 : OwnT encS 9 1 H_a1002_5 (.slice A_a1002_5 a1002_5.length c_a1002_5) a1002_5) (R_a1002_7 : RdT encS 1 H_a1002_7 (.slice A_a1002_7 a1002_7.length c_a1002_7) a1002_7) (R_a1_4 : RdR (rTree 36) H_a1_4 (.slice A_a1_4 a1_4.length c_a1_4) a1_4) (R_a2 : RdR (rTree 36) H_a2 (.slice A_a2 a2.length c_a2) a2) (R_a3_4 : RdR (rTree 36) H_a3_4 (.slice A_a3_4 a3_4.length c_a3_4) a3_4) (hG : GlP G), Ct Tryz.prog 39 #[pt b0, .agg #[iv a1_0, sv a1_1, iv a1_2, iv a1_3, .slice A_a1_4 a1_4.length c_a1_4], .slice A_a2 a2.length c_a2, .agg #[iv a3_0, sv a3_1, iv a3_2, iv a3_3, .slice A_a3_4 a3_4.length c_a3_4], iv a4] [bk b0 #[.slice A_a0_0 a0_0.length c_a0_0, .slice A_a0_1 a0_1.length c_a0_1, pt b1002_] 65, H_a0_0, H_a0_1, bk b1002_ #[sv a1002_0, iv a1002_1, iv a1002_2, iv a1002_3, .slice A_a1002_4 a1002_4.length c_a1002_4, .slice A_a1002_5 a1002_5.length c_a1002_5, iv a1002_6, .slice A_a1002_7 a1002_7.length c_a1002_7] 63, H_a1002_4, H_a1002_5] [H_a1002_7, H_a1_4, H_a2, H_a3_4, G] (PR.Post failC (fun (r : List (ByteArray × Int × Int × Int × List (Int × Int × ByteArray)) × List ByteArray × Int × List (Int × Int × ByteArray) × List ByteArray × Int) e l1 => ∃ (H0_ : Frag) (A0_ : Option Addr) (c0_ : Nat) (H1_ : Frag) (A1_ : Option Addr) (c1_ : Nat) (H2_ : Frag) (A2_ : Option Addr) (c2_ : Nat) (H3_ : Frag) (A3_ : Option Addr) (c3_ : Nat), OwnR rs42 42 H0_ (.slice A0_ r.1.length c0_) r.1 ∧ OwnT encS 9 1 H1_ (.slice A1_ r.2.1.length c1_) r.2.1 ∧ OwnT e53 53 3 H2_ (.slice A2_ r.2.2.2.1.length c2_) r.2.2.2.1 ∧ OwnT encS 9 1 H3_ (.slice A3_ r.2.2.2.2.1.length c3_) r.2.2.2.2.1 ∧ e = .returned (.tuple #[]) ∧ l1 = [bk b0 #[.slice A0_ r.1.length c0_, .slice A1_ r.2.1.length c1_, pt b1002_] 65, H0_, H1_, bk b1002_ #[sv a1002_0, iv a1002_1, iv a1002_2, iv r.2.2.1, .slice A2_ r.2.2.2.1.length c2_, .slice A3_ r.2.2.2.2.1.length c3_, iv r.2.2.2.2.2, .slice A_a1002_7 a1002_7.length c_a1002_7] 63, H2_, H3_]) r)
 check_checker_function : ∀ {a0_0 : List (ByteArray × Int × Int × Int × List (Int × Int × ByteArray))} {a0_1 : List ByteArray} {a1002_0 : ByteArray} {a1002_1 : Int} {a1002_2 : Int} {a1002_3 : Int} {a1002_4 : List (Int × Int × ByteArray)} {a1002_5 : List ByteArray} {a1002_6 : Int} {a1002_7 : List ByteArray} {a1_0 : Int} {a1_1 : ByteArray} {a1_2 : Int} {a1_3 : Int} {a1_4 : List Tree} {b0 : Nat} {H_a0_0 : Frag} {A_a0_0 : Option Addr} {c_a0_0 : Nat} {H_a0_1 : Frag} {A_a0_1 : Option Addr} {c_a0_1 : Nat} {b1002_ : Nat} {H_a1002_4 : Frag} {A_a1002_4 : Option Addr} {c_a1002_4 : Nat} {H_a1002_5 : Frag} {A_a1002_5 : Option Addr} {c_a1002_5 : Nat} {H_a1002_7 : Frag} {A_a1002_7 : Option Addr} {c_a1002_7 : Nat} {H_a1_4 : Frag} {A_a1_4 : Option Addr} {c_a1_4 : Nat} {G : Frag} {r : PR (List (ByteArray × Int × Int × Int × List (Int × Int × ByteArray)) × List ByteArray × Int × List (Int × Int × ByteArray) × List ByteArray × Int) (Int × Int)} (h : R.check_checker_function a0_0 a0_1 a1002_0 a1002_1 a1002_2 a1002_3 a1002_4 a1002_5 a1002_6 a1002_7 a1_0 a1_1 a1_2 a1_3 a1_4 = some r) (R_a0_0 : OwnR rs42 42 H_a0_0 (.slice A_a0_0 a0_0.length c_a0_0) a0_0) (R_a0_1 : OwnT encS 9 1 H_a0_1 (.slice A_a0_1 a0_1.length c_a0_1) a0_1) (R_a1002_4 : OwnT e53 53 3 H_a1002_4 (.slice A_a1002_4 a1002_4.length c_a1002_4) a1002_4) (R_a1002_5 : OwnT encS 9 1 H_a1002_5 (.slice A_a1002_5 a1002_5.length c_a1002_5) a1002_5) (R_a1002_7 : RdT encS 1 H_a1002_7 (.slice A_a1002_7 a1002_7.length c_a1002_7) a1002_7) (R_a1_4 : RdR (rTree 36) H_a1_4 (.slice A_a1_4 a1_4.length c_a1_4) a1_4) (hG : GlP G), Ct Tryz.prog 36 #[pt b0, .agg #[iv a1_0, sv a1_1, iv a1_2, iv a1_3, .slice A_a1_4 a1_4.length c_a1_4]] [bk b0 #[.slice A_a0_0 a0_0.length c_a0_0, .slice A_a0_1 a0_1.length c_a0_1, pt b1002_] 65, H_a0_0, H_a0_1, bk b1002_ #[sv a1002_0, iv a1002_1, iv a1002_2, iv a1002_3, .slice A_a1002_4 a1002_4.length c_a1002_4, .slice A_a1002_5 a1002_5.length c_a1002_5, iv a1002_6, .slice A_a1002_7 a1002_7.length c_a1002_7] 63, H_a1002_4, H_a1002_5] [H_a1002_7, H_a1_4, G] (PR.Post failC (fun (r : List (ByteArray × Int × Int × Int × List (Int × Int × ByteArray)) × List ByteArray × Int × List (Int × Int × ByteArray) × List ByteArray × Int) e l1 => ∃ (H0_ : Frag) (A0_ : Option Addr) (c0_ : Nat) (H1_ : Frag) (A1_ : Option Addr) (c1_ : Nat) (H2_ : Frag) (A2_ : Option Addr) (c2_ : Nat) (H3_ : Frag) (A3_ : Option Addr) (c3_ : Nat), OwnR rs42 42 H0_ (.slice A0_ r.1.length c0_) r.1 ∧ OwnT encS 9 1 H1_ (.slice A1_ r.2.1.length c1_) r.2.1 ∧ OwnT e53 53 3 H2_ (.slice A2_ r.2.2.2.1.length c2_) r.2.2.2.1 ∧ OwnT encS 9 1 H3_ (.slice A3_ r.2.2.2.2.1.length c3_) r.2.2.2.2.1 ∧ e = .returned (.tuple #[]) ∧ l1 = [bk b0 #[.slice A0_ r.1.length c0_, .slice A1_ r.2.1.length c1_, pt b1002_] 65, H0_, H1_, bk b1002_ #[sv a1002_0, iv a1002_1, iv a1002_2, iv r.2.2.1, .slice A2_ r.2.2.2.1.length c2_, .slice A3_ r.2.2.2.2.1.length c3_, iv r.2.2.2.2.2, .slice A_a1002_7 a1002_7.length c_a1002_7] 63, H2_, H3_]) r)
def check_checker_node.l0 : Nat → (Rc : CK) → (a1002_0 : ByteArray) → (a1002_1 : Int) → (a1002_2 : Int) → (a1002_7 : List ByteArray) → (a1_2 : Int) → (a1_4 : List Tree) → (x84 : Int) → (l85 : List (ByteArray × Int × Int × Int × List (Int × Int × ByteArray))) → (l90 : List ByteArray) → (x95 : Int) → (l96 : List (Int × Int × ByteArray)) → (l101 : List ByteArray) → (x106 : Int) → Option (PR (List (ByteArray × Int × Int × Int × List (Int × Int × ByteArray)) × List ByteArray × Int × List (Int × Int × ByteArray) × List ByteArray × Int) (Int × Int))
 | 0, _, _, _, _, _, _, _, _, _, _, _, _, _, _ => none
 | m107 + 1, Rc, a1002_0, a1002_1, a1002_2, a1002_7, a1_2, a1_4, x84, l85, l90, x95, l96, l101, x106 => cond (decide (x84 < ((a1_4.length : Nat) : Int))) ((lIdx a1_4 x84).bind fun x109 => PR.bind (Rc.check_checker_node l85 l90 a1002_0 a1002_1 a1002_2 x95 l96 l101 x106 a1002_7 x109.kind x109.text x109.n x109.at_ x109.kids (decide (x84 < a1_2))) fun r119 => check_checker_node.l0 m107 Rc a1002_0 a1002_1 a1002_2 a1002_7 a1_2 a1_4 (IntKind.i64.wrap (x84 + 1)) r119.1 r119.2.1 r119.2.2.1 r119.2.2.2.1 r119.2.2.2.2.1 r119.2.2.2.2.2) (some (PR.ok (l85, l90, x95, l96, l101, x106)))
def check_checker_node.g (Rc : CK) (k : Nat) (a0_0 : List (ByteArray × Int × Int × Int × List (Int × Int × ByteArray))) (a0_1 : List ByteArray) (a1002_0 : ByteArray) (a1002_1 : Int) (a1002_2 : Int) (a1002_3 : Int) (a1002_4 : List (Int × Int × ByteArray)) (a1002_5 : List ByteArray) (a1002_6 : Int) (a1002_7 : List ByteArray) (a1_0 : Int) (a1_1 : ByteArray) (a1_2 : Int) (a1_3 : Int) (a1_4 : List Tree) (a2 : Bool) : Option (PR (List (ByteArray × Int × Int × Int × List (Int × Int × ByteArray)) × List ByteArray × Int × List (Int × Int × ByteArray) × List ByteArray × Int) (Int × Int)) := cond (a1_0 == 20) (PR.bind (Rc.check_checker_nodes a0_0 a0_1 a1002_0 a1002_1 a1002_2 a1002_3 a1002_4 a1002_5 a1002_6 a1002_7 a1_4) fun r3 => (lSub r3.2.2.2.2.1 0 ((a1002_5.length : Nat) : Int)).bind fun l21 => some (PR.ok (r3.1, r3.2.1, r3.2.2.1, r3.2.2.2.1, l21, r3.2.2.2.2.2))) (cond (a1_0 == 31) (PR.bind (Rc.check_checker_function a0_0 a0_1 a1002_0 a1002_1 a1002_2 a1002_3 a1002_4 a1002_5 a1002_6 a1002_7 a1_0 a1_1 a1_2 a1_3 a1_4) fun r24 => some (PR.ok (r24.1, r24.2.1, r24.2.2.1, r24.2.2.2.1, r24.2.2.2.2.1, r24.2.2.2.2.2))) (cond (a1_0 == 21) (PR.bind (check_few.f k a1_0 a1_1 a1_2 a1_3 a1_4 a1_2 50) fun r43 => PR.bind (check_few.f k a1_0 a1_1 a1_2 a1_3 a1_4 (IntKind.i64.wrap (((a1_4.length : Nat) : Int) - a1_2)) 50) fun r45 => (lSub a1_4 a1_2 ((a1_4.length : Nat) : Int)).bind fun l47 => PR.bind (Rc.check_checker_nodes a0_0 a0_1 a1002_0 a1002_1 a1002_2 a1002_3 a1002_4 a1002_5 a1002_6 a1002_7 l47) fun r51 => (lSub a1_4 0 a1_2).bind fun l69 => PR.bind (check_checker_bring.f k r51.1 r51.2.1 a1002_0 a1002_1 a1002_2 r51.2.2.1 r51.2.2.2.1 r51.2.2.2.2.1 r51.2.2.2.2.2 a1002_7 a1_0 a1_1 a1_2 a1_3 a1_4 l69) fun r73 => some (PR.ok (r51.1, r51.2.1, r73.1, r51.2.2.2.1, r73.2, r51.2.2.2.2.2))) (cond (a1_0 == 22) (PR.bind (check_few.f k a1_0 a1_1 a1_2 a1_3 a1_4 a1_2 50) fun r80 => PR.bind (check_few.f k a1_0 a1_1 a1_2 a1_3 a1_4 (IntKind.i64.wrap (((a1_4.length : Nat) : Int) - a1_2)) 50) fun r82 => check_checker_node.l0 k Rc a1002_0 a1002_1 a1002_2 a1002_7 a1_2 a1_4 0 a0_0 a0_1 a1002_3 a1002_4 a1002_5 a1002_6) (cond (a1_0 == 25) ((lIdx a1_4 0).bind fun x138 => PR.bind (Rc.check_checker_node a0_0 a0_1 a1002_0 a1002_1 a1002_2 a1002_3 a1002_4 a1002_5 a1002_6 a1002_7 x138.kind x138.text x138.n x138.at_ x138.kids false) fun r147 => (lIdx a1_4 1).bind fun x165 => PR.bind (Rc.check_checker_loop r147.1 r147.2.1 a1002_0 a1002_1 a1002_2 r147.2.2.1 r147.2.2.2.1 r147.2.2.2.2.1 r147.2.2.2.2.2 a1002_7 a1_0 a1_1 a1_2 a1_3 a1_4 ([]) x165.kind x165.text x165.n x165.at_ x165.kids 0) fun r174 => some (PR.ok (r174.1, r174.2.1, r174.2.2.1, r174.2.2.2.1, r174.2.2.2.2.1, r174.2.2.2.2.2))) (cond (a1_0 == 26) ((lSub a1_4 1 (IntKind.i64.wrap (((a1_4.length : Nat) : Int) - 1))).bind fun l193 => PR.bind (Rc.check_checker_nodes a0_0 a0_1 a1002_0 a1002_1 a1002_2 a1002_3 a1002_4 a1002_5 a1002_6 a1002_7 l193) fun r197 => (lSub a1_4 0 1).bind fun l215 => (lIdx a1_4 (IntKind.i64.wrap (((a1_4.length : Nat) : Int) - 1))).bind fun x219 => PR.bind (Rc.check_checker_loop r197.1 r197.2.1 a1002_0 a1002_1 a1002_2 r197.2.2.1 r197.2.2.2.1 r197.2.2.2.2.1 r197.2.2.2.2.2 a1002_7 a1_0 a1_1 a1_2 a1_3 a1_4 l215 x219.kind x219.text x219.n x219.at_ x219.kids 3) fun r228 => some (PR.ok (r228.1, r228.2.1, r228.2.2.1, r228.2.2.2.1, r228.2.2.2.2.1, r228.2.2.2.2.2))) (cond (a1_0 == 27) (PR.bind (check_few.f k a1_0 a1_1 a1_2 a1_3 a1_4 a1_2 50) fun r247 => PR.bind (check_few.f k a1_0 a1_1 a1_2 a1_3 a1_4 (IntKind.i64.wrap ((IntKind.i64.wrap (((a1_4.length : Nat) : Int) - 1)) - a1_2)) 50) fun r249 => (lSub a1_4 a1_2 (IntKind.i64.wrap (((a1_4.length : Nat) : Int) - 1))).bind fun l251 => PR.bind (Rc.check_checker_nodes a0_0 a0_1 a1002_0 a1002_1 a1002_2 a1002_3 a1002_4 a1002_5 a1002_6 a1002_7 l251) fun r255 => (lSub a1_4 0 a1_2).bind fun l273 => (lIdx a1_4 (IntKind.i64.wrap (((a1_4.length : Nat) : Int) - 1))).bind fun x277 => PR.bind (Rc.check_checker_loop r255.1 r255.2.1 a1002_0 a1002_1 a1002_2 r255.2.2.1 r255.2.2.2.1 r255.2.2.2.2.1 r255.2.2.2.2.2 a1002_7 a1_0 a1_1 a1_2 a1_3 a1_4 l273 x277.kind x277.text x277.n x277.at_ x277.kids 3) fun r286 => some (PR.ok (r286.1, r286.2.1, r286.2.2.1, r286.2.2.2.1, r286.2.2.2.2.1, r286.2.2.2.2.2))) (cond (a1_0 == 29) (cond (a1002_6 == 0) (PR.bind (check_fail.f k 5 a1_3) fun r306 => some (PR.ok (a0_0, a0_1, a1002_3, a1002_4, a1002_5, a1002_6))) (some (PR.ok (a0_0, a0_1, a1002_3, a1002_4, a1002_5, a1002_6)))) (PR.bind (Rc.check_checker_exp a0_0 a0_1 a1002_0 a1002_1 a1002_2 a1002_3 a1002_4 a1002_5 a1002_6 a1002_7 a1_0 a1_1 a1_2 a1_3 a1_4 a2) fun r308 => some (PR.ok (r308.1, r308.2.1, r308.2.2.1, r308.2.2.2.1, r308.2.2.2.2.1, r308.2.2.2.2.2))))))))))
set_option maxRecDepth 100000 in
theorem check_checker_node.okg {Rc : CK} (hR : Rc.Good) {k : Nat} {a0_0 : List (ByteArray × Int × Int × Int × List (Int × Int × ByteArray))} {a0_1 : List ByteArray} {a1002_0 : ByteArray} {a1002_1 : Int} {a1002_2 : Int} {a1002_3 : Int} {a1002_4 : List (Int × Int × ByteArray)} {a1002_5 : List ByteArray} {a1002_6 : Int} {a1002_7 : List ByteArray} {a1_0 : Int} {a1_1 : ByteArray} {a1_2 : Int} {a1_3 : Int} {a1_4 : List Tree} {a2 : Bool} {b0 : Nat} {H_a0_0 : Frag} {A_a0_0 : Option Addr} {c_a0_0 : Nat} {H_a0_1 : Frag} {A_a0_1 : Option Addr} {c_a0_1 : Nat} {b1002_ : Nat} {H_a1002_4 : Frag} {A_a1002_4 : Option Addr} {c_a1002_4 : Nat} {H_a1002_5 : Frag} {A_a1002_5 : Option Addr} {c_a1002_5 : Nat} {H_a1002_7 : Frag} {A_a1002_7 : Option Addr} {c_a1002_7 : Nat} {H_a1_4 : Frag} {A_a1_4 : Option Addr} {c_a1_4 : Nat} {G : Frag} {r : PR (List (ByteArray × Int × Int × Int × List (Int × Int × ByteArray)) × List ByteArray × Int × List (Int × Int × ByteArray) × List ByteArray × Int) (Int × Int)} (h : check_checker_node.g Rc k a0_0 a0_1 a1002_0 a1002_1 a1002_2 a1002_3 a1002_4 a1002_5 a1002_6 a1002_7 a1_0 a1_1 a1_2 a1_3 a1_4 a2 = some r) (R_a0_0 : OwnR rs42 42 H_a0_0 (.slice A_a0_0 a0_0.length c_a0_0) a0_0) (R_a0_1 : OwnT encS 9 1 H_a0_1 (.slice A_a0_1 a0_1.length c_a0_1) a0_1) (R_a1002_4 : OwnT e53 53 3 H_a1002_4 (.slice A_a1002_4 a1002_4.length c_a1002_4) a1002_4) (R_a1002_5 : OwnT encS 9 1 H_a1002_5 (.slice A_a1002_5 a1002_5.length c_a1002_5) a1002_5) (R_a1002_7 : RdT encS 1 H_a1002_7 (.slice A_a1002_7 a1002_7.length c_a1002_7) a1002_7) (R_a1_4 : RdR (rTree 36) H_a1_4 (.slice A_a1_4 a1_4.length c_a1_4) a1_4) (hG : GlP G) : Ct Tryz.prog 27 #[pt b0, .agg #[iv a1_0, sv a1_1, iv a1_2, iv a1_3, .slice A_a1_4 a1_4.length c_a1_4], bv a2] [bk b0 #[.slice A_a0_0 a0_0.length c_a0_0, .slice A_a0_1 a0_1.length c_a0_1, pt b1002_] 65, H_a0_0, H_a0_1, bk b1002_ #[sv a1002_0, iv a1002_1, iv a1002_2, iv a1002_3, .slice A_a1002_4 a1002_4.length c_a1002_4, .slice A_a1002_5 a1002_5.length c_a1002_5, iv a1002_6, .slice A_a1002_7 a1002_7.length c_a1002_7] 63, H_a1002_4, H_a1002_5] [H_a1002_7, H_a1_4, G] (PR.Post failC (fun (r : List (ByteArray × Int × Int × Int × List (Int × Int × ByteArray)) × List ByteArray × Int × List (Int × Int × ByteArray) × List ByteArray × Int) e l1 => ∃ (H0_ : Frag) (A0_ : Option Addr) (c0_ : Nat) (H1_ : Frag) (A1_ : Option Addr) (c1_ : Nat) (H2_ : Frag) (A2_ : Option Addr) (c2_ : Nat) (H3_ : Frag) (A3_ : Option Addr) (c3_ : Nat), OwnR rs42 42 H0_ (.slice A0_ r.1.length c0_) r.1 ∧ OwnT encS 9 1 H1_ (.slice A1_ r.2.1.length c1_) r.2.1 ∧ OwnT e53 53 3 H2_ (.slice A2_ r.2.2.2.1.length c2_) r.2.2.2.1 ∧ OwnT encS 9 1 H3_ (.slice A3_ r.2.2.2.2.1.length c3_) r.2.2.2.2.1 ∧ e = .returned (.tuple #[]) ∧ l1 = [bk b0 #[.slice A0_ r.1.length c0_, .slice A1_ r.2.1.length c1_, pt b1002_] 65, H0_, H1_, bk b1002_ #[sv a1002_0, iv a1002_1, iv a1002_2, iv r.2.2.1, .slice A2_ r.2.2.2.1.length c2_, .slice A3_ r.2.2.2.2.1.length c3_, iv r.2.2.2.2.2, .slice A_a1002_7 a1002_7.length c_a1002_7] 63, H2_, H3_]) r) := by
 refine ct_enter (args := [pt b0, .agg #[iv a1_0, sv a1_1, iv a1_2, iv a1_3, .slice A_a1_4 a1_4.length c_a1_4], bv a2]) Tryz.func27 rfl (Nat.le_of_ble_eq_true rfl) ?_
 intro A X hh_
 obtain ⟨hm_H_a1002_7, hm_H_a1_4, hm_G, _⟩ := hh_
 unfold check_checker_node.g at h
 refine K.eq (env' := [(0, pt b0), (1, .agg #[iv a1_0, sv a1_1, iv a1_2, iv a1_3, .slice A_a1_4 a1_4.length c_a1_4]), (2, bv a2)]) (l' := bk b0 #[.slice A_a0_0 a0_0.length c_a0_0, .slice A_a0_1 a0_1.length c_a0_1, pt b1002_] 65 :: H_a0_0 :: H_a0_1 :: bk b1002_ #[sv a1002_0, iv a1002_1, iv a1002_2, iv a1002_3, .slice A_a1002_4 a1002_4.length c_a1002_4, .slice A_a1002_5 a1002_5.length c_a1002_5, iv a1002_6, .slice A_a1002_7 a1002_7.length c_a1002_7] 63 :: H_a1002_4 :: H_a1002_5 :: X) rfl rfl (ksr (knp #[iv a1_0, sv a1_1, iv a1_2, iv a1_3, .slice A_a1_4 a1_4.length c_a1_4] 36 fun b1 => (kns' (kx 1 (kld 0 4 rfl (kx 3 (kns' (kx 1 (kld 0 0 rfl (knt ?_))))))))))
 refine k_block (ksr (kx 2 (knt ?_)))
 refine kcn h (fun h => ?_) fun h => ?_
 ·refine ksr (kx 3 (kld 1 2 rfl (kx 2 (kld 4 5 rfl (kx 2 (kns' (kx 2 (kld 0 4 rfl (K.drop (K.mvN [_, _, _, _, _] _ _ ?_))))))))))
  refine K.mvN [_, _, _, _, _] _ _ (K.mvN [_, _, _, _, _] _ _ (K.mvN [_, _, _, _, _] _ _ (K.mvN [_, _, _, _, _] _ _ (K.mvN [_, _, _, _, _] _ _ (kcp h (fun _ hr3 => (hR.check_checker_nodes (b0 := b0) (b1002_ := b1002_) hr3 R_a0_0 R_a0_1 R_a1002_4 R_a1002_5 R_a1002_7 R_a1_4 hG)) rfl ⟨hm_H_a1002_7, hm_H_a1_4, hm_G, trivial⟩ (fun _ e => k_then_panic (k_blk_panic (kpn 0 e rfl))) fun r3 h => ?_)))))
  rintro _ _ ⟨h5, A6, k7, h9, A10, k11, h13, A14, k15, h17, A18, k19, o8, o12, o16, o20, rfl, rfl⟩
  refine nx_ret (knt (kpr [(0, 0), (1, 0), (2, 0), (3, 3), (4, 0), (5, 0), (6, 0), (7, 3), (8, 0), (9, 0), (10, 3), (11, 0), (12, 0)] [0, 3] (kpx 3 (kpd 0 2 rfl (kpx 3 (kpd 0 2 rfl (kpx 2 (kpd 1 5 rfl (kpx 1 (bnd h fun l21 hl21 h => ?_))))))))))
  refine kp_cutO (T := 9) (sz := 1) (k := .i64) (xs := r3.2.2.2.2.1) ((a1002_5.length : Nat) : Int) encS_ok rfl (by kernel_rfl) (by kernel_rfl) (by kernel_rfl) (by kernel_rfl) (by kernel_rfl) (by kernel_rfl) hl21 o20 fun o22 => (kpz (kx 2 (K.mv3 (kst 5 1 #[sv a1002_0, iv a1002_1, iv a1002_2, iv r3.2.2.1, .slice A14 r3.2.2.2.1.length k15, .slice A18 l21.length k19, iv r3.2.2.2.2.2, .slice A_a1002_7 a1002_7.length c_a1002_7] (knl (k_blk (k_fall ?_)))))))
  obtain rfl := Option.some.inj h
  exact kdv (.tuple #[]) [bk b0 #[.slice A6 r3.1.length k7, .slice A10 r3.2.1.length k11, pt b1002_] 65, h5, h9, bk b1002_ #[sv a1002_0, iv a1002_1, iv a1002_2, iv r3.2.2.1, .slice A14 r3.2.2.2.1.length k15, .slice A18 l21.length k19, iv r3.2.2.2.2.2, .slice A_a1002_7 a1002_7.length c_a1002_7] 63, h13, h17] (K.mvN [_, _, _, _, _] _ _ (K.mvN [_, _, _, _, _] _ _ (K.mv2 (K.mvN [_, _, _, _, _] _ _ (K.mvN [_, _, _, _, _] _ _ (K.mvN [_, _, _, _, _] _ _ (k_end (PR.okI ⟨h5, A6, k7, h9, A10, k11, h13, A14, k15, h17, A18, k19, o8, o12, o16, o22, rfl, rfl⟩))))))))
 ·refine ksr (kx 2 (knt ?_))
  refine kcn h (fun h => ?_) fun h => ?_
  ·refine k_region (kx 1 (kla 0 0 5 rfl (K.drop (K.mvN [_, _, _, _, _] _ _ (K.mvN [_, _, _, _, _] _ _ (K.mvN [_, _, _, _, _] _ _ (K.mvN [_, _, _, _, _] _ _ (K.mvN [_, _, _, _, _] _ _ (K.mvN [_, _, _, _, _] _ _ (kcp h (fun _ hr24 => (hR.check_checker_function (b0 := b0) (b1002_ := b1002_) hr24 R_a0_0 R_a0_1 R_a1002_4 R_a1002_5 R_a1002_7 R_a1_4 hG)) rfl ⟨hm_H_a1002_7, hm_H_a1_4, hm_G, trivial⟩ (fun _ e => k_blk_panic (kpn 0 e rfl)) fun r24 h => ?_))))))))))
   rintro _ _ ⟨h26, A27, k28, h30, A31, k32, h34, A35, k36, h38, A39, k40, o29, o33, o37, o41, rfl, rfl⟩
   refine nx_ret (knl (k_blk (k_fall ?_)))
   obtain rfl := Option.some.inj h
   exact kdv (.tuple #[]) [bk b0 #[.slice A27 r24.1.length k28, .slice A31 r24.2.1.length k32, pt b1002_] 65, h26, h30, bk b1002_ #[sv a1002_0, iv a1002_1, iv a1002_2, iv r24.2.2.1, .slice A35 r24.2.2.2.1.length k36, .slice A39 r24.2.2.2.2.1.length k40, iv r24.2.2.2.2.2, .slice A_a1002_7 a1002_7.length c_a1002_7] 63, h34, h38] (k_end (PR.okI ⟨h26, A27, k28, h30, A31, k32, h34, A35, k36, h38, A39, k40, o29, o33, o37, o41, rfl, rfl⟩))
  ·refine ksr (kx 2 (knt ?_))
   refine kcn h (fun h => ?_) fun h => ?_
   ·refine ksr (kla 0 0 5 rfl (kx 1 (kld 0 2 rfl (kcp h (fun _ hr43 => (check_few.ok hr43 R_a1_4)) rfl ⟨(t7 hm_H_a1_4), trivial⟩ (fun _ e => k_then_panic (k_blk_panic (kpn 7 e rfl))) fun r43 h => ?_))))
    rintro _ _ ⟨rfl, rfl⟩
    refine nx_ret0 (kns' (kla 0 0 5 rfl (kx 1 (kld 0 4 rfl (kx 2 (kld 0 2 rfl (kx 1 (kcp h (fun _ hr45 => (check_few.ok hr45 R_a1_4)) rfl ⟨(t7 hm_H_a1_4), trivial⟩ (fun _ e => k_then_panic (k_blk_panic (kpn 7 e rfl))) fun r45 h => ?_))))))))
    rintro _ _ ⟨rfl, rfl⟩
    refine nx_ret0 (kns' (kx 2 (kld 0 4 rfl (kx 1 (kld 0 2 rfl (bnd h fun l47 hl47 h => (kl_subR (T := 36) (R := (rTree 36)) (xs := a1_4) a1_2 ((a1_4.length : Nat) : Int) rfl (by kernel_rfl) (by kernel_rfl) (by kernel_rfl) (.inr ⟨_, .i64, rfl, (by kernel_rfl)⟩) (.inl ⟨rfl, rfl⟩) (by kernel_rfl) (by kernel_rfl) hl47 R_a1_4 fun A48 k49 o50 => (K.mvN [_, _, _, _, _, _] _ _ (K.mvN [_, _, _, _, _, _] _ _ (K.mvN [_, _, _, _, _, _] _ _ ?_))))))))))
    refine K.mvN [_, _, _, _, _, _] _ _ (K.mvN [_, _, _, _, _, _] _ _ (K.mvN [_, _, _, _, _, _] _ _ (kcp h (fun _ hr51 => (hR.check_checker_nodes (b0 := b0) (b1002_ := b1002_) hr51 R_a0_0 R_a0_1 R_a1002_4 R_a1002_5 R_a1002_7 o50 hG)) rfl ⟨(.tail _ hm_H_a1002_7), (.tail _ hm_H_a1_4), (.tail _ hm_G), trivial⟩ (fun _ e => k_then_panic (k_blk_panic (kpn 1 e rfl))) fun r51 h => ?_)))
    rintro _ _ ⟨h53, A54, k55, h57, A58, k59, h61, A62, k63, h65, A66, k67, o56, o60, o64, o68, rfl, rfl⟩
    refine nx_ret (knt (kpr [(0, 0), (1, 3), (2, 0), (3, 3), (4, 0), (5, 3), (6, 0)] [6] (kpx 1 (kpa 0 0 5 rfl (kpx 1 (kpd 0 4 rfl (kpx 1 (kpd 0 2 rfl (bnd h fun l69 hl69 h => (kp_subR (T := 36) (R := (rTree 36)) (xs := a1_4) 0 a1_2 rfl (by kernel_rfl) (by kernel_rfl) (by kernel_rfl) (.inl ⟨rfl, rfl⟩) (.inr ⟨_, .i64, rfl, (by kernel_rfl)⟩) (by kernel_rfl) (by kernel_rfl) hl69 R_a1_4 fun A70 k71 o72 => ?_))))))))))
    refine kpz (K.mvN [_, _, _, _, _] _ _ (K.mv4 (K.mv2 (kcp h (fun _ hr73 => (check_checker_bring.ok (b0 := b0) (b1002_ := b1002_) hr73 (OwnR.rd o56) (OwnT.rd o60) (OwnT.rd o64) o68 R_a1002_7 R_a1_4 o72)) rfl ⟨(.head _), (.tail _ (.head _)), (.tail _ (.tail _ (.head _))), (t4 hm_H_a1002_7), (t4 hm_H_a1_4), (t4 hm_H_a1_4), trivial⟩ (fun _ e => k_blk_panic (kpn 4 e rfl)) fun r73 h => ?_))))
    rintro _ _ ⟨h75, A76, k77, o78, rfl, rfl⟩
    refine nx_ret3 (K.mvN [_, _, _, _, _, _] _ _ (K.drop (knl (k_blk (k_fall ?_)))))
    obtain rfl := Option.some.inj h
    exact kdv (.tuple #[]) [bk b0 #[.slice A54 r51.1.length k55, .slice A58 r51.2.1.length k59, pt b1002_] 65, h53, h57, bk b1002_ #[sv a1002_0, iv a1002_1, iv a1002_2, iv r73.1, .slice A62 r51.2.2.2.1.length k63, .slice A76 r73.2.length k77, iv r51.2.2.2.2.2, .slice A_a1002_7 a1002_7.length c_a1002_7] 63, h61, h75] (K.mv2 (K.mvN [_, _, _, _, _] _ _ (K.mv3 (K.mvN [_, _, _, _, _] _ _ (K.mvN [_, _, _, _, _] _ _ (K.mvN [_, _, _, _, _] _ _ (k_end (PR.okI ⟨h53, A54, k55, h57, A58, k59, h61, A62, k63, h75, A76, k77, o56, o60, o64, o78, rfl, rfl⟩))))))))
   ·refine ksr (kx 2 (knt ?_))
    refine kcn h (fun h => ?_) fun h => ?_
    ·refine ksr (kla 0 0 5 rfl (kx 1 (kld 0 2 rfl (kcp h (fun _ hr80 => (check_few.ok hr80 R_a1_4)) rfl ⟨(t7 hm_H_a1_4), trivial⟩ (fun _ e => k_then_panic (k_blk_panic (kpn 7 e rfl))) fun r80 h => ?_))))
     rintro _ _ ⟨rfl, rfl⟩
     refine nx_ret0 (kns' (kla 0 0 5 rfl (kx 1 (kld 0 4 rfl (kx 2 (kld 0 2 rfl (kx 1 (kcp h (fun _ hr82 => (check_few.ok hr82 R_a1_4)) rfl ⟨(t7 hm_H_a1_4), trivial⟩ (fun _ e => k_then_panic (k_blk_panic (kpn 7 e rfl))) fun r82 h => ?_))))))))
     rintro _ _ ⟨rfl, rfl⟩
     refine nx_ret0 (kns' (kx 1 (kld 0 4 rfl (kx 2 (knt (k_block (K.mvN [_, _, _, _, _, _] _ _ (K.mvN [_, _, _, _, _, _] _ _ (K.mvN [_, _, _, _, _] _ _ (K.mvN [_, _, _, _, _] _ _ ?_))))))))))
     refine K.mvN [_, _, _, _, _, _] _ _ (K.mvN [_, _, _, _, _, _] _ _ (K.mvN [_, _, _, _, _, _] _ _ (k_loop (τ := Int × (List (ByteArray × Int × Int × Int × List (Int × Int × ByteArray))) × (List ByteArray) × Int × (List (Int × Int × ByteArray)) × (List ByteArray) × Int × Frag × (Option Addr) × Nat × Frag × (Option Addr) × Nat × Frag × (Option Addr) × Nat × Frag × (Option Addr) × Nat) (fun t => [(0, pt b0), (4, pt b1), (98, .slice A_a1_4 a1_4.length c_a1_4), (99, iv ((a1_4.length : Nat) : Int)), (100, iv t.1)]) (fun t => bk b1 #[iv a1_0, sv a1_1, iv a1_2, iv a1_3, .slice A_a1_4 a1_4.length c_a1_4] 36 :: bk b0 #[.slice t.2.2.2.2.2.2.2.2.1 t.2.1.length t.2.2.2.2.2.2.2.2.2.1, .slice t.2.2.2.2.2.2.2.2.2.2.2.1 t.2.2.1.length t.2.2.2.2.2.2.2.2.2.2.2.2.1, pt b1002_] 65 :: bk b1002_ #[sv a1002_0, iv a1002_1, iv a1002_2, iv t.2.2.2.1, .slice t.2.2.2.2.2.2.2.2.2.2.2.2.2.2.1 t.2.2.2.2.1.length t.2.2.2.2.2.2.2.2.2.2.2.2.2.2.2.1, .slice t.2.2.2.2.2.2.2.2.2.2.2.2.2.2.2.2.2.1 t.2.2.2.2.2.1.length t.2.2.2.2.2.2.2.2.2.2.2.2.2.2.2.2.2.2, iv t.2.2.2.2.2.2.1, .slice A_a1002_7 a1002_7.length c_a1002_7] 63 :: t.2.2.2.2.2.2.2.1 :: t.2.2.2.2.2.2.2.2.2.2.1 :: t.2.2.2.2.2.2.2.2.2.2.2.2.2.1 :: t.2.2.2.2.2.2.2.2.2.2.2.2.2.2.2.2.1 :: X) (fun m t => check_checker_node.l0 m Rc a1002_0 a1002_1 a1002_2 a1002_7 a1_2 a1_4 t.1 t.2.1 t.2.2.1 t.2.2.2.1 t.2.2.2.2.1 t.2.2.2.2.2.1 t.2.2.2.2.2.2.1 = some r ∧ OwnR rs42 42 t.2.2.2.2.2.2.2.1 (.slice t.2.2.2.2.2.2.2.2.1 t.2.1.length t.2.2.2.2.2.2.2.2.2.1) t.2.1 ∧ OwnT encS 9 1 t.2.2.2.2.2.2.2.2.2.2.1 (.slice t.2.2.2.2.2.2.2.2.2.2.2.1 t.2.2.1.length t.2.2.2.2.2.2.2.2.2.2.2.2.1) t.2.2.1 ∧ OwnT e53 53 3 t.2.2.2.2.2.2.2.2.2.2.2.2.2.1 (.slice t.2.2.2.2.2.2.2.2.2.2.2.2.2.2.1 t.2.2.2.2.1.length t.2.2.2.2.2.2.2.2.2.2.2.2.2.2.2.1) t.2.2.2.2.1 ∧ OwnT encS 9 1 t.2.2.2.2.2.2.2.2.2.2.2.2.2.2.2.2.1 (.slice t.2.2.2.2.2.2.2.2.2.2.2.2.2.2.2.2.2.1 t.2.2.2.2.2.1.length t.2.2.2.2.2.2.2.2.2.2.2.2.2.2.2.2.2.2) t.2.2.2.2.2.1) k (0, a0_0, a0_1, a1002_3, a1002_4, a1002_5, a1002_6, H_a0_0, A_a0_0, c_a0_0, H_a0_1, A_a0_1, c_a0_1, H_a1002_4, A_a1002_4, c_a1002_4, H_a1002_5, A_a1002_5, c_a1002_5) ⟨h, R_a0_0, R_a0_1, R_a1002_4, R_a1002_5⟩ sb rfl ?_)))
     clear h
     rintro m107 ⟨x84, l85, l90, x95, l96, l101, x106, h86, A87, k88, h91, A92, k93, h97, A98, k99, h102, A103, k104⟩ ⟨h, o89, o94, o100, o105⟩
     cases m107 with
     | zero => simp [check_checker_node.l0] at h
     | succ m107 =>
      simp only [check_checker_node.l0] at h
      refine ksr (kx 1 (knt (k_seq ?_)))
      refine kcn h (fun h => ?_) fun h => ?_
      ·refine k_skip (k_then (k_seq (k_block (ksr (kx 1 (bnd h fun x109 hx109 h => (kelR (T := 36) (kd := .i64) (R := (rTree 36)) rfl hx109 R_a1_4 fun p110 u113 q114 e111 y112 => ?_)))))))
       obtain ⟨A115, k116, rfl, o117⟩ := treeR_mk 36 q114
       refine keN rfl e111 (t7 hm_H_a1_4) (knp #[iv 0, sv noS, iv 0, iv 0, nS] 36 fun b118 => (kx 1 (kst 0 5 #[iv x109.kind, sv x109.text, iv x109.n, iv x109.at_, .slice A115 x109.kids.length k116] (knr (kx 1 (kla 0 0 5 rfl (K.drop (kx 2 (kld 0 2 rfl (kx 1 ?_))))))))))
       refine K.mvN [_, _, _, _, _, _] _ _ (K.mvN [_, _, _, _, _, _] _ _ (K.mv4 (K.mvN [_, _, _, _, _, _] _ _ (K.mvN [_, _, _, _, _, _] _ _ (K.mvN [_, _, _, _, _, _] _ _ (kcp h (fun _ hr119 => (hR.check_checker_node (b0 := b0) (b1002_ := b1002_) hr119 o89 o94 o100 o105 R_a1002_7 o117 hG)) rfl ⟨(.tail _ hm_H_a1002_7), (.tail _ hm_H_a1_4), (.tail _ hm_G), trivial⟩ (fun _ e => k_blk_panic (k_then_panic (k_then_panic (k_blk_panic (k_blk_panic (kpn 1 e rfl)))))) fun r119 h => ?_))))))
       rintro _ _ ⟨h121, A122, k123, h125, A126, k127, h129, A130, k131, h133, A134, k135, o124, o128, o132, o136, rfl, rfl⟩
       refine nx_ret (knl (k_blk (k_then (k_region (kx 2 (knt (K.mvN [_, _, _, _, _] _ _ (K.mvN [_, _, _, _, _] _ _ (K.mv4 (K.mv4 ?_))))))))))
       exact K.mvN [_, _, _, _, _] _ _ (K.mvN [_, _, _, _, _] _ _ (K.mvN [_, _, _, _, _, _] _ _ (k_again m107 (IntKind.i64.wrap (x84 + 1), r119.1, r119.2.1, r119.2.2.1, r119.2.2.2.1, r119.2.2.2.2.1, r119.2.2.2.2.2, h121, A122, k123, h125, A126, k127, h129, A130, k131, h133, A134, k135) (Nat.lt_succ_self _) ⟨h, o124, o128, o132, o136⟩ sb rfl)))
      ·refine k_exit (k_then_exit (k_then_exit (k_here (k_blk (k_fall ?_)))))
       obtain rfl := Option.some.inj h
       exact kdv (.tuple #[]) [bk b0 #[.slice A87 l85.length k88, .slice A92 l90.length k93, pt b1002_] 65, h86, h91, bk b1002_ #[sv a1002_0, iv a1002_1, iv a1002_2, iv x95, .slice A98 l96.length k99, .slice A103 l101.length k104, iv x106, .slice A_a1002_7 a1002_7.length c_a1002_7] 63, h97, h102] (K.drop (K.mvN [_, _, _, _, _] _ _ (K.mvN [_, _, _, _, _] _ _ (K.mv3 (K.mvN [_, _, _, _, _] _ _ (K.mvN [_, _, _, _, _] _ _ (K.mvN [_, _, _, _, _] _ _ (k_end (PR.okI ⟨h86, A87, k88, h91, A92, k93, h97, A98, k99, h102, A103, k104, o89, o94, o100, o105, rfl, rfl⟩)))))))))
    ·refine ksr (kx 2 (knt ?_))
     refine kcn h (fun h => ?_) fun h => ?_
     ·refine ksr (kx 2 (kld 0 4 rfl (bnd h fun x138 hx138 h => (kelR (T := 36) (kd := .i64) (R := (rTree 36)) rfl hx138 R_a1_4 fun p139 u142 q143 e140 y141 => ?_))))
      obtain ⟨A144, k145, rfl, o146⟩ := treeR_mk 36 q143
      refine keN rfl e140 (t7 hm_H_a1_4) (K.mvN [_, _, _, _, _, _] _ _ (K.mvN [_, _, _, _, _, _] _ _ (K.mvN [_, _, _, _, _, _] _ _ (K.mvN [_, _, _, _, _, _] _ _ (K.mvN [_, _, _, _, _, _] _ _ (K.mvN [_, _, _, _, _, _] _ _ (kcp h (fun _ hr147 => (hR.check_checker_node (b0 := b0) (b1002_ := b1002_) hr147 R_a0_0 R_a0_1 R_a1002_4 R_a1002_5 R_a1002_7 o146 hG)) rfl ⟨(.tail _ hm_H_a1002_7), (.tail _ hm_H_a1_4), (.tail _ hm_G), trivial⟩ (fun _ e => k_then_panic (k_blk_panic (kpn 1 e rfl))) fun r147 h => ?_)))))))
      rintro _ _ ⟨h149, A150, k151, h153, A154, k155, h157, A158, k159, h161, A162, k163, o152, o156, o160, o164, rfl, rfl⟩
      refine nx_ret (knt (kprs [(0, 0), (1, 3), (2, 0), (3, 3), (4, 0), (5, 3)] [bk b1 #[iv a1_0, sv a1_1, iv a1_2, iv a1_3, .slice A_a1_4 a1_4.length c_a1_4] 36, H_a1_4] (fun w h_ => ⟨h_.sat.on _ (.tail _ (.tail _ (.tail _ (.tail _ (.tail _ (.tail _ (.head _))))))), h_.sat.on _ (t7 hm_H_a1_4), trivial⟩) (kpx 1 (kpa 0 0 5 rfl (kpx 1 (kpd 0 4 rfl (bnd h fun x165 hx165 h => (kpelR (T := 36) (kd := .i64) (R := (rTree 36)) rfl hx165 R_a1_4 fun p166 u169 q170 e167 y168 => ?_))))))))
      obtain ⟨A171, k172, rfl, o173⟩ := treeR_mk 36 q170
      refine kpeN rfl e167 (fun w h_ => h_.mem _ (.tail _ (.head _))) (kpz (k_none (K.mvN [_, _, _, _, _, _] _ _ (K.mvN [_, _, _, _, _, _] _ _ (K.mvN [_, _, _, _, _, _] _ _ (K.mvN [_, _, _, _, _, _] _ _ (K.mvN [_, _, _, _, _, _] _ _ (K.mvN [_, _, _, _, _, _] _ _ (kcp h (fun _ hr174 => (hR.check_checker_loop (b0 := b0) (b1002_ := b1002_) hr174 o152 o156 o160 o164 R_a1002_7 R_a1_4 (RdR.nil (rTree 36) none_) o173 hG)) rfl ⟨(t2 hm_H_a1002_7), (t2 hm_H_a1_4), (.head _), (t2 hm_H_a1_4), (t2 hm_G), trivial⟩ (fun _ e => k_blk_panic (kpn 2 e rfl)) fun r174 h => ?_)))))))))
      rintro _ _ ⟨h176, A177, k178, h180, A181, k182, h184, A185, k186, h188, A189, k190, o179, o183, o187, o191, rfl, rfl⟩
      refine nx_ret (K.mvN [_, _, _, _, _, _] _ _ (K.drop (K.mvN [_, _, _, _, _, _] _ _ (K.drop (knl (k_blk (k_fall ?_)))))))
      obtain rfl := Option.some.inj h
      exact kdv (.tuple #[]) [bk b0 #[.slice A177 r174.1.length k178, .slice A181 r174.2.1.length k182, pt b1002_] 65, h176, h180, bk b1002_ #[sv a1002_0, iv a1002_1, iv a1002_2, iv r174.2.2.1, .slice A185 r174.2.2.2.1.length k186, .slice A189 r174.2.2.2.2.1.length k190, iv r174.2.2.2.2.2, .slice A_a1002_7 a1002_7.length c_a1002_7] 63, h184, h188] (k_end (PR.okI ⟨h176, A177, k178, h180, A181, k182, h184, A185, k186, h188, A189, k190, o179, o183, o187, o191, rfl, rfl⟩))
     ·refine ksr (kx 2 (knt ?_))
      refine kcn h (fun h => ?_) fun h => ?_
      ·refine ksr (kx 2 (kld 0 4 rfl (kx 1 (bnd h fun l193 hl193 h => (kl_subR (T := 36) (R := (rTree 36)) (xs := a1_4) 1 (IntKind.i64.wrap (((a1_4.length : Nat) : Int) - 1)) rfl (by kernel_rfl) (by kernel_rfl) (by kernel_rfl) (.inr ⟨_, .i64, rfl, (by kernel_rfl)⟩) (.inr ⟨_, .i64, rfl, (by kernel_rfl)⟩) (by kernel_rfl) (by kernel_rfl) hl193 R_a1_4 fun A194 k195 o196 => (K.mvN [_, _, _, _, _, _] _ _ (K.mvN [_, _, _, _, _, _] _ _ (K.mvN [_, _, _, _, _, _] _ _ (K.mvN [_, _, _, _, _, _] _ _ (K.mvN [_, _, _, _, _, _] _ _ ?_))))))))))
       refine K.mvN [_, _, _, _, _, _] _ _ (kcp h (fun _ hr197 => (hR.check_checker_nodes (b0 := b0) (b1002_ := b1002_) hr197 R_a0_0 R_a0_1 R_a1002_4 R_a1002_5 R_a1002_7 o196 hG)) rfl ⟨(.tail _ hm_H_a1002_7), (.tail _ hm_H_a1_4), (.tail _ hm_G), trivial⟩ (fun _ e => k_then_panic (k_blk_panic (kpn 1 e rfl))) fun r197 h => ?_)
       rintro _ _ ⟨h199, A200, k201, h203, A204, k205, h207, A208, k209, h211, A212, k213, o202, o206, o210, o214, rfl, rfl⟩
       refine nx_ret (knt (kprs [(0, 0), (1, 3), (2, 0), (3, 3), (4, 0), (5, 0), (6, 3), (7, 0), (8, 0), (9, 3)] [bk b1 #[iv a1_0, sv a1_1, iv a1_2, iv a1_3, .slice A_a1_4 a1_4.length c_a1_4] 36, H_a1_4] (fun w h_ => ⟨h_.sat.on _ (.tail _ (.tail _ (.tail _ (.tail _ (.tail _ (.tail _ (.head _))))))), h_.sat.on _ (t7 hm_H_a1_4), trivial⟩) (kpx 1 (kpa 0 0 5 rfl (kpx 1 (kpd 0 4 rfl (bnd h fun l215 hl215 h => (kp_subR (T := 36) (R := (rTree 36)) (xs := a1_4) 0 1 rfl (by kernel_rfl) (by kernel_rfl) (by kernel_rfl) (.inl ⟨rfl, rfl⟩) (.inr ⟨_, .i64, rfl, (by kernel_rfl)⟩) (by kernel_rfl) (by kernel_rfl) hl215 R_a1_4 fun A216 k217 o218 => (kpx 1 (kpd 0 4 rfl ?_))))))))))
       refine kpx 1 (bnd h fun x219 hx219 h => (kpelR (T := 36) (kd := .i64) (R := (rTree 36)) rfl hx219 R_a1_4 fun p220 u223 q224 e221 y222 => ?_))
       obtain ⟨A225, k226, rfl, o227⟩ := treeR_mk 36 q224
       refine kpeN rfl e221 (fun w h_ => h_.mem _ (.tail _ (.head _))) (kpz (K.mvN [_, _, _, _, _] _ _ (K.mvN [_, _, _, _, _] _ _ (K.mvN [_, _, _, _, _] _ _ (K.mvN [_, _, _, _, _] _ _ (K.mvN [_, _, _, _, _] _ _ (K.mvN [_, _, _, _, _] _ _ (kcp h (fun _ hr228 => (hR.check_checker_loop (b0 := b0) (b1002_ := b1002_) hr228 o202 o206 o210 o214 R_a1002_7 R_a1_4 o218 o227 hG)) rfl ⟨(.tail _ hm_H_a1002_7), (.tail _ hm_H_a1_4), (.tail _ hm_H_a1_4), (.tail _ hm_H_a1_4), (.tail _ hm_G), trivial⟩ (fun _ e => k_blk_panic (kpn 1 e rfl)) fun r228 h => ?_))))))))
       rintro _ _ ⟨h230, A231, k232, h234, A235, k236, h238, A239, k240, h242, A243, k244, o233, o237, o241, o245, rfl, rfl⟩
       refine nx_ret (K.mvN [_, _, _, _, _, _] _ _ (K.drop (knl (k_blk (k_fall ?_)))))
       obtain rfl := Option.some.inj h
       exact kdv (.tuple #[]) [bk b0 #[.slice A231 r228.1.length k232, .slice A235 r228.2.1.length k236, pt b1002_] 65, h230, h234, bk b1002_ #[sv a1002_0, iv a1002_1, iv a1002_2, iv r228.2.2.1, .slice A239 r228.2.2.2.1.length k240, .slice A243 r228.2.2.2.2.1.length k244, iv r228.2.2.2.2.2, .slice A_a1002_7 a1002_7.length c_a1002_7] 63, h238, h242] (k_end (PR.okI ⟨h230, A231, k232, h234, A235, k236, h238, A239, k240, h242, A243, k244, o233, o237, o241, o245, rfl, rfl⟩))
      ·refine ksr (kx 2 (knt ?_))
       refine kcn h (fun h => ?_) fun h => ?_
       ·refine ksr (kla 0 0 5 rfl (kx 1 (kld 0 2 rfl (kcp h (fun _ hr247 => (check_few.ok hr247 R_a1_4)) rfl ⟨(t7 hm_H_a1_4), trivial⟩ (fun _ e => k_then_panic (k_blk_panic (kpn 7 e rfl))) fun r247 h => ?_))))
        rintro _ _ ⟨rfl, rfl⟩
        refine nx_ret0 (kns' (kla 0 0 5 rfl (kx 2 (kld 0 2 rfl (kx 1 (kcp h (fun _ hr249 => (check_few.ok hr249 R_a1_4)) rfl ⟨(t7 hm_H_a1_4), trivial⟩ (fun _ e => k_then_panic (k_blk_panic (kpn 7 e rfl))) fun r249 h => ?_))))))
        rintro _ _ ⟨rfl, rfl⟩
        refine nx_ret0 (kns' (kx 2 (kld 0 4 rfl (kx 1 (kld 0 2 rfl (kx 1 (bnd h fun l251 hl251 h => (kl_subR (T := 36) (R := (rTree 36)) (xs := a1_4) a1_2 (IntKind.i64.wrap (((a1_4.length : Nat) : Int) - 1)) rfl (by kernel_rfl) (by kernel_rfl) (by kernel_rfl) (.inr ⟨_, .i64, rfl, (by kernel_rfl)⟩) (.inr ⟨_, .i64, rfl, (by kernel_rfl)⟩) (by kernel_rfl) (by kernel_rfl) hl251 R_a1_4 fun A252 k253 o254 => (K.mvN [_, _, _, _, _, _] _ _ (K.mvN [_, _, _, _, _, _] _ _ ?_))))))))))
        refine K.mvN [_, _, _, _, _, _] _ _ (K.mvN [_, _, _, _, _, _] _ _ (K.mvN [_, _, _, _, _, _] _ _ (K.mvN [_, _, _, _, _, _] _ _ (kcp h (fun _ hr255 => (hR.check_checker_nodes (b0 := b0) (b1002_ := b1002_) hr255 R_a0_0 R_a0_1 R_a1002_4 R_a1002_5 R_a1002_7 o254 hG)) rfl ⟨(.tail _ hm_H_a1002_7), (.tail _ hm_H_a1_4), (.tail _ hm_G), trivial⟩ (fun _ e => k_then_panic (k_blk_panic (kpn 1 e rfl))) fun r255 h => ?_))))
        rintro _ _ ⟨h257, A258, k259, h261, A262, k263, h265, A266, k267, h269, A270, k271, o260, o264, o268, o272, rfl, rfl⟩
        refine nx_ret (knt (kprs [(0, 0), (1, 3), (2, 0), (3, 3), (4, 0), (5, 3), (6, 0), (7, 0), (8, 3), (9, 0), (10, 0), (11, 3)] [bk b1 #[iv a1_0, sv a1_1, iv a1_2, iv a1_3, .slice A_a1_4 a1_4.length c_a1_4] 36, H_a1_4] (fun w h_ => ⟨h_.sat.on _ (.tail _ (.tail _ (.tail _ (.tail _ (.tail _ (.tail _ (.head _))))))), h_.sat.on _ (t7 hm_H_a1_4), trivial⟩) (kpx 1 (kpa 0 0 5 rfl (kpx 1 (kpd 0 4 rfl (kpx 1 (kpd 0 2 rfl (bnd h fun l273 hl273 h => (kp_subR (T := 36) (R := (rTree 36)) (xs := a1_4) 0 a1_2 rfl (by kernel_rfl) (by kernel_rfl) (by kernel_rfl) (.inl ⟨rfl, rfl⟩) (.inr ⟨_, .i64, rfl, (by kernel_rfl)⟩) (by kernel_rfl) (by kernel_rfl) hl273 R_a1_4 fun A274 k275 o276 => ?_))))))))))
        refine kpx 1 (kpd 0 4 rfl (kpx 1 (bnd h fun x277 hx277 h => (kpelR (T := 36) (kd := .i64) (R := (rTree 36)) rfl hx277 R_a1_4 fun p278 u281 q282 e279 y280 => ?_))))
        obtain ⟨A283, k284, rfl, o285⟩ := treeR_mk 36 q282
        refine kpeN rfl e279 (fun w h_ => h_.mem _ (.tail _ (.head _))) (kpz (K.mvN [_, _, _, _, _] _ _ (K.mvN [_, _, _, _, _] _ _ (K.mvN [_, _, _, _, _] _ _ (K.mvN [_, _, _, _, _] _ _ (K.mvN [_, _, _, _, _] _ _ (K.mvN [_, _, _, _, _] _ _ (kcp h (fun _ hr286 => (hR.check_checker_loop (b0 := b0) (b1002_ := b1002_) hr286 o260 o264 o268 o272 R_a1002_7 R_a1_4 o276 o285 hG)) rfl ⟨(.tail _ hm_H_a1002_7), (.tail _ hm_H_a1_4), (.tail _ hm_H_a1_4), (.tail _ hm_H_a1_4), (.tail _ hm_G), trivial⟩ (fun _ e => k_blk_panic (kpn 1 e rfl)) fun r286 h => ?_))))))))
        rintro _ _ ⟨h288, A289, k290, h292, A293, k294, h296, A297, k298, h300, A301, k302, o291, o295, o299, o303, rfl, rfl⟩
        refine nx_ret (K.mvN [_, _, _, _, _, _] _ _ (K.drop (knl (k_blk (k_fall ?_)))))
        obtain rfl := Option.some.inj h
        exact kdv (.tuple #[]) [bk b0 #[.slice A289 r286.1.length k290, .slice A293 r286.2.1.length k294, pt b1002_] 65, h288, h292, bk b1002_ #[sv a1002_0, iv a1002_1, iv a1002_2, iv r286.2.2.1, .slice A297 r286.2.2.2.1.length k298, .slice A301 r286.2.2.2.2.1.length k302, iv r286.2.2.2.2.2, .slice A_a1002_7 a1002_7.length c_a1002_7] 63, h296, h300] (k_end (PR.okI ⟨h288, A289, k290, h292, A293, k294, h296, A297, k298, h300, A301, k302, o291, o295, o299, o303, rfl, rfl⟩))
       ·refine ksr (kx 2 (knt ?_))
        refine kcn h (fun h => ?_) fun h => ?_
        ·refine ksr (kx 3 (kld 1 2 rfl (kx 2 (kld 4 6 rfl (kx 1 (knt ?_))))))
         refine kcn h (fun h => ?_) fun h => ?_
         ·refine k_region (kx 1 (kld 0 3 rfl (K.drop (kcp h (fun _ hr306 => (check_fail.ok hr306)) rfl trivial (fun _ e => k_blk_panic (kpn 6 e rfl)) fun r306 h => ?_))))
          rintro _ _ ⟨rfl, rfl⟩
          refine nx_ret0 (knl (k_blk (k_fall ?_)))
          obtain rfl := Option.some.inj h
          exact kdv (.tuple #[]) [bk b0 #[.slice A_a0_0 a0_0.length c_a0_0, .slice A_a0_1 a0_1.length c_a0_1, pt b1002_] 65, H_a0_0, H_a0_1, bk b1002_ #[sv a1002_0, iv a1002_1, iv a1002_2, iv a1002_3, .slice A_a1002_4 a1002_4.length c_a1002_4, .slice A_a1002_5 a1002_5.length c_a1002_5, iv a1002_6, .slice A_a1002_7 a1002_7.length c_a1002_7] 63, H_a1002_4, H_a1002_5] (k_end (PR.okI ⟨H_a0_0, A_a0_0, c_a0_0, H_a0_1, A_a0_1, c_a0_1, H_a1002_4, A_a1002_4, c_a1002_4, H_a1002_5, A_a1002_5, c_a1002_5, R_a0_0, R_a0_1, R_a1002_4, R_a1002_5, rfl, rfl⟩))
         ·refine k_skip (k_blk (k_fall ?_))
          obtain rfl := Option.some.inj h
          exact kdv (.tuple #[]) [bk b0 #[.slice A_a0_0 a0_0.length c_a0_0, .slice A_a0_1 a0_1.length c_a0_1, pt b1002_] 65, H_a0_0, H_a0_1, bk b1002_ #[sv a1002_0, iv a1002_1, iv a1002_2, iv a1002_3, .slice A_a1002_4 a1002_4.length c_a1002_4, .slice A_a1002_5 a1002_5.length c_a1002_5, iv a1002_6, .slice A_a1002_7 a1002_7.length c_a1002_7] 63, H_a1002_4, H_a1002_5] (K.drop (k_end (PR.okI ⟨H_a0_0, A_a0_0, c_a0_0, H_a0_1, A_a0_1, c_a0_1, H_a1002_4, A_a1002_4, c_a1002_4, H_a1002_5, A_a1002_5, c_a1002_5, R_a0_0, R_a0_1, R_a1002_4, R_a1002_5, rfl, rfl⟩)))
        ·refine k_region (kx 1 (kla 0 0 5 rfl (K.drop (kx 1 (K.mvN [_, _, _, _, _] _ _ (K.mvN [_, _, _, _, _] _ _ (K.mvN [_, _, _, _, _] _ _ (K.mvN [_, _, _, _, _] _ _ (K.mvN [_, _, _, _, _] _ _ (K.mvN [_, _, _, _, _] _ _ ?_))))))))))
         refine kcp h (fun _ hr308 => (hR.check_checker_exp (b0 := b0) (b1002_ := b1002_) hr308 R_a0_0 R_a0_1 R_a1002_4 R_a1002_5 R_a1002_7 R_a1_4 hG)) rfl ⟨hm_H_a1002_7, hm_H_a1_4, hm_G, trivial⟩ (fun _ e => k_blk_panic (kpn 0 e rfl)) fun r308 h => ?_
         rintro _ _ ⟨h310, A311, k312, h314, A315, k316, h318, A319, k320, h322, A323, k324, o313, o317, o321, o325, rfl, rfl⟩
         refine nx_ret (knl (k_blk (k_fall ?_)))
         obtain rfl := Option.some.inj h
         exact kdv (.tuple #[]) [bk b0 #[.slice A311 r308.1.length k312, .slice A315 r308.2.1.length k316, pt b1002_] 65, h310, h314, bk b1002_ #[sv a1002_0, iv a1002_1, iv a1002_2, iv r308.2.2.1, .slice A319 r308.2.2.2.1.length k320, .slice A323 r308.2.2.2.2.1.length k324, iv r308.2.2.2.2.2, .slice A_a1002_7 a1002_7.length c_a1002_7] 63, h318, h322] (k_end (PR.okI ⟨h310, A311, k312, h314, A315, k316, h318, A319, k320, h322, A323, k324, o313, o317, o321, o325, rfl, rfl⟩))
def check_checker_nodes.l0 : Nat → (Rc : CK) → (a1002_0 : ByteArray) → (a1002_1 : Int) → (a1002_2 : Int) → (a1002_7 : List ByteArray) → (a1 : List Tree) → (x1 : Int) → (l2 : List (ByteArray × Int × Int × Int × List (Int × Int × ByteArray))) → (l7 : List ByteArray) → (x12 : Int) → (l13 : List (Int × Int × ByteArray)) → (l18 : List ByteArray) → (x23 : Int) → Option (PR (List (ByteArray × Int × Int × Int × List (Int × Int × ByteArray)) × List ByteArray × Int × List (Int × Int × ByteArray) × List ByteArray × Int) (Int × Int))
 | 0, _, _, _, _, _, _, _, _, _, _, _, _, _ => none
 | m24 + 1, Rc, a1002_0, a1002_1, a1002_2, a1002_7, a1, x1, l2, l7, x12, l13, l18, x23 => cond (decide (x1 < ((a1.length : Nat) : Int))) ((lIdx a1 x1).bind fun x26 => PR.bind (Rc.check_checker_node l2 l7 a1002_0 a1002_1 a1002_2 x12 l13 l18 x23 a1002_7 x26.kind x26.text x26.n x26.at_ x26.kids false) fun r36 => check_checker_nodes.l0 m24 Rc a1002_0 a1002_1 a1002_2 a1002_7 a1 (IntKind.i64.wrap (x1 + 1)) r36.1 r36.2.1 r36.2.2.1 r36.2.2.2.1 r36.2.2.2.2.1 r36.2.2.2.2.2) (some (PR.ok (l2, l7, x12, l13, l18, x23)))
def check_checker_nodes.g (Rc : CK) (k : Nat) (a0_0 : List (ByteArray × Int × Int × Int × List (Int × Int × ByteArray))) (a0_1 : List ByteArray) (a1002_0 : ByteArray) (a1002_1 : Int) (a1002_2 : Int) (a1002_3 : Int) (a1002_4 : List (Int × Int × ByteArray)) (a1002_5 : List ByteArray) (a1002_6 : Int) (a1002_7 : List ByteArray) (a1 : List Tree) : Option (PR (List (ByteArray × Int × Int × Int × List (Int × Int × ByteArray)) × List ByteArray × Int × List (Int × Int × ByteArray) × List ByteArray × Int) (Int × Int)) := check_checker_nodes.l0 k Rc a1002_0 a1002_1 a1002_2 a1002_7 a1 0 a0_0 a0_1 a1002_3 a1002_4 a1002_5 a1002_6
set_option maxRecDepth 100000 in
theorem check_checker_nodes.okg {Rc : CK} (hR : Rc.Good) {k : Nat} {a0_0 : List (ByteArray × Int × Int × Int × List (Int × Int × ByteArray))} {a0_1 : List ByteArray} {a1002_0 : ByteArray} {a1002_1 : Int} {a1002_2 : Int} {a1002_3 : Int} {a1002_4 : List (Int × Int × ByteArray)} {a1002_5 : List ByteArray} {a1002_6 : Int} {a1002_7 : List ByteArray} {a1 : List Tree} {b0 : Nat} {H_a0_0 : Frag} {A_a0_0 : Option Addr} {c_a0_0 : Nat} {H_a0_1 : Frag} {A_a0_1 : Option Addr} {c_a0_1 : Nat} {b1002_ : Nat} {H_a1002_4 : Frag} {A_a1002_4 : Option Addr} {c_a1002_4 : Nat} {H_a1002_5 : Frag} {A_a1002_5 : Option Addr} {c_a1002_5 : Nat} {H_a1002_7 : Frag} {A_a1002_7 : Option Addr} {c_a1002_7 : Nat} {H_a1 : Frag} {A_a1 : Option Addr} {c_a1 : Nat} {G : Frag} {r : PR (List (ByteArray × Int × Int × Int × List (Int × Int × ByteArray)) × List ByteArray × Int × List (Int × Int × ByteArray) × List ByteArray × Int) (Int × Int)} (h : check_checker_nodes.g Rc k a0_0 a0_1 a1002_0 a1002_1 a1002_2 a1002_3 a1002_4 a1002_5 a1002_6 a1002_7 a1 = some r) (R_a0_0 : OwnR rs42 42 H_a0_0 (.slice A_a0_0 a0_0.length c_a0_0) a0_0) (R_a0_1 : OwnT encS 9 1 H_a0_1 (.slice A_a0_1 a0_1.length c_a0_1) a0_1) (R_a1002_4 : OwnT e53 53 3 H_a1002_4 (.slice A_a1002_4 a1002_4.length c_a1002_4) a1002_4) (R_a1002_5 : OwnT encS 9 1 H_a1002_5 (.slice A_a1002_5 a1002_5.length c_a1002_5) a1002_5) (R_a1002_7 : RdT encS 1 H_a1002_7 (.slice A_a1002_7 a1002_7.length c_a1002_7) a1002_7) (R_a1 : RdR (rTree 36) H_a1 (.slice A_a1 a1.length c_a1) a1) (hG : GlP G) : Ct Tryz.prog 35 #[pt b0, .slice A_a1 a1.length c_a1] [bk b0 #[.slice A_a0_0 a0_0.length c_a0_0, .slice A_a0_1 a0_1.length c_a0_1, pt b1002_] 65, H_a0_0, H_a0_1, bk b1002_ #[sv a1002_0, iv a1002_1, iv a1002_2, iv a1002_3, .slice A_a1002_4 a1002_4.length c_a1002_4, .slice A_a1002_5 a1002_5.length c_a1002_5, iv a1002_6, .slice A_a1002_7 a1002_7.length c_a1002_7] 63, H_a1002_4, H_a1002_5] [H_a1002_7, H_a1, G] (PR.Post failC (fun (r : List (ByteArray × Int × Int × Int × List (Int × Int × ByteArray)) × List ByteArray × Int × List (Int × Int × ByteArray) × List ByteArray × Int) e l1 => ∃ (H0_ : Frag) (A0_ : Option Addr) (c0_ : Nat) (H1_ : Frag) (A1_ : Option Addr) (c1_ : Nat) (H2_ : Frag) (A2_ : Option Addr) (c2_ : Nat) (H3_ : Frag) (A3_ : Option Addr) (c3_ : Nat), OwnR rs42 42 H0_ (.slice A0_ r.1.length c0_) r.1 ∧ OwnT encS 9 1 H1_ (.slice A1_ r.2.1.length c1_) r.2.1 ∧ OwnT e53 53 3 H2_ (.slice A2_ r.2.2.2.1.length c2_) r.2.2.2.1 ∧ OwnT encS 9 1 H3_ (.slice A3_ r.2.2.2.2.1.length c3_) r.2.2.2.2.1 ∧ e = .returned (.tuple #[]) ∧ l1 = [bk b0 #[.slice A0_ r.1.length c0_, .slice A1_ r.2.1.length c1_, pt b1002_] 65, H0_, H1_, bk b1002_ #[sv a1002_0, iv a1002_1, iv a1002_2, iv r.2.2.1, .slice A2_ r.2.2.2.1.length c2_, .slice A3_ r.2.2.2.2.1.length c3_, iv r.2.2.2.2.2, .slice A_a1002_7 a1002_7.length c_a1002_7] 63, H2_, H3_]) r) := by
 refine ct_enter (args := [pt b0, .slice A_a1 a1.length c_a1]) Tryz.func35 rfl (Nat.le_of_ble_eq_true rfl) ?_
 intro A X hh_
 obtain ⟨hm_H_a1002_7, hm_H_a1, hm_G, _⟩ := hh_
 unfold check_checker_nodes.g at h
 refine K.eq (env' := [(0, pt b0), (1, .slice A_a1 a1.length c_a1)]) (l' := bk b0 #[.slice A_a0_0 a0_0.length c_a0_0, .slice A_a0_1 a0_1.length c_a0_1, pt b1002_] 65 :: H_a0_0 :: H_a0_1 :: bk b1002_ #[sv a1002_0, iv a1002_1, iv a1002_2, iv a1002_3, .slice A_a1002_4 a1002_4.length c_a1002_4, .slice A_a1002_5 a1002_5.length c_a1002_5, iv a1002_6, .slice A_a1002_7 a1002_7.length c_a1002_7] 63 :: H_a1002_4 :: H_a1002_5 :: X) rfl rfl (ksr (kx 3 (knt (k_block (K.mvN [_, _, _, _, _] _ _ (K.mvN [_, _, _, _, _] _ _ (K.mv4 (K.mv4 (K.mvN [_, _, _, _, _] _ _ (K.mvN [_, _, _, _, _] _ _ ?_))))))))))
 refine k_loop (τ := Int × (List (ByteArray × Int × Int × Int × List (Int × Int × ByteArray))) × (List ByteArray) × Int × (List (Int × Int × ByteArray)) × (List ByteArray) × Int × Frag × (Option Addr) × Nat × Frag × (Option Addr) × Nat × Frag × (Option Addr) × Nat × Frag × (Option Addr) × Nat) (fun t => [(0, pt b0), (6, .slice A_a1 a1.length c_a1), (7, iv ((a1.length : Nat) : Int)), (8, iv t.1)]) (fun t => bk b0 #[.slice t.2.2.2.2.2.2.2.2.1 t.2.1.length t.2.2.2.2.2.2.2.2.2.1, .slice t.2.2.2.2.2.2.2.2.2.2.2.1 t.2.2.1.length t.2.2.2.2.2.2.2.2.2.2.2.2.1, pt b1002_] 65 :: bk b1002_ #[sv a1002_0, iv a1002_1, iv a1002_2, iv t.2.2.2.1, .slice t.2.2.2.2.2.2.2.2.2.2.2.2.2.2.1 t.2.2.2.2.1.length t.2.2.2.2.2.2.2.2.2.2.2.2.2.2.2.1, .slice t.2.2.2.2.2.2.2.2.2.2.2.2.2.2.2.2.2.1 t.2.2.2.2.2.1.length t.2.2.2.2.2.2.2.2.2.2.2.2.2.2.2.2.2.2, iv t.2.2.2.2.2.2.1, .slice A_a1002_7 a1002_7.length c_a1002_7] 63 :: t.2.2.2.2.2.2.2.1 :: t.2.2.2.2.2.2.2.2.2.2.1 :: t.2.2.2.2.2.2.2.2.2.2.2.2.2.1 :: t.2.2.2.2.2.2.2.2.2.2.2.2.2.2.2.2.1 :: X) (fun m t => check_checker_nodes.l0 m Rc a1002_0 a1002_1 a1002_2 a1002_7 a1 t.1 t.2.1 t.2.2.1 t.2.2.2.1 t.2.2.2.2.1 t.2.2.2.2.2.1 t.2.2.2.2.2.2.1 = some r ∧ OwnR rs42 42 t.2.2.2.2.2.2.2.1 (.slice t.2.2.2.2.2.2.2.2.1 t.2.1.length t.2.2.2.2.2.2.2.2.2.1) t.2.1 ∧ OwnT encS 9 1 t.2.2.2.2.2.2.2.2.2.2.1 (.slice t.2.2.2.2.2.2.2.2.2.2.2.1 t.2.2.1.length t.2.2.2.2.2.2.2.2.2.2.2.2.1) t.2.2.1 ∧ OwnT e53 53 3 t.2.2.2.2.2.2.2.2.2.2.2.2.2.1 (.slice t.2.2.2.2.2.2.2.2.2.2.2.2.2.2.1 t.2.2.2.2.1.length t.2.2.2.2.2.2.2.2.2.2.2.2.2.2.2.1) t.2.2.2.2.1 ∧ OwnT encS 9 1 t.2.2.2.2.2.2.2.2.2.2.2.2.2.2.2.2.1 (.slice t.2.2.2.2.2.2.2.2.2.2.2.2.2.2.2.2.2.1 t.2.2.2.2.2.1.length t.2.2.2.2.2.2.2.2.2.2.2.2.2.2.2.2.2.2) t.2.2.2.2.2.1) k (0, a0_0, a0_1, a1002_3, a1002_4, a1002_5, a1002_6, H_a0_0, A_a0_0, c_a0_0, H_a0_1, A_a0_1, c_a0_1, H_a1002_4, A_a1002_4, c_a1002_4, H_a1002_5, A_a1002_5, c_a1002_5) ⟨h, R_a0_0, R_a0_1, R_a1002_4, R_a1002_5⟩ sb rfl ?_
 clear h
 rintro m24 ⟨x1, l2, l7, x12, l13, l18, x23, h3, A4, k5, h8, A9, k10, h14, A15, k16, h19, A20, k21⟩ ⟨h, o6, o11, o17, o22⟩
 cases m24 with
 | zero => simp [check_checker_nodes.l0] at h
 | succ m24 =>
  simp only [check_checker_nodes.l0] at h
  refine ksr (kx 1 (knt (k_seq ?_)))
  refine kcn h (fun h => ?_) fun h => ?_
  ·refine k_skip (k_then (k_seq (k_block (ksr (bnd h fun x26 hx26 h => (kelR (T := 36) (kd := .i64) (R := (rTree 36)) rfl hx26 R_a1 fun p27 u30 q31 e28 y29 => ?_))))))
   obtain ⟨A32, k33, rfl, o34⟩ := treeR_mk 36 q31
   refine keN rfl e28 (t6 hm_H_a1) (knp #[iv 0, sv noS, iv 0, iv 0, nS] 36 fun b35 => (kst 0 5 #[iv x26.kind, sv x26.text, iv x26.n, iv x26.at_, .slice A32 x26.kids.length k33] (knr (kx 1 (kla 0 0 5 rfl (K.drop (K.mvN [_, _, _, _, _] _ _ (K.mvN [_, _, _, _, _] _ _ (K.mv3 (K.mvN [_, _, _, _, _] _ _ ?_))))))))))
   refine K.mvN [_, _, _, _, _] _ _ (K.mvN [_, _, _, _, _] _ _ (kcp h (fun _ hr36 => (hR.check_checker_node (b0 := b0) (b1002_ := b1002_) hr36 o6 o11 o17 o22 R_a1002_7 o34 hG)) rfl ⟨hm_H_a1002_7, hm_H_a1, hm_G, trivial⟩ (fun _ e => k_blk_panic (k_then_panic (k_then_panic (k_blk_panic (kpn 0 e rfl))))) fun r36 h => ?_))
   rintro _ _ ⟨h38, A39, k40, h42, A43, k44, h46, A47, k48, h50, A51, k52, o41, o45, o49, o53, rfl, rfl⟩
   refine nx_ret (knl (k_blk (k_then (k_region (kx 2 (knt (K.mvN [_, _, _, _, _] _ _ (K.mvN [_, _, _, _, _] _ _ (K.mv4 (K.mv4 ?_))))))))))
   exact K.mvN [_, _, _, _, _] _ _ (K.mvN [_, _, _, _, _] _ _ (k_again m24 (IntKind.i64.wrap (x1 + 1), r36.1, r36.2.1, r36.2.2.1, r36.2.2.2.1, r36.2.2.2.2.1, r36.2.2.2.2.2, h38, A39, k40, h42, A43, k44, h46, A47, k48, h50, A51, k52) (Nat.lt_succ_self _) ⟨h, o41, o45, o49, o53⟩ sb rfl))
  ·refine k_exit (k_then_exit (k_then_exit (k_here (k_fall ?_))))
   obtain rfl := Option.some.inj h
   exact kdv (.tuple #[]) [bk b0 #[.slice A4 l2.length k5, .slice A9 l7.length k10, pt b1002_] 65, h3, h8, bk b1002_ #[sv a1002_0, iv a1002_1, iv a1002_2, iv x12, .slice A15 l13.length k16, .slice A20 l18.length k21, iv x23, .slice A_a1002_7 a1002_7.length c_a1002_7] 63, h14, h19] (K.mvN [_, _, _, _, _] _ _ (K.mvN [_, _, _, _, _] _ _ (K.mv3 (K.mvN [_, _, _, _, _] _ _ (K.mvN [_, _, _, _, _] _ _ (K.mvN [_, _, _, _, _] _ _ (k_end (PR.okI ⟨h3, A4, k5, h8, A9, k10, h14, A15, k16, h19, A20, k21, o6, o11, o17, o22, rfl, rfl⟩))))))))
def check_checker_exp.g (Rc : CK) (k : Nat) (a0_0 : List (ByteArray × Int × Int × Int × List (Int × Int × ByteArray))) (a0_1 : List ByteArray) (a1002_0 : ByteArray) (a1002_1 : Int) (a1002_2 : Int) (a1002_3 : Int) (a1002_4 : List (Int × Int × ByteArray)) (a1002_5 : List ByteArray) (a1002_6 : Int) (a1002_7 : List ByteArray) (a1_0 : Int) (a1_1 : ByteArray) (a1_2 : Int) (a1_3 : Int) (a1_4 : List Tree) (a2 : Bool) : Option (PR (List (ByteArray × Int × Int × Int × List (Int × Int × ByteArray)) × List ByteArray × Int × List (Int × Int × ByteArray) × List ByteArray × Int) (Int × Int)) := joinF (fun (l2 : List ByteArray) (l7 : List (Int × Int × ByteArray)) => PR.bind (Rc.check_checker_nodes a0_0 l2 a1002_0 a1002_1 a1002_2 a1002_3 l7 a1002_5 a1002_6 a1002_7 a1_4) fun r13 => some (PR.ok (r13.1, r13.2.1, r13.2.2.1, r13.2.2.2.1, r13.2.2.2.2.1, r13.2.2.2.2.2))) (fun J12 => cond (a1_0 == 8) (PR.bind (check_few.f k a1_0 a1_1 a1_2 a1_3 a1_4 (IntKind.i64.wrap (((a1_4.length : Nat) : Int) - 1)) 50) fun r32 => J12 a0_1 a1002_4) (cond (a1_0 == 30) (PR.bind (check_few.f k a1_0 a1_1 a1_2 a1_3 a1_4 ((a1_4.length : Nat) : Int) 50) fun r35 => J12 a0_1 a1002_4) (cond (a1_0 == 12) (PR.bind (check_few.f k a1_0 a1_1 a1_2 a1_3 a1_4 ((a1_4.length : Nat) : Int) 200) fun r38 => J12 a0_1 a1002_4) (cond (a1_0 == 4) (PR.bind (check_checker_constant.f k a0_0 a0_1 a1002_0 a1002_1 a1002_2 a1002_3 a1002_4 a1002_5 a1002_6 a1002_7 a1_0 a1_1 a1_2 a1_3 a1_4 2 a1_2 (⟨#[]⟩ : ByteArray)) fun r41 => J12 a0_1 r41) (cond (a1_0 == 5) (PR.bind (check_checker_constant.f k a0_0 a0_1 a1002_0 a1002_1 a1002_2 a1002_3 a1002_4 a1002_5 a1002_6 a1002_7 a1_0 a1_1 a1_2 a1_3 a1_4 3 0 a1_1) fun r48 => J12 a0_1 r48) (cond (a1_0 == 6) (PR.bind (check_checker_name.f k a0_0 a0_1 a1002_0 a1002_1 a1002_2 a1002_3 a1002_4 a1002_5 a1002_6 a1002_7 a1_0 a1_1 a1_2 a1_3 a1_4) fun r55 => J12 r55 a1002_4) (cond (a1_0 == 7) ((lIdx a1_4 0).bind fun x62 => (cond (x62.kind == 6) ((check_kept.f k x62.text).bind fun r95 => some r95) (some false) : Option Bool).bind fun q72 => cond q72 (joinF (fun (_ : Unit) => some (PR.ok (a0_0, a0_1, a1002_3, a1002_4, a1002_5, a1002_6))) (fun J74 => (lIdx a1_4 1).bind fun x75 => (cond a2 (some true) (cond (x75.kind != 5) (some true) ((sCat x62.text (⟨#[46]⟩ : ByteArray)).bind fun s91 : ByteArray => (sCat s91 x75.text).bind fun s92 : ByteArray => (check_Library.f k s92).bind fun r93 => some (r93 == 0))) : Option Bool).bind fun q85 => cond q85 (PR.bind (check_fail.f k 5 a1_3) fun r87 => J74 ()) (J74 ()))) (J12 a0_1 a1002_4)) (J12 a0_1 a1002_4))))))))
set_option maxRecDepth 100000 in
theorem check_checker_exp.okg {Rc : CK} (hR : Rc.Good) {k : Nat} {a0_0 : List (ByteArray × Int × Int × Int × List (Int × Int × ByteArray))} {a0_1 : List ByteArray} {a1002_0 : ByteArray} {a1002_1 : Int} {a1002_2 : Int} {a1002_3 : Int} {a1002_4 : List (Int × Int × ByteArray)} {a1002_5 : List ByteArray} {a1002_6 : Int} {a1002_7 : List ByteArray} {a1_0 : Int} {a1_1 : ByteArray} {a1_2 : Int} {a1_3 : Int} {a1_4 : List Tree} {a2 : Bool} {b0 : Nat} {H_a0_0 : Frag} {A_a0_0 : Option Addr} {c_a0_0 : Nat} {H_a0_1 : Frag} {A_a0_1 : Option Addr} {c_a0_1 : Nat} {b1002_ : Nat} {H_a1002_4 : Frag} {A_a1002_4 : Option Addr} {c_a1002_4 : Nat} {H_a1002_5 : Frag} {A_a1002_5 : Option Addr} {c_a1002_5 : Nat} {H_a1002_7 : Frag} {A_a1002_7 : Option Addr} {c_a1002_7 : Nat} {H_a1_4 : Frag} {A_a1_4 : Option Addr} {c_a1_4 : Nat} {G : Frag} {r : PR (List (ByteArray × Int × Int × Int × List (Int × Int × ByteArray)) × List ByteArray × Int × List (Int × Int × ByteArray) × List ByteArray × Int) (Int × Int)} (h : check_checker_exp.g Rc k a0_0 a0_1 a1002_0 a1002_1 a1002_2 a1002_3 a1002_4 a1002_5 a1002_6 a1002_7 a1_0 a1_1 a1_2 a1_3 a1_4 a2 = some r) (R_a0_0 : OwnR rs42 42 H_a0_0 (.slice A_a0_0 a0_0.length c_a0_0) a0_0) (R_a0_1 : OwnT encS 9 1 H_a0_1 (.slice A_a0_1 a0_1.length c_a0_1) a0_1) (R_a1002_4 : OwnT e53 53 3 H_a1002_4 (.slice A_a1002_4 a1002_4.length c_a1002_4) a1002_4) (R_a1002_5 : OwnT encS 9 1 H_a1002_5 (.slice A_a1002_5 a1002_5.length c_a1002_5) a1002_5) (R_a1002_7 : RdT encS 1 H_a1002_7 (.slice A_a1002_7 a1002_7.length c_a1002_7) a1002_7) (R_a1_4 : RdR (rTree 36) H_a1_4 (.slice A_a1_4 a1_4.length c_a1_4) a1_4) (hG : GlP G) : Ct Tryz.prog 40 #[pt b0, .agg #[iv a1_0, sv a1_1, iv a1_2, iv a1_3, .slice A_a1_4 a1_4.length c_a1_4], bv a2] [bk b0 #[.slice A_a0_0 a0_0.length c_a0_0, .slice A_a0_1 a0_1.length c_a0_1, pt b1002_] 65, H_a0_0, H_a0_1, bk b1002_ #[sv a1002_0, iv a1002_1, iv a1002_2, iv a1002_3, .slice A_a1002_4 a1002_4.length c_a1002_4, .slice A_a1002_5 a1002_5.length c_a1002_5, iv a1002_6, .slice A_a1002_7 a1002_7.length c_a1002_7] 63, H_a1002_4, H_a1002_5] [H_a1002_7, H_a1_4, G] (PR.Post failC (fun (r : List (ByteArray × Int × Int × Int × List (Int × Int × ByteArray)) × List ByteArray × Int × List (Int × Int × ByteArray) × List ByteArray × Int) e l1 => ∃ (H0_ : Frag) (A0_ : Option Addr) (c0_ : Nat) (H1_ : Frag) (A1_ : Option Addr) (c1_ : Nat) (H2_ : Frag) (A2_ : Option Addr) (c2_ : Nat) (H3_ : Frag) (A3_ : Option Addr) (c3_ : Nat), OwnR rs42 42 H0_ (.slice A0_ r.1.length c0_) r.1 ∧ OwnT encS 9 1 H1_ (.slice A1_ r.2.1.length c1_) r.2.1 ∧ OwnT e53 53 3 H2_ (.slice A2_ r.2.2.2.1.length c2_) r.2.2.2.1 ∧ OwnT encS 9 1 H3_ (.slice A3_ r.2.2.2.2.1.length c3_) r.2.2.2.2.1 ∧ e = .returned (.tuple #[]) ∧ l1 = [bk b0 #[.slice A0_ r.1.length c0_, .slice A1_ r.2.1.length c1_, pt b1002_] 65, H0_, H1_, bk b1002_ #[sv a1002_0, iv a1002_1, iv a1002_2, iv r.2.2.1, .slice A2_ r.2.2.2.1.length c2_, .slice A3_ r.2.2.2.2.1.length c3_, iv r.2.2.2.2.2, .slice A_a1002_7 a1002_7.length c_a1002_7] 63, H2_, H3_]) r) := by
 refine ct_enter (args := [pt b0, .agg #[iv a1_0, sv a1_1, iv a1_2, iv a1_3, .slice A_a1_4 a1_4.length c_a1_4], bv a2]) Tryz.func40 rfl (Nat.le_of_ble_eq_true rfl) ?_
 intro A X hh_
 obtain ⟨hm_H_a1002_7, hm_H_a1_4, hm_G, _⟩ := hh_
 unfold check_checker_exp.g at h
 refine K.eq (env' := [(0, pt b0), (1, .agg #[iv a1_0, sv a1_1, iv a1_2, iv a1_3, .slice A_a1_4 a1_4.length c_a1_4]), (2, bv a2)]) (l' := bk b0 #[.slice A_a0_0 a0_0.length c_a0_0, .slice A_a0_1 a0_1.length c_a0_1, pt b1002_] 65 :: H_a0_0 :: H_a0_1 :: bk b1002_ #[sv a1002_0, iv a1002_1, iv a1002_2, iv a1002_3, .slice A_a1002_4 a1002_4.length c_a1002_4, .slice A_a1002_5 a1002_5.length c_a1002_5, iv a1002_6, .slice A_a1002_7 a1002_7.length c_a1002_7] 63 :: H_a1002_4 :: H_a1002_5 :: X) rfl rfl (ksr (knp #[iv a1_0, sv a1_1, iv a1_2, iv a1_3, .slice A_a1_4 a1_4.length c_a1_4] 36 fun b1 => (knt ?_)))
 obtain ⟨J12, hJ12, h⟩ := joinSplit h
 refine k_cut (τ := (List ByteArray) × (List (Int × Int × ByteArray)) × Frag × (Option Addr) × Nat × Frag × (Option Addr) × Nat) (fun t => [(0, pt b0), (4, pt b1)]) (fun t => bk b1 #[iv a1_0, sv a1_1, iv a1_2, iv a1_3, .slice A_a1_4 a1_4.length c_a1_4] 36 :: bk b0 #[.slice A_a0_0 a0_0.length c_a0_0, .slice t.2.2.2.1 t.1.length t.2.2.2.2.1, pt b1002_] 65 :: H_a0_0 :: bk b1002_ #[sv a1002_0, iv a1002_1, iv a1002_2, iv a1002_3, .slice t.2.2.2.2.2.2.1 t.2.1.length t.2.2.2.2.2.2.2, .slice A_a1002_5 a1002_5.length c_a1002_5, iv a1002_6, .slice A_a1002_7 a1002_7.length c_a1002_7] 63 :: H_a1002_5 :: t.2.2.1 :: t.2.2.2.2.2.1 :: X) (fun t => J12 t.1 t.2.1 = some r ∧ OwnT encS 9 1 t.2.2.1 (.slice t.2.2.2.1 t.1.length t.2.2.2.2.1) t.1 ∧ OwnT e53 53 3 t.2.2.2.2.2.1 (.slice t.2.2.2.2.2.2.1 t.2.1.length t.2.2.2.2.2.2.2) t.2.1) ?_ ?_
 ·rintro ⟨l2, l7, h3, A4, k5, h8, A9, k10⟩ ⟨h, o6, o11⟩
  subst hJ12
  refine k_region (kx 2 (kld 0 4 rfl (K.drop (K.mv3 (K.mvN [_, _, _, _, _] _ _ (K.mv4 (K.mvN [_, _, _, _, _] _ _ (K.mvN [_, _, _, _, _] _ _ (K.mvN [_, _, _, _, _] _ _ (kcp h (fun _ hr13 => (hR.check_checker_nodes (b0 := b0) (b1002_ := b1002_) hr13 R_a0_0 o6 o11 R_a1002_5 R_a1002_7 R_a1_4 hG)) rfl ⟨hm_H_a1002_7, hm_H_a1_4, hm_G, trivial⟩ (fun _ e => kpn 0 e rfl) fun r13 h => ?_))))))))))
  rintro _ _ ⟨h15, A16, k17, h19, A20, k21, h23, A24, k25, h27, A28, k29, o18, o22, o26, o30, rfl, rfl⟩
  refine nx_ret (knl (k_fall ?_))
  obtain rfl := Option.some.inj h
  exact kdv (.tuple #[]) [bk b0 #[.slice A16 r13.1.length k17, .slice A20 r13.2.1.length k21, pt b1002_] 65, h15, h19, bk b1002_ #[sv a1002_0, iv a1002_1, iv a1002_2, iv r13.2.2.1, .slice A24 r13.2.2.2.1.length k25, .slice A28 r13.2.2.2.2.1.length k29, iv r13.2.2.2.2.2, .slice A_a1002_7 a1002_7.length c_a1002_7] 63, h23, h27] (k_end (PR.okI ⟨h15, A16, k17, h19, A20, k21, h23, A24, k25, h27, A28, k29, o18, o22, o26, o30, rfl, rfl⟩))
 ·skip
  refine ksr (kx 1 (kld 0 0 rfl (knt (k_block (ksr (kx 2 (knt ?_)))))))
  refine kcn h (fun h => ?_) fun h => ?_
  ·refine k_region (kla 0 0 5 rfl (kx 1 (kld 0 4 rfl (kx 2 (kcp h (fun _ hr32 => (check_few.ok hr32 R_a1_4)) rfl ⟨(t7 hm_H_a1_4), trivial⟩ (fun _ e => k_blk_panic (k_then_panic (kpn 7 e rfl))) fun r32 h => ?_)))))
   rintro _ _ ⟨rfl, rfl⟩
   refine nx_ret0 (knl (k_blk (k_then (K.mvN [_, _, _, _, _] _ _ (K.mv4 (K.mvN [_, _, _, _, _, _] _ _ (K.mvN [_, _, _, _, _, _] _ _ (K.mvN [_, _, _, _, _, _] _ _ (K.mvN [_, _, _, _, _, _] _ _ (K.mvN [_, _, _, _, _, _] _ _ ?_))))))))))
   exact k_meet (a0_1, a1002_4, H_a0_1, A_a0_1, c_a0_1, H_a1002_4, A_a1002_4, c_a1002_4) ⟨h, R_a0_1, R_a1002_4⟩ sb rfl
  ·refine ksr (kx 2 (knt ?_))
   refine kcn h (fun h => ?_) fun h => ?_
   ·refine k_region (kla 0 0 5 rfl (kx 1 (kld 0 4 rfl (kx 1 (kcp h (fun _ hr35 => (check_few.ok hr35 R_a1_4)) rfl ⟨(t7 hm_H_a1_4), trivial⟩ (fun _ e => k_blk_panic (k_then_panic (kpn 7 e rfl))) fun r35 h => ?_)))))
    rintro _ _ ⟨rfl, rfl⟩
    refine nx_ret0 (knl (k_blk (k_then (K.mvN [_, _, _, _, _] _ _ (K.mv4 (K.mvN [_, _, _, _, _, _] _ _ (K.mvN [_, _, _, _, _, _] _ _ (K.mvN [_, _, _, _, _, _] _ _ (K.mvN [_, _, _, _, _, _] _ _ (K.mvN [_, _, _, _, _, _] _ _ ?_))))))))))
    exact k_meet (a0_1, a1002_4, H_a0_1, A_a0_1, c_a0_1, H_a1002_4, A_a1002_4, c_a1002_4) ⟨h, R_a0_1, R_a1002_4⟩ sb rfl
   ·refine ksr (kx 2 (knt ?_))
    refine kcn h (fun h => ?_) fun h => ?_
    ·refine k_region (kla 0 0 5 rfl (kx 1 (kld 0 4 rfl (kx 1 (kcp h (fun _ hr38 => (check_few.ok hr38 R_a1_4)) rfl ⟨(t7 hm_H_a1_4), trivial⟩ (fun _ e => k_blk_panic (k_then_panic (kpn 7 e rfl))) fun r38 h => ?_)))))
     rintro _ _ ⟨rfl, rfl⟩
     refine nx_ret0 (knl (k_blk (k_then (K.mvN [_, _, _, _, _] _ _ (K.mv4 (K.mvN [_, _, _, _, _, _] _ _ (K.mvN [_, _, _, _, _, _] _ _ (K.mvN [_, _, _, _, _, _] _ _ (K.mvN [_, _, _, _, _, _] _ _ (K.mvN [_, _, _, _, _, _] _ _ ?_))))))))))
     exact k_meet (a0_1, a1002_4, H_a0_1, A_a0_1, c_a0_1, H_a1002_4, A_a1002_4, c_a1002_4) ⟨h, R_a0_1, R_a1002_4⟩ sb rfl
    ·refine ksr (kx 2 (knt ?_))
     refine kcn h (fun h => ?_) fun h => ?_
     ·refine k_region (kx 1 (kla 0 0 5 rfl (kx 1 (kld 0 2 rfl (kx 1 (K.mvN [_, _, _, _, _] _ _ (K.mvN [_, _, _, _, _] _ _ (K.mv3 (kcp h (fun _ hr41 => (check_checker_constant.ok (b0 := b0) (b1002_ := b1002_) hr41 (OwnR.rd R_a0_0) (OwnT.rd R_a0_1) R_a1002_4 (OwnT.rd R_a1002_5) R_a1002_7 R_a1_4)) rfl ⟨(.tail _ (.head _)), (.tail _ (.tail _ (.head _))), (.tail _ (.tail _ (.tail _ (.head _)))), (t4 hm_H_a1002_7), (t4 hm_H_a1_4), trivial⟩ (fun _ e => k_blk_panic (k_then_panic (kpn 4 e rfl))) fun r41 h => ?_)))))))))
      rintro _ _ ⟨h43, A44, k45, o46, rfl, rfl⟩
      refine nx_ret3 (knl (k_blk (k_then (K.mv2 (K.mvN [_, _, _, _, _] _ _ (K.mvN [_, _, _, _, _, _] _ _ (K.mv4 (K.mvN [_, _, _, _, _, _] _ _ (K.mvN [_, _, _, _, _] _ _ (K.mvN [_, _, _, _, _, _] _ _ ?_))))))))))
      exact k_meet (a0_1, r41, H_a0_1, A_a0_1, c_a0_1, h43, A44, k45) ⟨h, R_a0_1, o46⟩ sb rfl
     ·refine ksr (kx 2 (knt ?_))
      refine kcn h (fun h => ?_) fun h => ?_
      ·refine k_region (kx 1 (kla 0 0 5 rfl (kx 1 (kld 0 1 rfl (kx 1 (K.mvN [_, _, _, _, _] _ _ (K.mvN [_, _, _, _, _] _ _ (K.mv3 (kcp h (fun _ hr48 => (check_checker_constant.ok (b0 := b0) (b1002_ := b1002_) hr48 (OwnR.rd R_a0_0) (OwnT.rd R_a0_1) R_a1002_4 (OwnT.rd R_a1002_5) R_a1002_7 R_a1_4)) rfl ⟨(.tail _ (.head _)), (.tail _ (.tail _ (.head _))), (.tail _ (.tail _ (.tail _ (.head _)))), (t4 hm_H_a1002_7), (t4 hm_H_a1_4), trivial⟩ (fun _ e => k_blk_panic (k_then_panic (kpn 4 e rfl))) fun r48 h => ?_)))))))))
       rintro _ _ ⟨h50, A51, k52, o53, rfl, rfl⟩
       refine nx_ret3 (knl (k_blk (k_then (K.mv2 (K.mvN [_, _, _, _, _] _ _ (K.mvN [_, _, _, _, _, _] _ _ (K.mv4 (K.mvN [_, _, _, _, _, _] _ _ (K.mvN [_, _, _, _, _] _ _ (K.mvN [_, _, _, _, _, _] _ _ ?_))))))))))
       exact k_meet (a0_1, r48, H_a0_1, A_a0_1, c_a0_1, h50, A51, k52) ⟨h, R_a0_1, o53⟩ sb rfl
      ·refine ksr (kx 2 (knt ?_))
       refine kcn h (fun h => ?_) fun h => ?_
       ·refine k_region (kx 1 (kla 0 0 5 rfl (K.mv4 (K.mv4 (K.mv3 (kcp h (fun _ hr55 => (check_checker_name.ok (b0 := b0) (b1002_ := b1002_) hr55 (OwnR.rd R_a0_0) R_a0_1 (OwnT.rd R_a1002_4) (OwnT.rd R_a1002_5) R_a1002_7 R_a1_4)) rfl ⟨(.tail _ (.head _)), (.tail _ (.tail _ (.head _))), (.tail _ (.tail _ (.tail _ (.head _)))), (t4 hm_H_a1002_7), (t4 hm_H_a1_4), trivial⟩ (fun _ e => k_blk_panic (k_then_panic (kpn 4 e rfl))) fun r55 h => ?_))))))
        rintro _ _ ⟨h57, A58, k59, o60, rfl, rfl⟩
        refine nx_ret3 (knl (k_blk (k_then (K.mvN [_, _, _, _, _] _ _ (K.mv2 (K.mvN [_, _, _, _, _, _] _ _ (K.mv4 (K.mvN [_, _, _, _, _, _] _ _ (K.mvN [_, _, _, _, _] _ _ (K.mvN [_, _, _, _, _, _] _ _ ?_))))))))))
        exact k_meet (r55, a1002_4, h57, A58, k59, H_a1002_4, A_a1002_4, c_a1002_4) ⟨h, o60, R_a1002_4⟩ sb rfl
       ·refine ksr (kx 2 (knt ?_))
        refine kcn h (fun h => ?_) fun h => ?_
        ·refine ksr (kx 1 (kld 0 4 rfl (bnd h fun x62 hx62 h => (kelR (T := 36) (kd := .i64) (R := (rTree 36)) rfl hx62 R_a1_4 fun p63 u66 q67 e64 y65 => ?_))))
         obtain ⟨A68, k69, rfl, o70⟩ := treeR_mk 36 q67
         refine keN rfl e64 (t7 hm_H_a1_4) (knp #[iv 0, sv noS, iv 0, iv 0, nS] 36 fun b71 => (kst 0 5 #[iv x62.kind, sv x62.text, iv x62.n, iv x62.at_, .slice A68 x62.kids.length k69] (knt (bnd h fun q72 hq72 h => ?_))))
         refine k_cut1 [(0, pt b0), (2, bv a2), (4, pt b1), (6, pt b71), (66, bv q72)] (bk b71 #[iv x62.kind, sv x62.text, iv x62.n, iv x62.at_, .slice A68 x62.kids.length k69] 36 :: bk b1 #[iv a1_0, sv a1_1, iv a1_2, iv a1_3, .slice A_a1_4 a1_4.length c_a1_4] 36 :: bk b0 #[.slice A_a0_0 a0_0.length c_a0_0, .slice A_a0_1 a0_1.length c_a0_1, pt b1002_] 65 :: H_a0_0 :: H_a0_1 :: bk b1002_ #[sv a1002_0, iv a1002_1, iv a1002_2, iv a1002_3, .slice A_a1002_4 a1002_4.length c_a1002_4, .slice A_a1002_5 a1002_5.length c_a1002_5, iv a1002_6, .slice A_a1002_7 a1002_7.length c_a1002_7] 63 :: H_a1002_4 :: H_a1002_5 :: X) ?_ ?_
         ·clear hq72
          refine kcn h (fun h => ?_) fun h => ?_
          ·obtain ⟨J74, hJ74, h⟩ := joinSplit h
           refine k_cut (τ := Unit) (fun t => []) (fun t => bk b0 #[.slice A_a0_0 a0_0.length c_a0_0, .slice A_a0_1 a0_1.length c_a0_1, pt b1002_] 65 :: H_a0_0 :: H_a0_1 :: bk b1002_ #[sv a1002_0, iv a1002_1, iv a1002_2, iv a1002_3, .slice A_a1002_4 a1002_4.length c_a1002_4, .slice A_a1002_5 a1002_5.length c_a1002_5, iv a1002_6, .slice A_a1002_7 a1002_7.length c_a1002_7] 63 :: H_a1002_4 :: H_a1002_5 :: X) (fun t => J74 () = some r) ?_ ?_
           ·rintro ⟨⟩ h
            subst hJ74
            refine k_ret (k_blk_ret (k_then_ret ?_))
            obtain rfl := Option.some.inj h
            exact kdv (.tuple #[]) [bk b0 #[.slice A_a0_0 a0_0.length c_a0_0, .slice A_a0_1 a0_1.length c_a0_1, pt b1002_] 65, H_a0_0, H_a0_1, bk b1002_ #[sv a1002_0, iv a1002_1, iv a1002_2, iv a1002_3, .slice A_a1002_4 a1002_4.length c_a1002_4, .slice A_a1002_5 a1002_5.length c_a1002_5, iv a1002_6, .slice A_a1002_7 a1002_7.length c_a1002_7] 63, H_a1002_4, H_a1002_5] (k_end (PR.okI ⟨H_a0_0, A_a0_0, c_a0_0, H_a0_1, A_a0_1, c_a0_1, H_a1002_4, A_a1002_4, c_a1002_4, H_a1002_5, A_a1002_5, c_a1002_5, R_a0_0, R_a0_1, R_a1002_4, R_a1002_5, rfl, rfl⟩))
           ·skip
            refine ksr (kx 1 (kld 1 4 rfl (bnd h fun x75 hx75 h => (kelR (T := 36) (kd := .i64) (R := (rTree 36)) rfl hx75 R_a1_4 fun p76 u79 q80 e77 y78 => ?_))))
            obtain ⟨A81, k82, rfl, o83⟩ := treeR_mk 36 q80
            refine keN rfl e77 (t8 hm_H_a1_4) (knp #[iv 0, sv noS, iv 0, iv 0, nS] 36 fun b84 => (kst 0 5 #[iv x75.kind, sv x75.text, iv x75.n, iv x75.at_, .slice A81 x75.kids.length k82] (knt (bnd h fun q85 hq85 h => ?_))))
            refine k_cut1 [(4, pt b1), (86, bv q85)] (bk b1 #[iv a1_0, sv a1_1, iv a1_2, iv a1_3, .slice A_a1_4 a1_4.length c_a1_4] 36 :: bk b0 #[.slice A_a0_0 a0_0.length c_a0_0, .slice A_a0_1 a0_1.length c_a0_1, pt b1002_] 65 :: H_a0_0 :: H_a0_1 :: bk b1002_ #[sv a1002_0, iv a1002_1, iv a1002_2, iv a1002_3, .slice A_a1002_4 a1002_4.length c_a1002_4, .slice A_a1002_5 a1002_5.length c_a1002_5, iv a1002_6, .slice A_a1002_7 a1002_7.length c_a1002_7] 63 :: H_a1002_4 :: H_a1002_5 :: X) ?_ ?_
            ·clear hq85
             refine kcn h (fun h => ?_) fun h => ?_
             ·refine k_region (kx 1 (kld 0 3 rfl (K.drop (kcp h (fun _ hr87 => (check_fail.ok hr87)) rfl trivial (fun _ e => k_then_panic (k_blk_panic (k_then_panic (kpn 6 e rfl)))) fun r87 h => ?_))))
              rintro _ _ ⟨rfl, rfl⟩
              exact nx_ret0 (knt (k_meet () h trivial rfl))
             ·exact k_skip (k_then (K.drop (k_meet () h trivial rfl)))
            ·have h := hq85
             clear hq85
             refine k_region (kx 2 ?_)
             refine kcs 72 h (fun h => ?_) fun h => ?_
             ·exact kx 14 (knt (K.drop (K.drop (k_meet1 ⟨gr, gb (Option.some.inj h), trivial⟩))))
             ·refine kx 1 (kld 0 0 rfl (kx 3 ?_))
              refine kcs 77 h (fun h => ?_) fun h => ?_
              ·exact kx 9 (knt (K.drop (K.drop (k_meet1 ⟨gr, gb (Option.some.inj h), trivial⟩))))
              ·refine kx 1 (kld 1 1 rfl (K.mv1 (K.drop (bnd h fun s91 hs91 h => (kl_cat rfl (by kernel_rfl) (by kernel_rfl) (by kernel_rfl) (by kernel_rfl) hs91 (kx 1 (kld 0 1 rfl (K.drop (bnd h fun s92 hs92 h => (kl_cat rfl (by kernel_rfl) (by kernel_rfl) (by kernel_rfl) (by kernel_rfl) hs92 ?_))))))))))
               exact bnd h fun r93 hr93 h => (kcv (check_Library.ok hr93 hG) ⟨(t7 hm_G), trivial⟩ (kx 2 (knt (k_meet1 ⟨gr, gb (Option.some.inj h), trivial⟩))))
          ·refine k_skip (k_blk (k_then (K.drop (K.mvN [_, _, _, _, _] _ _ (K.mv4 (K.mvN [_, _, _, _, _, _] _ _ (K.mvN [_, _, _, _, _, _] _ _ (K.mvN [_, _, _, _, _, _] _ _ (K.mvN [_, _, _, _, _, _] _ _ (K.mvN [_, _, _, _, _, _] _ _ ?_))))))))))
           exact k_meet (a0_1, a1002_4, H_a0_1, A_a0_1, c_a0_1, H_a1002_4, A_a1002_4, c_a1002_4) ⟨h, R_a0_1, R_a1002_4⟩ sb rfl
         ·have h := hq72
          clear hq72
          refine k_region (kx 1 (kld 0 0 rfl (kx 2 ?_)))
          refine kcs 62 h (fun h => ?_) fun h => ?_
          ·exact kx 1 (kld 0 1 rfl (bnd h fun r95 hr95 h => (kcv (check_kept.ok hr95) trivial (kx 1 (knt (k_meet1 ⟨gr, gr, gr, gr, gb (Option.some.inj h), trivial⟩))))))
          ·exact kx 4 (knt (k_meet1 ⟨gr, gr, gr, gr, gb (Option.some.inj h), trivial⟩))
        ·exact k_skip (k_blk (k_then (K.mvN [_, _, _, _, _] _ _ (K.mv4 (K.mvN [_, _, _, _, _, _] _ _ (K.mvN [_, _, _, _, _, _] _ _ (K.mvN [_, _, _, _, _, _] _ _ (K.mvN [_, _, _, _, _, _] _ _ (K.mvN [_, _, _, _, _, _] _ _ (k_meet (a0_1, a1002_4, H_a0_1, A_a0_1, c_a0_1, H_a1002_4, A_a1002_4, c_a1002_4) ⟨h, R_a0_1, R_a1002_4⟩ sb rfl))))))))))
def check_checker_loop.g (Rc : CK) (k : Nat) (a0_0 : List (ByteArray × Int × Int × Int × List (Int × Int × ByteArray))) (a0_1 : List ByteArray) (a1002_0 : ByteArray) (a1002_1 : Int) (a1002_2 : Int) (a1002_3 : Int) (a1002_4 : List (Int × Int × ByteArray)) (a1002_5 : List ByteArray) (a1002_6 : Int) (a1002_7 : List ByteArray) (a1_0 : Int) (a1_1 : ByteArray) (a1_2 : Int) (a1_3 : Int) (a1_4 : List Tree) (a2 : List Tree) (a3_0 : Int) (a3_1 : ByteArray) (a3_2 : Int) (a3_3 : Int) (a3_4 : List Tree) (a4 : Int) : Option (PR (List (ByteArray × Int × Int × Int × List (Int × Int × ByteArray)) × List ByteArray × Int × List (Int × Int × ByteArray) × List ByteArray × Int) (Int × Int)) := (apdZ 16 a1002_5 (⟨#[]⟩ : ByteArray) a4).bind fun l3 => joinF (fun (x8 : Int) (l9 : List ByteArray) => PR.bind (Rc.check_checker_node a0_0 a0_1 a1002_0 a1002_1 a1002_2 x8 a1002_4 l9 (IntKind.i64.wrap (a1002_6 + 1)) a1002_7 a3_0 a3_1 a3_2 a3_3 a3_4 false) fun r15 => (lSub r15.2.2.2.2.1 0 ((a1002_5.length : Nat) : Int)).bind fun l33 => some (PR.ok (r15.1, r15.2.1, r15.2.2.1, r15.2.2.2.1, l33, IntKind.i64.wrap (r15.2.2.2.2.2 - 1)))) (fun J14 => cond (decide (a4 > 0)) (PR.bind (check_checker_bring.f k a0_0 a0_1 a1002_0 a1002_1 a1002_2 a1002_3 a1002_4 l3 a1002_6 a1002_7 a1_0 a1_1 a1_2 a1_3 a1_4 a2) fun r36 => J14 r36.1 r36.2) (J14 a1002_3 l3))
set_option maxRecDepth 100000 in
theorem check_checker_loop.okg {Rc : CK} (hR : Rc.Good) {k : Nat} {a0_0 : List (ByteArray × Int × Int × Int × List (Int × Int × ByteArray))} {a0_1 : List ByteArray} {a1002_0 : ByteArray} {a1002_1 : Int} {a1002_2 : Int} {a1002_3 : Int} {a1002_4 : List (Int × Int × ByteArray)} {a1002_5 : List ByteArray} {a1002_6 : Int} {a1002_7 : List ByteArray} {a1_0 : Int} {a1_1 : ByteArray} {a1_2 : Int} {a1_3 : Int} {a1_4 : List Tree} {a2 : List Tree} {a3_0 : Int} {a3_1 : ByteArray} {a3_2 : Int} {a3_3 : Int} {a3_4 : List Tree} {a4 : Int} {b0 : Nat} {H_a0_0 : Frag} {A_a0_0 : Option Addr} {c_a0_0 : Nat} {H_a0_1 : Frag} {A_a0_1 : Option Addr} {c_a0_1 : Nat} {b1002_ : Nat} {H_a1002_4 : Frag} {A_a1002_4 : Option Addr} {c_a1002_4 : Nat} {H_a1002_5 : Frag} {A_a1002_5 : Option Addr} {c_a1002_5 : Nat} {H_a1002_7 : Frag} {A_a1002_7 : Option Addr} {c_a1002_7 : Nat} {H_a1_4 : Frag} {A_a1_4 : Option Addr} {c_a1_4 : Nat} {H_a2 : Frag} {A_a2 : Option Addr} {c_a2 : Nat} {H_a3_4 : Frag} {A_a3_4 : Option Addr} {c_a3_4 : Nat} {G : Frag} {r : PR (List (ByteArray × Int × Int × Int × List (Int × Int × ByteArray)) × List ByteArray × Int × List (Int × Int × ByteArray) × List ByteArray × Int) (Int × Int)} (h : check_checker_loop.g Rc k a0_0 a0_1 a1002_0 a1002_1 a1002_2 a1002_3 a1002_4 a1002_5 a1002_6 a1002_7 a1_0 a1_1 a1_2 a1_3 a1_4 a2 a3_0 a3_1 a3_2 a3_3 a3_4 a4 = some r) (R_a0_0 : OwnR rs42 42 H_a0_0 (.slice A_a0_0 a0_0.length c_a0_0) a0_0) (R_a0_1 : OwnT encS 9 1 H_a0_1 (.slice A_a0_1 a0_1.length c_a0_1) a0_1) (R_a1002_4 : OwnT e53 53 3 H_a1002_4 (.slice A_a1002_4 a1002_4.length c_a1002_4) a1002_4) (R_a1002_5 : OwnT encS 9 1 H_a1002_5 (.slice A_a1002_5 a1002_5.length c_a1002_5) a1002_5) (R_a1002_7 : RdT encS 1 H_a1002_7 (.slice A_a1002_7 a1002_7.length c_a1002_7) a1002_7) (R_a1_4 : RdR (rTree 36) H_a1_4 (.slice A_a1_4 a1_4.length c_a1_4) a1_4) (R_a2 : RdR (rTree 36) H_a2 (.slice A_a2 a2.length c_a2) a2) (R_a3_4 : RdR (rTree 36) H_a3_4 (.slice A_a3_4 a3_4.length c_a3_4) a3_4) (hG : GlP G) : Ct Tryz.prog 39 #[pt b0, .agg #[iv a1_0, sv a1_1, iv a1_2, iv a1_3, .slice A_a1_4 a1_4.length c_a1_4], .slice A_a2 a2.length c_a2, .agg #[iv a3_0, sv a3_1, iv a3_2, iv a3_3, .slice A_a3_4 a3_4.length c_a3_4], iv a4] [bk b0 #[.slice A_a0_0 a0_0.length c_a0_0, .slice A_a0_1 a0_1.length c_a0_1, pt b1002_] 65, H_a0_0, H_a0_1, bk b1002_ #[sv a1002_0, iv a1002_1, iv a1002_2, iv a1002_3, .slice A_a1002_4 a1002_4.length c_a1002_4, .slice A_a1002_5 a1002_5.length c_a1002_5, iv a1002_6, .slice A_a1002_7 a1002_7.length c_a1002_7] 63, H_a1002_4, H_a1002_5] [H_a1002_7, H_a1_4, H_a2, H_a3_4, G] (PR.Post failC (fun (r : List (ByteArray × Int × Int × Int × List (Int × Int × ByteArray)) × List ByteArray × Int × List (Int × Int × ByteArray) × List ByteArray × Int) e l1 => ∃ (H0_ : Frag) (A0_ : Option Addr) (c0_ : Nat) (H1_ : Frag) (A1_ : Option Addr) (c1_ : Nat) (H2_ : Frag) (A2_ : Option Addr) (c2_ : Nat) (H3_ : Frag) (A3_ : Option Addr) (c3_ : Nat), OwnR rs42 42 H0_ (.slice A0_ r.1.length c0_) r.1 ∧ OwnT encS 9 1 H1_ (.slice A1_ r.2.1.length c1_) r.2.1 ∧ OwnT e53 53 3 H2_ (.slice A2_ r.2.2.2.1.length c2_) r.2.2.2.1 ∧ OwnT encS 9 1 H3_ (.slice A3_ r.2.2.2.2.1.length c3_) r.2.2.2.2.1 ∧ e = .returned (.tuple #[]) ∧ l1 = [bk b0 #[.slice A0_ r.1.length c0_, .slice A1_ r.2.1.length c1_, pt b1002_] 65, H0_, H1_, bk b1002_ #[sv a1002_0, iv a1002_1, iv a1002_2, iv r.2.2.1, .slice A2_ r.2.2.2.1.length c2_, .slice A3_ r.2.2.2.2.1.length c3_, iv r.2.2.2.2.2, .slice A_a1002_7 a1002_7.length c_a1002_7] 63, H2_, H3_]) r) := by
 refine ct_enter (args := [pt b0, .agg #[iv a1_0, sv a1_1, iv a1_2, iv a1_3, .slice A_a1_4 a1_4.length c_a1_4], .slice A_a2 a2.length c_a2, .agg #[iv a3_0, sv a3_1, iv a3_2, iv a3_3, .slice A_a3_4 a3_4.length c_a3_4], iv a4]) Tryz.func39 rfl (Nat.le_of_ble_eq_true rfl) ?_
 intro A X hh_
 obtain ⟨hm_H_a1002_7, hm_H_a1_4, hm_H_a2, hm_H_a3_4, hm_G, _⟩ := hh_
 unfold check_checker_loop.g at h
 refine K.eq (env' := [(0, pt b0), (1, .agg #[iv a1_0, sv a1_1, iv a1_2, iv a1_3, .slice A_a1_4 a1_4.length c_a1_4]), (2, .slice A_a2 a2.length c_a2), (3, .agg #[iv a3_0, sv a3_1, iv a3_2, iv a3_3, .slice A_a3_4 a3_4.length c_a3_4]), (4, iv a4)]) (l' := bk b0 #[.slice A_a0_0 a0_0.length c_a0_0, .slice A_a0_1 a0_1.length c_a0_1, pt b1002_] 65 :: H_a0_0 :: H_a0_1 :: bk b1002_ #[sv a1002_0, iv a1002_1, iv a1002_2, iv a1002_3, .slice A_a1002_4 a1002_4.length c_a1002_4, .slice A_a1002_5 a1002_5.length c_a1002_5, iv a1002_6, .slice A_a1002_7 a1002_7.length c_a1002_7] 63 :: H_a1002_4 :: H_a1002_5 :: X) rfl rfl (ksr (knp #[iv a1_0, sv a1_1, iv a1_2, iv a1_3, .slice A_a1_4 a1_4.length c_a1_4] 36 fun b1 => (knp #[iv a3_0, sv a3_1, iv a3_2, iv a3_3, .slice A_a3_4 a3_4.length c_a3_4] 36 fun b2 => (kns' (kx 3 (kld 2 2 rfl (kx 2 (kld 5 5 rfl (kx 2 (knt ?_))))))))))
 refine k_seq (kpr [(0, 0), (1, 0), (2, 0), (3, 3), (4, 0), (5, 0), (6, 0), (7, 3), (8, 0), (9, 0), (10, 3), (11, 0), (12, 1)] [2, 5] (kpx 3 (kpd 0 2 rfl (kpx 3 (kpd 0 2 rfl (kpx 2 (kpd 1 5 rfl (kpx 1 (kpt (K.mvN [_, _, _, _, _, _, _] _ _ ?_))))))))))
 refine bnd h fun l3 hl3 h => (op_apdZ (kz := .i64) (z0 := (⟨#[]⟩ : ByteArray)) .i64 encS_ok (by kernel_rfl) rfl ety26 (by kernel_rfl) (by kernel_rfl) (by kernel_rfl) (by kernel_rfl) hl3 R_a1002_5 fun h4 A5 k6 o7 => (kan [3, 6] rfl (kpz (kx 2 (K.mvN [_, _, _, _, _, _] _ _ (kst 5 1 #[sv a1002_0, iv a1002_1, iv a1002_2, iv a1002_3, .slice A_a1002_4 a1002_4.length c_a1002_4, .slice A5 l3.length k6, iv a1002_6, .slice A_a1002_7 a1002_7.length c_a1002_7] (knt ?_)))))))
 obtain ⟨J14, hJ14, h⟩ := joinSplit h
 refine k_cut (τ := Int × (List ByteArray) × Frag × (Option Addr) × Nat) (fun t => [(0, pt b0), (8, pt b2), (10, iv ((a1002_5.length : Nat) : Int))]) (fun t => bk b1002_ #[sv a1002_0, iv a1002_1, iv a1002_2, iv t.1, .slice A_a1002_4 a1002_4.length c_a1002_4, .slice t.2.2.2.1 t.2.1.length t.2.2.2.2, iv a1002_6, .slice A_a1002_7 a1002_7.length c_a1002_7] 63 :: bk b2 #[iv a3_0, sv a3_1, iv a3_2, iv a3_3, .slice A_a3_4 a3_4.length c_a3_4] 36 :: bk b0 #[.slice A_a0_0 a0_0.length c_a0_0, .slice A_a0_1 a0_1.length c_a0_1, pt b1002_] 65 :: H_a0_0 :: H_a0_1 :: H_a1002_4 :: t.2.2.1 :: X) (fun t => J14 t.1 t.2.1 = some r ∧ OwnT encS 9 1 t.2.2.1 (.slice t.2.2.2.1 t.2.1.length t.2.2.2.2) t.2.1) ?_ ?_
 ·rintro ⟨x8, l9, h10, A11, k12⟩ ⟨h, o13⟩
  subst hJ14
  refine ksr (kx 3 (kld 2 2 rfl (kx 2 (kld 0 6 rfl (kx 3 (kst 6 1 #[sv a1002_0, iv a1002_1, iv a1002_2, iv x8, .slice A_a1002_4 a1002_4.length c_a1002_4, .slice A11 l9.length k12, iv (IntKind.i64.wrap (a1002_6 + 1)), .slice A_a1002_7 a1002_7.length c_a1002_7] (kns' (kx 1 (kla 1 0 5 rfl (K.mv1 ?_))))))))))
  refine K.drop (K.mvN [_, _, _, _, _] _ _ (K.mvN [_, _, _, _, _] _ _ (K.mv2 (K.mvN [_, _, _, _, _] _ _ (K.mvN [_, _, _, _, _] _ _ (K.mvN [_, _, _, _, _] _ _ (kcp h (fun _ hr15 => (hR.check_checker_node (b0 := b0) (b1002_ := b1002_) hr15 R_a0_0 R_a0_1 R_a1002_4 o13 R_a1002_7 R_a3_4 hG)) rfl ⟨hm_H_a1002_7, hm_H_a3_4, hm_G, trivial⟩ (fun _ e => k_then_panic (kpn 0 e rfl)) fun r15 h => ?_)))))))
  rintro _ _ ⟨h17, A18, k19, h21, A22, k23, h25, A26, k27, h29, A30, k31, o20, o24, o28, o32, rfl, rfl⟩
  refine nx_ret (kns' (kx 3 (kld 0 2 rfl (kx 2 (kld 3 6 rfl (kx 3 (K.mv3 (kst 6 1 #[sv a1002_0, iv a1002_1, iv a1002_2, iv r15.2.2.1, .slice A26 r15.2.2.2.1.length k27, .slice A30 r15.2.2.2.2.1.length k31, iv (IntKind.i64.wrap (r15.2.2.2.2.2 - 1)), .slice A_a1002_7 a1002_7.length c_a1002_7] (knt (kpr [(0, 0), (1, 0), (2, 0), (3, 3), (4, 0), (5, 0), (6, 0), (7, 3), (8, 0), (9, 0), (10, 3), (11, 0), (12, 0)] [0, 1] ?_))))))))))
  refine kpx 3 (kpd 1 2 rfl (kpx 3 (kpd 1 2 rfl (kpx 2 (kpd 0 5 rfl (kpx 1 (bnd h fun l33 hl33 h => (kp_cutO (T := 9) (sz := 1) (k := .i64) (xs := r15.2.2.2.2.1) ((a1002_5.length : Nat) : Int) encS_ok rfl (by kernel_rfl) (by kernel_rfl) (by kernel_rfl) (by kernel_rfl) (by kernel_rfl) (by kernel_rfl) hl33 o32 fun o34 => (kpz (kx 2 ?_))))))))))
  refine kst 5 1 #[sv a1002_0, iv a1002_1, iv a1002_2, iv r15.2.2.1, .slice A26 r15.2.2.2.1.length k27, .slice A30 l33.length k31, iv (IntKind.i64.wrap (r15.2.2.2.2.2 - 1)), .slice A_a1002_7 a1002_7.length c_a1002_7] (knl (k_fall ?_))
  obtain rfl := Option.some.inj h
  exact kdv (.tuple #[]) [bk b0 #[.slice A18 r15.1.length k19, .slice A22 r15.2.1.length k23, pt b1002_] 65, h17, h21, bk b1002_ #[sv a1002_0, iv a1002_1, iv a1002_2, iv r15.2.2.1, .slice A26 r15.2.2.2.1.length k27, .slice A30 l33.length k31, iv (IntKind.i64.wrap (r15.2.2.2.2.2 - 1)), .slice A_a1002_7 a1002_7.length c_a1002_7] 63, h25, h29] (K.mvN [_, _, _, _, _] _ _ (K.mvN [_, _, _, _, _] _ _ (K.mv2 (K.mvN [_, _, _, _, _] _ _ (K.mvN [_, _, _, _, _] _ _ (K.mvN [_, _, _, _, _] _ _ (k_end (PR.okI ⟨h17, A18, k19, h21, A22, k23, h25, A26, k27, h29, A30, k31, o20, o24, o28, o34, rfl, rfl⟩))))))))
 ·skip
  refine ksr (kx 2 (knt ?_))
  refine kcn h (fun h => ?_) fun h => ?_
  ·refine k_region (kx 1 (kla 3 0 5 rfl (K.mv3 (K.drop (kx 1 (K.mv1 (K.mv1 (K.mv3 (kcp h (fun _ hr36 => (check_checker_bring.ok (b0 := b0) (b1002_ := b1002_) hr36 (OwnR.rd R_a0_0) (OwnT.rd R_a0_1) (OwnT.rd R_a1002_4) o7 R_a1002_7 R_a1_4 R_a2)) rfl ⟨(.tail _ (.head _)), (.tail _ (.tail _ (.head _))), (.tail _ (.tail _ (.tail _ (.head _)))), (t4 hm_H_a1002_7), (t4 hm_H_a1_4), (t4 hm_H_a2), trivial⟩ (fun _ e => k_then_panic (kpn 4 e rfl)) fun r36 h => ?_)))))))))
   rintro _ _ ⟨h38, A39, k40, o41, rfl, rfl⟩
   exact nx_ret3 (knt (K.mv2 (K.mvN [_, _, _, _, _, _] _ _ (K.mvN [_, _, _, _, _, _] _ _ (K.mvN [_, _, _, _, _, _] _ _ (K.mv4 (K.mvN [_, _, _, _, _, _] _ _ (K.mvN [_, _, _, _, _, _] _ _ (k_meet (r36.1, r36.2, h38, A39, k40) ⟨h, o41⟩ sb rfl)))))))))
  ·refine k_skip (k_then (K.mv3 (K.drop (K.mv1 (K.mvN [_, _, _, _, _, _] _ _ (K.mvN [_, _, _, _, _, _] _ _ (K.mvN [_, _, _, _, _, _] _ _ (K.mvN [_, _, _, _, _, _] _ _ (K.mvN [_, _, _, _, _, _] _ _ (K.mvN [_, _, _, _, _, _] _ _ ?_))))))))))
   exact k_meet (a1002_3, l3, h4, A5, k6) ⟨h, o7⟩ sb rfl
def check_checker_function.g (Rc : CK) (k : Nat) (a0_0 : List (ByteArray × Int × Int × Int × List (Int × Int × ByteArray))) (a0_1 : List ByteArray) (a1002_0 : ByteArray) (a1002_1 : Int) (a1002_2 : Int) (a1002_3 : Int) (a1002_4 : List (Int × Int × ByteArray)) (a1002_5 : List ByteArray) (a1002_6 : Int) (a1002_7 : List ByteArray) (a1_0 : Int) (a1_1 : ByteArray) (a1_2 : Int) (a1_3 : Int) (a1_4 : List Tree) : Option (PR (List (ByteArray × Int × Int × Int × List (Int × Int × ByteArray)) × List ByteArray × Int × List (Int × Int × ByteArray) × List ByteArray × Int) (Int × Int)) := PR.bind (check_few.f k a1_0 a1_1 a1_2 a1_3 a1_4 ((a0_0.length : Nat) : Int) 100) fun r2 => joinF (fun (_ : Unit) => PR.bind (check_few.f k a1_0 a1_1 a1_2 a1_3 a1_4 a1_2 50) fun r5 => (check_checker_global.f k a0_0 a0_1 a1002_0 a1002_1 a1002_2 a1002_3 a1002_4 a1002_5 a1002_6 a1002_7 a1_1).bind fun r7 => (lSub a1_4 0 a1_2).bind fun l13 => PR.bind (check_checker_bring.f k a0_0 r7 a1_1 a1_3 a1_2 0 ([]) ([]) 0 a1002_5 a1_0 a1_1 a1_2 a1_3 a1_4 l13) fun r17 => (lIdx a1_4 a1_2).bind fun x23 => PR.bind (Rc.check_checker_node a0_0 r7 a1_1 a1_3 a1_2 r17.1 ([]) r17.2 0 a1002_5 x23.kind x23.text x23.n x23.at_ x23.kids false) fun r32 => (apd 64 r32.1 [(a1_1, a1_3, a1_2, r32.2.2.1, r32.2.2.2.1)]).bind fun l53 => some (PR.ok (l53, r32.2.1, a1002_3, a1002_4, a1002_5, a1002_6))) (fun J4 => (check_kept.f k a1_1).bind fun r58 => cond r58 (PR.bind (check_fail.f k 5 a1_3) fun r60 => J4 ()) (J4 ()))
set_option maxRecDepth 100000 in
theorem check_checker_function.okg {Rc : CK} (hR : Rc.Good) {k : Nat} {a0_0 : List (ByteArray × Int × Int × Int × List (Int × Int × ByteArray))} {a0_1 : List ByteArray} {a1002_0 : ByteArray} {a1002_1 : Int} {a1002_2 : Int} {a1002_3 : Int} {a1002_4 : List (Int × Int × ByteArray)} {a1002_5 : List ByteArray} {a1002_6 : Int} {a1002_7 : List ByteArray} {a1_0 : Int} {a1_1 : ByteArray} {a1_2 : Int} {a1_3 : Int} {a1_4 : List Tree} {b0 : Nat} {H_a0_0 : Frag} {A_a0_0 : Option Addr} {c_a0_0 : Nat} {H_a0_1 : Frag} {A_a0_1 : Option Addr} {c_a0_1 : Nat} {b1002_ : Nat} {H_a1002_4 : Frag} {A_a1002_4 : Option Addr} {c_a1002_4 : Nat} {H_a1002_5 : Frag} {A_a1002_5 : Option Addr} {c_a1002_5 : Nat} {H_a1002_7 : Frag} {A_a1002_7 : Option Addr} {c_a1002_7 : Nat} {H_a1_4 : Frag} {A_a1_4 : Option Addr} {c_a1_4 : Nat} {G : Frag} {r : PR (List (ByteArray × Int × Int × Int × List (Int × Int × ByteArray)) × List ByteArray × Int × List (Int × Int × ByteArray) × List ByteArray × Int) (Int × Int)} (h : check_checker_function.g Rc k a0_0 a0_1 a1002_0 a1002_1 a1002_2 a1002_3 a1002_4 a1002_5 a1002_6 a1002_7 a1_0 a1_1 a1_2 a1_3 a1_4 = some r) (R_a0_0 : OwnR rs42 42 H_a0_0 (.slice A_a0_0 a0_0.length c_a0_0) a0_0) (R_a0_1 : OwnT encS 9 1 H_a0_1 (.slice A_a0_1 a0_1.length c_a0_1) a0_1) (R_a1002_4 : OwnT e53 53 3 H_a1002_4 (.slice A_a1002_4 a1002_4.length c_a1002_4) a1002_4) (R_a1002_5 : OwnT encS 9 1 H_a1002_5 (.slice A_a1002_5 a1002_5.length c_a1002_5) a1002_5) (R_a1002_7 : RdT encS 1 H_a1002_7 (.slice A_a1002_7 a1002_7.length c_a1002_7) a1002_7) (R_a1_4 : RdR (rTree 36) H_a1_4 (.slice A_a1_4 a1_4.length c_a1_4) a1_4) (hG : GlP G) : Ct Tryz.prog 36 #[pt b0, .agg #[iv a1_0, sv a1_1, iv a1_2, iv a1_3, .slice A_a1_4 a1_4.length c_a1_4]] [bk b0 #[.slice A_a0_0 a0_0.length c_a0_0, .slice A_a0_1 a0_1.length c_a0_1, pt b1002_] 65, H_a0_0, H_a0_1, bk b1002_ #[sv a1002_0, iv a1002_1, iv a1002_2, iv a1002_3, .slice A_a1002_4 a1002_4.length c_a1002_4, .slice A_a1002_5 a1002_5.length c_a1002_5, iv a1002_6, .slice A_a1002_7 a1002_7.length c_a1002_7] 63, H_a1002_4, H_a1002_5] [H_a1002_7, H_a1_4, G] (PR.Post failC (fun (r : List (ByteArray × Int × Int × Int × List (Int × Int × ByteArray)) × List ByteArray × Int × List (Int × Int × ByteArray) × List ByteArray × Int) e l1 => ∃ (H0_ : Frag) (A0_ : Option Addr) (c0_ : Nat) (H1_ : Frag) (A1_ : Option Addr) (c1_ : Nat) (H2_ : Frag) (A2_ : Option Addr) (c2_ : Nat) (H3_ : Frag) (A3_ : Option Addr) (c3_ : Nat), OwnR rs42 42 H0_ (.slice A0_ r.1.length c0_) r.1 ∧ OwnT encS 9 1 H1_ (.slice A1_ r.2.1.length c1_) r.2.1 ∧ OwnT e53 53 3 H2_ (.slice A2_ r.2.2.2.1.length c2_) r.2.2.2.1 ∧ OwnT encS 9 1 H3_ (.slice A3_ r.2.2.2.2.1.length c3_) r.2.2.2.2.1 ∧ e = .returned (.tuple #[]) ∧ l1 = [bk b0 #[.slice A0_ r.1.length c0_, .slice A1_ r.2.1.length c1_, pt b1002_] 65, H0_, H1_, bk b1002_ #[sv a1002_0, iv a1002_1, iv a1002_2, iv r.2.2.1, .slice A2_ r.2.2.2.1.length c2_, .slice A3_ r.2.2.2.2.1.length c3_, iv r.2.2.2.2.2, .slice A_a1002_7 a1002_7.length c_a1002_7] 63, H2_, H3_]) r) := by
 refine ct_enter (args := [pt b0, .agg #[iv a1_0, sv a1_1, iv a1_2, iv a1_3, .slice A_a1_4 a1_4.length c_a1_4]]) Tryz.func36 rfl (Nat.le_of_ble_eq_true rfl) ?_
 intro A X hh_
 obtain ⟨hm_H_a1002_7, hm_H_a1_4, hm_G, _⟩ := hh_
 unfold check_checker_function.g at h
 refine K.eq (env' := [(0, pt b0), (1, .agg #[iv a1_0, sv a1_1, iv a1_2, iv a1_3, .slice A_a1_4 a1_4.length c_a1_4])]) (l' := bk b0 #[.slice A_a0_0 a0_0.length c_a0_0, .slice A_a0_1 a0_1.length c_a0_1, pt b1002_] 65 :: H_a0_0 :: H_a0_1 :: bk b1002_ #[sv a1002_0, iv a1002_1, iv a1002_2, iv a1002_3, .slice A_a1002_4 a1002_4.length c_a1002_4, .slice A_a1002_5 a1002_5.length c_a1002_5, iv a1002_6, .slice A_a1002_7 a1002_7.length c_a1002_7] 63 :: H_a1002_4 :: H_a1002_5 :: X) rfl rfl (ksr (knp #[iv a1_0, sv a1_1, iv a1_2, iv a1_3, .slice A_a1_4 a1_4.length c_a1_4] 36 fun b1 => (knt (k_seq (kpr [(0, 3), (1, 0), (2, 0), (3, 0), (4, 0), (5, 3), (6, 0)] [0, 1] (kpa 0 0 5 rfl (kpx 4 (kpd 1 0 rfl (kpx 1 (kpz ?_))))))))))
 refine kcp h (fun _ hr2 => (check_few.ok hr2 R_a1_4)) rfl ⟨(t7 hm_H_a1_4), trivial⟩ (fun _ e => k_then_panic (kpn 7 e rfl)) fun r2 h => ?_
 rintro _ _ ⟨rfl, rfl⟩
 refine nx_ret0 (knt ?_)
 obtain ⟨J4, hJ4, h⟩ := joinSplit h
 refine k_cut (τ := Unit) (fun t => [(0, pt b0), (3, pt b1)]) (fun t => bk b1 #[iv a1_0, sv a1_1, iv a1_2, iv a1_3, .slice A_a1_4 a1_4.length c_a1_4] 36 :: bk b0 #[.slice A_a0_0 a0_0.length c_a0_0, .slice A_a0_1 a0_1.length c_a0_1, pt b1002_] 65 :: H_a0_0 :: H_a0_1 :: bk b1002_ #[sv a1002_0, iv a1002_1, iv a1002_2, iv a1002_3, .slice A_a1002_4 a1002_4.length c_a1002_4, .slice A_a1002_5 a1002_5.length c_a1002_5, iv a1002_6, .slice A_a1002_7 a1002_7.length c_a1002_7] 63 :: H_a1002_4 :: H_a1002_5 :: X) (fun t => J4 () = some r) ?_ ?_
 ·rintro ⟨⟩ h
  subst hJ4
  refine ksr (kla 0 0 5 rfl (kx 1 (kld 0 2 rfl (kcp h (fun _ hr5 => (check_few.ok hr5 R_a1_4)) rfl ⟨(t7 hm_H_a1_4), trivial⟩ (fun _ e => k_then_panic (kpn 7 e rfl)) fun r5 h => ?_))))
  rintro _ _ ⟨rfl, rfl⟩
  refine nx_ret0 (kns' (kx 2 (kld 0 1 rfl (K.mv4 (K.mv4 (K.mv3 (bnd h fun r7 hr7 h => (kcl (check_checker_global.ok (b0 := b0) (b1002_ := b1002_) hr7 (OwnR.rd R_a0_0) R_a0_1 (OwnT.rd R_a1002_4) (OwnT.rd R_a1002_5) R_a1002_7) rfl ⟨(.tail _ (.head _)), (.tail _ (.tail _ (.head _))), (.tail _ (.tail _ (.tail _ (.head _)))), (t4 hm_H_a1002_7), trivial⟩ ?_))))))))
  rintro _ _ ⟨h8, A9, k10, o11, rfl, rfl⟩
  refine nx_ret3 (kns' (kx 3 (kld 0 2 rfl (kx 1 (knt (k_seq (kpr [(0, 0), (1, 0), (2, 3), (3, 0), (4, 3), (5, 0), (6, 3), (7, 0), (8, 0), (9, 0), (10, 0), (11, 3)] [2, 3] (kpx 2 (kpd 1 1 rfl (kpx 1 ?_))))))))))
  refine kpd 1 3 rfl (kpx 1 (kpd 1 2 rfl (kpx 4 (kpd 0 5 rfl (kpz (kx 1 (knp #[sv a1_1, iv a1_3, iv a1_2, iv 0, nS, nS, iv 0, .slice A_a1002_5 a1002_5.length c_a1002_5] 63 fun b12 => (kx 2 (K.mv1 (kst 2 1 #[.slice A_a0_0 a0_0.length c_a0_0, .slice A9 r7.length k10, pt b12] ?_))))))))))
  refine knt (k_seq (kpr [(0, 0), (1, 3), (2, 0), (3, 3), (4, 0), (5, 3), (6, 0)] [4] (kpx 1 (kpa 0 0 5 rfl (kpx 1 (kpd 0 4 rfl (kpx 1 (kpd 0 2 rfl (bnd h fun l13 hl13 h => (kp_subR (T := 36) (R := (rTree 36)) (xs := a1_4) 0 a1_2 rfl (by kernel_rfl) (by kernel_rfl) (by kernel_rfl) (.inl ⟨rfl, rfl⟩) (.inr ⟨_, .i64, rfl, (by kernel_rfl)⟩) (by kernel_rfl) (by kernel_rfl) hl13 R_a1_4 fun A14 k15 o16 => ?_))))))))))
  refine kpz (k_none (k_none (K.mv3 (K.mv3 (kcp h (fun _ hr17 => (check_checker_bring.ok (b0 := b0) (b1002_ := b12) hr17 (OwnR.rd R_a0_0) (OwnT.rd o11) (RdT.nil e53 3 none_) (OwnT.nil encS 9 1 none_) (OwnT.rd R_a1002_5) R_a1_4 o16)) rfl ⟨(.tail _ (.tail _ (.tail _ (.tail _ (.head _))))), (.tail _ (.head _)), (.head _), (.tail _ (.tail _ (.tail _ (.tail _ (.tail _ (.tail _ (.head _))))))), (t7 hm_H_a1_4), (t7 hm_H_a1_4), trivial⟩ (fun _ e => k_then_panic (kpn 7 e rfl)) fun r17 h => ?_)))))
  rintro _ _ ⟨h19, A20, k21, o22, rfl, rfl⟩
  refine nx_ret3 (K.mv3 (K.drop (kns' (kx 2 (kld 5 4 rfl (kx 1 (kld 5 2 rfl (K.mvN [_, _, _, _, _] _ _ (K.drop (bnd h fun x23 hx23 h => ?_))))))))))
  refine kelR (T := 36) (kd := .i64) (R := (rTree 36)) rfl hx23 R_a1_4 fun p24 u27 q28 e25 y26 => ?_
  obtain ⟨A29, k30, rfl, o31⟩ := treeR_mk 36 q28
  refine keN rfl e25 (t8 hm_H_a1_4) (k_none (K.mv3 (K.mv1 (K.mv3 (K.mv4 (K.mvN [_, _, _, _, _, _] _ _ (K.mvN [_, _, _, _, _] _ _ (kcp h (fun _ hr32 => (hR.check_checker_node (b0 := b0) (b1002_ := b12) hr32 R_a0_0 o11 (OwnT.nil e53 53 3 none_) o22 (OwnT.rd R_a1002_5) o31 hG)) rfl ⟨(.tail _ (.tail _ (.head _))), (t3 hm_H_a1_4), (t3 hm_G), trivial⟩ (fun _ e => k_then_panic (kpn 3 e rfl)) fun r32 h => ?_))))))))
  rintro _ _ ⟨h34, A35, k36, h38, A39, k40, h42, A43, k44, h46, A47, k48, o37, o41, o45, o49, rfl, rfl⟩
  refine nx_ret (knt (k_seq (kpr [(0, 0), (1, 0), (2, 0), (3, 0), (4, 0), (5, 3), (6, 0), (7, 0), (8, 0), (9, 3), (10, 0), (11, 0), (12, 3), (13, 1)] [0, 3] (kpx 5 (kpd 0 0 rfl (kpx 3 (kpd 0 2 rfl (kpx 2 (kpa 1 0 5 rfl (kpt ?_))))))))))
  refine ons #[sv a1_1, iv a1_3, iv a1_2, iv r32.2.2.1, .slice A43 r32.2.2.2.1.length k44] 42 1 fun b50 => (kan [1, 4] rfl (kpz (K.mvN [_, _, _, _, _] _ _ (K.mv1 (k_row (T := 42) (n := 1) (xs := [(a1_1, a1_3, a1_2, r32.2.2.1, r32.2.2.2.1)]) (RowI.one (rs42_o (x := (a1_1, a1_3, a1_2, r32.2.2.1, r32.2.2.2.1)) o45)) rfl rfl (Nat.le_of_ble_eq_true rfl) fun h51 o52 => (K.mv2 (bnd h fun l53 hl53 h => (kapR rfl ety25 rfl hl53 o37 o52 fun h54 A55 k56 o57 => (kx 3 (K.mv1 ?_))))))))))
  refine kst 0 1 #[.slice A55 l53.length k56, .slice A39 r32.2.1.length k40, pt b12] (knr (kx 4 (kst 2 1 #[.slice A55 l53.length k56, .slice A39 r32.2.1.length k40, pt b1002_] (K.mv3 (K.drop (K.mv3 (K.drop (knl (k_fall ?_)))))))))
  obtain rfl := Option.some.inj h
  exact kdv (.tuple #[]) [bk b0 #[.slice A55 l53.length k56, .slice A39 r32.2.1.length k40, pt b1002_] 65, h54, h38, bk b1002_ #[sv a1002_0, iv a1002_1, iv a1002_2, iv a1002_3, .slice A_a1002_4 a1002_4.length c_a1002_4, .slice A_a1002_5 a1002_5.length c_a1002_5, iv a1002_6, .slice A_a1002_7 a1002_7.length c_a1002_7] 63, H_a1002_4, H_a1002_5] (k_end (PR.okI ⟨h54, A55, k56, h38, A39, k40, H_a1002_4, A_a1002_4, c_a1002_4, H_a1002_5, A_a1002_5, c_a1002_5, o57, o41, R_a1002_4, R_a1002_5, rfl, rfl⟩))
 ·skip
  refine ksr (kx 1 (kld 0 1 rfl (bnd h fun r58 hr58 h => (kcv (check_kept.ok hr58) trivial (knt ?_)))))
  refine kcn h (fun h => ?_) fun h => ?_
  ·refine k_region (kx 1 (kld 0 3 rfl (kcp h (fun _ hr60 => (check_fail.ok hr60)) rfl trivial (fun _ e => k_then_panic (kpn 7 e rfl)) fun r60 h => ?_)))
   rintro _ _ ⟨rfl, rfl⟩
   exact nx_ret0 (knt (k_meet () h sb rfl))
  ·exact k_skip (k_then (k_meet () h sb rfl))
def CK.at : Nat → CK
 | 0 => ⟨fun _ _ _ _ _ _ _ _ _ _ _ _ _ _ _ _ => none, fun _ _ _ _ _ _ _ _ _ _ _ => none, fun _ _ _ _ _ _ _ _ _ _ _ _ _ _ _ _ => none, fun _ _ _ _ _ _ _ _ _ _ _ _ _ _ _ _ _ _ _ _ _ _ => none, fun _ _ _ _ _ _ _ _ _ _ _ _ _ _ _ => none⟩
 | k + 1 => ⟨fun a0_0 a0_1 a1002_0 a1002_1 a1002_2 a1002_3 a1002_4 a1002_5 a1002_6 a1002_7 a1_0 a1_1 a1_2 a1_3 a1_4 a2 => check_checker_node.g (CK.at k) k a0_0 a0_1 a1002_0 a1002_1 a1002_2 a1002_3 a1002_4 a1002_5 a1002_6 a1002_7 a1_0 a1_1 a1_2 a1_3 a1_4 a2, fun a0_0 a0_1 a1002_0 a1002_1 a1002_2 a1002_3 a1002_4 a1002_5 a1002_6 a1002_7 a1 => check_checker_nodes.g (CK.at k) k a0_0 a0_1 a1002_0 a1002_1 a1002_2 a1002_3 a1002_4 a1002_5 a1002_6 a1002_7 a1, fun a0_0 a0_1 a1002_0 a1002_1 a1002_2 a1002_3 a1002_4 a1002_5 a1002_6 a1002_7 a1_0 a1_1 a1_2 a1_3 a1_4 a2 => check_checker_exp.g (CK.at k) k a0_0 a0_1 a1002_0 a1002_1 a1002_2 a1002_3 a1002_4 a1002_5 a1002_6 a1002_7 a1_0 a1_1 a1_2 a1_3 a1_4 a2, fun a0_0 a0_1 a1002_0 a1002_1 a1002_2 a1002_3 a1002_4 a1002_5 a1002_6 a1002_7 a1_0 a1_1 a1_2 a1_3 a1_4 a2 a3_0 a3_1 a3_2 a3_3 a3_4 a4 => check_checker_loop.g (CK.at k) k a0_0 a0_1 a1002_0 a1002_1 a1002_2 a1002_3 a1002_4 a1002_5 a1002_6 a1002_7 a1_0 a1_1 a1_2 a1_3 a1_4 a2 a3_0 a3_1 a3_2 a3_3 a3_4 a4, fun a0_0 a0_1 a1002_0 a1002_1 a1002_2 a1002_3 a1002_4 a1002_5 a1002_6 a1002_7 a1_0 a1_1 a1_2 a1_3 a1_4 => check_checker_function.g (CK.at k) k a0_0 a0_1 a1002_0 a1002_1 a1002_2 a1002_3 a1002_4 a1002_5 a1002_6 a1002_7 a1_0 a1_1 a1_2 a1_3 a1_4⟩
theorem CK.good : ∀ k, (CK.at k).Good
 | 0 => ⟨fun h _ _ _ _ _ _ _ => (by cases (show (none : Option _) = some _ from h)), fun h _ _ _ _ _ _ _ => (by cases (show (none : Option _) = some _ from h)), fun h _ _ _ _ _ _ _ => (by cases (show (none : Option _) = some _ from h)), fun h _ _ _ _ _ _ _ _ _ => (by cases (show (none : Option _) = some _ from h)), fun h _ _ _ _ _ _ _ => (by cases (show (none : Option _) = some _ from h))⟩
 | k + 1 => ⟨fun h R_a0_0 R_a0_1 R_a1002_4 R_a1002_5 R_a1002_7 R_a1_4 hG => check_checker_node.okg (CK.good k) h R_a0_0 R_a0_1 R_a1002_4 R_a1002_5 R_a1002_7 R_a1_4 hG, fun h R_a0_0 R_a0_1 R_a1002_4 R_a1002_5 R_a1002_7 R_a1 hG => check_checker_nodes.okg (CK.good k) h R_a0_0 R_a0_1 R_a1002_4 R_a1002_5 R_a1002_7 R_a1 hG, fun h R_a0_0 R_a0_1 R_a1002_4 R_a1002_5 R_a1002_7 R_a1_4 hG => check_checker_exp.okg (CK.good k) h R_a0_0 R_a0_1 R_a1002_4 R_a1002_5 R_a1002_7 R_a1_4 hG, fun h R_a0_0 R_a0_1 R_a1002_4 R_a1002_5 R_a1002_7 R_a1_4 R_a2 R_a3_4 hG => check_checker_loop.okg (CK.good k) h R_a0_0 R_a0_1 R_a1002_4 R_a1002_5 R_a1002_7 R_a1_4 R_a2 R_a3_4 hG, fun h R_a0_0 R_a0_1 R_a1002_4 R_a1002_5 R_a1002_7 R_a1_4 hG => check_checker_function.okg (CK.good k) h R_a0_0 R_a0_1 R_a1002_4 R_a1002_5 R_a1002_7 R_a1_4 hG⟩
def check_checker_node.f (k : Nat) (a0_0 : List (ByteArray × Int × Int × Int × List (Int × Int × ByteArray))) (a0_1 : List ByteArray) (a1002_0 : ByteArray) (a1002_1 : Int) (a1002_2 : Int) (a1002_3 : Int) (a1002_4 : List (Int × Int × ByteArray)) (a1002_5 : List ByteArray) (a1002_6 : Int) (a1002_7 : List ByteArray) (a1_0 : Int) (a1_1 : ByteArray) (a1_2 : Int) (a1_3 : Int) (a1_4 : List Tree) (a2 : Bool) : Option (PR (List (ByteArray × Int × Int × Int × List (Int × Int × ByteArray)) × List ByteArray × Int × List (Int × Int × ByteArray) × List ByteArray × Int) (Int × Int)) := check_checker_node.g (CK.at k) k a0_0 a0_1 a1002_0 a1002_1 a1002_2 a1002_3 a1002_4 a1002_5 a1002_6 a1002_7 a1_0 a1_1 a1_2 a1_3 a1_4 a2
theorem check_checker_node.ok {k : Nat} {a0_0 : List (ByteArray × Int × Int × Int × List (Int × Int × ByteArray))} {a0_1 : List ByteArray} {a1002_0 : ByteArray} {a1002_1 : Int} {a1002_2 : Int} {a1002_3 : Int} {a1002_4 : List (Int × Int × ByteArray)} {a1002_5 : List ByteArray} {a1002_6 : Int} {a1002_7 : List ByteArray} {a1_0 : Int} {a1_1 : ByteArray} {a1_2 : Int} {a1_3 : Int} {a1_4 : List Tree} {a2 : Bool} {b0 : Nat} {H_a0_0 : Frag} {A_a0_0 : Option Addr} {c_a0_0 : Nat} {H_a0_1 : Frag} {A_a0_1 : Option Addr} {c_a0_1 : Nat} {b1002_ : Nat} {H_a1002_4 : Frag} {A_a1002_4 : Option Addr} {c_a1002_4 : Nat} {H_a1002_5 : Frag} {A_a1002_5 : Option Addr} {c_a1002_5 : Nat} {H_a1002_7 : Frag} {A_a1002_7 : Option Addr} {c_a1002_7 : Nat} {H_a1_4 : Frag} {A_a1_4 : Option Addr} {c_a1_4 : Nat} {G : Frag} {r : PR (List (ByteArray × Int × Int × Int × List (Int × Int × ByteArray)) × List ByteArray × Int × List (Int × Int × ByteArray) × List ByteArray × Int) (Int × Int)} (h : check_checker_node.f k a0_0 a0_1 a1002_0 a1002_1 a1002_2 a1002_3 a1002_4 a1002_5 a1002_6 a1002_7 a1_0 a1_1 a1_2 a1_3 a1_4 a2 = some r) (R_a0_0 : OwnR rs42 42 H_a0_0 (.slice A_a0_0 a0_0.length c_a0_0) a0_0) (R_a0_1 : OwnT encS 9 1 H_a0_1 (.slice A_a0_1 a0_1.length c_a0_1) a0_1) (R_a1002_4 : OwnT e53 53 3 H_a1002_4 (.slice A_a1002_4 a1002_4.length c_a1002_4) a1002_4) (R_a1002_5 : OwnT encS 9 1 H_a1002_5 (.slice A_a1002_5 a1002_5.length c_a1002_5) a1002_5) (R_a1002_7 : RdT encS 1 H_a1002_7 (.slice A_a1002_7 a1002_7.length c_a1002_7) a1002_7) (R_a1_4 : RdR (rTree 36) H_a1_4 (.slice A_a1_4 a1_4.length c_a1_4) a1_4) (hG : GlP G) : Ct Tryz.prog 27 #[pt b0, .agg #[iv a1_0, sv a1_1, iv a1_2, iv a1_3, .slice A_a1_4 a1_4.length c_a1_4], bv a2] [bk b0 #[.slice A_a0_0 a0_0.length c_a0_0, .slice A_a0_1 a0_1.length c_a0_1, pt b1002_] 65, H_a0_0, H_a0_1, bk b1002_ #[sv a1002_0, iv a1002_1, iv a1002_2, iv a1002_3, .slice A_a1002_4 a1002_4.length c_a1002_4, .slice A_a1002_5 a1002_5.length c_a1002_5, iv a1002_6, .slice A_a1002_7 a1002_7.length c_a1002_7] 63, H_a1002_4, H_a1002_5] [H_a1002_7, H_a1_4, G] (PR.Post failC (fun (r : List (ByteArray × Int × Int × Int × List (Int × Int × ByteArray)) × List ByteArray × Int × List (Int × Int × ByteArray) × List ByteArray × Int) e l1 => ∃ (H0_ : Frag) (A0_ : Option Addr) (c0_ : Nat) (H1_ : Frag) (A1_ : Option Addr) (c1_ : Nat) (H2_ : Frag) (A2_ : Option Addr) (c2_ : Nat) (H3_ : Frag) (A3_ : Option Addr) (c3_ : Nat), OwnR rs42 42 H0_ (.slice A0_ r.1.length c0_) r.1 ∧ OwnT encS 9 1 H1_ (.slice A1_ r.2.1.length c1_) r.2.1 ∧ OwnT e53 53 3 H2_ (.slice A2_ r.2.2.2.1.length c2_) r.2.2.2.1 ∧ OwnT encS 9 1 H3_ (.slice A3_ r.2.2.2.2.1.length c3_) r.2.2.2.2.1 ∧ e = .returned (.tuple #[]) ∧ l1 = [bk b0 #[.slice A0_ r.1.length c0_, .slice A1_ r.2.1.length c1_, pt b1002_] 65, H0_, H1_, bk b1002_ #[sv a1002_0, iv a1002_1, iv a1002_2, iv r.2.2.1, .slice A2_ r.2.2.2.1.length c2_, .slice A3_ r.2.2.2.2.1.length c3_, iv r.2.2.2.2.2, .slice A_a1002_7 a1002_7.length c_a1002_7] 63, H2_, H3_]) r) := check_checker_node.okg (CK.good k) h R_a0_0 R_a0_1 R_a1002_4 R_a1002_5 R_a1002_7 R_a1_4 hG
end Go.Proofs.YtdkgnlaneccioaaGreatDoor
namespace Go.Proofs.YtdkgnlaneccioaaGreatDoor
open Go Go.RowKit
section
variable {A : World} {ds : List Deferred} {n0 : Nat} {env env' : Env} {l l' X : List Frag} {q : Act → World → Prop} {P : Program} {Q : Exit → Act → World → Prop} {ops : Array Oper} {os rest : List Oper} {o : Oper} {α : Type} {R : Rich α}
theorem kl_estoreR0 {x0 x' : α} {t : List α} {h Hn : Frag} {A' : Option Addr} {c : Nat} {T T1 : TypeId} {p v : Value} {s y : Operand} (ho : o.op = .store T1 s y) (hg : wantE ops env o = some true) (hd : inB n0 o.dst = true)
  (hs : evalE env s = some p) (hy : evalE env y = some v) (hsz : (P.info? T1).map (·.size) = some v.cells.size) (hp : Place A' 0 p) (hO : OwnR R T h (.slice A' (x0 :: t).length c) (x0 :: t)) (hx : R.own x' Hn v.cells.toList)
  (hk : ∀ h', OwnR R T h' (.slice A' (x' :: t).length c) (x' :: t) → K ds A n0 (putE env o.dst undef) (h' :: l) (wpList P ops Q rest)) : K ds A n0 env (h :: Hn :: l) (wpList P ops Q (o :: rest)) := by
 obtain ⟨Ho, Hi, cs, rfl, hab, hOwn, H1, H2, c1, c2, rfl, hbc, rfl, h1, h2⟩ := hO
 refine k_split hab (K.mv1 (k_split hbc (K.drop (K.mv1 ?_))))
 obtain ⟨hl1, ho1⟩ := R.len h1
 obtain ⟨hlx, hox⟩ := R.len hx
 refine kl_op hg fun a w ha hw => ?_
 cases hif : P.info? T1 with
 | none => rw [hif] at hsz; cases hsz
 | some i =>
  rw [hif] at hsz
  have hsize : i.size = v.cells.size := Option.some.inj hsz
  obtain ⟨hlen, hones, hc⟩ := hOwn
  rcases hc with ⟨he, h0⟩ | ⟨g, cap, cur, he, rfl, h4, h5, h6, h7⟩
  ·simp at h0
  ·cases he
   obtain ⟨b, of_, he, rfl⟩ := hp
   cases he
   have hgc : w.heap[g]? = some (.cells cur T (0, 0)) := hw.sat.1 g _ (by simp [blk])
   have hge : R.sz ≤ cur.toList.length := by
    have e : c1.length + c2.length ≤ cur.toList.length := by
     rw [← List.length_append, ← h7, List.length_take]; omega
    omega
   have hst := run_storeCells_at P g 0 T v.cells.toList 0 cur w hgc (by rw [hlx]; simpa using hge) hox
   simp only [Nat.add_zero, Nat.zero_add, List.take_zero, List.nil_append] at hst
   have hr : (Instr.storeAt T1 (.pointer (some ⟨g, 0 + 0, none⟩)) v).run P w = .ok () (w.setRow g (v.cells.toList ++ cur.toList.drop v.cells.toList.length).toArray) := by
    simp [Instr.storeAt, Instr.sureAddr, storeVar, sizeOf, typeInfo, hif, hsize]
    simpa using hst
   have hOwn' : Own T R.sz (blk g (.cells (v.cells.toList ++ cur.toList.drop v.cells.toList.length).toArray T (0, 0))) (.slice (some ⟨g, 0, none⟩) (x' :: t).length c) (x' :: t).length (v.cells.toList ++ c2) := by
    refine ⟨by rw [List.length_append, hl1] at hlen; rw [List.length_append, hlx]; exact hlen, fun u hu => ?_, .inr ⟨g, c, _, rfl, rfl, h4, h5, ?_, ?_⟩⟩
    ·rcases List.mem_append.1 hu with hu | hu
     ·exact hox u hu
     ·exact hones u (List.mem_append_right _ hu)
    ·have h6' : cur.toList.length = c * R.sz := by rw [Array.length_toList]; exact h6
     rw [List.size_toArray, List.length_append, List.length_drop, hlx, ← h6']
     omega
    ·have e1 : ((x' :: t).length * R.sz) = R.sz + t.length * R.sz := by rw [List.length_cons, Nat.add_mul, Nat.one_mul, Nat.add_comm]
     have e2 : (x0 :: t).length * R.sz = R.sz + t.length * R.sz := by rw [List.length_cons, Nat.add_mul, Nat.one_mul, Nat.add_comm]
     rw [e2] at h7
     show (v.cells.toList ++ cur.toList.drop v.cells.toList.length).take _ = _
     rw [e1, ← hlx, List.take_length_add_append]
     congr 1
     have h8 := congrArg (List.drop R.sz) h7
     rw [List.drop_take, Nat.add_sub_cancel_left, ← hl1, List.drop_left, hl1] at h8
     rw [hlx]
     exact h8
   unfold Oper.wp execOp
   simp only [ho, ha.eval hs, ha.eval hy, Sem.run_bind, hr, Result.andThen_ok, Sem.run_pure]
   have hk' : K ds A n0 (putE env o.dst undef) (blk g (.cells (v.cells.toList ++ cur.toList.drop v.cells.toList.length).toArray T (0, 0)) :: H2 :: Hn :: l) (wpList P ops Q rest) :=
    K.mv2 (K.mv2 (K.mv1 (k_or fun hap => K.mv1 (k_or fun hap2 => hk _ ⟨_, _, _, rfl, hap2, hOwn', Hn, H2, _, c2, rfl, hap, rfl, hx, h2⟩))))
   exact hk' _ _ (ha.putE _ hd) (hw.setRow _)
def lSet0 {α : Type} (l : List α) (x : α) : Option (List α) := match l with | [] => none | _ :: t => some (x :: t)
theorem lSet0_len {α : Type} {l l' : List α} {x : α} (h : lSet0 l x = some l') : l'.length = l.length := by
 cases l with
 | nil => cases h
 | cons y t => cases h; rfl
theorem kl_estoreL0 {x' : α} {xs xs' : List α} {h Hn : Frag} {A' : Option Addr} {c : Nat} {T T1 : TypeId} {p v : Value} {s y : Operand} (ho : o.op = .store T1 s y) (hg : wantE ops env o = some true) (hd : inB n0 o.dst = true)
  (hs : evalE env s = some p) (hy : evalE env y = some v) (hsz : (P.info? T1).map (·.size) = some v.cells.size) (hp : Place A' 0 p) (hO : OwnR R T h (.slice A' xs.length c) xs) (hx : R.own x' Hn v.cells.toList) (hset : lSet0 xs x' = some xs')
  (hk : ∀ h', OwnR R T h' (.slice A' xs'.length c) xs' → K ds A n0 (putE env o.dst undef) (h' :: l) (wpList P ops Q rest)) : K ds A n0 env (h :: Hn :: l) (wpList P ops Q (o :: rest)) := by
 cases xs with
 | nil => cases hset
 | cons x0 t => cases hset; exact kl_estoreR0 ho hg hd hs hy hsz hp hO hx hk
end
end Go.Proofs.YtdkgnlaneccioaaGreatDoor
namespace Go.Proofs.YtdkgnlaneccioaaGreatDoor
open Go Go.RowKit
def check_Check.f (k : Nat) (a0 : ByteArray) : Option (List (ByteArray × Int × Int × Int × List (Int × Int × ByteArray)) × List ByteArray × Int × Int) := (parse_Parse.f k a0).bind fun r3 => cond (r3.2.2.2.2.2.1 != 0) (some ([], [], r3.2.2.2.2.2.1, r3.2.2.2.2.2.2)) (joinF (fun (_ : Unit) => PR.elim (check_checker_node.f k ([((⟨#[]⟩ : ByteArray), 0, 0, 0, [])]) ([]) (⟨#[]⟩ : ByteArray) r3.2.2.2.1 0 0 ([]) ([]) 0 ([]) r3.1 r3.2.1 r3.2.2.1 r3.2.2.2.1 r3.2.2.2.2.1 false) (fun i17 => some ([], [], i17.1, i17.2)) fun r16 => (lIdx r16.1 0).bind fun x34 => (lSet0 r16.1 ((⟨#[]⟩ : ByteArray), r3.2.2.2.1, 0, r16.2.2.1, r16.2.2.2.1)).bind fun l43 => some (l43, r16.2.1, 0, 0)) (fun J10 => (parse_Height.f k r3.1 r3.2.1 r3.2.2.1 r3.2.2.2.1 r3.2.2.2.2.1).bind fun r47 => cond (decide (r47 > 100)) (PR.elim (check_fail.f k 6 r3.2.2.2.1) (fun i50 => some ([], [], i50.1, i50.2)) fun r49 => J10 ()) (J10 ())))
set_option maxRecDepth 100000 in
theorem check_Check.ok {k : Nat} {a0 : ByteArray} {G : Frag} {r : List (ByteArray × Int × Int × Int × List (Int × Int × ByteArray)) × List ByteArray × Int × Int} (h : check_Check.f k a0 = some r) (hG : GlP G) : Ct Tryz.prog 11 #[sv a0] [] [G] (fun e l1 => ∃ (H0_ : Frag) (A0_ : Option Addr) (c0_ : Nat) (H1_ : Frag) (A1_ : Option Addr) (c1_ : Nat), OwnR rs42 42 H0_ (.slice A0_ r.1.length c0_) r.1 ∧ OwnT encS 9 1 H1_ (.slice A1_ r.2.1.length c1_) r.2.1 ∧ e = .returned (.tuple #[.agg #[.slice A0_ r.1.length c0_, .slice A1_ r.2.1.length c1_], .agg #[iv r.2.2.1, iv r.2.2.2]]) ∧ l1 = [H0_, H1_]) := by
 refine ct_enterD (args := [sv a0]) Tryz.func11 rfl (Nat.le_of_ble_eq_true rfl) ?_
 intro A X hh_
 obtain ⟨hm_G, _⟩ := hh_
 unfold check_Check.f at h
 refine ksr (knp #[nS, nS] 28 fun b1 => (knp #[iv 0, iv 0] 31 fun b2 => (kns' (kx 1 (bnd h fun r3 hr3 h => (kcl (parse_Parse.ok hr3 hG) rfl ⟨(t2 hm_G), trivial⟩ ?_))))))
 rintro _ _ ⟨h4, A5, k6, o7, rfl, rfl⟩
 refine nx_ret1 (kx 3 (knp #[iv 0, sv noS, iv 0, iv 0, nS] 36 fun b8 => (kst 0 5 #[iv r3.1, sv r3.2.1, iv r3.2.2.1, iv r3.2.2.2.1, .slice A5 r3.2.2.2.2.1.length k6] (K.mv2 (kst 0 2 #[iv r3.2.2.2.2.2.1, iv r3.2.2.2.2.2.2] (knt (k_seq (ksr (kx 1 (kld 0 0 rfl ?_))))))))))
 refine kx 1 (knt ?_)
 refine kcn h (fun h => ?_) fun h => ?_
 ·refine k_seq (k_nopan (kpr [(0, 0), (1, 3), (2, 1)] [0] (kpx 1 (kpa 0 0 2 rfl (kpt (K.mv3 (ost 0 2 #[nS, nS] (kan [1] rfl (kpz (K.mv1 ?_))))))))))
  refine kst 0 2 #[iv r3.2.2.2.2.2.1, iv r3.2.2.2.2.2.2] (K.mv2 (K.drop (K.mv2 (K.drop (knl (k_np (k_then (k_ret (k_then_ret ?_)))))))))
  obtain rfl := Option.some.inj h
  exact k_doneD0 (v := .tuple #[.agg #[nS, nS], .agg #[iv r3.2.2.2.2.2.1, iv r3.2.2.2.2.2.2]]) [.val (nS), .val (nS), .val (iv r3.2.2.2.2.2.1), .val (iv r3.2.2.2.2.2.2)] [.ld ⟨b1, 0, none⟩ (nS), .ld ⟨b1, 1, none⟩ (nS), .ld ⟨b2, 0, none⟩ (iv r3.2.2.2.2.2.1), .ld ⟨b2, 1, none⟩ (iv r3.2.2.2.2.2.2)] [none_, none_] (by kernel_rfl) (by kernel_rfl) ⟨⟨1, _, _, _, rfl, rfl, rfl⟩, ⟨1, _, _, _, rfl, rfl, rfl⟩, ⟨0, _, _, _, rfl, rfl, rfl⟩, ⟨0, _, _, _, rfl, rfl, rfl⟩, trivial⟩ (k_none (k_none (K.mv2 (K.drop (K.mv2 (K.drop (k_end ⟨none_, none, 0, none_, none, 0, (OwnR.nil rs42 42 none_), (OwnT.nil encS 9 1 none_), rfl, rfl⟩)))))))
 ·refine k_skip (k_then (ksr (kx 1 (kl_defer { target := .fn (.func 25) #[pt b1, pt b2], args := #[] } (by kernel_rfl) (by kernel_rfl) (by kernel_rfl) (knt ?_)))))
  obtain ⟨J10, hJ10, h⟩ := joinSplit h
  refine k_cut (τ := Unit) (fun t => [(2, pt b1), (3, pt b2), (4, pt b8)]) (fun t => bk b2 #[iv r3.2.2.2.2.2.1, iv r3.2.2.2.2.2.2] 31 :: bk b8 #[iv r3.1, sv r3.2.1, iv r3.2.2.1, iv r3.2.2.2.1, .slice A5 r3.2.2.2.2.1.length k6] 36 :: h4 :: bk b1 #[nS, nS] 28 :: X) (fun t => J10 () = some r) ?_ ?_
  ·rintro ⟨⟩ h
   subst hJ10
   refine ksr (kx 1 (kld 1 3 rfl (kx 2 (knp #[sv noS, iv r3.2.2.2.1, iv 0, iv 0, nS, nS, iv 0, nS] 63 fun b11 => (kx 1 (knp #[nS, nS, pt b11] 65 fun b12 => (kx 1 (kns' (kx 2 (kns #[sv noS, iv 0, iv 0, iv 0, nS] 42 1 fun b13 => ?_))))))))))
   refine kx 3 (K.mv1 (kst 0 1 #[.slice (some ⟨b13, 0, none⟩) 1 1, nS, pt b11] (kns' (kx 1 (kla 4 0 5 rfl (K.mv4 (K.drop (k_none (K.mv2 (k_row (T := 42) (n := 1) (xs := [((⟨#[]⟩ : ByteArray), 0, 0, 0, [])]) (RowI.one (rs42_o (x := ((⟨#[]⟩ : ByteArray), 0, 0, 0, [])) (OwnT.nil e53 53 3 none_))) rfl rfl (Nat.le_of_ble_eq_true rfl) fun h14 o15 => ?_))))))))))
   refine k_none (k_none (k_none (k_none (K.mvN [_, _, _, _, _, _] _ _ (K.mv1 (K.mvN [_, _, _, _, _] _ _ (K.mvN [_, _, _, _, _, _] _ _ ?_)))))))
   rcases prElim h with ⟨i17, hr16, h⟩ | ⟨r16, hr16, h⟩
   ·refine kcl (check_checker_node.ok (b0 := b12) (b1002_ := b11) hr16 o15 (OwnT.nil encS 9 1 none_) (OwnT.nil e53 53 3 none_) (OwnT.nil encS 9 1 none_) (RdT.nil encS 1 none_) (OwnR.rd o7) hG) rfl ⟨(.head _), (.tail _ (.tail _ (.head _))), (t4 hm_G), trivial⟩ ?_
    rintro _ _ ⟨rfl, rfl⟩
    refine nx_pan (k_then_panic (K.drop (K.mv1 (K.drop (K.mv1 ?_)))))
    obtain rfl := Option.some.inj h
    exact k_panD (v := .tuple #[.agg #[nS, nS], .agg #[iv i17.1, iv i17.2]]) (bk b1 #[nS, nS] 28 :: bk b2 #[iv i17.1, iv i17.2] 31 :: X) (fun _ => by kernel_rfl) (fun w_ hw_ => check_Check_1_pan hw_) [.val (nS), .val (nS), .val (iv i17.1), .val (iv i17.2)] [.ld ⟨b1, 0, none⟩ (nS), .ld ⟨b1, 1, none⟩ (nS), .ld ⟨b2, 0, none⟩ (iv i17.1), .ld ⟨b2, 1, none⟩ (iv i17.2)] [none_, none_] (by kernel_rfl) (by kernel_rfl) ⟨⟨0, _, _, _, rfl, rfl, rfl⟩, ⟨0, _, _, _, rfl, rfl, rfl⟩, ⟨1, _, _, _, rfl, rfl, rfl⟩, ⟨1, _, _, _, rfl, rfl, rfl⟩, trivial⟩ fun w_ hw_ => (⟨⟨none_, none, 0, none_, none, 0, (OwnR.nil rs42 42 none_), (OwnT.nil encS 9 1 none_), rfl, rfl⟩, St.nones 2 hw_.tail.tail⟩)
   refine kcl (check_checker_node.ok (b0 := b12) (b1002_ := b11) hr16 o15 (OwnT.nil encS 9 1 none_) (OwnT.nil e53 53 3 none_) (OwnT.nil encS 9 1 none_) (RdT.nil encS 1 none_) (OwnR.rd o7) hG) rfl ⟨(.head _), (.tail _ (.tail _ (.head _))), (t4 hm_G), trivial⟩ ?_
   rintro _ _ ⟨h18, A19, k20, h22, A23, k24, h26, A27, k28, h30, A31, k32, o21, o25, o29, o33, rfl, rfl⟩
   refine nx_ret (K.mvN [_, _, _, _, _, _] _ _ (K.drop (K.mvN [_, _, _, _, _, _, _] _ _ (K.drop (knt (k_seq (k_nopan (kpr [(0, 0), (1, 0), (2, 0), (3, 0), (4, 3), (5, 0), (6, 0), (7, 0), (8, 3), (9, 0), (10, 0), (11, 3)] [0, 3] (kpx 4 (kpd 0 0 rfl ?_))))))))))
   refine kpx 3 (kpd 0 2 rfl (kpx 2 (kpa 1 0 5 rfl (kpz (bnd h fun x34 hx34 h => (kelR (T := 42) (kd := .i64) (R := rs42) rfl hx34 (OwnR.rd o21) fun p35 u38 q39 e36 y37 => ?_))))))
   obtain ⟨A40, k41, rfl, o42⟩ := rs42_r q39
   refine K.mv4 (K.mv2 (bnd h fun l43 hl43 h => (kl_estoreL0 (v := .agg #[sv noS, iv r3.2.2.2.1, iv 0, iv r16.2.2.1, .slice A27 r16.2.2.2.1.length k28]) (x' := ((⟨#[]⟩ : ByteArray), r3.2.2.2.1, 0, r16.2.2.1, r16.2.2.2.1)) rfl (by kernel_rfl) (by kernel_rfl) (by kernel_rfl) (by kernel_rfl) (by kernel_rfl) y37 o21 (rs42_o (x := ((⟨#[]⟩ : ByteArray), r3.2.2.2.1, 0, r16.2.2.1, r16.2.2.2.1)) o29) hl43 fun h44 o45 => ?_)))
   have g46 := lSet0_len hl43
   refine K.weak (env' := [(2, pt b1), (3, pt b2), (5, pt b12), (50, .agg #[sv noS, iv r3.2.2.2.1, iv 0, iv r16.2.2.1, .slice A27 r16.2.2.2.1.length k28])]) ?_ ⟨gr, gr, gr, (by first | rfl | (rw [g46]; rfl)), trivial⟩
   refine K.eq (l' := h44 :: bk b12 #[.slice A19 l43.length k20, .slice A23 r16.2.1.length k24, pt b11] 65 :: h22 :: bk b11 #[sv noS, iv r3.2.2.2.1, iv 0, iv r16.2.2.1, .slice A27 r16.2.2.2.1.length k28, .slice A31 r16.2.2.2.2.1.length k32, iv r16.2.2.2.2.2, nS] 63 :: h30 :: bk b2 #[iv r3.2.2.2.2.2.1, iv r3.2.2.2.2.2.2] 31 :: bk b1 #[nS, nS] 28 :: X) rfl (by first | rfl | (rw [g46]; first | done | rfl)) (knl (k_np (k_then (ksr (kx 3 (kla 1 0 2 rfl (K.mv1 (K.drop (K.mv2 (K.drop ?_))))))))))
   refine K.mv2 (K.drop (kx 1 (K.mv3 (kst 0 2 #[.slice A19 l43.length k20, .slice A23 r16.2.1.length k24] (K.mv3 (kst 0 2 #[iv 0, iv 0] (knt (k_ret ?_))))))))
   obtain rfl := Option.some.inj h
   exact k_doneD (fun _ => by kernel_rfl) (check_Check_1_idle (pt b1) (pt b2)) (v := .tuple #[.agg #[.slice A19 l43.length k20, .slice A23 r16.2.1.length k24], .agg #[iv 0, iv 0]]) [.val (.slice A19 l43.length k20), .val (.slice A23 r16.2.1.length k24), .val (iv 0), .val (iv 0)] [.ld ⟨b1, 0, none⟩ (.slice A19 l43.length k20), .ld ⟨b1, 1, none⟩ (.slice A23 r16.2.1.length k24), .ld ⟨b2, 0, none⟩ (iv 0), .ld ⟨b2, 1, none⟩ (iv 0)] [h44, h22] (by kernel_rfl) (by kernel_rfl) ⟨⟨1, _, _, _, rfl, rfl, rfl⟩, ⟨1, _, _, _, rfl, rfl, rfl⟩, ⟨0, _, _, _, rfl, rfl, rfl⟩, ⟨0, _, _, _, rfl, rfl, rfl⟩, trivial⟩ (K.drop (K.drop (k_endD ⟨h44, A19, k20, h22, A23, k24, o45, o25, rfl, rfl⟩)))
  ·skip
   refine ksr (kla 1 0 5 rfl (bnd h fun r47 hr47 h => (kcv (parse_Height.ok hr47 (OwnR.rd o7)) ⟨(.tail _ (.tail _ (.head _))), trivial⟩ (kx 1 (knt ?_)))))
   refine kcn h (fun h => ?_) fun h => ?_
   ·refine k_region (kx 1 (kld 1 3 rfl ?_))
    rcases prElim h with ⟨i50, hr49, h⟩ | ⟨r49, hr49, h⟩
    ·refine kcl (check_fail.ok hr49) rfl trivial ?_
     rintro _ _ ⟨rfl, rfl⟩
     refine nx_pan (k_then_panic (K.mv1 (K.drop (K.mv1 (K.drop (K.mv1 ?_))))))
     obtain rfl := Option.some.inj h
     exact k_panD (v := .tuple #[.agg #[nS, nS], .agg #[iv i50.1, iv i50.2]]) (bk b1 #[nS, nS] 28 :: bk b2 #[iv i50.1, iv i50.2] 31 :: X) (fun _ => by kernel_rfl) (fun w_ hw_ => check_Check_1_pan hw_) [.val (nS), .val (nS), .val (iv i50.1), .val (iv i50.2)] [.ld ⟨b1, 0, none⟩ (nS), .ld ⟨b1, 1, none⟩ (nS), .ld ⟨b2, 0, none⟩ (iv i50.1), .ld ⟨b2, 1, none⟩ (iv i50.2)] [none_, none_] (by kernel_rfl) (by kernel_rfl) ⟨⟨0, _, _, _, rfl, rfl, rfl⟩, ⟨0, _, _, _, rfl, rfl, rfl⟩, ⟨1, _, _, _, rfl, rfl, rfl⟩, ⟨1, _, _, _, rfl, rfl, rfl⟩, trivial⟩ fun w_ hw_ => (⟨⟨none_, none, 0, none_, none, 0, (OwnR.nil rs42 42 none_), (OwnT.nil encS 9 1 none_), rfl, rfl⟩, St.nones 2 hw_.tail.tail⟩)
    refine kcl (check_fail.ok hr49) rfl trivial ?_
    rintro _ _ ⟨rfl, rfl⟩
    exact nx_ret0 (knt (k_meet () h sb rfl))
   ·exact k_skip (k_then (k_meet () h sb rfl))
end Go.Proofs.YtdkgnlaneccioaaGreatDoor
namespace Go.Proofs.YtdkgnlaneccioaaGreatDoor
open Go Go.RowKit
def law13_fixed.f (k : Nat) : Option (Bool) := (check_Check.f k (⟨#[108, 111, 99, 97, 108, 32, 97, 44, 32, 98, 32, 61, 32, 49, 32, 102, 111, 114, 32, 105, 32, 61, 32, 49, 44, 32, 98, 32, 100, 111, 32, 108, 111, 99, 97, 108, 32, 99, 32, 101, 110, 100, 32, 112, 114, 105, 110, 116, 40, 97, 41]⟩ : ByteArray)).bind fun r1 => (check_Check.f k (⟨#[108, 111, 99, 97, 108, 32, 97, 32, 102, 117, 110, 99, 116, 105, 111, 110, 32, 102, 40, 41, 32, 114, 101, 116, 117, 114, 110, 32, 97, 32, 101, 110, 100]⟩ : ByteArray)).bind fun r12 => (check_Check.f k (⟨#[120, 32, 61, 32, 116, 97, 98, 108, 101, 46, 102, 111, 111]⟩ : ByteArray)).bind fun r23 => (cond (r1.2.2.1 == 0) (cond (((r1.1.length : Nat) : Int) == 1) ((lIdx r1.1 0).bind fun x37 => cond (x37.2.2.2.1 == 7) ((lIdx r1.1 0).bind fun x50 => cond (((x50.2.2.2.2.length : Nat) : Int) == 1) (cond (((r1.2.1.length : Nat) : Int) == 1) ((lIdx r1.2.1 0).bind fun x64 => cond (x64.toList == (⟨#[112, 114, 105, 110, 116]⟩ : ByteArray).toList) (cond ((r12.2.2.1 == 5) && ((r12.2.2.2 == 28) && true)) (cond ((r23.2.2.1 == 5) && ((r23.2.2.2 == 4) && true)) ((check_Library.f k (⟨#[116, 97, 98, 108, 101, 46, 115, 111, 114, 116]⟩ : ByteArray)).bind fun r71 => some (r71 == 17)) (some false)) (some false)) (some false)) (some false)) (some false)) (some false)) (some false)) (some false) : Option Bool).bind fun q34 => some (q34)
set_option maxRecDepth 100000 in
theorem law13_fixed.ok {k : Nat} {G : Frag} {r : Bool} (h : law13_fixed.f k = some r) (hG : GlP G) : Ct Tryz.prog 9 #[] [] [G] (fun e l1 => e = .returned (bv r) ∧ l1 = []) := by
 refine ct_enter (args := []) Tryz.func9 rfl (Nat.le_of_ble_eq_true rfl) ?_
 intro A X hh_
 obtain ⟨hm_G, _⟩ := hh_
 unfold law13_fixed.f at h
 refine ksr (kx 1 (kns' (bnd h fun r1 hr1 h => (kcl (check_Check.ok hr1 hG) rfl ⟨hm_G, trivial⟩ ?_))))
 rintro _ _ ⟨h2, A3, k4, h6, A7, k8, o5, o9, rfl, rfl⟩
 refine nx_ret2 (kx 3 (knp #[nS, nS] 28 fun b10 => (knp #[iv 0, iv 0] 31 fun b11 => (K.mv1 (kst 0 2 #[.slice A3 r1.1.length k4, .slice A7 r1.2.1.length k8] (K.mv1 (kst 0 2 #[iv r1.2.2.1, iv r1.2.2.2] (kns' (bnd h fun r12 hr12 h => (kcl (check_Check.ok hr12 hG) rfl ⟨(t4 hm_G), trivial⟩ ?_))))))))))
 rintro _ _ ⟨h13, A14, k15, h17, A18, k19, o16, o20, rfl, rfl⟩
 refine nx_ret2 (kx 3 (knp #[nS, nS] 28 fun b21 => (knp #[iv 0, iv 0] 31 fun b22 => (K.mv1 (kst 0 2 #[.slice A14 r12.1.length k15, .slice A18 r12.2.1.length k19] (K.drop (K.mv1 (K.drop (K.mv1 (K.drop ?_))))))))))
 refine kst 0 2 #[iv r12.2.2.1, iv r12.2.2.2] (kns' (bnd h fun r23 hr23 h => (kcl (check_Check.ok hr23 hG) rfl ⟨(t5 hm_G), trivial⟩ ?_)))
 rintro _ _ ⟨h24, A25, k26, h28, A29, k30, o27, o31, rfl, rfl⟩
 refine nx_ret2 (kx 3 (knp #[nS, nS] 28 fun b32 => (knp #[iv 0, iv 0] 31 fun b33 => (K.mv1 (kst 0 2 #[.slice A25 r23.1.length k26, .slice A29 r23.2.1.length k30] (K.drop (K.mv1 (K.drop (K.mv1 (K.drop ?_))))))))))
 refine kst 0 2 #[iv r23.2.2.1, iv r23.2.2.2] (knt (bnd h fun q34 hq34 h => ?_))
 refine k_cut1 [(0, bv q34)] (X) ?_ ?_
 ·clear hq34
  refine k_ret ?_
  obtain rfl := Option.some.inj h
  exact kdn rfl
 ·have h := hq34
  clear hq34
  refine k_region (kx 1 (kld 2 0 rfl (K.mv2 (K.drop (kx 2 ?_)))))
  refine kcs 22 h (fun h => ?_) fun h => ?_
  ·refine kx 1 (kld 2 0 rfl (kx 4 ?_))
   refine kcs 28 h (fun h => ?_) fun h => ?_
   ·refine kx 1 (kld 2 0 rfl (bnd h fun x37 hx37 h => (kelR (T := 42) (kd := .i64) (R := rs42) rfl hx37 (OwnR.rd o5) fun p38 u41 q42 e39 y40 => ?_)))
    obtain ⟨A43, k44, rfl, o45⟩ := rs42_r q42
    refine kefP (off := 3) rfl e39 y40 fun p46 e47 y48 => ?_
    have e47 : Elem _ p46 [iv x37.2.2.2.1, .slice A43 x37.2.2.2.2.length k44] := e47
    refine kl_eload1 rfl (by kernel_rfl) (by kernel_rfl) (by kernel_rfl) (by kernel_rfl) e47 (.tail _ (.tail _ (.tail _ (.head _)))) (kx 3 ?_)
    refine kcs 36 h (fun h => ?_) fun h => ?_
    ·refine kx 1 (kld 2 0 rfl (bnd h fun x50 hx50 h => (kelR (T := 42) (kd := .i64) (R := rs42) rfl hx50 (OwnR.rd o5) fun p51 u54 q55 e52 y53 => ?_)))
     obtain ⟨A56, k57, rfl, o58⟩ := rs42_r q55
     refine kefP (off := 4) rfl e52 y53 fun p59 e60 y61 => ?_
     have e60 : Elem _ p59 [.slice A56 x50.2.2.2.2.length k57] := e60
     refine kl_eload1 rfl (by kernel_rfl) (by kernel_rfl) (by kernel_rfl) (by kernel_rfl) e60 (.tail _ (.tail _ (.tail _ (.head _)))) (kx 4 ?_)
     refine kcs 45 h (fun h => ?_) fun h => ?_
     ·refine kx 1 (kld 2 1 rfl (kx 4 ?_))
      refine kcs 51 h (fun h => ?_) fun h => ?_
      ·refine kx 1 (kld 2 1 rfl (K.mv2 (K.drop (K.mv2 (K.drop (bnd h fun x64 hx64 h => (kelP (T := 9) (kd := .i64) encS_ok rfl hx64 (OwnT.rd o9) fun p65 e66 y67 => ?_)))))))
       have e66 : Elem _ p65 [sv x64] := e66
       refine kl_eload1 rfl (by kernel_rfl) (by kernel_rfl) (by kernel_rfl) (by kernel_rfl) e66 (.tail _ (.tail _ (.head _))) (K.mv2 (K.drop (kx 3 ?_)))
       refine kcs 58 h (fun h => ?_) fun h => ?_
       ·refine kla 1 0 2 rfl (K.mv1 (K.drop (kx 1 (kl_eqS (r := ((r12.2.2.1 == 5) && ((r12.2.2.2 == 28) && true))) (xs := #[iv r12.2.2.1, iv r12.2.2.2]) (ys := #[iv 5, iv 28]) false (by kernel_rfl) rfl (by kernel_rfl) (by kernel_rfl) (by kernel_rfl) (by kernel_rfl) (by kernel_rfl) (by kernel_rfl) (by kernel_rfl) (kx 2 ?_)))))
        refine kcs 63 h (fun h => ?_) fun h => ?_
        ·refine kla 0 0 2 rfl (K.drop (kx 1 (kl_eqS (r := ((r23.2.2.1 == 5) && ((r23.2.2.2 == 4) && true))) (xs := #[iv r23.2.2.1, iv r23.2.2.2]) (ys := #[iv 5, iv 4]) false (by kernel_rfl) rfl (by kernel_rfl) (by kernel_rfl) (by kernel_rfl) (by kernel_rfl) (by kernel_rfl) (by kernel_rfl) (by kernel_rfl) (kx 2 ?_))))
         refine kcs 68 h (fun h => ?_) fun h => ?_
         ·exact bnd h fun r71 hr71 h => (kcv (check_Library.ok hr71 hG) ⟨hm_G, trivial⟩ (kx 3 (knt (k_meet1 ⟨gb (Option.some.inj h), trivial⟩))))
         ·exact kx 4 (knt (k_meet1 ⟨gb (Option.some.inj h), trivial⟩))
        ·exact kx 9 (knt (K.drop (k_meet1 ⟨gb (Option.some.inj h), trivial⟩)))
       ·exact kx 14 (knt (K.drop (K.drop (k_meet1 ⟨gb (Option.some.inj h), trivial⟩))))
      ·exact kx 21 (knt (K.drop (K.drop (K.drop (K.drop (K.drop (k_meet1 ⟨gb (Option.some.inj h), trivial⟩)))))))
     ·exact kx 27 (knt (K.drop (K.drop (K.drop (K.drop (K.drop (k_meet1 ⟨gb (Option.some.inj h), trivial⟩)))))))
    ·exact kx 36 (knt (K.drop (K.drop (K.drop (K.drop (K.drop (k_meet1 ⟨gb (Option.some.inj h), trivial⟩)))))))
   ·exact kx 44 (knt (K.drop (K.drop (K.drop (K.drop (K.drop (k_meet1 ⟨gb (Option.some.inj h), trivial⟩)))))))
  ·exact kx 50 (knt (K.drop (K.drop (K.drop (K.drop (K.drop (k_meet1 ⟨gb (Option.some.inj h), trivial⟩)))))))
end Go.Proofs.YtdkgnlaneccioaaGreatDoor
namespace Go.Proofs.YtdkgnlaneccioaaGreatDoor
open Go Go.RowKit Lx
theorem wiC (x : Int) (h0 : -9223372036854775808 ≤ x) (h1 : x ≤ 9223372036854775807) : IntKind.i64.wrap x = x := by unfold IntKind.wrap; simp [IntKind.bits, IntKind.signed]; omega
theorem lIdx_natC {α : Type} {l : List α} {i : Nat} (h : i < l.length) : lIdx l (i : Int) = some l[i] := by
 unfold lIdx
 rw [if_pos (by omega), Int.toNat_natCast, List.getElem?_eq_getElem h]
def whereC (X : Bs) : List Bs → Int → Int
 | [], _ => -1
 | y :: l, i => if X == y then i else whereC X l (i + 1)
theorem index_loop (L : List ByteArray) (hL : L.length ≤ 1000) (s : ByteArray) : ∀ (d i k : Nat), L.length - i ≤ d → i ≤ L.length → d < k →
  slices_Index_string_string_.l0 k L s (fun _ => some (-1)) (i : Int) = some (whereC s.toList ((L.drop i).map (·.toList)) i)
 | d, i, k, hd, hi, hk => by
  obtain ⟨k, rfl⟩ : ∃ m, k = m + 1 := ⟨k - 1, by omega⟩
  simp only [slices_Index_string_string_.l0]
  rcases Nat.lt_or_ge i L.length with h | h
  ·obtain ⟨d, rfl⟩ : ∃ m, d = m + 1 := ⟨d - 1, by omega⟩
   rw [decide_eq_true (p := (i : Int) < L.length) (by omega), lIdx_natC h, wiC ((i : Int) + 1) (by omega) (by omega), show (i : Int) + 1 = ((i + 1 : Nat) : Int) by omega, List.drop_eq_getElem_cons h, List.map_cons]
   simp only [cond_true, Option.bind_some]
   unfold whereC
   cases hq : s.toList == L[i].toList with
   | true => rfl
   | false =>
    rw [cond_false, index_loop L hL s d (i + 1) k (by omega) (by omega) (by omega)]
    rfl
  ·rw [decide_eq_false (p := (i : Int) < L.length) (by omega), List.drop_of_length_le h]
   rfl
def refNames : List ByteArray := [(⟨#[112, 114, 105, 110, 116]⟩ : ByteArray), (⟨#[116, 121, 112, 101]⟩ : ByteArray), (⟨#[116, 111, 115, 116, 114, 105, 110, 103]⟩ : ByteArray), (⟨#[116, 111, 110, 117, 109, 98, 101, 114]⟩ : ByteArray), (⟨#[110, 101, 120, 116]⟩ : ByteArray), (⟨#[112, 97, 105, 114, 115]⟩ : ByteArray), (⟨#[105, 112, 97, 105, 114, 115]⟩ : ByteArray), (⟨#[114, 97, 119, 108, 101, 110]⟩ : ByteArray), (⟨#[115, 116, 97, 116, 115]⟩ : ByteArray), (⟨#[112, 114, 111, 98, 101, 115]⟩ : ByteArray), (⟨#[]⟩ : ByteArray), (⟨#[116, 97, 98, 108, 101, 46, 105, 110, 115, 101, 114, 116]⟩ : ByteArray), (⟨#[116, 97, 98, 108, 101, 46, 114, 101, 109, 111, 118, 101]⟩ : ByteArray), (⟨#[116, 97, 98, 108, 101, 46, 99, 111, 110, 99, 97, 116]⟩ : ByteArray), (⟨#[116, 97, 98, 108, 101, 46, 117, 110, 112, 97, 99, 107]⟩ : ByteArray), (⟨#[116, 97, 98, 108, 101, 46, 109, 111, 118, 101]⟩ : ByteArray), (⟨#[116, 97, 98, 108, 101, 46, 115, 111, 114, 116]⟩ : ByteArray), (⟨#[117, 116, 102, 56, 46, 108, 101, 110]⟩ : ByteArray), (⟨#[117, 116, 102, 56, 46, 99, 104, 97, 114]⟩ : ByteArray), (⟨#[117, 116, 102, 56, 46, 99, 111, 100, 101, 112, 111, 105, 110, 116]⟩ : ByteArray), (⟨#[117, 116, 102, 56, 46, 111, 102, 102, 115, 101, 116]⟩ : ByteArray), (⟨#[117, 116, 102, 56, 46, 99, 111, 100, 101, 115]⟩ : ByteArray)]
def progNames : List Bs := Lib.fields (⟨#[112, 114, 105, 110, 116, 32, 116, 121, 112, 101, 32, 116, 111, 115, 116, 114, 105, 110, 103, 32, 116, 111, 110, 117, 109, 98, 101, 114, 32, 110, 101, 120, 116, 32, 112, 97, 105, 114, 115, 32, 105, 112, 97, 105, 114, 115, 32, 114, 97, 119, 108, 101, 110, 32, 115, 116, 97, 116, 115, 32, 112, 114, 111, 98, 101, 115, 32, 45, 32, 116, 97, 98, 108, 101, 46, 105, 110, 115, 101, 114, 116, 32, 116, 97, 98, 108, 101, 46, 114, 101, 109, 111, 118, 101, 32, 116, 97, 98, 108, 101, 46, 99, 111, 110, 99, 97, 116, 32, 116, 97, 98, 108, 101, 46, 117, 110, 112, 97, 99, 107, 32, 116, 97, 98, 108, 101, 46, 109, 111, 118, 101, 32, 116, 97, 98, 108, 101, 46, 115, 111, 114, 116, 32, 117, 116, 102, 56, 46, 108, 101, 110, 32, 117, 116, 102, 56, 46, 99, 104, 97, 114, 32, 117, 116, 102, 56, 46, 99, 111, 100, 101, 112, 111, 105, 110, 116, 32, 117, 116, 102, 56, 46, 111, 102, 102, 115, 101, 116, 32, 117, 116, 102, 56, 46, 99, 111, 100, 101, 115, 32, 45]⟩ : ByteArray).data.toList
def whereR (X : Bs) : List Bs → Int → Int
 | [], _ => 0
 | y :: l, i => if (!(X == [])) && y == X then i + 1 else whereR X l (i + 1)
theorem whereC_no (X : Bs) : ∀ (l : List Bs) (i : Int), X ∉ l → whereC X l i = -1
 | [], _, _ => rfl
 | y :: l, i, h => by
  unfold whereC
  rw [if_neg (by simp only [beq_iff_eq]; rintro rfl; exact h (List.mem_cons_self ..))]
  exact whereC_no X l _ fun h' => h (List.mem_cons_of_mem _ h')
theorem whereR_no (X : Bs) : ∀ (l : List Bs) (i : Int), X ∉ l → whereR X l i = 0
 | [], _, _ => rfl
 | y :: l, i, h => by
  unfold whereR
  rw [if_neg (by simp only [Bool.and_eq_true, beq_iff_eq]; rintro ⟨_, rfl⟩; exact h (List.mem_cons_self ..))]
  exact whereR_no X l _ fun h' => h (List.mem_cons_of_mem _ h')
def libOf (X : Bs) : Int := if X == [45] then 0 else whereC X progNames 0 + 1
theorem lib_same (X : Bs) : libOf X = whereR X (refNames.map (·.toList)) 0 ∧ 0 ≤ libOf X ∧ libOf X ≤ 22 := by
 by_cases h : X ∈ [45] :: (progNames ++ refNames.map (·.toList))
 ·revert h
  have key : ∀ x ∈ [45] :: (progNames ++ refNames.map (·.toList)), libOf x = whereR x (refNames.map (·.toList)) 0 ∧ 0 ≤ libOf x ∧ libOf x ≤ 22 := by decide +kernel
  exact key X
 ·simp only [List.mem_cons, List.mem_append, not_or] at h
  obtain ⟨h1, h2, h3⟩ := h
  have e : libOf X = 0 := by
   unfold libOf
   rw [if_neg (by simpa using h1), whereC_no X _ _ h2]
   rfl
  rw [e, whereR_no X _ _ h3]
  decide
def progList : List ByteArray := (Lib.fields (⟨#[112, 114, 105, 110, 116, 32, 116, 121, 112, 101, 32, 116, 111, 115, 116, 114, 105, 110, 103, 32, 116, 111, 110, 117, 109, 98, 101, 114, 32, 110, 101, 120, 116, 32, 112, 97, 105, 114, 115, 32, 105, 112, 97, 105, 114, 115, 32, 114, 97, 119, 108, 101, 110, 32, 115, 116, 97, 116, 115, 32, 112, 114, 111, 98, 101, 115, 32, 45, 32, 116, 97, 98, 108, 101, 46, 105, 110, 115, 101, 114, 116, 32, 116, 97, 98, 108, 101, 46, 114, 101, 109, 111, 118, 101, 32, 116, 97, 98, 108, 101, 46, 99, 111, 110, 99, 97, 116, 32, 116, 97, 98, 108, 101, 46, 117, 110, 112, 97, 99, 107, 32, 116, 97, 98, 108, 101, 46, 109, 111, 118, 101, 32, 116, 97, 98, 108, 101, 46, 115, 111, 114, 116, 32, 117, 116, 102, 56, 46, 108, 101, 110, 32, 117, 116, 102, 56, 46, 99, 104, 97, 114, 32, 117, 116, 102, 56, 46, 99, 111, 100, 101, 112, 111, 105, 110, 116, 32, 117, 116, 102, 56, 46, 111, 102, 102, 115, 101, 116, 32, 117, 116, 102, 56, 46, 99, 111, 100, 101, 115, 32, 45]⟩ : ByteArray).data.toList).map fun l => ⟨l.toArray⟩
theorem fields_made (k : Nat) : strings_Fields.f k (⟨#[112, 114, 105, 110, 116, 32, 116, 121, 112, 101, 32, 116, 111, 115, 116, 114, 105, 110, 103, 32, 116, 111, 110, 117, 109, 98, 101, 114, 32, 110, 101, 120, 116, 32, 112, 97, 105, 114, 115, 32, 105, 112, 97, 105, 114, 115, 32, 114, 97, 119, 108, 101, 110, 32, 115, 116, 97, 116, 115, 32, 112, 114, 111, 98, 101, 115, 32, 45, 32, 116, 97, 98, 108, 101, 46, 105, 110, 115, 101, 114, 116, 32, 116, 97, 98, 108, 101, 46, 114, 101, 109, 111, 118, 101, 32, 116, 97, 98, 108, 101, 46, 99, 111, 110, 99, 97, 116, 32, 116, 97, 98, 108, 101, 46, 117, 110, 112, 97, 99, 107, 32, 116, 97, 98, 108, 101, 46, 109, 111, 118, 101, 32, 116, 97, 98, 108, 101, 46, 115, 111, 114, 116, 32, 117, 116, 102, 56, 46, 108, 101, 110, 32, 117, 116, 102, 56, 46, 99, 104, 97, 114, 32, 117, 116, 102, 56, 46, 99, 111, 100, 101, 112, 111, 105, 110, 116, 32, 117, 116, 102, 56, 46, 111, 102, 102, 115, 101, 116, 32, 117, 116, 102, 56, 46, 99, 111, 100, 101, 115, 32, 45]⟩ : ByteArray) = some progList := by
 have h : (decide ((⟨#[112, 114, 105, 110, 116, 32, 116, 121, 112, 101, 32, 116, 111, 115, 116, 114, 105, 110, 103, 32, 116, 111, 110, 117, 109, 98, 101, 114, 32, 110, 101, 120, 116, 32, 112, 97, 105, 114, 115, 32, 105, 112, 97, 105, 114, 115, 32, 114, 97, 119, 108, 101, 110, 32, 115, 116, 97, 116, 115, 32, 112, 114, 111, 98, 101, 115, 32, 45, 32, 116, 97, 98, 108, 101, 46, 105, 110, 115, 101, 114, 116, 32, 116, 97, 98, 108, 101, 46, 114, 101, 109, 111, 118, 101, 32, 116, 97, 98, 108, 101, 46, 99, 111, 110, 99, 97, 116, 32, 116, 97, 98, 108, 101, 46, 117, 110, 112, 97, 99, 107, 32, 116, 97, 98, 108, 101, 46, 109, 111, 118, 101, 32, 116, 97, 98, 108, 101, 46, 115, 111, 114, 116, 32, 117, 116, 102, 56, 46, 108, 101, 110, 32, 117, 116, 102, 56, 46, 99, 104, 97, 114, 32, 117, 116, 102, 56, 46, 99, 111, 100, 101, 112, 111, 105, 110, 116, 32, 117, 116, 102, 56, 46, 111, 102, 102, 115, 101, 116, 32, 117, 116, 102, 56, 46, 99, 111, 100, 101, 115, 32, 45]⟩ : ByteArray).size < 4294967281 ∧ (Lib.fields (⟨#[112, 114, 105, 110, 116, 32, 116, 121, 112, 101, 32, 116, 111, 115, 116, 114, 105, 110, 103, 32, 116, 111, 110, 117, 109, 98, 101, 114, 32, 110, 101, 120, 116, 32, 112, 97, 105, 114, 115, 32, 105, 112, 97, 105, 114, 115, 32, 114, 97, 119, 108, 101, 110, 32, 115, 116, 97, 116, 115, 32, 112, 114, 111, 98, 101, 115, 32, 45, 32, 116, 97, 98, 108, 101, 46, 105, 110, 115, 101, 114, 116, 32, 116, 97, 98, 108, 101, 46, 114, 101, 109, 111, 118, 101, 32, 116, 97, 98, 108, 101, 46, 99, 111, 110, 99, 97, 116, 32, 116, 97, 98, 108, 101, 46, 117, 110, 112, 97, 99, 107, 32, 116, 97, 98, 108, 101, 46, 109, 111, 118, 101, 32, 116, 97, 98, 108, 101, 46, 115, 111, 114, 116, 32, 117, 116, 102, 56, 46, 108, 101, 110, 32, 117, 116, 102, 56, 46, 99, 104, 97, 114, 32, 117, 116, 102, 56, 46, 99, 111, 100, 101, 112, 111, 105, 110, 116, 32, 117, 116, 102, 56, 46, 111, 102, 102, 115, 101, 116, 32, 117, 116, 102, 56, 46, 99, 111, 100, 101, 115, 32, 45]⟩ : ByteArray).data.toList).length ≤ 1000000) && (⟨#[112, 114, 105, 110, 116, 32, 116, 121, 112, 101, 32, 116, 111, 115, 116, 114, 105, 110, 103, 32, 116, 111, 110, 117, 109, 98, 101, 114, 32, 110, 101, 120, 116, 32, 112, 97, 105, 114, 115, 32, 105, 112, 97, 105, 114, 115, 32, 114, 97, 119, 108, 101, 110, 32, 115, 116, 97, 116, 115, 32, 112, 114, 111, 98, 101, 115, 32, 45, 32, 116, 97, 98, 108, 101, 46, 105, 110, 115, 101, 114, 116, 32, 116, 97, 98, 108, 101, 46, 114, 101, 109, 111, 118, 101, 32, 116, 97, 98, 108, 101, 46, 99, 111, 110, 99, 97, 116, 32, 116, 97, 98, 108, 101, 46, 117, 110, 112, 97, 99, 107, 32, 116, 97, 98, 108, 101, 46, 109, 111, 118, 101, 32, 116, 97, 98, 108, 101, 46, 115, 111, 114, 116, 32, 117, 116, 102, 56, 46, 108, 101, 110, 32, 117, 116, 102, 56, 46, 99, 104, 97, 114, 32, 117, 116, 102, 56, 46, 99, 111, 100, 101, 112, 111, 105, 110, 116, 32, 117, 116, 102, 56, 46, 111, 102, 102, 115, 101, 116, 32, 117, 116, 102, 56, 46, 99, 111, 100, 101, 115, 32, 45]⟩ : ByteArray).data.toList.all fun b => decide (b.toNat < 128)) = true := by decide +kernel
 unfold strings_Fields.f
 rw [h]
 rfl
theorem progList_len : progList.length = 23 := by decide +kernel
theorem progList_names : progList.map (·.toList) = progNames := by decide +kernel
theorem library_eq (k : Nat) (hk : 30 ≤ k) (a0 : ByteArray) : check_Library.f k a0 = some (libOf a0.toList) := by
 have h1 := fields_made k
 obtain ⟨L, hL⟩ : ∃ L, L = progList := ⟨_, rfl⟩
 have h2 := progList_len
 have h3 := progList_names
 rw [← hL] at h1 h2 h3
 have hd : (⟨#[45]⟩ : ByteArray).toList = [45] := by kernel_rfl
 unfold check_Library.f
 rw [hd, h1]
 unfold libOf
 cases hq : a0.toList == [45] with
 | true => rfl
 | false =>
  simp only [cond_false, Option.bind_some, Bool.false_eq_true, if_false]
  unfold slices_Index_string_string_.f joinF
  have hl := index_loop L (by omega) a0 L.length 0 k (by omega) (by omega) (by omega)
  rw [List.drop_zero, h3, Int.ofNat_zero] at hl
  change ((slices_Index_string_string_.l0 k L a0 (fun _ => some (-1)) 0).bind _) = _
  rw [hl]
  have hb := (lib_same a0.toList).2
  unfold libOf at hb
  rw [hq] at hb
  simp only [Bool.false_eq_true, if_false] at hb
  simp only [Option.bind_some]
  rw [wiC _ (by omega) (by omega)]
end Go.Proofs.YtdkgnlaneccioaaGreatDoor
namespace Go.Proofs.YtdkgnlaneccioaaGreatDoor
open Go Go.RowKit Lx
theorem midC {α : Type} (pre : List α) (x : α) (t : List α) : lIdx (pre ++ x :: t) (pre.length : Int) = some x := by
 unfold lIdx
 rw [if_pos (by omega)]
 simp
theorem ltT {a b : Int} (h : a < b) : decide (a < b) = true := decide_eq_true h
theorem ltF {a b : Int} (h : ¬ a < b) : decide (a < b) = false := decide_eq_false h
abbrev V3 := Int × Int × ByteArray
abbrev FRow := ByteArray × Int × Int × Int × List V3
abbrev CT := List FRow × List ByteArray × Int × List V3 × List ByteArray × Int
structure CSt where
 fs : List FRow
 gl : List ByteArray
 sl : Int
 cs : List V3
 lo : List ByteArray
 lp : Int
def CSt.tup (s : CSt) : CT := (s.fs, s.gl, s.sl, s.cs, s.lo, s.lp)
abbrev PC (α : Type) := PR α (Int × Int)
def PR.th {α β ε : Type} (x : PR α ε) (f : α → PR β ε) : PR β ε := match x with | .ok a => f a | .bad e => .bad e
def PR.mp {α β ε : Type} (f : α → β) (x : PR α ε) : PR β ε := match x with | .ok a => .ok (f a) | .bad e => .bad e
def hasS (l : List ByteArray) (a : ByteArray) : Bool := l.any fun x => a.toList == x.toList
def hasV (l : List V3) (v : V3) : Bool := l.any fun x => (v.1 == x.1) && ((v.2.1 == x.2.1) && ((v.2.2.toList == x.2.2.toList) && true))
abbrev bTable : ByteArray := ⟨#[116, 97, 98, 108, 101]⟩
abbrev bUtf8 : ByteArray := ⟨#[117, 116, 102, 56]⟩
abbrev bDot : ByteArray := ⟨#[46]⟩
def keptB (t : ByteArray) : Bool := t.toList == bTable.toList || t.toList == bUtf8.toList
def fewC (a : Int) (count most : Int) : PC Unit := if count > most then .bad (6, a) else .ok ()
def addG (gl : List ByteArray) (t : ByteArray) : List ByteArray := if hasS gl t then gl else gl ++ [t]
def constC (a : Int) (cs : List V3) (v : V3) : PC (List V3) := if hasV cs v then .ok cs else (fewC a (cs.length + 1 : Nat) 250).th fun _ => .ok (cs ++ [v])
def nameC (a : Int) (t : ByteArray) (gl lo ab : List ByteArray) : PC (List ByteArray) :=
 if keptB t then .bad (5, a) else if hasS lo t then .ok gl else if hasS ab t then .bad (5, a) else .ok (addG gl t)
def namesC : List ByteArray → List Tree → PC (List ByteArray)
 | lo, [] => .ok lo
 | lo, x :: l => if keptB x.text then .bad (5, x.at_) else namesC (lo ++ [x.text]) l
def bringC (a : Int) (sl : Int) (lo : List ByteArray) (l : List Tree) : PC (Int × List ByteArray) :=
 (namesC lo l).th fun lo => (fewC a (lo.length : Nat) 60).th fun _ => .ok (if ((lo.length : Nat) : Int) > sl then ((lo.length : Nat) : Int) else sl, lo)
def nodesC (f : CSt → Tree → PC CSt) : CSt → List Tree → PC CSt
 | s, [] => .ok s
 | s, x :: l => (f s x).th fun s => nodesC f s l
def asgC (f : CSt → Tree → Bool → PC CSt) (n : Int) : Nat → CSt → List Tree → PC CSt
 | _, s, [] => .ok s
 | i, s, x :: l => (f s x (decide ((i : Int) < n))).th fun s => asgC f n (i + 1) s l
def tNo : Tree := .mk 0 ⟨#[]⟩ 0 0 []
def kidC (l : List Tree) (i : Nat) : Tree := (l[i]?).getD tNo
def loopC (f : CSt → Tree → PC CSt) (a : Int) (s : CSt) (names : List Tree) (b : Tree) (more : Nat) : PC CSt :=
 (if more > 0 then bringC a s.sl (s.lo ++ List.replicate more ⟨#[]⟩) names else .ok (s.sl, s.lo)).th fun r =>
  (f { s with sl := r.1, lo := r.2, lp := s.lp + 1 } b).th fun s' => .ok { s' with lo := s'.lo.take s.lo.length, lp := s'.lp - 1 }
def badKeyC (tg : Bool) (x y : Tree) : Bool := tg || (y.kind != 5 || libOf (x.text ++ bDot ++ y.text).toList == 0)
def expC (f : CSt → List Tree → PC CSt) (ab : List ByteArray) (s : CSt) (k : Int) (t : ByteArray) (n a : Int) (l : List Tree) (tg : Bool) : PC CSt :=
 if k = 8 then (fewC a ((l.length : Nat) - 1 : Int) 50).th fun _ => f s l
 else if k = 30 then (fewC a (l.length : Nat) 50).th fun _ => f s l
 else if k = 12 then (fewC a (l.length : Nat) 200).th fun _ => f s l
 else if k = 4 then (constC a s.cs (2, n, ⟨#[]⟩)).th fun cs => f { s with cs := cs } l
 else if k = 5 then (constC a s.cs (3, 0, t)).th fun cs => f { s with cs := cs } l
 else if k = 6 then (nameC a t s.gl s.lo ab).th fun gl => f { s with gl := gl } l
 else if k = 7 ∧ (kidC l 0).kind = 6 ∧ keptB (kidC l 0).text = true then
  if badKeyC tg (kidC l 0) (kidC l 1) then .bad (5, a) else .ok s
 else f s l
def nodeC : Nat → List ByteArray → CSt → Tree → Bool → PC CSt
 | 0, _, _, _, _ => .bad (0, 0)
 | d + 1, ab, s, .mk k t n a l, tg =>
  if k = 20 then (nodesC (fun s x => nodeC d ab s x false) s l).th fun s' => .ok { s' with lo := s'.lo.take s.lo.length }
  else if k = 31 then
   (fewC a (s.fs.length : Nat) 100).th fun _ => if keptB t then .bad (5, a) else
    (fewC a n 50).th fun _ => (bringC a 0 [] (l.take n.toNat)).th fun r =>
     (nodeC d s.lo ⟨s.fs, addG s.gl t, r.1, [], r.2, 0⟩ (kidC l n.toNat) false).th fun s' =>
      .ok { s with fs := s'.fs ++ [(t, a, n, s'.sl, s'.cs)], gl := s'.gl }
  else if k = 21 then
   (fewC a n 50).th fun _ => (fewC a (l.length - n) 50).th fun _ => (nodesC (fun s x => nodeC d ab s x false) s (l.drop n.toNat)).th fun s =>
    (bringC a s.sl s.lo (l.take n.toNat)).th fun r => .ok { s with sl := r.1, lo := r.2 }
  else if k = 22 then
   (fewC a n 50).th fun _ => (fewC a (l.length - n) 50).th fun _ => asgC (fun s x b => nodeC d ab s x b) n 0 s l
  else if k = 25 then (nodeC d ab s (kidC l 0) false).th fun s => loopC (fun s x => nodeC d ab s x false) a s [] (kidC l 1) 0
  else if k = 26 then (nodesC (fun s x => nodeC d ab s x false) s ((l.drop 1).take (l.length - 2))).th fun s => loopC (fun s x => nodeC d ab s x false) a s (l.take 1) (kidC l (l.length - 1)) 3
  else if k = 27 then
   (fewC a n 50).th fun _ => (fewC a (l.length - 1 - n) 50).th fun _ => (nodesC (fun s x => nodeC d ab s x false) s ((l.drop n.toNat).take (l.length - 1 - n.toNat))).th fun s =>
    loopC (fun s x => nodeC d ab s x false) a s (l.take n.toNat) (kidC l (l.length - 1)) 3
  else if k = 29 then if s.lp = 0 then .bad (5, a) else .ok s
  else expC (fun s l => nodesC (fun s x => nodeC d ab s x false) s l) ab s k t n a l tg
theorem bindC {α β ε : Type} (x : PR α ε) (f : α → PR β ε) (F : α → Option (PR β ε)) (h : ∀ a, x = .ok a → F a = some (f a)) : PR.bind (some x) F = some (x.th f) := by
 cases x with
 | ok a => exact h a rfl
 | bad e => rfl
theorem few_eq (k : Nat) (a0 : Int) (a1 : ByteArray) (a2 a3 : Int) (a4 : List Tree) (c m : Int) : check_few.f k a0 a1 a2 a3 a4 c m = some (fewC a3 c m) := by
 unfold check_few.f fewC
 by_cases h : c > m
 ·rw [decide_eq_true h, if_pos h]; rfl
 ·rw [decide_eq_false h, if_neg h]; rfl
theorem kept_eq (k : Nat) (t : ByteArray) : check_kept.f k t = some (keptB t) := by
 unfold check_kept.f keptB
 cases t.toList == bTable.toList <;> rfl
theorem indexS : ∀ (t pre : List ByteArray) (a : ByteArray) (m : Nat), pre.length + t.length ≤ 1000000 → t.length + 1 ≤ m →
  ∃ v, slices_Index_string_string_.l0 m (pre ++ t) a (fun _ => some (-1)) (pre.length : Int) = some v ∧ decide (v ≥ 0) = hasS t a
 | [], pre, a, m, hl, hm => by
  obtain ⟨m, rfl⟩ : ∃ m', m = m' + 1 := ⟨m - 1, by omega⟩
  simp only [slices_Index_string_string_.l0]
  rw [ltF (by simp)]
  exact ⟨-1, rfl, rfl⟩
 | x :: t, pre, a, m, hl, hm => by
  obtain ⟨m, rfl⟩ : ∃ m', m = m' + 1 := ⟨m - 1, by omega⟩
  simp only [List.length_cons] at hl hm
  simp only [slices_Index_string_string_.l0]
  rw [ltT (by simp; omega), midC]
  simp only [cond_true, Option.bind_some]
  unfold hasS
  rw [List.any_cons]
  cases hq : a.toList == x.toList with
  | true => exact ⟨_, rfl, decide_eq_true (by omega)⟩
  | false =>
   rw [cond_false, Bool.false_or, wiC _ (by omega) (by omega)]
   have ih := indexS t (pre ++ [x]) a m (by simp; omega) (by omega)
   rw [List.append_assoc, List.length_append] at ih
   exact ih
theorem containsS (k : Nat) (l : List ByteArray) (a : ByteArray) (hl : l.length ≤ 1000000) (hk : l.length + 1 ≤ k) : slices_Contains_string_string_.f k l a = some (hasS l a) := by
 unfold slices_Contains_string_string_.f slices_Index_string_string_.f joinF
 obtain ⟨v, hv, hd⟩ := indexS l [] a k (by simpa using hl) hk
 have hv : slices_Index_string_string_.l0 k l a (fun _ => some (-1)) (0 : Int) = some v := hv
 simp only [hv, Option.bind_some, hd]
theorem indexV : ∀ (t pre : List V3) (a0 a1 : Int) (a2 : ByteArray) (m : Nat), pre.length + t.length ≤ 1000000 → t.length + 1 ≤ m →
  ∃ v, slices_Index_api_Val_api_Val_.l0 m (pre ++ t) a0 a1 a2 (fun _ => some (-1)) (pre.length : Int) = some v ∧ decide (v ≥ 0) = hasV t (a0, a1, a2)
 | [], pre, a0, a1, a2, m, hl, hm => by
  obtain ⟨m, rfl⟩ : ∃ m', m = m' + 1 := ⟨m - 1, by omega⟩
  simp only [slices_Index_api_Val_api_Val_.l0]
  rw [ltF (by simp)]
  exact ⟨-1, rfl, rfl⟩
 | x :: t, pre, a0, a1, a2, m, hl, hm => by
  obtain ⟨m, rfl⟩ : ∃ m', m = m' + 1 := ⟨m - 1, by omega⟩
  simp only [List.length_cons] at hl hm
  simp only [slices_Index_api_Val_api_Val_.l0]
  rw [ltT (by simp; omega), midC]
  simp only [cond_true, Option.bind_some]
  unfold hasV
  rw [List.any_cons]
  simp only
  cases hq : (a0 == x.1) && ((a1 == x.2.1) && ((a2.toList == x.2.2.toList) && true)) with
  | true => exact ⟨_, rfl, decide_eq_true (by omega)⟩
  | false =>
   rw [cond_false, Bool.false_or, wiC _ (by omega) (by omega)]
   have ih := indexV t (pre ++ [x]) a0 a1 a2 m (by simp; omega) (by omega)
   rw [List.append_assoc, List.length_append] at ih
   exact ih
theorem containsV (k : Nat) (l : List V3) (a0 a1 : Int) (a2 : ByteArray) (hl : l.length ≤ 1000000) (hk : l.length + 1 ≤ k) : slices_Contains_api_Val_api_Val_.f k l a0 a1 a2 = some (hasV l (a0, a1, a2)) := by
 unfold slices_Contains_api_Val_api_Val_.f slices_Index_api_Val_api_Val_.f joinF
 obtain ⟨v, hv, hd⟩ := indexV l [] a0 a1 a2 k (by simpa using hl) hk
 have hv : slices_Index_api_Val_api_Val_.l0 k l a0 a1 a2 (fun _ => some (-1)) (0 : Int) = some v := hv
 simp only [hv, Option.bind_some, hd]
theorem apdC {α : Type} {b : Nat} {l ys : List α} (h : (l.length + ys.length) * b ≤ 140737488355328) : apd b l ys = some (l ++ ys) := by
 unfold apd
 rw [decide_eq_true h]
 rfl
section
variable {k : Nat} {f0 : List FRow} {gl : List ByteArray} {nm : ByteArray} {at_ pc sl : Int} {cs : List V3} {lo : List ByteArray} {lp : Int} {ab : List ByteArray}
theorem global_eq (t : ByteArray) (hg : gl.length ≤ 400000) (hk : 500000 ≤ k) : check_checker_global.f k f0 gl nm at_ pc sl cs lo lp ab t = some (addG gl t) := by
 unfold check_checker_global.f addG
 rw [containsS k gl t (by omega) (by omega)]
 simp only [Option.bind_some]
 cases hasS gl t with
 | true => rfl
 | false =>
  rw [apdC (by simp; omega)]
  rfl
theorem name_eqC (x0 : Int) (t : ByteArray) (x2 a : Int) (x4 : List Tree) (hg : gl.length ≤ 400000) (ho : lo.length ≤ 400000) (ha : ab.length ≤ 400000) (hk : 500000 ≤ k) :
  check_checker_name.f k f0 gl nm at_ pc sl cs lo lp ab x0 t x2 a x4 = some (nameC a t gl lo ab) := by
 unfold check_checker_name.f nameC
 rw [kept_eq, containsS k lo t (by omega) (by omega), containsS k ab t (by omega) (by omega), global_eq t hg hk]
 simp only [Option.bind_some]
 cases keptB t with
 | true => rfl
 | false =>
  cases hasS lo t with
  | true => rfl
  | false => cases hasS ab t <;> rfl
theorem const_eq (x0 : Int) (x1 : ByteArray) (x2 a : Int) (x4 : List Tree) (v0 v1 : Int) (v2 : ByteArray) (hc : cs.length ≤ 400000) (hk : 500000 ≤ k) :
  check_checker_constant.f k f0 gl nm at_ pc sl cs lo lp ab x0 x1 x2 a x4 v0 v1 v2 = some (constC a cs (v0, v1, v2)) := by
 unfold check_checker_constant.f constC
 rw [containsV k cs v0 v1 v2 (by omega) (by omega)]
 simp only [Option.bind_some]
 cases hasV cs (v0, v1, v2) with
 | true => rfl
 | false =>
  simp only [Bool.not_false, cond_true, Bool.false_eq_true, if_false]
  rw [few_eq, wiC _ (by omega) (by omega)]
  refine bindC _ _ _ fun u _ => ?_
  rw [apdC (by simp; omega)]
  rfl
theorem bring_loop : ∀ (t pre : List Tree) (lo : List ByteArray) (m : Nat) (J : List ByteArray → Option (PC (Int × List ByteArray))) (j : List ByteArray → PC (Int × List ByteArray)), pre.length + t.length ≤ 400000 → lo.length + t.length ≤ 900000 → t.length + 1 ≤ m →
  (∀ lo', namesC lo t = .ok lo' → J lo' = some (j lo')) → check_checker_bring.l0 m (pre ++ t) J (pre.length : Int) lo = some ((namesC lo t).th j)
 | [], pre, lo, m, J, j, hl, ho, hm, hJ => by
  obtain ⟨m, rfl⟩ : ∃ m', m = m' + 1 := ⟨m - 1, by omega⟩
  simp only [check_checker_bring.l0]
  rw [ltF (by simp)]
  exact hJ lo rfl
 | x :: t, pre, lo, m, J, j, hl, ho, hm, hJ => by
  obtain ⟨m, rfl⟩ : ∃ m', m = m' + 1 := ⟨m - 1, by omega⟩
  simp only [List.length_cons] at hl ho hm
  simp only [check_checker_bring.l0]
  rw [ltT (by simp; omega), midC]
  simp only [cond_true, Option.bind_some, joinF, kept_eq]
  unfold namesC
  cases hq : keptB x.text with
  | true => rfl
  | false =>
   simp only [cond_false, Bool.false_eq_true, if_false]
   rw [apdC (by simp; omega), wiC _ (by omega) (by omega)]
   have ih := bring_loop t (pre ++ [x]) (lo ++ [x.text]) m J j (by simp; omega) (by simp; omega) (by omega) fun lo' h => hJ lo' (by unfold namesC; rw [hq]; exact h)
   rw [List.append_assoc, List.length_append] at ih
   exact ih
theorem bring_eq (x0 : Int) (x1 : ByteArray) (x2 a : Int) (x4 : List Tree) (l : List Tree) (hl : l.length ≤ 400000) (ho : lo.length ≤ 400000) (hk : 500000 ≤ k) :
  check_checker_bring.f k f0 gl nm at_ pc sl cs lo lp ab x0 x1 x2 a x4 l = some (bringC a sl lo l) := by
 unfold check_checker_bring.f joinF bringC
 refine bring_loop l [] lo k _ _ (by simpa using hl) (by omega) (by omega) fun lo' _ => ?_
 rw [few_eq]
 exact bindC _ _ _ fun _ _ => rfl
end
end Go.Proofs.YtdkgnlaneccioaaGreatDoor
namespace Go.Proofs.YtdkgnlaneccioaaGreatDoor
open Go Go.RowKit Lx
def gshp (k n : Int) (t : ByteArray) (l : List Tree) : Prop :=
 t.size ≤ 30000 ∧ (k = 7 → l.length = 2) ∧ (k = 25 → l.length = 2) ∧ (k = 26 → 4 ≤ l.length) ∧ (k = 21 ∨ k = 22 → ∃ m : Nat, n = m ∧ m ≤ l.length) ∧ (k = 27 → ∃ m : Nat, n = m ∧ m + 1 ≤ l.length) ∧ (k = 31 → ∃ m : Nat, n = m ∧ l.length = m + 1)
mutual
def gw : Tree → Prop
 | .mk k t n _ l => gshp k n t l ∧ gws l
def gws : List Tree → Prop
 | [] => True
 | x :: l => gw x ∧ gws l
end
theorem gws_iff : ∀ {l : List Tree}, gws l ↔ ∀ x ∈ l, gw x
 | [] => by simp [gws]
 | x :: l => by simp [gws, gws_iff (l := l)]
mutual
theorem wfT_gw : ∀ {t : Tree}, wfT t → gw t
 | .mk k t n a l, ⟨⟨h1, h2, h3, h4, h5, h6, h7⟩, hl⟩ => ⟨⟨h1, h3, h4, h5, h6, h7, fun h => absurd h h2⟩, wfTs_gws hl⟩
theorem wfTs_gws : ∀ {l : List Tree}, wfTs l → gws l
 | [], _ => trivial
 | _ :: _, h => ⟨wfT_gw h.1, wfTs_gws h.2⟩
end
theorem fnT_gw {t : Tree} (h : fnT t) : gw t := by
 cases t with
 | mk k t n a l =>
  obtain ⟨h1, h2, h3, h4⟩ := h
  subst h2
  exact ⟨⟨h1, nx rfl, nx rfl, nx rfl, nx rfl, nx rfl, fun _ => h3⟩, wfTs_gws h4⟩
theorem sz_posC (t : Tree) : 1 ≤ sz t := by cases t; simp only [sz]; omega
theorem sz_memC {x : Tree} : ∀ {l : List Tree}, x ∈ l → sz x ≤ szs l
 | y :: l, h => by
  simp only [szs]
  rcases List.mem_cons.1 h with rfl | h
  ·omega
  ·have := sz_memC h; omega
theorem szs_split (l : List Tree) (i : Nat) : szs (l.take i) + szs (l.drop i) = szs l := by rw [← szs_append, List.take_append_drop]
theorem kid_mem {l : List Tree} {i : Nat} (h : i < l.length) : kidC l i = l[i] ∧ kidC l i ∈ l := by
 unfold kidC
 rw [List.getElem?_eq_getElem h]
 exact ⟨rfl, List.getElem_mem h⟩
theorem drop_kid {l : List Tree} {i : Nat} (h : i < l.length) : l.drop i = kidC l i :: l.drop (i + 1) := by
 rw [(kid_mem h).1]
 exact List.drop_eq_getElem_cons h
theorem szs_kid {l : List Tree} {i : Nat} (h : i < l.length) : szs (l.take i) + sz (kidC l i) + szs (l.drop (i + 1)) = szs l := by
 have := szs_split l i
 rw [drop_kid h] at this
 simp only [szs] at this
 omega
def pot (s : CSt) : Nat := s.fs.length + s.gl.length + s.cs.length + s.lo.length
structure Post (s s' : CSt) (n : Nat) : Prop where
 pre : s.lo <+: s'.lo
 lp : s'.lp = s.lp
 pot : pot s' ≤ pot s + n
theorem Post.refl (s : CSt) : Post s s 0 := ⟨List.prefix_refl _, rfl, Nat.le_refl _⟩
theorem Post.trans {s s1 s2 : CSt} {n m : Nat} (h : Post s s1 n) (h' : Post s1 s2 m) : Post s s2 (n + m) := ⟨h.pre.trans h'.pre, h'.lp.trans h.lp, by have := h.pot; have := h'.pot; omega⟩
theorem Post.weak {s s' : CSt} {n m : Nat} (h : Post s s' n) (hm : n ≤ m) : Post s s' m := ⟨h.pre, h.lp, by have := h.pot; omega⟩
theorem take_pre {α : Type} {a b : List α} (h : a <+: b) : b.take a.length = a := by obtain ⟨t, rfl⟩ := h; simp
theorem pre_len {α : Type} {a b : List α} (h : a <+: b) : a.length ≤ b.length := by obtain ⟨t, rfl⟩ := h; simp
theorem th_ok {α β ε : Type} {x : PR α ε} {f : α → PR β ε} {b : β} (h : x.th f = .ok b) : ∃ a, x = .ok a ∧ f a = .ok b := by
 cases x with
 | ok a => exact ⟨a, rfl, h⟩
 | bad e => cases h
theorem th_bad {α β ε : Type} {x : PR α ε} {f : α → PR β ε} {e : ε} (h : x.th f = .bad e) : x = .bad e ∨ ∃ a, x = .ok a ∧ f a = .bad e := by
 cases x with
 | ok a => exact .inr ⟨a, rfl, h⟩
 | bad e => cases h; exact .inl rfl
theorem names_ok : ∀ {l : List Tree} {lo lo' : List ByteArray}, namesC lo l = .ok lo' → lo' = lo ++ l.map Tree.text
 | [], lo, lo', h => by cases h; simp
 | x :: l, lo, lo', h => by
  unfold namesC at h
  split at h
  ·cases h
  ·rw [names_ok h]; simp
theorem bring_ok {a sl : Int} {lo : List ByteArray} {l : List Tree} {r : Int × List ByteArray} (h : bringC a sl lo l = .ok r) : r.2 = lo ++ l.map Tree.text ∧ r.2.length ≤ 60 ∧ r.1 = max sl (r.2.length : Int) := by
 unfold bringC at h
 obtain ⟨lo', h1, h⟩ := th_ok h
 obtain ⟨_, h2, h⟩ := th_ok h
 unfold fewC at h2
 split at h2
 ·cases h2
 ·cases h
  refine ⟨names_ok h1, by show lo'.length ≤ 60; omega, ?_⟩
  show (if ((lo'.length : Nat) : Int) > sl then ((lo'.length : Nat) : Int) else sl) = max sl (lo'.length : Int)
  split <;> omega
theorem addG_len (gl : List ByteArray) (t : ByteArray) : (addG gl t).length ≤ gl.length + 1 := by unfold addG; split <;> simp
theorem const_ok {a : Int} {cs cs' : List V3} {v : V3} (h : constC a cs v = .ok cs') : cs'.length ≤ cs.length + 1 := by
 unfold constC at h
 split at h
 ·cases h; omega
 ·obtain ⟨_, _, h⟩ := th_ok h
  cases h; simp
theorem name_ok {a : Int} {t : ByteArray} {gl lo ab gl' : List ByteArray} (h : nameC a t gl lo ab = .ok gl') : gl'.length ≤ gl.length + 1 := by
 unfold nameC at h
 split at h
 ·cases h
 split at h
 ·cases h; omega
 split at h
 ·cases h
 ·cases h; exact addG_len _ _
theorem nodes_post {f : CSt → Tree → PC CSt} : ∀ {l : List Tree} {s s' : CSt}, (∀ s x s', x ∈ l → f s x = .ok s' → Post s s' (4 * sz x)) → nodesC f s l = .ok s' → Post s s' (4 * szs l)
 | [], s, s', _, h => by cases h; exact Post.refl _
 | x :: l, s, s', hf, h => by
  unfold nodesC at h
  obtain ⟨s1, h1, h⟩ := th_ok h
  have := (hf _ _ _ (List.mem_cons_self ..) h1).trans (nodes_post (fun s y s' hy => hf s y s' (List.mem_cons_of_mem _ hy)) h)
  exact this.weak (by simp only [szs]; omega)
theorem asg_post {f : CSt → Tree → Bool → PC CSt} {n : Int} : ∀ {l : List Tree} {i : Nat} {s s' : CSt}, (∀ s x b s', x ∈ l → f s x b = .ok s' → Post s s' (4 * sz x)) → asgC f n i s l = .ok s' → Post s s' (4 * szs l)
 | [], _, s, s', _, h => by cases h; exact Post.refl _
 | x :: l, i, s, s', hf, h => by
  unfold asgC at h
  obtain ⟨s1, h1, h⟩ := th_ok h
  have := (hf _ _ _ _ (List.mem_cons_self ..) h1).trans (asg_post (fun s y b s' hy => hf s y b s' (List.mem_cons_of_mem _ hy)) h)
  exact this.weak (by simp only [szs]; omega)
theorem loop_post {f : CSt → Tree → PC CSt} {a : Int} {s s' : CSt} {names : List Tree} {b : Tree} {more : Nat} (hm : more = 0 ∨ more = 3) (hf : ∀ s s', f s b = .ok s' → Post s s' (4 * sz b)) (h : loopC f a s names b more = .ok s') : Post s s' (4 * sz b + names.length + 3) ∧ s'.lo = s.lo := by
 unfold loopC at h
 obtain ⟨r, h1, h⟩ := th_ok h
 obtain ⟨s1, h2, h⟩ := th_ok h
 cases h
 have hp := hf _ _ h2
 have hr : s.lo <+: r.2 ∧ r.2.length ≤ s.lo.length + names.length + 3 := by
  split at h1
  ·have := (bring_ok h1).1
   rw [this]
   refine ⟨⟨_, by rw [List.append_assoc]⟩, ?_⟩
   simp
   omega
  ·cases h1
   exact ⟨List.prefix_refl _, by show s.lo.length ≤ _; omega⟩
 have h3 := take_pre (hr.1.trans hp.pre)
 refine ⟨⟨by show s.lo <+: s1.lo.take s.lo.length; rw [h3]; exact List.prefix_refl _, by show s1.lp - 1 = s.lp; have := hp.lp; simp only at this; omega, ?_⟩, h3⟩
 have hq := hp.pot
 have := pre_len hp.pre
 simp only [pot] at hq this ⊢
 rw [List.length_take]
 omega
theorem exp_post {f : CSt → List Tree → PC CSt} {ab : List ByteArray} {s s' : CSt} {k n a : Int} {t : ByteArray} {l : List Tree} {tg : Bool} (hf : ∀ s s', f s l = .ok s' → Post s s' (4 * szs l)) (h : expC f ab s k t n a l tg = .ok s') : Post s s' (4 * szs l + 1) := by
 unfold expC at h
 split at h
 ·obtain ⟨_, _, h⟩ := th_ok h; exact (hf _ _ h).weak (by omega)
 split at h
 ·obtain ⟨_, _, h⟩ := th_ok h; exact (hf _ _ h).weak (by omega)
 split at h
 ·obtain ⟨_, _, h⟩ := th_ok h; exact (hf _ _ h).weak (by omega)
 split at h
 ·obtain ⟨cs, h1, h⟩ := th_ok h
  have hp := hf _ _ h
  have := const_ok h1
  exact ⟨hp.pre, hp.lp, by have := hp.pot; simp only [pot] at this ⊢; omega⟩
 split at h
 ·obtain ⟨cs, h1, h⟩ := th_ok h
  have hp := hf _ _ h
  have := const_ok h1
  exact ⟨hp.pre, hp.lp, by have := hp.pot; simp only [pot] at this ⊢; omega⟩
 split at h
 ·obtain ⟨gl, h1, h⟩ := th_ok h
  have hp := hf _ _ h
  have := name_ok h1
  exact ⟨hp.pre, hp.lp, by have := hp.pot; simp only [pot] at this ⊢; omega⟩
 split at h
 ·split at h
  ·cases h
  ·cases h; exact (Post.refl _).weak (by omega)
 ·exact (hf _ _ h).weak (by omega)
theorem node_post : ∀ {d : Nat} {ab : List ByteArray} {s s' : CSt} {t : Tree} {tg : Bool}, gw t → nodeC d ab s t tg = .ok s' → Post s s' (4 * sz t)
 | 0, _, _, _, _, _, _, h => by unfold nodeC at h; cases h
 | d + 1, ab, s, s', .mk k t n a l, tg, hw, h => by
  obtain ⟨⟨hs1, hs7, hs25, hs26, hs21, hs27, hs31⟩, hw⟩ := hw
  rw [gws_iff] at hw
  have hN : ∀ (m : List Tree), (∀ x ∈ m, x ∈ l) → ∀ ab s s', nodesC (fun s x => nodeC d ab s x false) s m = .ok s' → Post s s' (4 * szs m) := fun m hm ab s s' h => nodes_post (fun s x s' hx h => node_post (hw x (hm x hx)) h) h
  have hlen := szs_len l
  simp only [sz]
  unfold nodeC at h
  split at h
  ·obtain ⟨s1, h1, h⟩ := th_ok h
   cases h
   have hp := hN l (fun _ h => h) _ _ _ h1
   refine ⟨by rw [take_pre hp.pre]; exact List.prefix_refl _, hp.lp, ?_⟩
   have := hp.pot
   simp only [pot] at this ⊢
   rw [List.length_take]; omega
  split at h
  ·rename_i hk
   obtain ⟨m, rfl, hm⟩ := hs31 hk
   obtain ⟨_, _, h⟩ := th_ok h
   split at h
   ·cases h
   obtain ⟨_, _, h⟩ := th_ok h
   obtain ⟨r, h1, h⟩ := th_ok h
   obtain ⟨s1, h2, h⟩ := th_ok h
   cases h
   simp only [Int.toNat_natCast] at h1 h2
   have hk := kid_mem (l := l) (i := m) (by omega)
   have hp := node_post (hw _ hk.2) h2
   have hb := bring_ok h1
   have := szs_kid (l := l) (i := m) (by omega)
   have h3 := hp.pot
   have h4 := addG_len s.gl t
   have h5 : r.2.length ≤ m := by rw [hb.1]; simp; omega
   refine ⟨List.prefix_refl _, rfl, ?_⟩
   have := szs_len (l.take m)
   rw [List.length_take] at this
   simp only [pot, List.length_append, List.length_cons, List.length_nil] at h3 ⊢
   omega
  split at h
  ·rename_i hk
   obtain ⟨m, rfl, hm⟩ := hs21 (.inl hk)
   obtain ⟨_, _, h⟩ := th_ok h
   obtain ⟨_, _, h⟩ := th_ok h
   obtain ⟨s1, h1, h⟩ := th_ok h
   obtain ⟨r, h2, h⟩ := th_ok h
   cases h
   simp only [Int.toNat_natCast] at h1 h2
   have hp := hN _ (fun x hx => List.mem_of_mem_drop hx) _ _ _ h1
   have hb := bring_ok h2
   have := szs_split l m
   have := szs_len (l.take m)
   refine ⟨hp.pre.trans ⟨_, hb.1.symm⟩, hp.lp, ?_⟩
   have h3 := hp.pot
   simp only [pot] at h3 ⊢
   rw [hb.1]
   simp only [List.length_append, List.length_map]
   omega
  split at h
  ·obtain ⟨_, _, h⟩ := th_ok h
   obtain ⟨_, _, h⟩ := th_ok h
   exact (asg_post (fun s x b s' hx h => node_post (hw x hx) h) h).weak (by omega)
  split at h
  ·rename_i hk
   have h2 := hs25 hk
   obtain ⟨s1, h1, h⟩ := th_ok h
   have k0 := kid_mem (l := l) (i := 0) (by omega)
   have k1 := kid_mem (l := l) (i := 1) (by omega)
   have hp := node_post (hw _ k0.2) h1
   have hq := (loop_post (.inl rfl) (fun s s' h => node_post (hw _ k1.2) h) h).1
   have e1 := szs_kid (l := l) (i := 1) (by omega)
   have e2 : szs (l.take 1) = sz (kidC l 0) := by
    have := szs_kid (l := l) (i := 0) (by omega)
    have := szs_split l 1
    simp only [List.take_zero, szs, Nat.zero_add] at *
    omega
   exact (hp.trans hq).weak (by simp only [List.length_nil]; omega)
  split at h
  ·rename_i hk
   have h2 := hs26 hk
   obtain ⟨s1, h1, h⟩ := th_ok h
   have kl := kid_mem (l := l) (i := l.length - 1) (by omega)
   have hp := hN _ (fun x hx => List.mem_of_mem_drop (List.mem_of_mem_take hx)) _ _ _ h1
   have hq := (loop_post (.inr rfl) (fun s s' h => node_post (hw _ kl.2) h) h).1
   have e1 := szs_kid (l := l) (i := l.length - 1) (by omega)
   have e2 : szs ((l.drop 1).take (l.length - 2)) + szs (l.take 1) ≤ szs (l.take (l.length - 1)) := by
    have := szs_split (l.take (l.length - 1)) 1
    rw [List.drop_take, List.take_take, Nat.min_eq_left (by omega), show l.length - 1 - 1 = l.length - 2 by omega] at this
    omega
   have e3 := szs_len (l.take 1)
   exact (hp.trans hq).weak (by omega)
  split at h
  ·rename_i hk
   obtain ⟨m, rfl, hm⟩ := hs27 hk
   obtain ⟨_, _, h⟩ := th_ok h
   obtain ⟨_, _, h⟩ := th_ok h
   obtain ⟨s1, h1, h⟩ := th_ok h
   simp only [Int.toNat_natCast] at h1 h
   have kl := kid_mem (l := l) (i := l.length - 1) (by omega)
   have hp := hN _ (fun x hx => List.mem_of_mem_drop (List.mem_of_mem_take hx)) _ _ _ h1
   have hq := (loop_post (.inr rfl) (fun s s' h => node_post (hw _ kl.2) h) h).1
   have e1 := szs_kid (l := l) (i := l.length - 1) (by omega)
   have e2 : szs ((l.drop m).take (l.length - 1 - m)) + szs (l.take m) ≤ szs (l.take (l.length - 1)) := by
    have := szs_split (l.take (l.length - 1)) m
    rw [List.drop_take, List.take_take, Nat.min_eq_left (by omega)] at this
    omega
   have e3 := szs_len (l.take m)
   exact (hp.trans hq).weak (by omega)
  split at h
  ·split at h
   ·cases h
   ·cases h; exact (Post.refl _).weak (by omega)
  ·exact (exp_post (fun s s' h => hN l (fun _ h => h) _ _ _ h) h).weak (by omega)
end Go.Proofs.YtdkgnlaneccioaaGreatDoor
namespace Go.Proofs.YtdkgnlaneccioaaGreatDoor
open Go Go.RowKit Lx
structure BdC (s : CSt) (ab : List ByteArray) (n : Nat) : Prop where
 pot : pot s + 4 * n ≤ 400000
 ab : ab.length ≤ 400000
 lp0 : 0 ≤ s.lp
 lp : s.lp + n ≤ 400000
theorem BdC.weak {s : CSt} {ab : List ByteArray} {n m : Nat} (h : BdC s ab n) (hm : m ≤ n) : BdC s ab m := ⟨by have := h.pot; omega, h.ab, h.lp0, by have := h.lp; omega⟩
theorem BdC.step {s s' : CSt} {ab : List ByteArray} {n m : Nat} (h : BdC s ab (n + m)) (hp : Post s s' (4 * n)) : BdC s' ab m := ⟨by have := h.pot; have := hp.pot; omega, h.ab, by rw [hp.lp]; exact h.lp0, by rw [hp.lp]; have := h.lp; omega⟩
section
variable {α β γ δ ε : Type}
theorem bindM {x : PR α ε} {g : α → β} {F : β → Option (PR γ ε)} {f : α → PR δ ε} {h : δ → γ} (H : ∀ a, x = .ok a → F (g a) = some (PR.mp h (f a))) : PR.bind (some (PR.mp g x)) F = some (PR.mp h (x.th f)) := by
 cases x with
 | ok a => exact H a rfl
 | bad e => rfl
theorem bindN {x : PR α ε} {F : α → Option (PR γ ε)} {f : α → PR δ ε} {h : δ → γ} (H : ∀ a, x = .ok a → F a = some (PR.mp h (f a))) : PR.bind (some x) F = some (PR.mp h (x.th f)) := by
 cases x with
 | ok a => exact H a rfl
 | bad e => rfl
end
theorem eqC {a b : Int} (h : a = b) : (a == b) = true := beq_iff_eq.2 h
theorem neC {a b : Int} (h : a ≠ b) : (a == b) = false := beq_eq_false_iff_ne.2 h
theorem subC {α : Type} {l : List α} {lo hi : Int} (a b : Nat) (ha : lo = a) (hb : hi = b) (h1 : a ≤ b) (h2 : b ≤ l.length) : lSub l lo hi = some ((l.drop a).take (b - a)) := by
 subst ha hb
 unfold lSub
 rw [decide_eq_true (by omega)]
 rfl
theorem subCut {α : Type} {l m : List α} (h : m <+: l) : lSub l (0 : Int) ((m.length : Nat) : Int) = some (l.take m.length) := by
 rw [subC 0 m.length (by omega) (by omega) (Nat.zero_le _) (pre_len h)]
 rfl
theorem idxC {l : List Tree} {i : Int} (m : Nat) (h : i = m) (hm : m < l.length) : lIdx l i = some (kidC l m) := by
 rw [h, lIdx_natC hm, (kid_mem hm).1]
theorem catC {a b : ByteArray} (h : a.size + b.size ≤ 9223372036854775807) : sCat a b = some (a ++ b) := by
 unfold sCat
 rw [decide_eq_true h]
 rfl
def RcN (R : CK) (d : Nat) : Prop := ∀ (nm : ByteArray) (at_ pc : Int) (ab : List ByteArray) (s : CSt) (t : Tree) (tg : Bool), sz t ≤ d → gw t → BdC s ab (sz t) →
 R.check_checker_node s.fs s.gl nm at_ pc s.sl s.cs s.lo s.lp ab t.kind t.text t.n t.at_ t.kids tg = some (PR.mp CSt.tup (nodeC d ab s t tg))
abbrev nsC (d : Nat) (ab : List ByteArray) (s : CSt) (l : List Tree) : PC CSt := nodesC (fun s x => nodeC d ab s x false) s l
def RcL (R : CK) (d : Nat) : Prop := ∀ (nm : ByteArray) (at_ pc : Int) (ab : List ByteArray) (s : CSt) (l : List Tree), (∀ x ∈ l, sz x ≤ d ∧ gw x) → BdC s ab (szs l) →
 R.check_checker_nodes s.fs s.gl nm at_ pc s.sl s.cs s.lo s.lp ab l = some (PR.mp CSt.tup (nsC d ab s l))
def RcX (R : CK) (d : Nat) : Prop := ∀ (nm : ByteArray) (at_ pc : Int) (ab : List ByteArray) (s : CSt) (k : Int) (t : ByteArray) (n a : Int) (l : List Tree) (tg : Bool), (∀ x ∈ l, sz x ≤ d ∧ gw x) → (k = 7 → l.length = 2) → BdC s ab (szs l + 1) →
 R.check_checker_exp s.fs s.gl nm at_ pc s.sl s.cs s.lo s.lp ab k t n a l tg = some (PR.mp CSt.tup (expC (fun s l => nsC d ab s l) ab s k t n a l tg))
def RcP (R : CK) (d : Nat) : Prop := ∀ (nm : ByteArray) (at_ pc : Int) (ab : List ByteArray) (s : CSt) (k : Int) (t : ByteArray) (n a : Int) (l names : List Tree) (b : Tree) (more : Nat), more = 0 ∨ more = 3 → sz b ≤ d → gw b → BdC s ab (sz b + names.length + 1) →
 R.check_checker_loop s.fs s.gl nm at_ pc s.sl s.cs s.lo s.lp ab k t n a l names b.kind b.text b.n b.at_ b.kids (more : Int) = some (PR.mp CSt.tup (loopC (fun s x => nodeC d ab s x false) a s names b more))
def RcF (R : CK) (d : Nat) : Prop := ∀ (nm : ByteArray) (at_ pc : Int) (ab : List ByteArray) (s : CSt) (t : ByteArray) (m : Nat) (a : Int) (l : List Tree), (∀ x ∈ l, sz x ≤ d ∧ gw x) → l.length = m + 1 → BdC s ab (szs l + 1) →
 R.check_checker_function s.fs s.gl nm at_ pc s.sl s.cs s.lo s.lp ab 31 t (m : Int) a l = some (PR.mp CSt.tup (nodeC (d + 1) ab s (.mk 31 t (m : Int) a l) false))
theorem nodes_loopC {R : CK} {d : Nat} (hR : RcN R d) (nm : ByteArray) (at_ pc : Int) (ab : List ByteArray) : ∀ (t pre : List Tree) (s : CSt) (m : Nat), pre.length + t.length ≤ 400000 → t.length + 1 ≤ m → (∀ x ∈ t, sz x ≤ d ∧ gw x) → BdC s ab (szs t) →
  check_checker_nodes.l0 m R nm at_ pc ab (pre ++ t) (pre.length : Int) s.fs s.gl s.sl s.cs s.lo s.lp = some (PR.mp CSt.tup (nsC d ab s t))
 | [], pre, s, m, hl, hm, hw, hb => by
  obtain ⟨m, rfl⟩ : ∃ m', m = m' + 1 := ⟨m - 1, by omega⟩
  simp only [check_checker_nodes.l0]
  rw [ltF (by simp)]
  rfl
 | x :: t, pre, s, m, hl, hm, hw, hb => by
  obtain ⟨m, rfl⟩ : ∃ m', m = m' + 1 := ⟨m - 1, by omega⟩
  simp only [List.length_cons] at hl hm
  simp only [szs] at hb
  simp only [check_checker_nodes.l0]
  rw [ltT (by simp; omega), midC]
  simp only [cond_true, Option.bind_some]
  have hx := hw x (List.mem_cons_self ..)
  rw [hR nm at_ pc ab s x false hx.1 hx.2 (hb.weak (by omega))]
  unfold nsC nodesC
  refine bindM fun s' hs' => ?_
  have ih := nodes_loopC hR nm at_ pc ab t (pre ++ [x]) s' m (by simp; omega) (by omega) (fun y hy => hw y (List.mem_cons_of_mem _ hy)) (hb.step (node_post hx.2 hs'))
  rw [wiC _ (by omega) (by omega)]
  rw [List.append_assoc, List.length_append] at ih
  exact ih
theorem asg_loopC {R : CK} {d : Nat} (hR : RcN R d) (nm : ByteArray) (at_ pc : Int) (ab : List ByteArray) (n : Int) : ∀ (t pre : List Tree) (s : CSt) (m : Nat), pre.length + t.length ≤ 400000 → t.length + 1 ≤ m → (∀ x ∈ t, sz x ≤ d ∧ gw x) → BdC s ab (szs t) →
  check_checker_node.l0 m R nm at_ pc ab n (pre ++ t) (pre.length : Int) s.fs s.gl s.sl s.cs s.lo s.lp = some (PR.mp CSt.tup (asgC (fun s x b => nodeC d ab s x b) n pre.length s t))
 | [], pre, s, m, hl, hm, hw, hb => by
  obtain ⟨m, rfl⟩ : ∃ m', m = m' + 1 := ⟨m - 1, by omega⟩
  simp only [check_checker_node.l0]
  rw [ltF (by simp)]
  rfl
 | x :: t, pre, s, m, hl, hm, hw, hb => by
  obtain ⟨m, rfl⟩ : ∃ m', m = m' + 1 := ⟨m - 1, by omega⟩
  simp only [List.length_cons] at hl hm
  simp only [szs] at hb
  simp only [check_checker_node.l0]
  rw [ltT (by simp; omega), midC]
  simp only [cond_true, Option.bind_some]
  have hx := hw x (List.mem_cons_self ..)
  rw [hR nm at_ pc ab s x _ hx.1 hx.2 (hb.weak (by omega))]
  unfold asgC
  refine bindM fun s' hs' => ?_
  have ih := asg_loopC hR nm at_ pc ab n t (pre ++ [x]) s' m (by simp; omega) (by omega) (fun y hy => hw y (List.mem_cons_of_mem _ hy)) (hb.step (node_post hx.2 hs'))
  rw [wiC _ (by omega) (by omega)]
  rw [List.append_assoc, List.length_append] at ih
  exact ih
theorem nodes_of {k d : Nat} (hk : 500000 ≤ k) (hR : RcN (CK.at k) d) : RcL (CK.at (k + 1)) d := fun nm at_ pc ab s l hw hb => by
 have := szs_len l
 have := hb.pot
 exact nodes_loopC hR nm at_ pc ab l [] s k (by simp only [List.length_nil]; omega) (by omega) hw hb
theorem exp_of {k d : Nat} (hk : 500000 ≤ k) (hR : RcL (CK.at k) d) : RcX (CK.at (k + 1)) d := fun nm at_ pc ab s k0 t n a l tg hw h7 hb => by
 have hp := hb.pot
 have hlen := szs_len l
 have hL : ∀ s', BdC s' ab (szs l) → PR.bind ((CK.at k).check_checker_nodes s'.fs s'.gl nm at_ pc s'.sl s'.cs s'.lo s'.lp ab l) (fun r13 => some (PR.ok (r13.1, r13.2.1, r13.2.2.1, r13.2.2.2.1, r13.2.2.2.2.1, r13.2.2.2.2.2))) = some (PR.mp CSt.tup (nsC d ab s' l)) := fun s' hb => by
  rw [hR nm at_ pc ab s' l hw hb]
  cases nsC d ab s' l <;> rfl
 have hcs : ∀ v cs, constC a s.cs v = .ok cs → BdC { s with cs := cs } ab (szs l) := fun v cs h => ⟨by have := const_ok h; simp only [pot] at hp ⊢; omega, hb.ab, hb.lp0, by have := hb.lp; show s.lp + _ ≤ _; omega⟩
 show check_checker_exp.g (CK.at k) k s.fs s.gl nm at_ pc s.sl s.cs s.lo s.lp ab k0 t n a l tg = _
 unfold check_checker_exp.g expC joinF
 simp only [few_eq]
 have pot0 : s.gl.length ≤ 400000 ∧ s.lo.length ≤ 400000 ∧ s.cs.length ≤ 400000 := by simp only [pot] at hp; omega
 by_cases h : k0 = 8
 ·rw [eqC h, if_pos h, cond_true, wiC _ (by omega) (by omega)]
  exact bindN fun _ _ => hL s (hb.weak (by omega))
 rw [neC h, if_neg h, cond_false]
 by_cases h : k0 = 30
 ·rw [eqC h, if_pos h, cond_true]
  exact bindN fun _ _ => hL s (hb.weak (by omega))
 rw [neC h, if_neg h, cond_false]
 by_cases h : k0 = 12
 ·rw [eqC h, if_pos h, cond_true]
  exact bindN fun _ _ => hL s (hb.weak (by omega))
 rw [neC h, if_neg h, cond_false]
 by_cases h : k0 = 4
 ·rw [eqC h, if_pos h, cond_true, const_eq _ _ _ _ _ _ _ _ pot0.2.2 hk]
  exact bindN fun cs hcs' => hL { s with cs := cs } (hcs _ _ hcs')
 rw [neC h, if_neg h, cond_false]
 by_cases h : k0 = 5
 ·rw [eqC h, if_pos h, cond_true, const_eq _ _ _ _ _ _ _ _ pot0.2.2 hk]
  exact bindN fun cs hcs' => hL { s with cs := cs } (hcs _ _ hcs')
 rw [neC h, if_neg h, cond_false]
 by_cases h : k0 = 6
 ·rw [eqC h, if_pos h, cond_true, name_eqC _ _ _ _ _ pot0.1 pot0.2.1 hb.ab hk]
  exact bindN fun gl hgl => hL { s with gl := gl } ⟨by have := name_ok hgl; simp only [pot] at hp ⊢; omega, hb.ab, hb.lp0, by have := hb.lp; show s.lp + _ ≤ _; omega⟩
 rw [neC h, if_neg h, cond_false]
 by_cases h : k0 = 7
 ·rw [eqC h, cond_true]
  have h2 := h7 h
  rw [idxC 0 (by omega) (by omega)]
  simp only [Option.bind_some]
  by_cases h6 : (kidC l 0).kind = 6
  ·rw [eqC h6, cond_true, kept_eq]
   simp only [Option.bind_some]
   cases hq : keptB (kidC l 0).text with
   | false =>
    rw [cond_false, if_neg (fun e => by cases e.2.2)]
    exact hL s (hb.weak (by omega))
   | true =>
    rw [cond_true, if_pos ⟨h, h6, rfl⟩, idxC 1 (by omega) (by omega)]
    simp only [Option.bind_some]
    unfold badKeyC
    cases tg with
    | true => rfl
    | false =>
     simp only [cond_false, Bool.false_or]
     by_cases h5 : (kidC l 1).kind = 5
     ·have e5 : ((kidC l 1).kind != 5) = false := by simp [h5]
      have w0 := (hw _ (kid_mem (l := l) (i := 0) (by omega)).2).2
      have w1 := (hw _ (kid_mem (l := l) (i := 1) (by omega)).2).2
      have z0 : (kidC l 0).text.size ≤ 30000 := by
       cases hx : kidC l 0 with
       | mk k1 t1 n1 a1 l1 => rw [hx] at w0; exact w0.1.1
      have z1 : (kidC l 1).text.size ≤ 30000 := by
       cases hx : kidC l 1 with
       | mk k1 t1 n1 a1 l1 => rw [hx] at w1; exact w1.1.1
      have zd : (⟨#[46]⟩ : ByteArray).size = 1 := rfl
      rw [e5, catC (by omega)]
      simp only [cond_false, Bool.false_or, Option.bind_some]
      rw [catC (by rw [ByteArray.size_append]; omega)]
      simp only [Option.bind_some]
      rw [library_eq k (by omega)]
      simp only [Option.bind_some]
      cases libOf (((kidC l 0).text ++ bDot ++ (kidC l 1).text).toList) == 0 <;> rfl
     ·have e5 : ((kidC l 1).kind != 5) = true := by simp [h5]
      rw [e5]
      rfl
  ·rw [neC h6, if_neg (fun e => h6 e.2.1)]
   exact hL s (hb.weak (by omega))
 rw [neC h, if_neg (fun e => h e.1), cond_false]
 exact hL s (hb.weak (by omega))
theorem loop_of {k d : Nat} (hk : 500000 ≤ k) (hR : RcN (CK.at k) d) : RcP (CK.at (k + 1)) d := fun nm at_ pc ab s k0 t n a l names b more hm hd hw hb => by
 have hp := hb.pot
 have hlp := hb.lp
 have hlp0 := hb.lp0
 show check_checker_loop.g (CK.at k) k s.fs s.gl nm at_ pc s.sl s.cs s.lo s.lp ab k0 t n a l names b.kind b.text b.n b.at_ b.kids (more : Int) = _
 unfold check_checker_loop.g loopC joinF apdZ
 have hlo : s.lo.length + 4 ≤ 400000 := by simp only [pot] at hp; omega
 rw [decide_eq_true (by rw [Int.toNat_natCast]; omega)]
 simp only [cond_true, Option.bind_some, Int.toNat_natCast]
 have tail : ∀ r : Int × List ByteArray, s.lo <+: r.2 → r.2.length ≤ s.lo.length + names.length + 3 →
   PR.bind ((CK.at k).check_checker_node s.fs s.gl nm at_ pc r.1 s.cs r.2 (IntKind.i64.wrap (s.lp + 1)) ab b.kind b.text b.n b.at_ b.kids false) (fun r15 => (lSub r15.2.2.2.2.1 (0 : Int) ((s.lo.length : Nat) : Int)).bind fun l33 => some (PR.ok (r15.1, r15.2.1, r15.2.2.1, r15.2.2.2.1, l33, IntKind.i64.wrap (r15.2.2.2.2.2 - 1))))
    = some (PR.mp CSt.tup ((nodeC d ab { s with sl := r.1, lo := r.2, lp := s.lp + 1 } b false).th fun s' => .ok { s' with lo := s'.lo.take s.lo.length, lp := s'.lp - 1 })) := fun r h1 h2 => by
  rw [wiC _ (by omega) (by omega)]
  have hb' : BdC { s with sl := r.1, lo := r.2, lp := s.lp + 1 } ab (sz b) := ⟨by simp only [pot] at hp ⊢; omega, hb.ab, by show 0 ≤ s.lp + 1; omega, by show s.lp + 1 + _ ≤ _; omega⟩
  have := hR nm at_ pc ab { s with sl := r.1, lo := r.2, lp := s.lp + 1 } b false hd hw hb'
  simp only at this
  rw [this]
  refine bindM fun s' hs' => ?_
  have hq := node_post hw hs'
  have hl' : s'.lp = s.lp + 1 := hq.lp
  show (lSub s'.lo (0 : Int) ((s.lo.length : Nat) : Int)).bind _ = _
  rw [subCut (h1.trans hq.pre), Option.bind_some, show s'.tup.2.2.2.2.2 = s'.lp from rfl, wiC _ (by omega) (by omega)]
  rfl
 rcases hm with rfl | rfl
 ·simp only [List.replicate_zero, List.append_nil]
  rw [decide_eq_false (p := ((0 : Nat) : Int) > 0) (by omega), cond_false, if_neg (by omega)]
  have := tail (s.sl, s.lo) (List.prefix_refl _) (by show s.lo.length ≤ _; omega)
  exact this
 ·rw [decide_eq_true (p := ((3 : Nat) : Int) > 0) (by omega), cond_true]
  rw [bring_eq _ _ _ _ _ _ (by omega) (by simp; omega) hk, if_pos (by omega)]
  refine bindN fun r hr => ?_
  have hr' := bring_ok hr
  refine tail r ?_ ?_
  ·rw [hr'.1]; exact ⟨_, by rw [List.append_assoc]⟩
  ·rw [hr'.1]; simp; omega
theorem fn_of {k d : Nat} (hk : 500000 ≤ k) (hR : RcN (CK.at k) d) : RcF (CK.at (k + 1)) d := fun nm at_ pc ab s t m a l hw hm hb => by
 have hp := hb.pot
 have hlen := szs_len l
 have hkid := kid_mem (l := l) (i := m) (by omega)
 have hks := szs_kid (l := l) (i := m) (by omega)
 have hts := szs_len (l.take m)
 rw [List.length_take] at hts
 have hglen := addG_len s.gl t
 have hpp : s.fs.length ≤ 400000 ∧ s.gl.length ≤ 399999 ∧ s.lo.length ≤ 400000 := by simp only [pot] at hp; omega
 show check_checker_function.g (CK.at k) k s.fs s.gl nm at_ pc s.sl s.cs s.lo s.lp ab 31 t (m : Int) a l = _
 unfold check_checker_function.g joinF nodeC
 rw [if_neg (by decide), if_pos rfl, few_eq]
 refine bindN fun _ _ => ?_
 rw [kept_eq]
 simp only [Option.bind_some]
 cases hq : keptB t with
 | true => rfl
 | false =>
  simp only [cond_false, Bool.false_eq_true, if_false]
  rw [few_eq]
  refine bindN fun _ _ => ?_
  rw [global_eq t (by omega) hk, Option.bind_some, subC 0 m (by omega) (by omega) (Nat.zero_le _) (by omega), Option.bind_some]
  simp only [List.drop_zero, Nat.sub_zero, Int.toNat_natCast]
  rw [bring_eq _ _ _ _ _ _ (by rw [List.length_take]; omega) (by simp) hk]
  refine bindN fun r hr => ?_
  have hr' := bring_ok hr
  have hrl : r.2.length ≤ m := by rw [hr'.1]; simp; omega
  rw [idxC m (by omega) (by omega), Option.bind_some]
  have hw' := hw _ hkid.2
  have hb' : BdC ⟨s.fs, addG s.gl t, r.1, [], r.2, 0⟩ s.lo (sz (kidC l m)) := ⟨by simp only [pot, List.length_nil] at hp ⊢; omega, hpp.2.2, Int.le_refl _, by show (0 : Int) + _ ≤ _; omega⟩
  have := hR t a m s.lo ⟨s.fs, addG s.gl t, r.1, [], r.2, 0⟩ (kidC l m) false hw'.1 hw'.2 hb'
  simp only at this
  rw [this]
  refine bindM fun s' hs' => ?_
  have hq' := (node_post hw'.2 hs').pot
  show (apd 64 s'.fs [(t, a, (m : Int), s'.sl, s'.cs)]).bind _ = _
  rw [apdC (by simp only [pot, List.length_nil] at hp hq'; simp; omega)]
  rfl
theorem node_of {k d : Nat} (hk : 500000 ≤ k) (hR : RcN (CK.at k) d) (hL : RcL (CK.at k) d) (hX : RcX (CK.at k) d) (hP : RcP (CK.at k) d) (hF : RcF (CK.at k) d) : RcN (CK.at (k + 1)) (d + 1) := fun nm at_ pc ab s x tg hd hw hb => by
 cases x with
 | mk k0 t n a l =>
  obtain ⟨⟨hs1, hs7, hs25, hs26, hs21, hs27, hs31⟩, hw⟩ := hw
  rw [gws_iff] at hw
  simp only [sz] at hd hb
  have hlen := szs_len l
  have hp := hb.pot
  have hwd : ∀ x ∈ l, sz x ≤ d ∧ gw x := fun x hx => ⟨by have := sz_memC hx; omega, hw x hx⟩
  have id' : ∀ (x : PC CSt) , PR.bind (some (PR.mp CSt.tup x)) (fun r => some (PR.ok (r.1, r.2.1, r.2.2.1, r.2.2.2.1, r.2.2.2.2.1, r.2.2.2.2.2))) = some (PR.mp CSt.tup x) := fun x => by cases x <;> rfl
  have nP : ∀ {m : List Tree}, (∀ x ∈ m, x ∈ l) → ∀ {s s'}, nsC d ab s m = .ok s' → Post s s' (4 * szs m) := fun hm _ _ h => nodes_post (fun s x s' hx h => node_post (hw x (hm x hx)) h) h
  show check_checker_node.g (CK.at k) k s.fs s.gl nm at_ pc s.sl s.cs s.lo s.lp ab k0 t n a l tg = some (PR.mp CSt.tup (nodeC (d + 1) ab s (.mk k0 t n a l) tg))
  unfold check_checker_node.g
  by_cases h31 : k0 = 31
  ·obtain ⟨m, rfl, hm⟩ := hs31 h31
   subst h31
   rw [neC (by decide), cond_false, eqC rfl, cond_true, hF nm at_ pc ab s t m a l hwd hm (hb.weak (by omega)), id']
   rfl
  unfold nodeC
  by_cases h : k0 = 20
  ·rw [eqC h, if_pos h, cond_true, hL nm at_ pc ab s l hwd (hb.weak (by omega))]
   refine bindM fun s' hs' => ?_
   show (lSub s'.lo (0 : Int) ((s.lo.length : Nat) : Int)).bind _ = _
   rw [subCut (nP (fun _ h => h) hs').pre]
   rfl
  rw [neC h, if_neg h, cond_false, neC h31, if_neg h31, cond_false]
  simp only [few_eq]
  by_cases h : k0 = 21
  ·obtain ⟨m, rfl, hm⟩ := hs21 (.inl h)
   rw [eqC h, if_pos h, cond_true, wiC _ (by omega) (by omega)]
   refine bindN fun _ _ => bindN fun _ _ => ?_
   have hsp := szs_split l m
   have hlt := szs_len (l.take m)
   rw [subC m l.length (by omega) (by omega) hm (Nat.le_refl _), Option.bind_some, List.take_of_length_le (by rw [List.length_drop]; omega)]
   rw [hL nm at_ pc ab s _ (fun x hx => hwd x (List.mem_of_mem_drop hx)) (hb.weak (by omega))]
   simp only [Int.toNat_natCast]
   refine bindM fun s' hs' => ?_
   have hq := (nP (fun _ h => List.mem_of_mem_drop h) hs').pot
   rw [subC 0 m (by omega) (by omega) (Nat.zero_le _) hm, Option.bind_some]
   simp only [List.drop_zero, Nat.sub_zero, CSt.tup]
   rw [bring_eq _ _ _ _ _ _ (by rw [List.length_take]; omega) (by simp only [pot] at hp hq; omega) hk]
   exact bindN fun r hr => rfl
  rw [neC h, if_neg h, cond_false]
  by_cases h : k0 = 22
  ·obtain ⟨m, rfl, hm⟩ := hs21 (.inr h)
   rw [eqC h, if_pos h, cond_true, wiC _ (by omega) (by omega)]
   refine bindN fun _ _ => bindN fun _ _ => ?_
   exact asg_loopC hR nm at_ pc ab _ l [] s k (by simp only [List.length_nil]; omega) (by omega) hwd (hb.weak (by omega))
  rw [neC h, if_neg h, cond_false]
  by_cases h : k0 = 25
  ·have h2 := hs25 h
   have k0 := kid_mem (l := l) (i := 0) (by omega)
   have k1 := kid_mem (l := l) (i := 1) (by omega)
   have e1 := szs_kid (l := l) (i := 1) (by omega)
   have e2 : szs (l.take 1) = sz (kidC l 0) := by
    have := szs_kid (l := l) (i := 0) (by omega)
    have := szs_split l 1
    simp only [List.take_zero, szs, Nat.zero_add] at *
    omega
   rw [eqC h, if_pos h, cond_true, idxC 0 (by omega) (by omega), Option.bind_some, hR nm at_ pc ab s (kidC l 0) false (hwd _ k0.2).1 (hwd _ k0.2).2 (hb.weak (by omega))]
   refine bindM fun s' hs' => ?_
   have hb' : BdC s' ab (sz (kidC l 1) + 0 + 1) := (hb.weak (m := sz (kidC l 0) + (sz (kidC l 1) + 0 + 1)) (by omega)).step (node_post (hwd _ k0.2).2 hs')
   rw [idxC 1 (by omega) (by omega), Option.bind_some]
   have := hP nm at_ pc ab s' 25 t n a l [] (kidC l 1) 0 (.inl rfl) (hwd _ k1.2).1 (hwd _ k1.2).2 hb'
   simp only [CSt.tup]
   rw [h]
   have this := this
   simp only [Int.ofNat_zero, Int.natCast_zero] at this
   rw [this]
   exact id' _
  rw [neC h, if_neg h, cond_false]
  by_cases h : k0 = 26
  ·have h2 := hs26 h
   have kl := kid_mem (l := l) (i := l.length - 1) (by omega)
   have e1 := szs_kid (l := l) (i := l.length - 1) (by omega)
   have e2 : szs ((l.drop 1).take (l.length - 2)) + szs (l.take 1) ≤ szs (l.take (l.length - 1)) := by
    have := szs_split (l.take (l.length - 1)) 1
    rw [List.drop_take, List.take_take, Nat.min_eq_left (by omega), show l.length - 1 - 1 = l.length - 2 by omega] at this
    omega
   have e3 := szs_len (l.take 1)
   rw [eqC h, if_pos h, cond_true, wiC _ (by omega) (by omega), subC 1 (l.length - 1) (by omega) (by omega) (by omega) (by omega), Option.bind_some, show l.length - 1 - 1 = l.length - 2 by omega]
   rw [hL nm at_ pc ab s _ (fun x hx => hwd x (List.mem_of_mem_drop (List.mem_of_mem_take hx))) (hb.weak (by omega))]
   refine bindM fun s' hs' => ?_
   have hb' := (hb.weak (m := szs ((l.drop 1).take (l.length - 2)) + (sz (kidC l (l.length - 1)) + (l.take 1).length + 1)) (by omega)).step (nP (fun x hx => List.mem_of_mem_drop (List.mem_of_mem_take hx)) hs')
   rw [subC 0 1 (by omega) (by omega) (Nat.zero_le _) (by omega), Option.bind_some, idxC (l.length - 1) (by omega) (by omega), Option.bind_some]
   simp only [List.drop_zero, Nat.sub_zero, CSt.tup]
   have := hP nm at_ pc ab s' k0 t n a l (l.take 1) (kidC l (l.length - 1)) 3 (.inr rfl) (hwd _ kl.2).1 (hwd _ kl.2).2 hb'
   have this : (CK.at k).check_checker_loop s'.fs s'.gl nm at_ pc s'.sl s'.cs s'.lo s'.lp ab k0 t n a l (l.take 1) (kidC l (l.length - 1)).kind (kidC l (l.length - 1)).text (kidC l (l.length - 1)).n (kidC l (l.length - 1)).at_ (kidC l (l.length - 1)).kids (3 : Int) = _ := this
   rw [this]
   exact id' _
  rw [neC h, if_neg h, cond_false]
  by_cases h : k0 = 27
  ·obtain ⟨m, rfl, hm⟩ := hs27 h
   have kl := kid_mem (l := l) (i := l.length - 1) (by omega)
   have e1 := szs_kid (l := l) (i := l.length - 1) (by omega)
   have e2 : szs ((l.drop m).take (l.length - 1 - m)) + szs (l.take m) ≤ szs (l.take (l.length - 1)) := by
    have := szs_split (l.take (l.length - 1)) m
    rw [List.drop_take, List.take_take, Nat.min_eq_left (by omega)] at this
    omega
   have e3 := szs_len (l.take m)
   rw [eqC h, if_pos h, cond_true, wiC ((l.length : Int) - 1) (by omega) (by omega), wiC _ (by omega) (by omega)]
   refine bindN fun _ _ => bindN fun _ _ => ?_
   rw [subC m (l.length - 1) (by omega) (by omega) (by omega) (by omega), Option.bind_some]
   rw [hL nm at_ pc ab s _ (fun x hx => hwd x (List.mem_of_mem_drop (List.mem_of_mem_take hx))) (hb.weak (by omega))]
   simp only [Int.toNat_natCast]
   refine bindM fun s' hs' => ?_
   have hb' := (hb.weak (m := szs ((l.drop m).take (l.length - 1 - m)) + (sz (kidC l (l.length - 1)) + (l.take m).length + 1)) (by omega)).step (nP (fun x hx => List.mem_of_mem_drop (List.mem_of_mem_take hx)) hs')
   rw [subC 0 m (by omega) (by omega) (Nat.zero_le _) (by omega), Option.bind_some, idxC (l.length - 1) (by omega) (by omega), Option.bind_some]
   simp only [List.drop_zero, Nat.sub_zero, CSt.tup]
   have := hP nm at_ pc ab s' k0 t m a l (l.take m) (kidC l (l.length - 1)) 3 (.inr rfl) (hwd _ kl.2).1 (hwd _ kl.2).2 hb'
   have this : (CK.at k).check_checker_loop s'.fs s'.gl nm at_ pc s'.sl s'.cs s'.lo s'.lp ab k0 t m a l (l.take m) (kidC l (l.length - 1)).kind (kidC l (l.length - 1)).text (kidC l (l.length - 1)).n (kidC l (l.length - 1)).at_ (kidC l (l.length - 1)).kids (3 : Int) = _ := this
   rw [this]
   exact id' _
  rw [neC h, if_neg h, cond_false]
  by_cases h : k0 = 29
  ·rw [eqC h, if_pos h, cond_true]
   by_cases h0 : s.lp = 0
   ·rw [eqC h0, if_pos h0]; rfl
   ·rw [neC h0, if_neg h0]; rfl
  rw [neC h, if_neg h, cond_false, hX nm at_ pc ab s k0 t n a l tg hwd hs7 (hb.weak (by omega)), id']
theorem node_rc : ∀ (d k : Nat), 500003 + 3 * d ≤ k → RcN (CK.at k) d
 | 0, k, _ => fun nm at_ pc ab s t tg h => by have := sz_posC t; omega
 | d + 1, k, hk => by
  obtain ⟨k, rfl⟩ : ∃ m, k = m + 3 := ⟨k - 3, by omega⟩
  have h0 := node_rc d k (by omega)
  have h1 := node_rc d (k + 1) (by omega)
  have h2 := node_rc d (k + 2) (by omega)
  exact node_of (by omega) h2 (nodes_of (by omega) h1) (exp_of (by omega) (nodes_of (by omega) h0)) (loop_of (by omega) h1) (fn_of (by omega) h1)
end Go.Proofs.YtdkgnlaneccioaaGreatDoor
namespace Go.Proofs.YtdkgnlaneccioaaGreatDoor
open Go Go.RowKit Lx
mutual
def htT : Tree → Nat
 | .mk _ _ _ _ l => htTs l + 1
def htTs : List Tree → Nat
 | [] => 0
 | x :: l => max (htT x) (htTs l)
end
mutual
theorem ht_sz : ∀ t : Tree, htT t ≤ sz t
 | .mk _ _ _ _ l => by simp only [htT, sz]; have := hts_szs l; omega
theorem hts_szs : ∀ l : List Tree, htTs l ≤ szs l
 | [] => by simp [htTs, szs]
 | x :: l => by simp only [htTs, szs]; have := ht_sz x; have := hts_szs l; omega
end
theorem ht_loop (J : Int → Option Int) (R : H1) : ∀ (t pre : List Tree) (m a : Nat), pre.length + t.length ≤ 10000000 → t.length + 1 ≤ m →
  (∀ x ∈ t, R.parse_Height x.kind x.text x.n x.at_ x.kids = some (htT x : Int)) → parse_Height.l0 m R (pre ++ t) J (a : Int) (pre.length : Int) = J ((max a (htTs t) : Nat) : Int)
 | [], pre, m, a, hl, hm, _ => by
  obtain ⟨m, rfl⟩ : ∃ m', m = m' + 1 := ⟨m - 1, by omega⟩
  simp only [parse_Height.l0]
  rw [ltF (by simp)]
  simp [htTs]
 | x :: t, pre, m, a, hl, hm, hR => by
  obtain ⟨m, rfl⟩ : ∃ m', m = m' + 1 := ⟨m - 1, by omega⟩
  simp only [List.length_cons] at hl hm
  have ih := ht_loop J R t (pre ++ [x]) m (max a (htT x)) (by simp; omega) (by omega) (fun y hy => hR y (List.mem_cons_of_mem _ hy))
  simp only [parse_Height.l0]
  rw [ltT (by simp; omega), midC]
  simp only [cond_true, Option.bind_some]
  rw [hR x (List.mem_cons_self ..)]
  simp only [Option.bind_some]
  rw [wiC _ (by omega) (by omega)]
  rw [List.append_assoc, List.length_append] at ih
  have e1 : (if (htT x : Int) > (a : Int) then (htT x : Int) else (a : Int)) = ((max a (htT x) : Nat) : Int) := by split <;> omega
  rw [e1]
  refine ih.trans (congrArg J ?_)
  simp only [htTs]
  omega
theorem ht_eq : ∀ (k : Nat) (t : Tree), sz t ≤ k → sz t ≤ 1000000 → parse_Height.g (H1.at k) k t.kind t.text t.n t.at_ t.kids = some (htT t : Int)
 | 0, t, h, _ => by have := sz_posC t; omega
 | k + 1, .mk kd tx n a l, h, h9 => by
  simp only [sz] at h h9
  have hl := szs_len l
  have hh := hts_szs l
  unfold parse_Height.g joinF
  have := ht_loop (fun x2 => some (IntKind.i64.wrap (x2 + (1 : Int)))) (H1.at (k + 1)) l [] (k + 1) 0 (by simp only [List.length_nil]; omega) (by omega) fun x hx => by
   have := sz_memC hx
   exact ht_eq k x (by omega) (by omega)
  refine this.trans ?_
  rw [wiC _ (by omega) (by omega)]
  simp [htT]
def st0 : CSt := ⟨[(⟨#[]⟩, 0, 0, 0, [])], [], 0, [], [], 0⟩
def treeC (d : Nat) (n : Tree) : PC CSt := if htT n > 100 then .bad (6, n.at_) else nodeC d [] st0 n false
abbrev Rep := List FRow × List ByteArray × Int × Int
def repC (a : Int) : PC CSt → Rep
 | .bad e => ([], [], e.1, e.2)
 | .ok s => ((⟨#[]⟩, a, 0, s.sl, s.cs) :: s.fs.tail, s.gl, 0, 0)
theorem node_fs : ∀ {d : Nat} {ab : List ByteArray} {s s' : CSt} {t : Tree} {tg : Bool}, nodeC d ab s t tg = .ok s' → s.fs <+: s'.fs := by
 intro d
 induction d with
 | zero => intro ab s s' t tg h; unfold nodeC at h; cases h
 | succ d ih =>
  have hN : ∀ {m : List Tree} {ab s s'}, nodesC (fun s x => nodeC d ab s x false) s m = .ok s' → s.fs <+: s'.fs := by
   intro m
   induction m with
   | nil => intro ab s s' h; cases h; exact List.prefix_refl _
   | cons x m ihm =>
    intro ab s s' h
    unfold nodesC at h
    obtain ⟨s1, h1, h⟩ := th_ok h
    exact (ih h1).trans (ihm h)
  have hA : ∀ {m : List Tree} {n i ab s s'}, asgC (fun s x b => nodeC d ab s x b) n i s m = .ok s' → s.fs <+: s'.fs := by
   intro m
   induction m with
   | nil => intro n i ab s s' h; cases h; exact List.prefix_refl _
   | cons x m ihm =>
    intro n i ab s s' h
    unfold asgC at h
    obtain ⟨s1, h1, h⟩ := th_ok h
    exact (ih h1).trans (ihm h)
  have hP : ∀ {a : Int} {names : List Tree} {b : Tree} {more : Nat} {ab s s'}, loopC (fun s x => nodeC d ab s x false) a s names b more = .ok s' → s.fs <+: s'.fs := by
   intro a names b more ab s s' h
   unfold loopC at h
   obtain ⟨r, _, h⟩ := th_ok h
   obtain ⟨s1, h1, h⟩ := th_ok h
   cases h
   have h2 := ih (show nodeC d ab _ b false = _ from h1)
   exact h2
  intro ab s s' t tg h
  cases t with
  | mk k t n a l =>
   unfold nodeC at h
   split at h
   ·obtain ⟨s1, h1, h⟩ := th_ok h; cases h; have h2 := hN h1; exact h2
   split at h
   ·obtain ⟨_, _, h⟩ := th_ok h
    split at h
    ·cases h
    obtain ⟨_, _, h⟩ := th_ok h
    obtain ⟨r, _, h⟩ := th_ok h
    obtain ⟨s1, h1, h⟩ := th_ok h
    cases h
    exact (ih h1).trans (List.prefix_append _ _)
   split at h
   ·obtain ⟨_, _, h⟩ := th_ok h
    obtain ⟨_, _, h⟩ := th_ok h
    obtain ⟨s1, h1, h⟩ := th_ok h
    obtain ⟨r, _, h⟩ := th_ok h
    cases h; have h2 := hN h1; exact h2
   split at h
   ·obtain ⟨_, _, h⟩ := th_ok h
    obtain ⟨_, _, h⟩ := th_ok h
    exact hA h
   split at h
   ·obtain ⟨s1, h1, h⟩ := th_ok h; exact (ih h1).trans (hP h)
   split at h
   ·obtain ⟨s1, h1, h⟩ := th_ok h; exact (hN h1).trans (hP h)
   split at h
   ·obtain ⟨_, _, h⟩ := th_ok h
    obtain ⟨_, _, h⟩ := th_ok h
    obtain ⟨s1, h1, h⟩ := th_ok h; exact (hN h1).trans (hP h)
   split at h
   ·split at h
    ·cases h
    ·cases h; exact List.prefix_refl _
   ·unfold expC at h
    (repeat' split at h) <;> first
     | (cases h; done)
     | (cases h; exact List.prefix_refl _)
     | exact hN h
     | (obtain ⟨_, _, h⟩ := th_ok h; have h2 := hN (show nodesC (fun s x => nodeC d ab s x false) _ l = _ from h); exact h2)
theorem wfC_gw {n : Tree} (h : wfC n) : gw n ∧ n.kind = 20 := by
 cases n with
 | mk k t n a l =>
  obtain ⟨h1, h0, h2⟩ := h
  subst h1
  exact ⟨⟨⟨h0, nx rfl, nx rfl, nx rfl, nx rfl, nx rfl, nx rfl⟩, gws_iff.2 fun x hx => (h2 x hx).elim wfT_gw fnT_gw⟩, rfl⟩
theorem check_eq (k : Nat) (hk : 900000 ≤ k) (s : ByteArray) : check_Check.f k s = some (match parseV s with | (kd, tx, n, a, l, c, p) => if c ≠ 0 then ([], [], c, p) else repC a (treeC 100000 (.mk kd tx n a l))) := by
 unfold check_Check.f
 rw [pparse_eq k (by omega), Option.bind_some]
 rcases parseV_shape s with ⟨c, p, hc, he⟩ | ⟨n, he, hw, hz⟩
 ·rw [he]
  unfold outV
  simp only
  rw [show (c != 0) = true by rw [bne_iff_ne]; exact hc, cond_true, if_pos hc]
 ·rw [he]
  unfold treeV
  obtain ⟨hg, _⟩ := wfC_gw hw
  simp only [bne_self_eq_false, cond_false, joinF, ne_eq, not_true_eq_false, if_false]
  have e : Tree.mk n.kind n.text n.n n.at_ n.kids = n := by cases n; rfl
  rw [e, show parse_Height.f k n.kind n.text n.n n.at_ n.kids = some (htT n : Int) from ht_eq k n (by omega) (by omega)]
  simp only [Option.bind_some]
  unfold treeC
  by_cases hh : htT n > 100
  ·rw [decide_eq_true (by omega), if_pos hh]
   rfl
  ·rw [decide_eq_false (by omega), if_neg hh, cond_false]
   have hb : BdC st0 [] (sz n) := ⟨by simp only [pot, st0, List.length_cons, List.length_nil]; omega, by simp, Int.le_refl _, by show (0 : Int) + _ ≤ _; omega⟩
   have hk' := node_rc 100000 (k + 1) (by omega) ⟨#[]⟩ n.at_ 0 [] st0 n false (by omega) hg hb
   have hk' : check_checker_node.f k [(⟨#[]⟩, 0, 0, 0, [])] [] ⟨#[]⟩ n.at_ 0 0 [] [] 0 [] n.kind n.text n.n n.at_ n.kids false = _ := hk'
   rw [hk']
   cases hn : nodeC 100000 [] st0 n false with
   | bad e => rfl
   | ok s' =>
    obtain ⟨t, ht⟩ := node_fs hn
    cases s' with
    | mk fs gl sl cs lo lp =>
     have ht : (⟨#[]⟩, 0, 0, 0, []) :: t = fs := ht
     subst ht
     rfl
end Go.Proofs.YtdkgnlaneccioaaGreatDoor
namespace Go.Proofs.YtdkgnlaneccioaaGreatDoor
open Go Go.RowKit Lx
mutual
/-- Does a node of the tree begin at a? -/
def bgT (a : Int) : Tree → Prop
 | .mk _ _ _ p l => p = a ∨ bgTs a l
def bgTs (a : Int) : List Tree → Prop
 | [] => False
 | x :: l => bgT a x ∨ bgTs a l
end
theorem bgTs_iff {a : Int} : ∀ {l : List Tree}, bgTs a l ↔ ∃ x ∈ l, bgT a x
 | [] => by simp [bgTs]
 | x :: l => by simp [bgTs, bgTs_iff (l := l)]
theorem bg_self (x : Tree) : bgT x.at_ x := by cases x; exact .inl rfl
def Flt (e : Int × Int) (t : Tree) : Prop := (e.1 = 5 ∨ e.1 = 6) ∧ bgT e.2 t
theorem Flt.kid {e : Int × Int} {k n a : Int} {t : ByteArray} {l : List Tree} {x : Tree} (hx : x ∈ l) (h : Flt e x) : Flt e (.mk k t n a l) := ⟨h.1, .inr (bgTs_iff.2 ⟨x, hx, h.2⟩)⟩
theorem Flt.at5 {k n a : Int} {t : ByteArray} {l : List Tree} : Flt (5, a) (.mk k t n a l) := ⟨.inl rfl, .inl rfl⟩
theorem Flt.at6 {k n a : Int} {t : ByteArray} {l : List Tree} : Flt (6, a) (.mk k t n a l) := ⟨.inr rfl, .inl rfl⟩
theorem few_bad {a c m : Int} {e : Int × Int} (h : fewC a c m = .bad e) : e = (6, a) := by
 unfold fewC at h
 split at h
 ·cases h; rfl
 ·cases h
theorem names_bad {e : Int × Int} : ∀ {l : List Tree} {lo : List ByteArray}, namesC lo l = .bad e → ∃ x ∈ l, e = (5, x.at_)
 | [], _, h => by cases h
 | x :: l, lo, h => by
  unfold namesC at h
  split at h
  ·cases h; exact ⟨x, List.mem_cons_self .., rfl⟩
  ·obtain ⟨y, hy, e⟩ := names_bad h
   exact ⟨y, List.mem_cons_of_mem _ hy, e⟩
theorem bring_bad {a sl : Int} {lo : List ByteArray} {l : List Tree} {e : Int × Int} (h : bringC a sl lo l = .bad e) : (∃ x ∈ l, e = (5, x.at_)) ∨ e = (6, a) := by
 unfold bringC at h
 rcases th_bad h with h | ⟨lo', _, h⟩
 ·exact .inl (names_bad h)
 rcases th_bad h with h | ⟨_, _, h⟩
 ·exact .inr (few_bad h)
 ·cases h
theorem nodes_bad {f : CSt → Tree → PC CSt} {e : Int × Int} : ∀ {l : List Tree} {s : CSt}, nodesC f s l = .bad e → ∃ x ∈ l, ∃ s, f s x = .bad e
 | [], _, h => by cases h
 | x :: l, s, h => by
  unfold nodesC at h
  rcases th_bad h with h | ⟨s1, _, h⟩
  ·exact ⟨x, List.mem_cons_self .., s, h⟩
  ·obtain ⟨y, hy, e⟩ := nodes_bad h
   exact ⟨y, List.mem_cons_of_mem _ hy, e⟩
theorem asg_bad {f : CSt → Tree → Bool → PC CSt} {n : Int} {e : Int × Int} : ∀ {l : List Tree} {i : Nat} {s : CSt}, asgC f n i s l = .bad e → ∃ x ∈ l, ∃ s b, f s x b = .bad e
 | [], _, _, h => by cases h
 | x :: l, i, s, h => by
  unfold asgC at h
  rcases th_bad h with h | ⟨s1, _, h⟩
  ·exact ⟨x, List.mem_cons_self .., s, _, h⟩
  ·obtain ⟨y, hy, e⟩ := asg_bad h
   exact ⟨y, List.mem_cons_of_mem _ hy, e⟩
theorem loop_bad {f : CSt → Tree → PC CSt} {a : Int} {s : CSt} {names : List Tree} {b : Tree} {more : Nat} {e : Int × Int} (h : loopC f a s names b more = .bad e) : (∃ x ∈ names, e = (5, x.at_)) ∨ e = (6, a) ∨ ∃ s, f s b = .bad e := by
 unfold loopC at h
 rcases th_bad h with h | ⟨r, _, h⟩
 ·split at h
  ·rcases bring_bad h with h | h
   ·exact .inl h
   ·exact .inr (.inl h)
  ·cases h
 rcases th_bad h with h | ⟨_, _, h⟩
 ·exact .inr (.inr ⟨_, h⟩)
 ·cases h
theorem exp_bad {f : CSt → List Tree → PC CSt} {ab : List ByteArray} {s : CSt} {k n a : Int} {t : ByteArray} {l : List Tree} {tg : Bool} {e : Int × Int} (h : expC f ab s k t n a l tg = .bad e) : e = (5, a) ∨ e = (6, a) ∨ ∃ s, f s l = .bad e := by
 unfold expC at h
 have cst : ∀ {v : V3}, constC a s.cs v = .bad e → e = (6, a) := fun h => by
  unfold constC at h
  split at h
  ·cases h
  rcases th_bad h with h | ⟨_, _, h⟩
  ·exact few_bad h
  ·cases h
 have nme : nameC a t s.gl s.lo ab = .bad e → e = (5, a) := fun h => by
  unfold nameC at h
  split at h
  ·cases h; rfl
  split at h
  ·cases h
  split at h
  ·cases h; rfl
  ·cases h
 split at h
 ·rcases th_bad h with h | ⟨_, _, h⟩
  ·exact .inr (.inl (few_bad h))
  ·exact .inr (.inr ⟨_, h⟩)
 split at h
 ·rcases th_bad h with h | ⟨_, _, h⟩
  ·exact .inr (.inl (few_bad h))
  ·exact .inr (.inr ⟨_, h⟩)
 split at h
 ·rcases th_bad h with h | ⟨_, _, h⟩
  ·exact .inr (.inl (few_bad h))
  ·exact .inr (.inr ⟨_, h⟩)
 split at h
 ·rcases th_bad h with h | ⟨_, _, h⟩
  ·exact .inr (.inl (cst h))
  ·exact .inr (.inr ⟨_, h⟩)
 split at h
 ·rcases th_bad h with h | ⟨_, _, h⟩
  ·exact .inr (.inl (cst h))
  ·exact .inr (.inr ⟨_, h⟩)
 split at h
 ·rcases th_bad h with h | ⟨_, _, h⟩
  ·exact .inl (nme h)
  ·exact .inr (.inr ⟨_, h⟩)
 split at h
 ·split at h
  ·cases h; exact .inl rfl
  ·cases h
 ·exact .inr (.inr ⟨_, h⟩)
theorem node_bad {e : Int × Int} : ∀ {d : Nat} {ab : List ByteArray} {s : CSt} {t : Tree} {tg : Bool}, sz t ≤ d → gw t → nodeC d ab s t tg = .bad e → Flt e t
 | 0, _, _, t, _, hd, _, _ => by have := sz_posC t; omega
 | d + 1, ab, s, .mk k t n a l, tg, hd, hw, h => by
  obtain ⟨⟨hs1, hs7, hs25, hs26, hs21, hs27, hs31⟩, hw⟩ := hw
  rw [gws_iff] at hw
  simp only [sz] at hd
  have hlen := szs_len l
  have K : ∀ {x : Tree} {ab s tg}, x ∈ l → nodeC d ab s x tg = .bad e → Flt e (.mk k t n a l) := fun hx h => Flt.kid hx (node_bad (by have := sz_memC hx; omega) (hw _ hx) h)
  have L : ∀ {m : List Tree} {ab s}, (∀ x ∈ m, x ∈ l) → nodesC (fun s x => nodeC d ab s x false) s m = .bad e → Flt e (.mk k t n a l) := fun hm h => by
   obtain ⟨x, hx, s, h⟩ := nodes_bad h
   exact K (hm x hx) h
  have N : ∀ {m : List Tree}, (∀ x ∈ m, x ∈ l) → ((∃ x ∈ m, e = (5, x.at_)) ∨ e = (6, a)) → Flt e (.mk k t n a l) := fun hm h => by
   rcases h with ⟨x, hx, rfl⟩ | rfl
   ·exact Flt.kid (hm x hx) ⟨.inl rfl, bg_self x⟩
   ·exact Flt.at6
  have P : ∀ {m : List Tree} {b : Tree} {more ab s}, (∀ x ∈ m, x ∈ l) → b ∈ l → loopC (fun s x => nodeC d ab s x false) a s m b more = .bad e → Flt e (.mk k t n a l) := fun hm hb h => by
   rcases loop_bad h with h | h | ⟨s, h⟩
   ·exact N hm (.inl h)
   ·exact N hm (.inr h)
   ·exact K hb h
  have F : ∀ {c m : Int}, fewC a c m = .bad e → Flt e (.mk k t n a l) := fun h => by rw [few_bad h]; exact Flt.at6
  unfold nodeC at h
  split at h
  ·rcases th_bad h with h | ⟨_, _, h⟩
   ·exact L (fun _ h => h) h
   ·cases h
  split at h
  ·rename_i hk
   obtain ⟨m, rfl, hm⟩ := hs31 hk
   rcases th_bad h with h | ⟨_, _, h⟩
   ·exact F h
   split at h
   ·cases h; exact Flt.at5
   rcases th_bad h with h | ⟨_, _, h⟩
   ·exact F h
   rcases th_bad h with h | ⟨_, _, h⟩
   ·exact N (fun x hx => List.mem_of_mem_take hx) (bring_bad h)
   rcases th_bad h with h | ⟨_, _, h⟩
   ·exact K (kid_mem (by rw [Int.toNat_natCast]; omega)).2 h
   ·cases h
  split at h
  ·rcases th_bad h with h | ⟨_, _, h⟩
   ·exact F h
   rcases th_bad h with h | ⟨_, _, h⟩
   ·exact F h
   rcases th_bad h with h | ⟨_, _, h⟩
   ·exact L (fun x hx => List.mem_of_mem_drop hx) h
   rcases th_bad h with h | ⟨_, _, h⟩
   ·exact N (fun x hx => List.mem_of_mem_take hx) (bring_bad h)
   ·cases h
  split at h
  ·rcases th_bad h with h | ⟨_, _, h⟩
   ·exact F h
   rcases th_bad h with h | ⟨_, _, h⟩
   ·exact F h
   obtain ⟨x, hx, s, b, h⟩ := asg_bad h
   exact K hx h
  split at h
  ·rename_i hk
   have h2 := hs25 hk
   rcases th_bad h with h | ⟨_, _, h⟩
   ·exact K (kid_mem (by omega)).2 h
   ·exact P (m := []) (fun x hx => absurd hx List.not_mem_nil) (kid_mem (by omega)).2 h
  split at h
  ·rename_i hk
   have h2 := hs26 hk
   rcases th_bad h with h | ⟨_, _, h⟩
   ·exact L (fun x hx => List.mem_of_mem_drop (List.mem_of_mem_take hx)) h
   ·exact P (fun x hx => List.mem_of_mem_take hx) (kid_mem (by omega)).2 h
  split at h
  ·rename_i hk
   obtain ⟨m, rfl, hm⟩ := hs27 hk
   rcases th_bad h with h | ⟨_, _, h⟩
   ·exact F h
   rcases th_bad h with h | ⟨_, _, h⟩
   ·exact F h
   rcases th_bad h with h | ⟨_, _, h⟩
   ·exact L (fun x hx => List.mem_of_mem_drop (List.mem_of_mem_take hx)) h
   ·exact P (fun x hx => List.mem_of_mem_take hx) (kid_mem (by omega)).2 h
  split at h
  ·split at h
   ·cases h; exact Flt.at5
   ·cases h
  ·rcases exp_bad h with rfl | rfl | ⟨s, h⟩
   ·exact Flt.at5
   ·exact Flt.at6
   ·exact L (fun _ h => h) h
end Go.Proofs.YtdkgnlaneccioaaGreatDoor
namespace Go.Proofs.YtdkgnlaneccioaaGreatDoor
open Go Go.RowKit Lx
abbrev bA : ByteArray := ⟨#[97]⟩
abbrev bZ : ByteArray := ⟨#[122, 122, 122]⟩
def reName (t : ByteArray) : ByteArray := if t.toList == bA.toList then bZ else t
def isZ (t : ByteArray) : Bool := t.toList == bZ.toList
structure tkR (x x' : Tk) : Prop where
 kind : x'.1 = x.1
 n : x'.2.2.1 = x.2.2.1
 name : x.1 = 1 → x'.2.1 = reName x.2.1 ∧ isZ x.2.1 = false
 other : x.1 ≠ 1 → x'.2.1 = x.2.1
 dot : isT kDot x = false
 lc : isT kLc x = false
def TR : List Tk → List Tk → Prop
 | [], [] => True
 | x :: l, x' :: l' => tkR x x' ∧ TR l l'
 | _, _ => False
theorem TR.tail : ∀ {ts ts' : List Tk}, TR ts ts' → TR ts.tail ts'.tail
 | [], [], _ => trivial
 | _ :: _, _ :: _, h => h.2
theorem TR.h1 : ∀ {ts ts' : List Tk}, TR ts ts' → tkR (hd ts) (hd ts')
 | [], [], _ => ⟨rfl, rfl, fun h => (by cases h), fun _ => rfl, by kernel_rfl, by kernel_rfl⟩
 | _ :: _, _ :: _, h => h.1
theorem TR.hs {ts ts' : List Tk} (h : TR ts ts') (w : ByteArray) : isH w ts' = isH w ts := by
 have hh := h.h1
 unfold isH isT
 rw [hh.kind]
 by_cases h1 : (hd ts).1 = 1
 ·rw [h1]; rfl
 ·rw [hh.other h1]
theorem TR.binds {ts ts' : List Tk} (h : TR ts ts') : bindsH ts' = bindsH ts := by
 unfold bindsH
 simp only [h.hs]
theorem TR.ends {ts ts' : List Tk} (h : TR ts ts') : endsH ts' = endsH ts := by
 unfold endsH
 rw [h.hs, h.hs, h.hs, h.h1.kind]
theorem TR.nodot {ts ts' : List Tk} (h : TR ts ts') : isH kDot ts = false := h.h1.dot
theorem TR.nolc {ts ts' : List Tk} (h : TR ts ts') : isH kLc ts = false := h.h1.lc
def nmK (k n : Int) (l : List Tree) : Prop := (k = 21 ∨ k = 27 ∨ k = 31 → ∀ x ∈ l.take n.toNat, x.kind = 6) ∧ (k = 26 → ∀ x ∈ l.take 1, x.kind = 6)
mutual
/-- A tree and the same tree in the other text. -/
def rnT : Tree → Tree → Prop
 | .mk k t n _ l, .mk k' t' n' _ l' => k' = k ∧ n' = n ∧ (k = 6 ∨ k = 31 → t' = reName t ∧ isZ t = false) ∧ (k ≠ 6 ∧ k ≠ 31 → t' = t) ∧ rnTs l l' ∧ nmK k n l
def rnTs : List Tree → List Tree → Prop
 | [], [] => True
 | x :: l, x' :: l' => rnT x x' ∧ rnTs l l'
 | _, _ => False
end
theorem rnTs_app : ∀ {l l' m m' : List Tree}, rnTs l l' → rnTs m m' → rnTs (l ++ m) (l' ++ m')
 | [], [], _, _, _, h => h
 | _ :: _, _ :: _, _, _, h, h' => ⟨h.1, rnTs_app h.2 h'⟩
theorem rnTs_len : ∀ {l l' : List Tree}, rnTs l l' → l'.length = l.length
 | [], [], _ => rfl
 | _ :: _, _ :: _, h => congrArg (· + 1) (rnTs_len h.2)
theorem rn1 {x x' : Tree} (h : rnT x x') : rnTs [x] [x'] := ⟨h, trivial⟩
theorem rnT_kind {x x' : Tree} (h : rnT x x') : x'.kind = x.kind := by cases x; cases x'; exact h.1
theorem rnk {k n a a' : Int} {t : ByteArray} {l l' : List Tree} (hk : k ≠ 6 ∧ k ≠ 31 ∧ k ≠ 21 ∧ k ≠ 27 ∧ k ≠ 26) (hl : rnTs l l') : rnT (.mk k t n a l) (.mk k t n a' l') :=
 ⟨rfl, rfl, fun h => (h.elim hk.1 hk.2.1).elim, fun _ => rfl, hl, fun h => (h.elim hk.2.2.1 fun h => h.elim hk.2.2.2.1 hk.2.1).elim, fun h => (hk.2.2.2.2 h).elim⟩
theorem rnm {k n a a' : Int} {t : ByteArray} {l l' : List Tree} (hk : k ≠ 6 ∧ k ≠ 31) (hl : rnTs l l') (hm : nmK k n l) : rnT (.mk k t n a l) (.mk k t n a' l') := ⟨rfl, rfl, fun h => (h.elim hk.1 hk.2).elim, fun _ => rfl, hl, hm⟩
theorem nm_take {k : Int} {m e : List Tree} (hk : k ≠ 26) (h : ∀ x ∈ m, x.kind = 6) : nmK k (m.length : Int) (m ++ e) := by
 refine ⟨fun _ x hx => ?_, fun e => absurd e hk⟩
 rw [Int.toNat_natCast, List.take_left] at hx
 exact h x hx
def rnN (l l' : List Tree) : Prop := rnTs l l' ∧ ∀ x ∈ l, x.kind = 6
def RR {α : Type} (S : α → α → Prop) (x x' : Option (PV α)) : Prop := ∀ a r, x = some (.ok a r) → ∃ a' r', x' = some (.ok a' r') ∧ S a a' ∧ TR r r'
section
variable {α β : Type} {S : α → α → Prop} {S' : β → β → Prop}
theorem RR.bind {x x' : Option (PV α)} {f f' : α → List Tk → Option (PV β)} (h : RR S x x') (hf : ∀ a a' r r', S a a' → TR r r' → RR S' (f a r) (f' a' r')) : RR S' (PV.bind x f) (PV.bind x' f') := fun b s hb => by
 rcases bind_some hb with ⟨i, _, he⟩ | ⟨a, r, hx, hfa⟩
 ·cases he
 ·obtain ⟨a', r', hx', ha, hr⟩ := h a r hx
  rw [hx']
  exact hf a a' r r' ha hr b s hfa
theorem RR.ok {a a' : α} {r r' : List Tk} (ha : S a a') (hr : TR r r') : RR S (some (.ok a r)) (some (.ok a' r')) := fun _ _ h => by cases h; exact ⟨a', r', rfl, ha, hr⟩
theorem RR.bad {i : Int} {x' : Option (PV α)} : RR S (some (.bad i)) x' := fun _ _ h => by cases h
theorem RR.none {x' : Option (PV α)} : RR S none x' := fun _ _ h => by cases h
theorem RR.ite {c c' : Prop} [Decidable c] [Decidable c'] {x y x' y' : Option (PV α)} (hc : c' ↔ c) (h1 : c → RR S x x') (h2 : ¬ c → RR S y y') : RR S (if c then x else y) (if c' then x' else y') := by
 by_cases h : c
 ·rw [if_pos h, if_pos (hc.2 h)]; exact h1 h
 ·rw [if_neg h, if_neg (fun h' => h (hc.1 h'))]; exact h2 h
theorem RR.iteB {b b' : Bool} {x y x' y' : Option (PV α)} (hc : b' = b) (h1 : b = true → RR S x x') (h2 : b = false → RR S y y') : RR S (if b = true then x else y) (if b' = true then x' else y') := by
 subst hc
 exact RR.ite Iff.rfl h1 fun h => h2 (by simpa using h)
end
variable {ts ts' : List Tk}
theorem qWant (w : ByteArray) (h : TR ts ts') : RR (fun _ _ => True) (pWant w ts) (pWant w ts') := RR.iteB (h.hs w) (fun _ => RR.ok trivial h.tail) fun _ => RR.bad
theorem qName (h : TR ts ts') : RR (fun n n' => rnT n n' ∧ (n'.text = reName n.text ∧ isZ n.text = false) ∧ n.kind = 6) (pName 6 ts) (pName 6 ts') := RR.ite (by rw [h.h1.kind]) (fun h1 => RR.ok ⟨⟨rfl, rfl, fun _ => h.h1.name h1, fun h => absurd rfl h.1, trivial, fun h => (h.elim (by decide) fun h => h.elim (by decide) (by decide)), fun h => absurd h (by decide)⟩, h.h1.name h1, rfl⟩ h.tail) fun _ => RR.bad
theorem qNamesL : ∀ (f : Nat) (acc acc' : List Tree) (ts ts' : List Tk), rnN acc acc' → TR ts ts' → RR rnN (pNamesL f acc ts) (pNamesL f acc' ts')
 | 0, _, _, _, _, _, _ => RR.none
 | f + 1, acc, acc', ts, ts', ha, h => by
  unfold pNamesL
  exact RR.iteB (h.hs _) (fun _ => RR.bind (qName h.tail) fun n n' r r' hn hr => qNamesL f _ _ r r' ⟨rnTs_app ha.1 (rn1 hn.1), fun x hx => (List.mem_append.1 hx).elim (ha.2 x) fun hx => by obtain rfl := List.mem_singleton.1 hx; exact hn.2.2⟩ hr) fun _ => RR.ok ha h
theorem rnN1 {n n' : Tree} (hn : rnT n n') (h6 : n.kind = 6) : rnN [n] [n'] := ⟨rn1 hn, fun x hx => by obtain rfl := List.mem_singleton.1 hx; exact h6⟩
theorem qNames (f : Nat) (h : TR ts ts') : RR rnN (pNames f ts) (pNames f ts') := RR.bind (qName h) fun n n' r r' hn hr => qNamesL f _ _ r r' (rnN1 hn.1 hn.2.2) hr
structure QE (f : Nat) : Prop where
 exp : ∀ least ts ts', 0 ≤ least → TR ts ts' → RR rnT (pExp f least ts) (pExp f least ts')
 loop : ∀ least n n' ts ts', 0 ≤ least → rnT n n' → TR ts ts' → RR rnT (pLoop f least n ts) (pLoop f least n' ts')
 operand : ∀ ts ts', TR ts ts' → RR rnT (pOperand f ts) (pOperand f ts')
 suffixed : ∀ ts ts', TR ts ts' → RR rnT (pSuffixed f ts) (pSuffixed f ts')
 sufL : ∀ at_ at' n n' ts ts', rnT n n' → TR ts ts' → RR rnT (pSufL f at_ n ts) (pSufL f at' n' ts')
 exps : ∀ ts ts', TR ts ts' → RR rnTs (pExps f ts) (pExps f ts')
 expsL : ∀ acc acc' ts ts', rnTs acc acc' → TR ts ts' → RR rnTs (pExpsL f acc ts) (pExpsL f acc' ts')
theorem isH_not1 {w : ByteArray} (h : isH w ts = true) : (hd ts).1 ≠ 1 := by
 intro e
 unfold isH isT at h
 rw [e] at h
 cases h
theorem binds_not1 (h : bindsH ts ≠ 0) : (hd ts).1 ≠ 1 := by
 intro e
 refine h ?_
 have hn : ∀ w, isH w ts = false := fun w => by
  cases hw : isH w ts with
  | false => rfl
  | true => exact absurd e (isH_not1 hw)
 unfold bindsH
 simp only [hn]
 rfl
theorem qE : ∀ f, QE f
 | 0 => by constructor <;> intros <;> (first | rw [pExp] | rw [pLoop] | rw [pOperand] | rw [pSuffixed] | rw [pSufL] | rw [pExps] | rw [pExpsL]) <;> exact RR.none
 | f + 1 => by
  have ih := qE f
  constructor
  ·intro least ts ts' h0 h; unfold pExp
   exact RR.bind (ih.operand _ _ h) fun n n' r r' hn hr => ih.loop _ _ _ _ _ h0 hn hr
  ·intro least n n' ts ts' h0 hn h; unfold pLoop
   rw [h.binds]
   by_cases hb : bindsH ts ≤ least
   ·rw [if_pos hb, if_pos hb]; exact RR.ok hn h
   ·rw [if_neg hb, if_neg hb]
    refine RR.bind (ih.exp _ _ _ (by have := bindsH_range ts; split <;> omega) h.tail) fun m m' r r' hm hr => ?_
    rw [h.h1.other (binds_not1 (by omega))]
    exact ih.loop _ _ _ _ _ h0 (rnk (by decide) ⟨hn, hm, trivial⟩) hr
  ·intro ts ts' h; unfold pOperand
   refine RR.ite (by rw [h.h1.kind]) (fun _ => by rw [h.h1.n]; exact RR.ok (rnk (by decide) trivial) h.tail) fun _ => ?_
   refine RR.ite (by rw [h.h1.kind]) (fun h4 => by rw [h.h1.other (by rw [h4]; decide)]; exact RR.ok (rnk (by decide) trivial) h.tail) fun _ => ?_
   refine RR.iteB (h.hs _) (fun _ => RR.ok (rnk (by decide) trivial) h.tail) fun _ => ?_
   refine RR.iteB (h.hs _) (fun _ => RR.ok (rnk (by decide) trivial) h.tail) fun _ => ?_
   refine RR.iteB (h.hs _) (fun _ => RR.ok (rnk (by decide) trivial) h.tail) fun _ => ?_
   refine RR.iteB (by rw [h.hs, h.hs, h.hs]) (fun hu => ?_) fun _ => ?_
   ·have h1 : (hd ts).1 ≠ 1 := by
     simp only [Bool.or_eq_true] at hu
     rcases hu with (hu | hu) | hu
     ·exact isH_not1 hu
     ·exact isH_not1 hu
     ·exact isH_not1 hu
    refine RR.bind (ih.exp _ _ _ (by decide) h.tail) fun m m' r r' hm hr => ?_
    rw [h.h1.other h1]
    exact RR.ok (rnk (by decide) (rn1 hm)) hr
   refine RR.iteB (h.hs _) (fun hl => by rw [h.nolc] at hl; cases hl) fun _ => ih.suffixed _ _ h
  ·intro ts ts' h; unfold pSuffixed
   refine RR.iteB (h.hs _) (fun _ => ?_) fun _ => ?_
   ·exact RR.bind (ih.exp _ _ _ (by decide) h.tail) fun e e' r r' he hr => RR.bind (qWant _ hr) fun _ _ r r' _ hr => ih.sufL _ _ _ _ _ _ (rnk (by decide) (rn1 he)) hr
   ·exact RR.bind (qName h) fun n n' r r' hn hr => ih.sufL _ _ _ _ _ _ hn.1 hr
  ·intro at_ at' n n' ts ts' hn h; unfold pSufL
   refine RR.iteB (h.hs _) (fun _ => ?_) fun _ => RR.iteB (h.hs _) (fun hd => by rw [h.nodot] at hd; cases hd) fun _ => RR.iteB (h.hs _) (fun _ => ?_) fun _ => RR.ok hn h
   ·exact RR.bind (ih.exp _ _ _ (by decide) h.tail) fun e e' r r' he hr => RR.bind (qWant _ hr) fun _ _ r r' _ hr => ih.sufL _ _ _ _ _ _ (rnk (by decide) ⟨hn, he, trivial⟩) hr
   ·refine RR.bind (S := rnTs) (RR.iteB (h.tail.hs _) (fun _ => RR.ok trivial h.tail) fun _ => ih.exps _ _ h.tail) fun l l' r r' hl hr => RR.bind (qWant _ hr) fun _ _ r r' _ hr => ih.sufL _ _ _ _ _ _ (rnk (by decide) ⟨hn, hl⟩) hr
  ·intro ts ts' h; unfold pExps
   exact RR.bind (ih.exp _ _ _ (by decide) h) fun e e' r r' he hr => ih.expsL _ _ _ _ (rn1 he) hr
  ·intro acc acc' ts ts' ha h; unfold pExpsL
   exact RR.iteB (h.hs _) (fun _ => RR.bind (ih.exp _ _ _ (by decide) h.tail) fun e e' r r' he hr => ih.expsL _ _ _ _ (rnTs_app ha (rn1 he)) hr) fun _ => RR.ok ha h
structure QS (f : Nat) : Prop where
 block : ∀ c ts ts', TR ts ts' → RR rnT (pBlock f c ts) (pBlock f c ts')
 blockL : ∀ c at_ at' acc acc' ts ts', rnTs acc acc' → TR ts ts' → RR rnT (pBlockL f c at_ acc ts) (pBlockL f c at' acc' ts')
 function : ∀ ts ts', TR ts ts' → RR rnT (pFunction f ts) (pFunction f ts')
 body : ∀ ts ts', TR ts ts' → RR rnT (pBody f ts) (pBody f ts')
 stat : ∀ ts ts', TR ts ts' → RR rnT (pStat f ts) (pStat f ts')
 branches : ∀ acc acc' ts ts', rnTs acc acc' → TR ts ts' → RR rnTs (pBranches f acc ts) (pBranches f acc' ts')
 for_ : ∀ at_ at' ts ts', TR ts ts' → RR rnT (pFor f at_ ts) (pFor f at' ts')
 plain : ∀ ts ts', TR ts ts' → RR rnT (pPlain f ts) (pPlain f ts')
 targets : ∀ acc acc' e e' ts ts', rnTs acc acc' → rnT e e' → TR ts ts' → RR rnTs (pTargets f acc e ts) (pTargets f acc' e' ts')
theorem qS : ∀ f, QS f
 | 0 => by constructor <;> intros <;> (first | unfold pBlock | unfold pBlockL | unfold pFunction | unfold pBody | unfold pStat | unfold pBranches | unfold pFor | unfold pPlain | unfold pTargets) <;> exact RR.none
 | f + 1 => by
  have ih := qS f
  have ie := qE f
  constructor
  ·intro c ts ts' h; unfold pBlock
   exact ih.blockL _ _ _ _ _ _ _ trivial h
  ·intro c at_ at' acc acc' ts ts' ha h; unfold pBlockL
   refine RR.iteB (h.hs _) (fun _ => ih.blockL _ _ _ _ _ _ _ ha h.tail) fun _ => RR.iteB (h.hs _) (fun _ => ?_) fun _ => RR.iteB (by rw [h.hs]) (fun _ => ?_) fun _ => RR.iteB h.ends (fun _ => RR.ok (rnk (by decide) ha) h) fun _ => ?_
   ·refine RR.bind (S := rnTs) (RR.iteB (by rw [h.tail.ends, h.tail.hs]) (fun _ => RR.ok trivial h.tail) fun _ => ie.exps _ _ h.tail) fun l l' r r' hl hr => RR.ok (rnk (by decide) (rnTs_app ha (rn1 (rnk (by decide) hl)))) ?_
    rw [hr.hs]
    split
    ·exact hr.tail
    ·exact hr
   ·exact RR.bind (ih.function _ _ h) fun x x' r r' hx hr => ih.blockL _ _ _ _ _ _ _ (rnTs_app ha (rn1 hx)) hr
   ·exact RR.bind (ih.stat _ _ h) fun x x' r r' hx hr => ih.blockL _ _ _ _ _ _ _ (rnTs_app ha (rn1 hx)) hr
  ·intro ts ts' h; unfold pFunction
   refine RR.bind (qName h.tail) fun nm nm' r r' hn hr => RR.bind (qWant _ hr) fun _ _ r r' _ hr => RR.bind (S := rnN) (RR.iteB (hr.hs _) (fun _ => RR.ok ⟨trivial, fun _ hx => absurd hx List.not_mem_nil⟩ hr) fun _ => qNames f hr) fun ps ps' r r' hp hr => RR.bind (qWant _ hr) fun _ _ r r' _ hr => RR.bind (ih.block _ _ _ hr) fun b b' r r' hb hr => RR.bind (qWant _ hr) fun _ _ r r' _ hr => RR.ok ?_ hr
   exact ⟨rfl, by rw [rnTs_len hp.1], fun _ => hn.2.1, fun h => absurd rfl h.2, rnTs_app hp.1 (rn1 hb), nm_take (by decide) hp.2⟩
  ·intro ts ts' h; unfold pBody
   exact RR.bind (qWant _ h) fun _ _ r r' _ hr => RR.bind (ih.block _ _ _ hr) fun b b' r r' hb hr => RR.bind (qWant _ hr) fun _ _ r r' _ hr => RR.ok hb hr
  ·intro ts ts' h; unfold pStat
   refine RR.iteB (h.hs _) (fun _ => ?_) fun _ => RR.iteB (h.hs _) (fun _ => ?_) fun _ => RR.iteB (h.hs _) (fun _ => ?_) fun _ => RR.iteB (h.hs _) (fun _ => ih.for_ _ _ _ _ h.tail) fun _ => RR.iteB (h.hs _) (fun _ => ?_) fun _ => RR.iteB (h.hs _) (fun _ => RR.ok (rnk (by decide) trivial) h.tail) fun _ => ih.plain _ _ h
   ·exact RR.bind (ih.body _ _ h) fun b b' r r' hb hr => RR.ok (rnk (by decide) (rn1 hb)) hr
   ·exact RR.bind (ie.exp _ _ _ (by decide) h.tail) fun e e' r r' he hr => RR.bind (ih.body _ _ hr) fun b b' r r' hb hr => RR.ok (rnk (by decide) ⟨he, hb, trivial⟩) hr
   ·exact RR.bind (ih.branches _ _ _ _ trivial h.tail) fun l l' r r' hl hr => RR.ok (rnk (by decide) hl) hr
   ·refine RR.bind (qNames f h.tail) fun l l' r r' hl hr => RR.bind (S := rnTs) (RR.iteB (hr.hs _) (fun _ => ie.exps _ _ hr.tail) fun _ => RR.ok trivial hr) fun es es' r r' he hr => RR.ok ?_ hr
    rw [rnTs_len hl.1]
    exact rnm (by decide) (rnTs_app hl.1 he) (nm_take (by decide) hl.2)
  ·intro acc acc' ts ts' ha h; unfold pBranches
   refine RR.bind (ie.exp _ _ _ (by decide) h) fun e e' r r' he hr => RR.bind (qWant _ hr) fun _ _ r r' _ hr => RR.bind (ih.block _ _ _ hr) fun b b' r r' hb hr => ?_
   have h2 := rnTs_app (rnTs_app ha (rn1 he)) (rn1 hb)
   refine RR.iteB (hr.hs _) (fun _ => ih.branches _ _ _ _ h2 hr.tail) fun _ => RR.iteB (hr.hs _) (fun _ => ?_) fun _ => ?_
   ·exact RR.bind (ih.block _ _ _ hr.tail) fun c c' r r' hc hr => RR.bind (qWant _ hr) fun _ _ r r' _ hr => RR.ok (rnTs_app h2 (rn1 hc)) hr
   ·exact RR.bind (qWant _ hr) fun _ _ r r' _ hr => RR.ok h2 hr
  ·intro at_ at' ts ts' h; unfold pFor
   refine RR.bind (qName h) fun n n' r r' hn hr => RR.iteB (hr.hs _) (fun _ => ?_) fun _ => ?_
   ·refine RR.bind (ie.exp _ _ _ (by decide) hr.tail) fun a a' r r' ha hr => RR.bind (qWant _ hr) fun _ _ r r' _ hr => RR.bind (ie.exp _ _ _ (by decide) hr) fun b b' r r' hb hr => RR.bind (S := rnTs) (RR.iteB (hr.hs _) (fun _ => RR.bind (ie.exp _ _ _ (by decide) hr.tail) fun c c' r r' hc hr => RR.ok (rn1 hc) hr) fun _ => RR.ok trivial hr) fun cs cs' r r' hcs hr => RR.bind (ih.body _ _ hr) fun bd bd' r r' hbd hr => RR.ok (rnm (by decide) ?_ ⟨fun h => (by rcases h with h | h | h <;> cases h), fun _ x hx => by obtain rfl := List.mem_singleton.1 (show x ∈ [n] from hx); exact hn.2.2⟩) hr
    exact rnTs_app (rnTs_app (rnTs_app (rnTs_app (rn1 hn.1) (rn1 ha)) (rn1 hb)) hcs) (rn1 hbd)
   ·refine RR.bind (qNamesL f _ _ _ _ (rnN1 hn.1 hn.2.2) hr) fun l l' r r' hl hr => RR.bind (qWant _ hr) fun _ _ r r' _ hr => RR.bind (ie.exps _ _ hr) fun es es' r r' he hr => RR.bind (ih.body _ _ hr) fun bd bd' r r' hbd hr => RR.ok ?_ hr
    rw [rnTs_len hl.1, List.append_assoc]
    exact rnm (by decide) (by rw [List.append_assoc]; exact rnTs_app hl.1 (rnTs_app he (rn1 hbd))) (nm_take (by decide) hl.2)
  ·intro ts ts' h; unfold pPlain
   refine RR.bind (ie.suffixed _ _ h) fun e e' r r' he hr => RR.iteB (by rw [hr.hs, hr.hs]) (fun _ => ?_) fun _ => RR.ite (by rw [rnT_kind he]) (fun _ => RR.ok (rnk (by decide) (rn1 he)) hr) fun _ => RR.bad
   refine RR.bind (ih.targets _ _ _ _ _ _ trivial he hr) fun l l' r r' hl hr => RR.bind (qWant _ hr) fun _ _ r r' _ hr => RR.bind (ie.exps _ _ hr) fun es es' r r' hes hr => RR.ok ?_ hr
   rw [rnTs_len hl]
   exact rnk (by decide) (rnTs_app hl hes)
  ·intro acc acc' e e' ts ts' ha he h; unfold pTargets
   refine RR.ite (by rw [rnT_kind he]) (fun _ => ?_) fun _ => RR.bad
   exact RR.iteB (h.hs _) (fun _ => RR.bind (ie.suffixed _ _ h.tail) fun x x' r r' hx hr => ih.targets _ _ _ _ _ _ (rnTs_app ha (rn1 he)) hx hr) fun _ => RR.ok (rnTs_app ha (rn1 he)) h
end Go.Proofs.YtdkgnlaneccioaaGreatDoor
