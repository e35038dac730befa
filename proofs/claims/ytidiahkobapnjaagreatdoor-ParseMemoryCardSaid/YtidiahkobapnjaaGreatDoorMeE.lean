/- Texts of mine for parseMemory_card, part 5. -/
import Derived.Test.YtidiahkobapnjaaGreatDoorMeD
set_option linter.unusedSimpArgs false
set_option linter.unusedVariables false
set_option linter.unusedSectionVars false
namespace Go.Proofs.YtidiahkobapnjaaGreatDoor
open Go Go.RowKit
structure PS where
 parse_parser_block : (a0_0 : List (Int × ByteArray × Int × Int)) → (a0_1 : Int) → (a1 : Bool) → Option (PR (Int × ByteArray × Int × Int × List Tree × Int))
 parse_parser_function : (a0_0 : List (Int × ByteArray × Int × Int)) → (a0_1 : Int) → Option (PR (Int × ByteArray × Int × Int × List Tree × Int))
 parse_parser_stat : (a0_0 : List (Int × ByteArray × Int × Int)) → (a0_1 : Int) → Option (PR (Int × ByteArray × Int × Int × List Tree × Int))
 parse_parser_branches : (a0_0 : List (Int × ByteArray × Int × Int)) → (a0_1 : Int) → Option (PR (List Tree × Int))
 parse_parser_loop : (a0_0 : List (Int × ByteArray × Int × Int)) → (a0_1 : Int) → (a1 : Int) → Option (PR (Int × ByteArray × Int × Int × List Tree × Int))
 parse_parser_plain : (a0_0 : List (Int × ByteArray × Int × Int)) → (a0_1 : Int) → Option (PR (Int × ByteArray × Int × Int × List Tree × Int))
structure PS.Good (R : PS) : Prop where
 parse_parser_block : ∀ {a0_0 : List (Int × ByteArray × Int × Int)} {a0_1 : Int} {a1 : Bool} {b0 : Nat} {H_a0_0 : Frag} {A_a0_0 : Option Addr} {c_a0_0 : Nat} {r : PR (Int × ByteArray × Int × Int × List Tree × Int)} (h : R.parse_parser_block a0_0 a0_1 a1 = some r) (R_a0_0 : RdT e49 4 H_a0_0 (.slice A_a0_0 a0_0.length c_a0_0) a0_0), Ct Tryz.prog 11 #[pt b0, bv a1] [bk b0 #[.slice A_a0_0 a0_0.length c_a0_0, iv a0_1] 46] [H_a0_0] (PR.Post failV (fun (r : Int × ByteArray × Int × Int × List Tree × Int) e l1 => ∃ (H0_ : Frag) (A0_ : Option Addr) (c0_ : Nat), OwnR (rTree 24) 24 H0_ (.slice A0_ r.2.2.2.2.1.length c0_) r.2.2.2.2.1 ∧ e = .returned (.agg #[iv r.1, sv r.2.1, iv r.2.2.1, iv r.2.2.2.1, .slice A0_ r.2.2.2.2.1.length c0_]) ∧ l1 = [H0_, bk b0 #[.slice A_a0_0 a0_0.length c_a0_0, iv r.2.2.2.2.2] 46]) r)
 parse_parser_function : ∀ {a0_0 : List (Int × ByteArray × Int × Int)} {a0_1 : Int} {b0 : Nat} {H_a0_0 : Frag} {A_a0_0 : Option Addr} {c_a0_0 : Nat} {r : PR (Int × ByteArray × Int × Int × List Tree × Int)} (h : R.parse_parser_function a0_0 a0_1 = some r) (R_a0_0 : RdT e49 4 H_a0_0 (.slice A_a0_0 a0_0.length c_a0_0) a0_0), Ct Tryz.prog 27 #[pt b0] [bk b0 #[.slice A_a0_0 a0_0.length c_a0_0, iv a0_1] 46] [H_a0_0] (PR.Post failV (fun (r : Int × ByteArray × Int × Int × List Tree × Int) e l1 => ∃ (H0_ : Frag) (A0_ : Option Addr) (c0_ : Nat), OwnR (rTree 24) 24 H0_ (.slice A0_ r.2.2.2.2.1.length c0_) r.2.2.2.2.1 ∧ e = .returned (.agg #[iv r.1, sv r.2.1, iv r.2.2.1, iv r.2.2.2.1, .slice A0_ r.2.2.2.2.1.length c0_]) ∧ l1 = [H0_, bk b0 #[.slice A_a0_0 a0_0.length c_a0_0, iv r.2.2.2.2.2] 46]) r)
 parse_parser_stat : ∀ {a0_0 : List (Int × ByteArray × Int × Int)} {a0_1 : Int} {b0 : Nat} {H_a0_0 : Frag} {A_a0_0 : Option Addr} {c_a0_0 : Nat} {r : PR (Int × ByteArray × Int × Int × List Tree × Int)} (h : R.parse_parser_stat a0_0 a0_1 = some r) (R_a0_0 : RdT e49 4 H_a0_0 (.slice A_a0_0 a0_0.length c_a0_0) a0_0), Ct Tryz.prog 28 #[pt b0] [bk b0 #[.slice A_a0_0 a0_0.length c_a0_0, iv a0_1] 46] [H_a0_0] (PR.Post failV (fun (r : Int × ByteArray × Int × Int × List Tree × Int) e l1 => ∃ (H0_ : Frag) (A0_ : Option Addr) (c0_ : Nat), OwnR (rTree 24) 24 H0_ (.slice A0_ r.2.2.2.2.1.length c0_) r.2.2.2.2.1 ∧ e = .returned (.agg #[iv r.1, sv r.2.1, iv r.2.2.1, iv r.2.2.2.1, .slice A0_ r.2.2.2.2.1.length c0_]) ∧ l1 = [H0_, bk b0 #[.slice A_a0_0 a0_0.length c_a0_0, iv r.2.2.2.2.2] 46]) r)
 parse_parser_branches : ∀ {a0_0 : List (Int × ByteArray × Int × Int)} {a0_1 : Int} {b0 : Nat} {H_a0_0 : Frag} {A_a0_0 : Option Addr} {c_a0_0 : Nat} {r : PR (List Tree × Int)} (h : R.parse_parser_branches a0_0 a0_1 = some r) (R_a0_0 : RdT e49 4 H_a0_0 (.slice A_a0_0 a0_0.length c_a0_0) a0_0), Ct Tryz.prog 62 #[pt b0] [bk b0 #[.slice A_a0_0 a0_0.length c_a0_0, iv a0_1] 46] [H_a0_0] (PR.Post failV (fun (r : List Tree × Int) e l1 => ∃ (H0_ : Frag) (A0_ : Option Addr) (c0_ : Nat), OwnR (rTree 24) 24 H0_ (.slice A0_ r.1.length c0_) r.1 ∧ e = .returned (.slice A0_ r.1.length c0_) ∧ l1 = [H0_, bk b0 #[.slice A_a0_0 a0_0.length c_a0_0, iv r.2] 46]) r)
 parse_parser_loop : ∀ {a0_0 : List (Int × ByteArray × Int × Int)} {a0_1 : Int} {a1 : Int} {b0 : Nat} {H_a0_0 : Frag} {A_a0_0 : Option Addr} {c_a0_0 : Nat} {r : PR (Int × ByteArray × Int × Int × List Tree × Int)} (h : R.parse_parser_loop a0_0 a0_1 a1 = some r) (R_a0_0 : RdT e49 4 H_a0_0 (.slice A_a0_0 a0_0.length c_a0_0) a0_0), Ct Tryz.prog 63 #[pt b0, iv a1] [bk b0 #[.slice A_a0_0 a0_0.length c_a0_0, iv a0_1] 46] [H_a0_0] (PR.Post failV (fun (r : Int × ByteArray × Int × Int × List Tree × Int) e l1 => ∃ (H0_ : Frag) (A0_ : Option Addr) (c0_ : Nat), OwnR (rTree 24) 24 H0_ (.slice A0_ r.2.2.2.2.1.length c0_) r.2.2.2.2.1 ∧ e = .returned (.agg #[iv r.1, sv r.2.1, iv r.2.2.1, iv r.2.2.2.1, .slice A0_ r.2.2.2.2.1.length c0_]) ∧ l1 = [H0_, bk b0 #[.slice A_a0_0 a0_0.length c_a0_0, iv r.2.2.2.2.2] 46]) r)
 parse_parser_plain : ∀ {a0_0 : List (Int × ByteArray × Int × Int)} {a0_1 : Int} {b0 : Nat} {H_a0_0 : Frag} {A_a0_0 : Option Addr} {c_a0_0 : Nat} {r : PR (Int × ByteArray × Int × Int × List Tree × Int)} (h : R.parse_parser_plain a0_0 a0_1 = some r) (R_a0_0 : RdT e49 4 H_a0_0 (.slice A_a0_0 a0_0.length c_a0_0) a0_0), Ct Tryz.prog 64 #[pt b0] [bk b0 #[.slice A_a0_0 a0_0.length c_a0_0, iv a0_1] 46] [H_a0_0] (PR.Post failV (fun (r : Int × ByteArray × Int × Int × List Tree × Int) e l1 => ∃ (H0_ : Frag) (A0_ : Option Addr) (c0_ : Nat), OwnR (rTree 24) 24 H0_ (.slice A0_ r.2.2.2.2.1.length c0_) r.2.2.2.2.1 ∧ e = .returned (.agg #[iv r.1, sv r.2.1, iv r.2.2.1, iv r.2.2.2.1, .slice A0_ r.2.2.2.2.1.length c0_]) ∧ l1 = [H0_, bk b0 #[.slice A_a0_0 a0_0.length c_a0_0, iv r.2.2.2.2.2] 46]) r)
def parse_parser_block.l0 : Nat → (Rc : PS) → (a0_0 : List (Int × ByteArray × Int × Int)) → (a1 : Bool) → (r2 : Int × ByteArray × Int × Int) → (l4 : List Tree) → (x9 : Int) → Option (PR (Int × ByteArray × Int × Int × List Tree × Int))
 | 0, _, _, _, _, _, _ => none
 | m10 + 1, Rc, a0_0, a1, r2, l4, x9 => (parse_parser_now.f m10 a0_0 x9).bind fun r11 => (parse_parser_got.f m10 a0_0 x9 (⟨#[59]⟩ : ByteArray)).bind fun r13 => cond r13.1 (parse_parser_block.l0 m10 Rc a0_0 a1 r2 l4 r13.2) ((parse_parser_got.f m10 a0_0 r13.2 (⟨#[114, 101, 116, 117, 114, 110]⟩ : ByteArray)).bind fun r15 => cond r15.1 (joinF (fun (l18 : List Tree) (x23 : Int) => (parse_parser_got.f m10 a0_0 x23 (⟨#[59]⟩ : ByteArray)).bind fun r25 => (apd 64 l4 [(Tree.mk 30 (⟨#[]⟩ : ByteArray) 0 r11.2.2.2 l18)]).bind fun l29 => some (PR.ok (20, (⟨#[]⟩ : ByteArray), 0, r2.2.2.2, l29, r25.2))) (fun J24 => ((parse_parser_ends.f m10 a0_0 r15.2).bind fun r42 => cond (!r42) ((parse_parser_is.f m10 a0_0 r15.2 (⟨#[59]⟩ : ByteArray)).bind fun r44 => some (!r44)) (some false) : Option Bool).bind fun q34 => cond q34 (PR.bind (parse_parser_exps.f m10 a0_0 r15.2) fun r36 => J24 r36.1 r36.2) (J24 ([]) r15.2))) ((cond a1 ((parse_parser_is.f m10 a0_0 r15.2 (⟨#[102, 117, 110, 99, 116, 105, 111, 110]⟩ : ByteArray)).bind fun r78 => some r78) (some false) : Option Bool).bind fun q45 => cond q45 (PR.bind (Rc.parse_parser_function a0_0 r15.2) fun r47 => (apd 64 l4 [(Tree.mk r47.1 r47.2.1 r47.2.2.1 r47.2.2.2.1 r47.2.2.2.2.1)]).bind fun l56 => parse_parser_block.l0 m10 Rc a0_0 a1 r2 l56 r47.2.2.2.2.2) ((parse_parser_ends.f m10 a0_0 r15.2).bind fun r61 => cond r61 (some (PR.ok (20, (⟨#[]⟩ : ByteArray), 0, r2.2.2.2, l4, r15.2))) (PR.bind (Rc.parse_parser_stat a0_0 r15.2) fun r63 => (apd 64 l4 [(Tree.mk r63.1 r63.2.1 r63.2.2.1 r63.2.2.2.1 r63.2.2.2.2.1)]).bind fun l72 => parse_parser_block.l0 m10 Rc a0_0 a1 r2 l72 r63.2.2.2.2.2))))
def parse_parser_block.g (Rc : PS) (k : Nat) (a0_0 : List (Int × ByteArray × Int × Int)) (a0_1 : Int) (a1 : Bool) : Option (PR (Int × ByteArray × Int × Int × List Tree × Int)) := (parse_parser_now.f k a0_0 a0_1).bind fun r2 => parse_parser_block.l0 k Rc a0_0 a1 r2 ([]) a0_1
set_option maxRecDepth 100000 in
theorem parse_parser_block.okg {Rc : PS} (hR : Rc.Good) {k : Nat} {a0_0 : List (Int × ByteArray × Int × Int)} {a0_1 : Int} {a1 : Bool} {b0 : Nat} {H_a0_0 : Frag} {A_a0_0 : Option Addr} {c_a0_0 : Nat} {r : PR (Int × ByteArray × Int × Int × List Tree × Int)} (h : parse_parser_block.g Rc k a0_0 a0_1 a1 = some r) (R_a0_0 : RdT e49 4 H_a0_0 (.slice A_a0_0 a0_0.length c_a0_0) a0_0) : Ct Tryz.prog 11 #[pt b0, bv a1] [bk b0 #[.slice A_a0_0 a0_0.length c_a0_0, iv a0_1] 46] [H_a0_0] (PR.Post failV (fun (r : Int × ByteArray × Int × Int × List Tree × Int) e l1 => ∃ (H0_ : Frag) (A0_ : Option Addr) (c0_ : Nat), OwnR (rTree 24) 24 H0_ (.slice A0_ r.2.2.2.2.1.length c0_) r.2.2.2.2.1 ∧ e = .returned (.agg #[iv r.1, sv r.2.1, iv r.2.2.1, iv r.2.2.2.1, .slice A0_ r.2.2.2.2.1.length c0_]) ∧ l1 = [H0_, bk b0 #[.slice A_a0_0 a0_0.length c_a0_0, iv r.2.2.2.2.2] 46]) r) := by
 refine ct_enter (args := [pt b0, bv a1]) Tryz.func11 rfl (Nat.le_of_ble_eq_true rfl) ?_
 intro A X hh_
 obtain ⟨hm_H_a0_0, _⟩ := hh_
 unfold parse_parser_block.g at h
 refine K.eq (env' := [(0, pt b0), (1, bv a1)]) (l' := bk b0 #[.slice A_a0_0 a0_0.length c_a0_0, iv a0_1] 46 :: X) rfl rfl (ksr (knp #[iv 0, sv noS, iv 0, iv 0, nS] 24 fun b1 => (kns' (kx 1 (K.mv1 (bnd h fun r2 hr2 h => (kc1 (parse_parser_now.ok (b0 := b0) hr2 R_a0_0) rfl ⟨(.tail _ hm_H_a0_0), trivial⟩ (kx 2 (knp #[iv 0, sv noS, iv 0, iv 0, nS] 24 fun b3 => (kst 0 5 #[iv 20, sv noS, iv 0, iv r2.2.2.2, nS] ?_))))))))))
 refine knt (k_block (k_none (K.mv3 (K.mv3 (K.mv3 (k_loop (τ := (List Tree) × Int × Frag × (Option Addr) × Nat) (fun t => [(0, pt b0), (1, bv a1), (4, pt b1), (5, pt b3)]) (fun t => bk b3 #[iv 20, sv noS, iv 0, iv r2.2.2.2, .slice t.2.2.2.1 t.1.length t.2.2.2.2] 24 :: bk b0 #[.slice A_a0_0 a0_0.length c_a0_0, iv t.2.1] 46 :: bk b1 #[iv 0, sv noS, iv 0, iv 0, nS] 24 :: t.2.2.1 :: X) (fun m t => parse_parser_block.l0 m Rc a0_0 a1 r2 t.1 t.2.1 = some r ∧ OwnR (rTree 24) 24 t.2.2.1 (.slice t.2.2.2.1 t.1.length t.2.2.2.2) t.1) k ([], a0_1, none_, none, 0) ⟨h, (OwnR.nil (rTree 24) 24 none_)⟩ sb rfl ?_))))))
 clear h
 rintro m10 ⟨l4, x9, h5, A6, k7⟩ ⟨h, o8⟩
 cases m10 with
 | zero => simp [parse_parser_block.l0] at h
 | succ m10 =>
  simp only [parse_parser_block.l0] at h
  refine k_block (ksr (kx 1 (K.mv1 (bnd h fun r11 hr11 h => (kc1 (parse_parser_now.ok (b0 := b0) hr11 R_a0_0) rfl ⟨(t3 hm_H_a0_0), trivial⟩ (knp #[iv 0, sv noS, iv 0, iv 0] 49 fun b12 => (kst 0 4 #[iv r11.1, sv r11.2.1, iv r11.2.2.1, iv r11.2.2.2] (knt (k_block (ksr ?_))))))))))
  refine kx 1 (K.mv1 (bnd h fun r13 hr13 h => (kc1 (parse_parser_got.ok (b0 := b0) hr13 R_a0_0) rfl ⟨(t4 hm_H_a0_0), trivial⟩ (kx 1 (knt ?_)))))
  refine kcn h (fun h => ?_) fun h => ?_
  ·exact k_skip (k_blk (k_blk (k_then (K.mv1 (K.drop (K.mv3 (K.mv3 (K.mv2 (K.mv3 (k_again m10 (l4, r13.2, h5, A6, k7) (Nat.lt_succ_self _) ⟨h, o8⟩ sb rfl))))))))))
  ·refine ksr (kx 1 (bnd h fun r15 hr15 h => (kc1 (parse_parser_got.ok (b0 := b0) hr15 R_a0_0) rfl ⟨(t4 hm_H_a0_0), trivial⟩ (kx 1 (knt ?_)))))
   refine kcn h (fun h => ?_) fun h => ?_
   ·refine ksr (kx 1 (kld 1 3 rfl (K.mv1 (K.drop (kx 1 (knp #[iv 0, sv noS, iv 0, iv 0, nS] 24 fun b17 => (kst 0 5 #[iv 30, sv noS, iv 0, iv r11.2.2.2, nS] (knt ?_))))))))
    obtain ⟨J24, hJ24, h⟩ := joinSplit h
    refine k_cut (τ := (List Tree) × Int × Frag × (Option Addr) × Nat) (fun t => [(0, pt b0), (4, pt b1), (5, pt b3), (7, pt b17)]) (fun t => bk b17 #[iv 30, sv noS, iv 0, iv r11.2.2.2, .slice t.2.2.2.1 t.1.length t.2.2.2.2] 24 :: bk b0 #[.slice A_a0_0 a0_0.length c_a0_0, iv t.2.1] 46 :: bk b3 #[iv 20, sv noS, iv 0, iv r2.2.2.2, .slice A6 l4.length k7] 24 :: bk b1 #[iv 0, sv noS, iv 0, iv 0, nS] 24 :: h5 :: t.2.2.1 :: X) (fun t => J24 t.1 t.2.1 = some r ∧ OwnR (rTree 24) 24 t.2.2.1 (.slice t.2.2.2.1 t.1.length t.2.2.2.2) t.1) ?_ ?_
    ·rintro ⟨l18, x23, h19, A20, k21⟩ ⟨h, o22⟩
     subst hJ24
     refine ksr (kx 1 (K.mv1 (bnd h fun r25 hr25 h => (kc1 (parse_parser_got.ok (b0 := b0) hr25 R_a0_0) rfl ⟨(t5 hm_H_a0_0), trivial⟩ (kns' (kx 1 (kld 2 4 rfl (kla 1 0 5 rfl (K.mv1 (K.drop ?_))))))))))
     refine kns #[iv 30, sv noS, iv 0, iv r11.2.2.2, .slice A20 l18.length k21] 24 1 fun b26 => (K.mvN [_, _, _, _, _] _ _ (K.mv1 (k_row (T := 24) (n := 1) (xs := [(Tree.mk 30 (⟨#[]⟩ : ByteArray) 0 r11.2.2.2 l18)]) (RowI.one (treeO_mk (k := 30) (t := (⟨#[]⟩ : ByteArray)) (n := 0) (a := r11.2.2.2) 24 o22)) rfl rfl (Nat.le_of_ble_eq_true rfl) fun h27 o28 => (K.mv4 (bnd h fun l29 hl29 h => (kapR rfl ety22 rfl hl29 o8 o28 fun h30 A31 k32 o33 => (kx 1 (K.mv2 (kst 4 1 #[iv 20, sv noS, iv 0, iv r2.2.2.2, .slice A31 l29.length k32] (kns' ?_))))))))))
     refine kla 0 0 5 rfl (K.drop (K.mv2 (kst 0 5 #[iv 20, sv noS, iv 0, iv r2.2.2.2, .slice A31 l29.length k32] (knt (k_ret (k_blk_ret (k_blk_ret (k_then_ret (k_blk_ret ?_)))))))))
     obtain rfl := Option.some.inj h
     exact kda 0 5 rfl [h30, bk b0 #[.slice A_a0_0 a0_0.length c_a0_0, iv r25.2] 46] (K.drop (k_end (PR.okI ⟨h30, A31, k32, o33, rfl, rfl⟩)))
    ·skip
     refine bnd h fun q34 hq34 h => ?_
     refine k_cut1 [(0, pt b0), (4, pt b1), (5, pt b3), (7, pt b17), (37, bv q34)] (bk b17 #[iv 30, sv noS, iv 0, iv r11.2.2.2, nS] 24 :: bk b0 #[.slice A_a0_0 a0_0.length c_a0_0, iv r15.2] 46 :: bk b3 #[iv 20, sv noS, iv 0, iv r2.2.2.2, .slice A6 l4.length k7] 24 :: bk b1 #[iv 0, sv noS, iv 0, iv 0, nS] 24 :: h5 :: X) ?_ ?_
     ·clear hq34
      refine kcn h (fun h => ?_) fun h => ?_
      ·refine k_region (kx 1 (K.mv1 (kcp h (fun _ hr36 => (parse_parser_exps.ok (b0 := b0) hr36 R_a0_0)) rfl ⟨(t4 hm_H_a0_0), trivial⟩ (fun _ e => k_then_panic (k_blk_panic (k_blk_panic (k_then_panic (k_blk_panic (kpn 4 e rfl)))))) fun r36 h => ?_)))
       rintro _ _ ⟨h37, A38, k39, o40, rfl, rfl⟩
       refine nx_ret2 (kx 1 (K.mv2 (kst 4 1 #[iv 30, sv noS, iv 0, iv r11.2.2.2, .slice A38 r36.1.length k39] (knt (K.mv1 (K.mvN [_, _, _, _, _] _ _ (K.mvN [_, _, _, _, _] _ _ (K.mvN [_, _, _, _, _] _ _ (K.mvN [_, _, _, _, _] _ _ (K.mvN [_, _, _, _, _] _ _ ?_))))))))))
       exact k_meet (r36.1, r36.2, h37, A38, k39) ⟨h, o40⟩ sb rfl
      ·exact k_skip (k_then (k_none (K.mvN [_, _, _, _, _] _ _ (K.mvN [_, _, _, _, _] _ _ (K.mvN [_, _, _, _, _] _ _ (K.mvN [_, _, _, _, _] _ _ (K.mvN [_, _, _, _, _] _ _ (k_meet ([], r15.2, none_, none, 0) ⟨h, (OwnR.nil (rTree 24) 24 none_)⟩ sb rfl))))))))
     ·have h := hq34
      clear hq34
      refine k_region (kx 1 (K.mv1 (bnd h fun r42 hr42 h => (kc1 (parse_parser_ends.ok (b0 := b0) hr42 R_a0_0) rfl ⟨(t4 hm_H_a0_0), trivial⟩ (kx 2 ?_)))))
      refine kcs 33 h (fun h => ?_) fun h => ?_
      ·exact kx 1 (bnd h fun r44 hr44 h => (kc1 (parse_parser_is.ok (b0 := b0) hr44 R_a0_0) rfl ⟨(t4 hm_H_a0_0), trivial⟩ (kx 2 (knt (K.mv4 (K.mv4 (K.mv4 (K.mv3 (K.mv4 (k_meet1 ⟨gr, gr, gr, gr, gb (Option.some.inj h), trivial⟩))))))))))
      ·exact kx 4 (knt (K.mv4 (K.mv4 (K.mv4 (K.mv3 (K.mv4 (k_meet1 ⟨gr, gr, gr, gr, gb (Option.some.inj h), trivial⟩)))))))
   ·refine bnd h fun q45 hq45 h => ?_
    refine k_cut1 [(0, pt b0), (1, bv a1), (4, pt b1), (5, pt b3), (50, bv q45)] (bk b0 #[.slice A_a0_0 a0_0.length c_a0_0, iv r15.2] 46 :: bk b3 #[iv 20, sv noS, iv 0, iv r2.2.2.2, .slice A6 l4.length k7] 24 :: bk b1 #[iv 0, sv noS, iv 0, iv 0, nS] 24 :: h5 :: X) ?_ ?_
    ·clear hq45
     refine kcn h (fun h => ?_) fun h => ?_
     ·refine kpr [(0, 0), (1, 3), (2, 0), (3, 1), (4, 1)] [1] (kpx 1 (kpd 0 4 rfl (kpx 1 (kpt (ocp h (fun _ hr47 => (hR.parse_parser_function (b0 := b0) hr47 R_a0_0)) rfl ⟨(t3 hm_H_a0_0), trivial⟩ (fun _ e => k_blk_panic (k_blk_panic (k_then_panic (k_blk_panic (kpn 3 e rfl))))) fun r47 h => ?_)))))
      rintro _ _ ⟨h48, A49, k50, o51, rfl, rfl⟩
      refine nx_ret2 (kan [2] rfl (kpt (ons #[iv r47.1, sv r47.2.1, iv r47.2.2.1, iv r47.2.2.2.1, .slice A49 r47.2.2.2.2.1.length k50] 24 1 fun b53 => (kan [3] rfl (kpz (K.mv1 (K.mv1 (k_row (T := 24) (n := 1) (xs := [(Tree.mk r47.1 r47.2.1 r47.2.2.1 r47.2.2.2.1 r47.2.2.2.2.1)]) (RowI.one (treeO_mk (k := r47.1) (t := r47.2.1) (n := r47.2.2.1) (a := r47.2.2.2.1) 24 o51)) rfl rfl (Nat.le_of_ble_eq_true rfl) fun h54 o55 => (K.mv4 (bnd h fun l56 hl56 h => ?_))))))))))
      refine kapR rfl ety22 rfl hl56 o8 o55 fun h57 A58 k59 o60 => (kx 1 (K.mv2 (kst 4 1 #[iv 20, sv noS, iv 0, iv r2.2.2.2, .slice A58 l56.length k59] (knl (k_blk (k_blk (k_then (K.mv1 (K.mv3 (K.mv3 ?_))))))))))
      exact K.mv3 (k_again m10 (l56, r47.2.2.2.2.2, h57, A58, k59) (Nat.lt_succ_self _) ⟨h, o60⟩ sb rfl)
     ·refine ksr (kx 1 (bnd h fun r61 hr61 h => (kc1 (parse_parser_ends.ok (b0 := b0) hr61 R_a0_0) rfl ⟨(t3 hm_H_a0_0), trivial⟩ (kx 1 (knt ?_)))))
      refine kcn h (fun h => ?_) fun h => ?_
      ·refine ksr (kla 1 0 5 rfl (K.mv1 (K.drop (K.mv1 (kst 0 5 #[iv 20, sv noS, iv 0, iv r2.2.2.2, .slice A6 l4.length k7] (knt (k_ret (k_blk_ret (k_blk_ret (k_then_ret ?_))))))))))
       refine k_blk_ret ?_
       obtain rfl := Option.some.inj h
       exact kda 0 5 rfl [h5, bk b0 #[.slice A_a0_0 a0_0.length c_a0_0, iv r15.2] 46] (K.drop (K.mv1 (k_end (PR.okI ⟨h5, A6, k7, o8, rfl, rfl⟩))))
      ·refine kpr [(0, 0), (1, 3), (2, 0), (3, 1), (4, 1)] [1] (kpx 1 (kpd 0 4 rfl (kpx 1 (kpt (ocp h (fun _ hr63 => (hR.parse_parser_stat (b0 := b0) hr63 R_a0_0)) rfl ⟨(t3 hm_H_a0_0), trivial⟩ (fun _ e => k_blk_panic (k_blk_panic (k_then_panic (k_blk_panic (kpn 3 e rfl))))) fun r63 h => ?_)))))
       rintro _ _ ⟨h64, A65, k66, o67, rfl, rfl⟩
       refine nx_ret2 (kan [2] rfl (kpt (ons #[iv r63.1, sv r63.2.1, iv r63.2.2.1, iv r63.2.2.2.1, .slice A65 r63.2.2.2.2.1.length k66] 24 1 fun b69 => (kan [3] rfl (kpz (K.mv1 (K.mv1 (k_row (T := 24) (n := 1) (xs := [(Tree.mk r63.1 r63.2.1 r63.2.2.1 r63.2.2.2.1 r63.2.2.2.2.1)]) (RowI.one (treeO_mk (k := r63.1) (t := r63.2.1) (n := r63.2.2.1) (a := r63.2.2.2.1) 24 o67)) rfl rfl (Nat.le_of_ble_eq_true rfl) fun h70 o71 => (K.mv4 (bnd h fun l72 hl72 h => ?_))))))))))
       refine kapR rfl ety22 rfl hl72 o8 o71 fun h73 A74 k75 o76 => (kx 1 (K.mv2 (kst 4 1 #[iv 20, sv noS, iv 0, iv r2.2.2.2, .slice A74 l72.length k75] (knl (k_blk (k_blk (k_then (K.mv1 (K.mv3 (K.mv3 ?_))))))))))
       exact K.mv3 (k_again m10 (l72, r63.2.2.2.2.2, h73, A74, k75) (Nat.lt_succ_self _) ⟨h, o76⟩ sb rfl)
    ·have h := hq45
     clear hq45
     refine k_region (kx 2 ?_)
     refine kcs 52 h (fun h => ?_) fun h => ?_
     ·exact kx 1 (bnd h fun r78 hr78 h => (kc1 (parse_parser_is.ok (b0 := b0) hr78 R_a0_0) rfl ⟨(t4 hm_H_a0_0), trivial⟩ (K.mv1 (K.drop (kx 2 (knt (k_meet1 ⟨gr, gr, gr, gr, gb (Option.some.inj h), trivial⟩)))))))
     ·exact kx 4 (knt (K.mv1 (K.drop (k_meet1 ⟨gr, gr, gr, gr, gb (Option.some.inj h), trivial⟩))))
def parse_parser_function.g (Rc : PS) (k : Nat) (a0_0 : List (Int × ByteArray × Int × Int)) (a0_1 : Int) : Option (PR (Int × ByteArray × Int × Int × List Tree × Int)) := (parse_parser_now.f k a0_0 a0_1).bind fun r2 => PR.bind (parse_parser_want.f k a0_0 a0_1 (⟨#[102, 117, 110, 99, 116, 105, 111, 110]⟩ : ByteArray)) fun r4 => PR.bind (parse_parser_name.f k a0_0 r4) fun r6 => PR.bind (parse_parser_want.f k a0_0 r6.2.2.2.2.2 (⟨#[40]⟩ : ByteArray)) fun r12 => joinF (fun (x14 : Int) (l15 : List Tree) => PR.bind (parse_parser_want.f k a0_0 x14 (⟨#[41]⟩ : ByteArray)) fun r21 => PR.bind (Rc.parse_parser_block a0_0 r21 false) fun r23 => (apd 64 l15 [(Tree.mk r23.1 r23.2.1 r23.2.2.1 r23.2.2.2.1 r23.2.2.2.2.1)]).bind fun l32 => PR.bind (parse_parser_want.f k a0_0 r23.2.2.2.2.2 (⟨#[101, 110, 100]⟩ : ByteArray)) fun r37 => some (PR.ok (31, r6.2.1, ((l15.length : Nat) : Int), r2.2.2.2, l32, r37))) (fun J20 => (parse_parser_is.f k a0_0 r12 (⟨#[41]⟩ : ByteArray)).bind fun r39 => cond (!r39) (PR.bind (parse_parser_names.f k a0_0 r12) fun r41 => J20 r41.2 r41.1) (J20 r12 ([])))
set_option maxRecDepth 100000 in
theorem parse_parser_function.okg {Rc : PS} (hR : Rc.Good) {k : Nat} {a0_0 : List (Int × ByteArray × Int × Int)} {a0_1 : Int} {b0 : Nat} {H_a0_0 : Frag} {A_a0_0 : Option Addr} {c_a0_0 : Nat} {r : PR (Int × ByteArray × Int × Int × List Tree × Int)} (h : parse_parser_function.g Rc k a0_0 a0_1 = some r) (R_a0_0 : RdT e49 4 H_a0_0 (.slice A_a0_0 a0_0.length c_a0_0) a0_0) : Ct Tryz.prog 27 #[pt b0] [bk b0 #[.slice A_a0_0 a0_0.length c_a0_0, iv a0_1] 46] [H_a0_0] (PR.Post failV (fun (r : Int × ByteArray × Int × Int × List Tree × Int) e l1 => ∃ (H0_ : Frag) (A0_ : Option Addr) (c0_ : Nat), OwnR (rTree 24) 24 H0_ (.slice A0_ r.2.2.2.2.1.length c0_) r.2.2.2.2.1 ∧ e = .returned (.agg #[iv r.1, sv r.2.1, iv r.2.2.1, iv r.2.2.2.1, .slice A0_ r.2.2.2.2.1.length c0_]) ∧ l1 = [H0_, bk b0 #[.slice A_a0_0 a0_0.length c_a0_0, iv r.2.2.2.2.2] 46]) r) := by
 refine ct_enter (args := [pt b0]) Tryz.func27 rfl (Nat.le_of_ble_eq_true rfl) ?_
 intro A X hh_
 obtain ⟨hm_H_a0_0, _⟩ := hh_
 unfold parse_parser_function.g at h
 refine K.eq (env' := [(0, pt b0)]) (l' := bk b0 #[.slice A_a0_0 a0_0.length c_a0_0, iv a0_1] 46 :: X) rfl rfl (ksr (knp #[iv 0, sv noS, iv 0, iv 0, nS] 24 fun b1 => (kns' (kx 1 (K.mv1 (bnd h fun r2 hr2 h => (kc1 (parse_parser_now.ok (b0 := b0) hr2 R_a0_0) rfl ⟨(.tail _ hm_H_a0_0), trivial⟩ (kx 2 (knp #[iv 0, sv noS, iv 0, iv 0, nS] 24 fun b3 => (kst 0 5 #[iv 31, sv noS, iv 0, iv r2.2.2.2, nS] ?_))))))))))
 refine kns' (kx 1 (K.mv1 (kcp h (fun _ hr4 => (parse_parser_want.ok (b0 := b0) hr4 R_a0_0)) rfl ⟨(t2 hm_H_a0_0), trivial⟩ (fun _ e => k_then_panic (kpn 2 e rfl)) fun r4 h => ?_)))
 rintro _ _ ⟨rfl, rfl⟩
 refine nx_ret1 (kns' (kx 1 (kcp h (fun _ hr6 => (parse_parser_name.ok (b0 := b0) hr6 R_a0_0)) rfl ⟨(t2 hm_H_a0_0), trivial⟩ (fun _ e => k_then_panic (kpn 2 e rfl)) fun r6 h => ?_)))
 rintro _ _ ⟨h7, A8, k9, o10, rfl, rfl⟩
 refine nx_ret2 (kx 2 (K.mv2 (kst 1 1 #[iv 31, sv r6.2.1, iv 0, iv r2.2.2.2, nS] (K.mv1 (K.drop (kns' (kx 1 (K.mv1 (kcp h (fun _ hr12 => (parse_parser_want.ok (b0 := b0) hr12 R_a0_0)) rfl ⟨(t2 hm_H_a0_0), trivial⟩ (fun _ e => k_then_panic (kpn 2 e rfl)) fun r12 h => ?_)))))))))
 rintro _ _ ⟨rfl, rfl⟩
 refine nx_ret1 (knt ?_)
 obtain ⟨J20, hJ20, h⟩ := joinSplit h
 refine k_cut (τ := Int × (List Tree) × Frag × (Option Addr) × Nat) (fun t => [(0, pt b0), (2, pt b1), (3, pt b3)]) (fun t => bk b0 #[.slice A_a0_0 a0_0.length c_a0_0, iv t.1] 46 :: bk b3 #[iv 31, sv r6.2.1, iv 0, iv r2.2.2.2, .slice t.2.2.2.1 t.2.1.length t.2.2.2.2] 24 :: bk b1 #[iv 0, sv noS, iv 0, iv 0, nS] 24 :: t.2.2.1 :: X) (fun t => J20 t.1 t.2.1 = some r ∧ OwnR (rTree 24) 24 t.2.2.1 (.slice t.2.2.2.1 t.2.1.length t.2.2.2.2) t.2.1) ?_ ?_
 ·rintro ⟨x14, l15, h16, A17, k18⟩ ⟨h, o19⟩
  subst hJ20
  refine ksr (kx 1 (kld 1 4 rfl (kx 2 (K.mv1 (kst 2 1 #[iv 31, sv r6.2.1, iv ((l15.length : Nat) : Int), iv r2.2.2.2, .slice A17 l15.length k18] (kns' (kx 1 (K.mv1 (kcp h (fun _ hr21 => (parse_parser_want.ok (b0 := b0) hr21 R_a0_0)) rfl ⟨(t3 hm_H_a0_0), trivial⟩ (fun _ e => k_then_panic (kpn 3 e rfl)) fun r21 h => ?_)))))))))
  rintro _ _ ⟨rfl, rfl⟩
  refine nx_ret1 (knt (k_seq (kpr [(0, 0), (1, 3), (2, 0), (3, 1), (4, 1)] [1] (kpx 1 (kpd 0 4 rfl (kpx 1 (kpt (ocp h (fun _ hr23 => (hR.parse_parser_block (b0 := b0) hr23 R_a0_0)) rfl ⟨(t3 hm_H_a0_0), trivial⟩ (fun _ e => k_then_panic (kpn 3 e rfl)) fun r23 h => ?_))))))))
  rintro _ _ ⟨h24, A25, k26, o27, rfl, rfl⟩
  refine nx_ret2 (kan [2] rfl (kpt (ons #[iv r23.1, sv r23.2.1, iv r23.2.2.1, iv r23.2.2.2.1, .slice A25 r23.2.2.2.2.1.length k26] 24 1 fun b29 => (kan [3] rfl (kpz (K.mv1 (K.mv1 (k_row (T := 24) (n := 1) (xs := [(Tree.mk r23.1 r23.2.1 r23.2.2.1 r23.2.2.2.1 r23.2.2.2.2.1)]) (RowI.one (treeO_mk (k := r23.1) (t := r23.2.1) (n := r23.2.2.1) (a := r23.2.2.2.1) 24 o27)) rfl rfl (Nat.le_of_ble_eq_true rfl) fun h30 o31 => (K.mv4 (bnd h fun l32 hl32 h => ?_))))))))))
  refine kapR rfl ety22 rfl hl32 o19 o31 fun h33 A34 k35 o36 => (kx 1 (K.mv2 (kst 4 1 #[iv 31, sv r6.2.1, iv ((l15.length : Nat) : Int), iv r2.2.2.2, .slice A34 l32.length k35] (kns' (kx 1 (K.mv2 (kcp h (fun _ hr37 => (parse_parser_want.ok (b0 := b0) hr37 R_a0_0)) rfl ⟨(t3 hm_H_a0_0), trivial⟩ (fun _ e => k_then_panic (kpn 3 e rfl)) fun r37 h => ?_)))))))
  rintro _ _ ⟨rfl, rfl⟩
  refine nx_ret1 (kns' (kla 1 0 5 rfl (K.mv1 (K.drop (K.mv2 (kst 0 5 #[iv 31, sv r6.2.1, iv ((l15.length : Nat) : Int), iv r2.2.2.2, .slice A34 l32.length k35] (knt (k_ret ?_))))))))
  obtain rfl := Option.some.inj h
  exact kda 0 5 rfl [h33, bk b0 #[.slice A_a0_0 a0_0.length c_a0_0, iv r37] 46] (K.drop (K.mv1 (k_end (PR.okI ⟨h33, A34, k35, o36, rfl, rfl⟩))))
 ·skip
  refine ksr (kx 1 (bnd h fun r39 hr39 h => (kc1 (parse_parser_is.ok (b0 := b0) hr39 R_a0_0) rfl ⟨(t2 hm_H_a0_0), trivial⟩ (kx 1 (knt ?_)))))
  refine kcn h (fun h => ?_) fun h => ?_
  ·refine k_region (kx 1 (kcp h (fun _ hr41 => (parse_parser_names.ok (b0 := b0) hr41 R_a0_0)) rfl ⟨(t2 hm_H_a0_0), trivial⟩ (fun _ e => k_then_panic (kpn 2 e rfl)) fun r41 h => ?_))
   rintro _ _ ⟨h42, A43, k44, o45, rfl, rfl⟩
   exact nx_ret2 (kx 1 (K.mv2 (kst 4 1 #[iv 31, sv r6.2.1, iv 0, iv r2.2.2.2, .slice A43 r41.1.length k44] (knt (K.mv1 (K.mv3 (K.mv2 (K.mv3 (k_meet (r41.2, r41.1, h42, A43, k44) ⟨h, o45⟩ sb rfl)))))))))
  ·exact k_skip (k_then (k_none (K.mv3 (K.mv3 (K.mv3 (k_meet (r12, [], none_, none, 0) ⟨h, (OwnR.nil (rTree 24) 24 none_)⟩ sb rfl))))))
def parse_parser_stat.g (Rc : PS) (k : Nat) (a0_0 : List (Int × ByteArray × Int × Int)) (a0_1 : Int) : Option (PR (Int × ByteArray × Int × Int × List Tree × Int)) := (parse_parser_now.f k a0_0 a0_1).bind fun r2 => joinF (fun (x5 : Int) (x6 : Int) (l7 : List Tree) (x12 : Int) => some (PR.ok (x5, (⟨#[]⟩ : ByteArray), x6, r2.2.2.2, l7, x12))) (fun J13 => (parse_parser_got.f k a0_0 a0_1 (⟨#[100, 111]⟩ : ByteArray)).bind fun r14 => cond r14.1 (PR.bind (Rc.parse_parser_block a0_0 r14.2 false) fun r16 => PR.bind (parse_parser_want.f k a0_0 r16.2.2.2.2.2 (⟨#[101, 110, 100]⟩ : ByteArray)) fun r23 => J13 28 0 ([(Tree.mk r16.1 r16.2.1 r16.2.2.1 r16.2.2.2.1 r16.2.2.2.2.1)]) r23) ((parse_parser_got.f k a0_0 r14.2 (⟨#[119, 104, 105, 108, 101]⟩ : ByteArray)).bind fun r27 => cond r27.1 (PR.bind (parse_parser_exp.f k a0_0 r27.2 0) fun r29 => PR.bind (parse_parser_want.f k a0_0 r29.2.2.2.2.2 (⟨#[100, 111]⟩ : ByteArray)) fun r36 => PR.bind (Rc.parse_parser_block a0_0 r36 false) fun r38 => (apd 64 [(Tree.mk r29.1 r29.2.1 r29.2.2.1 r29.2.2.2.1 r29.2.2.2.2.1)] [(Tree.mk r38.1 r38.2.1 r38.2.2.1 r38.2.2.2.1 r38.2.2.2.2.1)]).bind fun l49 => PR.bind (parse_parser_want.f k a0_0 r38.2.2.2.2.2 (⟨#[101, 110, 100]⟩ : ByteArray)) fun r54 => J13 25 0 l49 r54) ((parse_parser_got.f k a0_0 r27.2 (⟨#[105, 102]⟩ : ByteArray)).bind fun r56 => cond r56.1 (PR.bind (Rc.parse_parser_branches a0_0 r56.2) fun r58 => J13 24 0 r58.1 r58.2) ((parse_parser_got.f k a0_0 r56.2 (⟨#[102, 111, 114]⟩ : ByteArray)).bind fun r64 => cond r64.1 (PR.bind (Rc.parse_parser_loop a0_0 r64.2 r2.2.2.2) fun r66 => some (PR.ok (r66.1, r66.2.1, r66.2.2.1, r66.2.2.2.1, r66.2.2.2.2.1, r66.2.2.2.2.2))) ((parse_parser_got.f k a0_0 r64.2 (⟨#[108, 111, 99, 97, 108]⟩ : ByteArray)).bind fun r72 => cond r72.1 (PR.bind (parse_parser_names.f k a0_0 r72.2) fun r74 => (parse_parser_got.f k a0_0 r74.2 (⟨#[61]⟩ : ByteArray)).bind fun r80 => cond r80.1 (PR.bind (parse_parser_exps.f k a0_0 r80.2) fun r82 => (apd 64 r74.1 r82.1).bind fun l88 => J13 21 ((r74.1.length : Nat) : Int) l88 r82.2) (J13 21 ((r74.1.length : Nat) : Int) r74.1 r80.2)) ((parse_parser_got.f k a0_0 r72.2 (⟨#[98, 114, 101, 97, 107]⟩ : ByteArray)).bind fun r93 => cond r93.1 (J13 29 0 ([]) r93.2) (PR.bind (Rc.parse_parser_plain a0_0 r93.2) fun r95 => some (PR.ok (r95.1, r95.2.1, r95.2.2.1, r95.2.2.2.1, r95.2.2.2.2.1, r95.2.2.2.2.2)))))))))
set_option maxRecDepth 100000 in
theorem parse_parser_stat.okg {Rc : PS} (hR : Rc.Good) {k : Nat} {a0_0 : List (Int × ByteArray × Int × Int)} {a0_1 : Int} {b0 : Nat} {H_a0_0 : Frag} {A_a0_0 : Option Addr} {c_a0_0 : Nat} {r : PR (Int × ByteArray × Int × Int × List Tree × Int)} (h : parse_parser_stat.g Rc k a0_0 a0_1 = some r) (R_a0_0 : RdT e49 4 H_a0_0 (.slice A_a0_0 a0_0.length c_a0_0) a0_0) : Ct Tryz.prog 28 #[pt b0] [bk b0 #[.slice A_a0_0 a0_0.length c_a0_0, iv a0_1] 46] [H_a0_0] (PR.Post failV (fun (r : Int × ByteArray × Int × Int × List Tree × Int) e l1 => ∃ (H0_ : Frag) (A0_ : Option Addr) (c0_ : Nat), OwnR (rTree 24) 24 H0_ (.slice A0_ r.2.2.2.2.1.length c0_) r.2.2.2.2.1 ∧ e = .returned (.agg #[iv r.1, sv r.2.1, iv r.2.2.1, iv r.2.2.2.1, .slice A0_ r.2.2.2.2.1.length c0_]) ∧ l1 = [H0_, bk b0 #[.slice A_a0_0 a0_0.length c_a0_0, iv r.2.2.2.2.2] 46]) r) := by
 refine ct_enter (args := [pt b0]) Tryz.func28 rfl (Nat.le_of_ble_eq_true rfl) ?_
 intro A X hh_
 obtain ⟨hm_H_a0_0, _⟩ := hh_
 unfold parse_parser_stat.g at h
 refine K.eq (env' := [(0, pt b0)]) (l' := bk b0 #[.slice A_a0_0 a0_0.length c_a0_0, iv a0_1] 46 :: X) rfl rfl (ksr (knp #[iv 0, sv noS, iv 0, iv 0, nS] 24 fun b1 => (kns' (kx 1 (K.mv1 (bnd h fun r2 hr2 h => (kc1 (parse_parser_now.ok (b0 := b0) hr2 R_a0_0) rfl ⟨(.tail _ hm_H_a0_0), trivial⟩ (knp #[iv 0, sv noS, iv 0, iv 0] 49 fun b3 => (kst 0 4 #[iv r2.1, sv r2.2.1, iv r2.2.2.1, iv r2.2.2.2] (kns' ?_))))))))))
 refine kx 1 (kld 0 3 rfl (kx 1 (knp #[iv 0, sv noS, iv 0, iv 0, nS] 24 fun b4 => (kst 0 5 #[iv 0, sv noS, iv 0, iv r2.2.2.2, nS] (knt ?_)))))
 obtain ⟨J13, hJ13, h⟩ := joinSplit h
 refine k_cut (τ := Int × Int × (List Tree) × Int × Frag × (Option Addr) × Nat) (fun t => [(2, pt b1), (4, pt b4)]) (fun t => bk b4 #[iv t.1, sv noS, iv t.2.1, iv r2.2.2.2, .slice t.2.2.2.2.2.1 t.2.2.1.length t.2.2.2.2.2.2] 24 :: bk b0 #[.slice A_a0_0 a0_0.length c_a0_0, iv t.2.2.2.1] 46 :: bk b1 #[iv 0, sv noS, iv 0, iv 0, nS] 24 :: t.2.2.2.2.1 :: X) (fun t => J13 t.1 t.2.1 t.2.2.1 t.2.2.2.1 = some r ∧ OwnR (rTree 24) 24 t.2.2.2.2.1 (.slice t.2.2.2.2.2.1 t.2.2.1.length t.2.2.2.2.2.2) t.2.2.1) ?_ ?_
 ·rintro ⟨x5, x6, l7, x12, h8, A9, k10⟩ ⟨h, o11⟩
  subst hJ13
  refine ksr (kla 0 0 5 rfl (K.drop (K.mv1 (kst 0 5 #[iv x5, sv noS, iv x6, iv r2.2.2.2, .slice A9 l7.length k10] (knt (k_ret ?_))))))
  obtain rfl := Option.some.inj h
  exact kda 0 5 rfl [h8, bk b0 #[.slice A_a0_0 a0_0.length c_a0_0, iv x12] 46] (K.drop (K.mv1 (k_end (PR.okI ⟨h8, A9, k10, o11, rfl, rfl⟩))))
 ·skip
  refine k_block (ksr (kx 1 (K.mv2 (bnd h fun r14 hr14 h => (kc1 (parse_parser_got.ok (b0 := b0) hr14 R_a0_0) rfl ⟨(t3 hm_H_a0_0), trivial⟩ (kx 1 (knt ?_)))))))
  refine kcn h (fun h => ?_) fun h => ?_
  ·refine ksr (kx 1 (kcp h (fun _ hr16 => (hR.parse_parser_block (b0 := b0) hr16 R_a0_0)) rfl ⟨(t3 hm_H_a0_0), trivial⟩ (fun _ e => k_then_panic (k_blk_panic (k_then_panic (kpn 3 e rfl)))) fun r16 h => ?_))
   rintro _ _ ⟨h17, A18, k19, o20, rfl, rfl⟩
   refine nx_ret2 (K.mv3 (K.drop (kns #[iv r16.1, sv r16.2.1, iv r16.2.2.1, iv r16.2.2.2.1, .slice A18 r16.2.2.2.2.1.length k19] 24 1 fun b22 => (kx 1 (K.mv3 (kst 0 1 #[iv 28, sv noS, iv 0, iv r2.2.2.2, nS] (kx 1 (kst 4 1 #[iv 28, sv noS, iv 0, iv r2.2.2.2, .slice (some ⟨b22, 0, none⟩) 1 1] (knr (kx 1 ?_))))))))))
   refine K.mv3 (kcp h (fun _ hr23 => (parse_parser_want.ok (b0 := b0) hr23 R_a0_0)) rfl ⟨(t4 hm_H_a0_0), trivial⟩ (fun _ e => k_blk_panic (k_then_panic (kpn 4 e rfl))) fun r23 h => ?_)
   rintro _ _ ⟨rfl, rfl⟩
   exact nx_ret1 (knl (k_blk (k_then (K.mv3 (K.mv3 (k_row (T := 24) (n := 1) (xs := [(Tree.mk r16.1 r16.2.1 r16.2.2.1 r16.2.2.2.1 r16.2.2.2.2.1)]) (RowI.one (treeO_mk (k := r16.1) (t := r16.2.1) (n := r16.2.2.1) (a := r16.2.2.2.1) 24 o20)) rfl rfl (Nat.le_of_ble_eq_true rfl) fun h25 o26 => (K.mv3 (K.mv2 (K.mv3 (k_meet (28, 0, [(Tree.mk r16.1 r16.2.1 r16.2.2.1 r16.2.2.2.1 r16.2.2.2.2.1)], r23, h25, (some ⟨b22, 0, none⟩), 1) ⟨h, o26⟩ sb rfl))))))))))
  ·refine ksr (kx 1 (bnd h fun r27 hr27 h => (kc1 (parse_parser_got.ok (b0 := b0) hr27 R_a0_0) rfl ⟨(t3 hm_H_a0_0), trivial⟩ (kx 1 (knt ?_)))))
   refine kcn h (fun h => ?_) fun h => ?_
   ·refine ksr (kx 1 (kcp h (fun _ hr29 => (parse_parser_exp.ok (b0 := b0) hr29 R_a0_0)) rfl ⟨(t3 hm_H_a0_0), trivial⟩ (fun _ e => k_then_panic (k_blk_panic (k_then_panic (kpn 3 e rfl)))) fun r29 h => ?_))
    rintro _ _ ⟨h30, A31, k32, o33, rfl, rfl⟩
    refine nx_ret2 (K.mv3 (K.drop (kns #[iv r29.1, sv r29.2.1, iv r29.2.2.1, iv r29.2.2.2.1, .slice A31 r29.2.2.2.2.1.length k32] 24 1 fun b35 => (kx 1 (K.mv3 (kst 0 1 #[iv 25, sv noS, iv 0, iv r2.2.2.2, nS] (kx 1 (kst 4 1 #[iv 25, sv noS, iv 0, iv r2.2.2.2, .slice (some ⟨b35, 0, none⟩) 1 1] (kns' (kx 1 ?_))))))))))
    refine K.mv3 (kcp h (fun _ hr36 => (parse_parser_want.ok (b0 := b0) hr36 R_a0_0)) rfl ⟨(t4 hm_H_a0_0), trivial⟩ (fun _ e => k_then_panic (k_blk_panic (k_then_panic (kpn 4 e rfl)))) fun r36 h => ?_)
    rintro _ _ ⟨rfl, rfl⟩
    refine nx_ret1 (knt (k_seq (kpr [(0, 0), (1, 3), (2, 0), (3, 1), (4, 1)] [1] (kpx 1 (kpd 0 4 rfl (kpx 1 (kpt (ocp h (fun _ hr38 => (hR.parse_parser_block (b0 := b0) hr38 R_a0_0)) rfl ⟨(t4 hm_H_a0_0), trivial⟩ (fun _ e => k_then_panic (k_blk_panic (k_then_panic (kpn 4 e rfl)))) fun r38 h => ?_))))))))
    rintro _ _ ⟨h39, A40, k41, o42, rfl, rfl⟩
    refine nx_ret2 (kan [2] rfl (kpt (ons #[iv r38.1, sv r38.2.1, iv r38.2.2.1, iv r38.2.2.2.1, .slice A40 r38.2.2.2.2.1.length k41] 24 1 fun b44 => (kan [3] rfl (kpz (K.mv1 (K.mv1 (k_row (T := 24) (n := 1) (xs := [(Tree.mk r38.1 r38.2.1 r38.2.2.1 r38.2.2.2.1 r38.2.2.2.2.1)]) (RowI.one (treeO_mk (k := r38.1) (t := r38.2.1) (n := r38.2.2.1) (a := r38.2.2.2.1) 24 o42)) rfl rfl (Nat.le_of_ble_eq_true rfl) fun h45 o46 => (K.mv4 (K.mv4 ?_))))))))))
    refine k_row (T := 24) (n := 1) (xs := [(Tree.mk r29.1 r29.2.1 r29.2.2.1 r29.2.2.2.1 r29.2.2.2.2.1)]) (RowI.one (treeO_mk (k := r29.1) (t := r29.2.1) (n := r29.2.2.1) (a := r29.2.2.2.1) 24 o33)) rfl rfl (Nat.le_of_ble_eq_true rfl) fun h47 o48 => (K.mv1 (K.mv1 (bnd h fun l49 hl49 h => (kapR rfl ety22 rfl hl49 o48 o46 fun h50 A51 k52 o53 => (kx 1 (K.mv2 (kst 4 1 #[iv 25, sv noS, iv 0, iv r2.2.2.2, .slice A51 l49.length k52] (knr (kx 1 (K.mv2 ?_))))))))))
    refine kcp h (fun _ hr54 => (parse_parser_want.ok (b0 := b0) hr54 R_a0_0)) rfl ⟨(t3 hm_H_a0_0), trivial⟩ (fun _ e => k_blk_panic (k_then_panic (kpn 3 e rfl))) fun r54 h => ?_
    rintro _ _ ⟨rfl, rfl⟩
    exact nx_ret1 (knl (k_blk (k_then (K.mv2 (K.mv3 (K.mv2 (K.mv3 (k_meet (25, 0, l49, r54, h50, A51, k52) ⟨h, o53⟩ sb rfl))))))))
   ·refine ksr (kx 1 (bnd h fun r56 hr56 h => (kc1 (parse_parser_got.ok (b0 := b0) hr56 R_a0_0) rfl ⟨(t3 hm_H_a0_0), trivial⟩ (kx 1 (knt ?_)))))
    refine kcn h (fun h => ?_) fun h => ?_
    ·refine k_region (kx 1 (kcp h (fun _ hr58 => (hR.parse_parser_branches (b0 := b0) hr58 R_a0_0)) rfl ⟨(t3 hm_H_a0_0), trivial⟩ (fun _ e => k_blk_panic (k_then_panic (kpn 3 e rfl))) fun r58 h => ?_))
     rintro _ _ ⟨h59, A60, k61, o62, rfl, rfl⟩
     refine nx_ret2 (K.mv3 (K.drop (kx 1 (K.mv2 (kst 0 1 #[iv 24, sv noS, iv 0, iv r2.2.2.2, nS] (kx 1 (kst 4 1 #[iv 24, sv noS, iv 0, iv r2.2.2.2, .slice A60 r58.1.length k61] (knl (k_blk (k_then ?_))))))))))
     exact K.mv1 (K.mv3 (K.mv3 (K.mv3 (k_meet (24, 0, r58.1, r58.2, h59, A60, k61) ⟨h, o62⟩ sb rfl))))
    ·refine ksr (kx 1 (bnd h fun r64 hr64 h => (kc1 (parse_parser_got.ok (b0 := b0) hr64 R_a0_0) rfl ⟨(t3 hm_H_a0_0), trivial⟩ (kx 1 (knt ?_)))))
     refine kcn h (fun h => ?_) fun h => ?_
     ·refine ksr (kx 2 (kld 2 3 rfl (K.mv1 (K.drop (K.mv1 (K.drop (kcp h (fun _ hr66 => (hR.parse_parser_loop (b0 := b0) hr66 R_a0_0)) rfl ⟨(.tail _ hm_H_a0_0), trivial⟩ (fun _ e => k_then_panic (k_blk_panic (k_then_panic (kpn 1 e rfl)))) fun r66 h => ?_)))))))
      rintro _ _ ⟨h67, A68, k69, o70, rfl, rfl⟩
      refine nx_ret2 (K.mv2 (kst 0 5 #[iv r66.1, sv r66.2.1, iv r66.2.2.1, iv r66.2.2.2.1, .slice A68 r66.2.2.2.2.1.length k69] (knt (k_ret (k_blk_ret (k_then_ret ?_))))))
      obtain rfl := Option.some.inj h
      exact kda 0 5 rfl [h67, bk b0 #[.slice A_a0_0 a0_0.length c_a0_0, iv r66.2.2.2.2.2] 46] (K.drop (k_end (PR.okI ⟨h67, A68, k69, o70, rfl, rfl⟩)))
     ·refine ksr (kx 1 (bnd h fun r72 hr72 h => (kc1 (parse_parser_got.ok (b0 := b0) hr72 R_a0_0) rfl ⟨(t3 hm_H_a0_0), trivial⟩ (K.mv2 (K.drop (kx 1 (knt ?_)))))))
      refine kcn h (fun h => ?_) fun h => ?_
      ·refine ksr (kx 1 (kcp h (fun _ hr74 => (parse_parser_names.ok (b0 := b0) hr74 R_a0_0)) rfl ⟨(t2 hm_H_a0_0), trivial⟩ (fun _ e => k_then_panic (k_blk_panic (k_then_panic (kpn 2 e rfl)))) fun r74 h => ?_))
       rintro _ _ ⟨h75, A76, k77, o78, rfl, rfl⟩
       refine nx_ret2 (kx 1 (K.mv2 (kst 0 1 #[iv 21, sv noS, iv 0, iv r2.2.2.2, nS] (kx 1 (kst 4 1 #[iv 21, sv noS, iv 0, iv r2.2.2.2, .slice A76 r74.1.length k77] (kns' (kx 1 (kld 0 4 rfl (kx 2 (kst 2 1 #[iv 21, sv noS, iv ((r74.1.length : Nat) : Int), iv r2.2.2.2, .slice A76 r74.1.length k77] ?_))))))))))
       refine kns' (kx 1 (K.mv2 (bnd h fun r80 hr80 h => (kc1 (parse_parser_got.ok (b0 := b0) hr80 R_a0_0) rfl ⟨(t3 hm_H_a0_0), trivial⟩ (knt ?_)))))
       refine kcn h (fun h => ?_) fun h => ?_
       ·refine kpr [(0, 0), (1, 3), (2, 0), (3, 1)] [1] (kpx 1 (kpd 0 4 rfl (kpx 1 (kpt (ocp h (fun _ hr82 => (parse_parser_exps.ok (b0 := b0) hr82 R_a0_0)) rfl ⟨(t3 hm_H_a0_0), trivial⟩ (fun _ e => k_blk_panic (k_then_panic (kpn 3 e rfl))) fun r82 h => ?_)))))
        rintro _ _ ⟨h83, A84, k85, o86, rfl, rfl⟩
        refine nx_ret2 (kan [2] rfl (kpz (K.mv3 (bnd h fun l88 hl88 h => (kapR rfl ety22 rfl hl88 o78 o86 fun h89 A90 k91 o92 => (kx 1 (K.mv2 (kst 4 1 #[iv 21, sv noS, iv ((r74.1.length : Nat) : Int), iv r2.2.2.2, .slice A90 l88.length k91] (knl (k_blk ?_))))))))))
        exact k_then (K.mv1 (K.mv3 (K.mv3 (K.mv3 (k_meet (21, ((r74.1.length : Nat) : Int), l88, r82.2, h89, A90, k91) ⟨h, o92⟩ sb rfl)))))
       ·exact k_skip (k_blk (k_then (K.mv2 (K.mv3 (K.mv2 (K.mv3 (k_meet (21, ((r74.1.length : Nat) : Int), r74.1, r80.2, h75, A76, k77) ⟨h, o78⟩ sb rfl)))))))
      ·refine ksr (kx 1 (bnd h fun r93 hr93 h => (kc1 (parse_parser_got.ok (b0 := b0) hr93 R_a0_0) rfl ⟨(t2 hm_H_a0_0), trivial⟩ (kx 1 (knt ?_)))))
       refine kcn h (fun h => ?_) fun h => ?_
       ·refine k_region (kx 1 (K.mv1 (kst 0 1 #[iv 29, sv noS, iv 0, iv r2.2.2.2, nS] (knl (k_blk (k_then (k_none (K.mv3 (K.mv3 (K.mv3 ?_))))))))))
        exact k_meet (29, 0, [], r93.2, none_, none, 0) ⟨h, (OwnR.nil (rTree 24) 24 none_)⟩ sb rfl
       ·refine ksr (kx 1 (kcp h (fun _ hr95 => (hR.parse_parser_plain (b0 := b0) hr95 R_a0_0)) rfl ⟨(t2 hm_H_a0_0), trivial⟩ (fun _ e => k_then_panic (k_blk_panic (k_then_panic (kpn 2 e rfl)))) fun r95 h => ?_))
        rintro _ _ ⟨h96, A97, k98, o99, rfl, rfl⟩
        refine nx_ret2 (K.mv2 (K.drop (K.mv2 (kst 0 5 #[iv r95.1, sv r95.2.1, iv r95.2.2.1, iv r95.2.2.2.1, .slice A97 r95.2.2.2.2.1.length k98] (knt (k_ret (k_blk_ret (k_then_ret ?_))))))))
        obtain rfl := Option.some.inj h
        exact kda 0 5 rfl [h96, bk b0 #[.slice A_a0_0 a0_0.length c_a0_0, iv r95.2.2.2.2.2] 46] (K.drop (k_end (PR.okI ⟨h96, A97, k98, o99, rfl, rfl⟩)))
def parse_parser_branches.l0 : Nat → (Rc : PS) → (a0_0 : List (Int × ByteArray × Int × Int)) → (J7 : (List Tree) → Int → Option (PR (List Tree × Int))) → (l33 : List Tree) → (x38 : Int) → Option (PR (List Tree × Int))
 | 0, _, _, _, _, _ => none
 | m39 + 1, Rc, a0_0, J7, l33, x38 => PR.bind (parse_parser_exp.f m39 a0_0 x38 0) fun r40 => (apd 64 l33 [(Tree.mk r40.1 r40.2.1 r40.2.2.1 r40.2.2.2.1 r40.2.2.2.2.1)]).bind fun l49 => PR.bind (parse_parser_want.f m39 a0_0 r40.2.2.2.2.2 (⟨#[116, 104, 101, 110]⟩ : ByteArray)) fun r54 => PR.bind (Rc.parse_parser_block a0_0 r54 false) fun r56 => (apd 64 l49 [(Tree.mk r56.1 r56.2.1 r56.2.2.1 r56.2.2.2.1 r56.2.2.2.2.1)]).bind fun l65 => (parse_parser_got.f m39 a0_0 r56.2.2.2.2.2 (⟨#[101, 108, 115, 101, 105, 102]⟩ : ByteArray)).bind fun r70 => cond (!r70.1) (J7 l65 r70.2) (parse_parser_branches.l0 m39 Rc a0_0 J7 l65 r70.2)
def parse_parser_branches.g (Rc : PS) (k : Nat) (a0_0 : List (Int × ByteArray × Int × Int)) (a0_1 : Int) : Option (PR (List Tree × Int)) := joinF (fun (l1 : List Tree) (x6 : Int) => joinF (fun (l8 : List Tree) (x13 : Int) => PR.bind (parse_parser_want.f k a0_0 x13 (⟨#[101, 110, 100]⟩ : ByteArray)) fun r15 => some (PR.ok (l8, r15))) (fun J14 => (parse_parser_got.f k a0_0 x6 (⟨#[101, 108, 115, 101]⟩ : ByteArray)).bind fun r17 => cond r17.1 (PR.bind (Rc.parse_parser_block a0_0 r17.2 false) fun r19 => (apd 64 l1 [(Tree.mk r19.1 r19.2.1 r19.2.2.1 r19.2.2.2.1 r19.2.2.2.2.1)]).bind fun l28 => J14 l28 r19.2.2.2.2.2) (J14 l1 r17.2))) (fun J7 => parse_parser_branches.l0 k Rc a0_0 J7 ([]) a0_1)
set_option maxRecDepth 100000 in
theorem parse_parser_branches.okg {Rc : PS} (hR : Rc.Good) {k : Nat} {a0_0 : List (Int × ByteArray × Int × Int)} {a0_1 : Int} {b0 : Nat} {H_a0_0 : Frag} {A_a0_0 : Option Addr} {c_a0_0 : Nat} {r : PR (List Tree × Int)} (h : parse_parser_branches.g Rc k a0_0 a0_1 = some r) (R_a0_0 : RdT e49 4 H_a0_0 (.slice A_a0_0 a0_0.length c_a0_0) a0_0) : Ct Tryz.prog 62 #[pt b0] [bk b0 #[.slice A_a0_0 a0_0.length c_a0_0, iv a0_1] 46] [H_a0_0] (PR.Post failV (fun (r : List Tree × Int) e l1 => ∃ (H0_ : Frag) (A0_ : Option Addr) (c0_ : Nat), OwnR (rTree 24) 24 H0_ (.slice A0_ r.1.length c0_) r.1 ∧ e = .returned (.slice A0_ r.1.length c0_) ∧ l1 = [H0_, bk b0 #[.slice A_a0_0 a0_0.length c_a0_0, iv r.2] 46]) r) := by
 refine ct_enter (args := [pt b0]) Tryz.func62 rfl (Nat.le_of_ble_eq_true rfl) ?_
 intro A X hh_
 obtain ⟨hm_H_a0_0, _⟩ := hh_
 unfold parse_parser_branches.g at h
 refine K.eq (env' := [(0, pt b0)]) (l' := bk b0 #[.slice A_a0_0 a0_0.length c_a0_0, iv a0_1] 46 :: X) rfl rfl (ksr (kx 1 (kns' (kx 1 (knt ?_)))))
 obtain ⟨J7, hJ7, h⟩ := joinSplit h
 refine k_cut (τ := (List Tree) × Int × Frag × (Option Addr) × Nat) (fun t => [(0, pt b0), (3, .slice t.2.2.2.1 t.1.length t.2.2.2.2)]) (fun t => bk b0 #[.slice A_a0_0 a0_0.length c_a0_0, iv t.2.1] 46 :: t.2.2.1 :: X) (fun t => J7 t.1 t.2.1 = some r ∧ OwnR (rTree 24) 24 t.2.2.1 (.slice t.2.2.2.1 t.1.length t.2.2.2.2) t.1) ?_ ?_
 ·rintro ⟨l1, x6, h2, A3, k4⟩ ⟨h, o5⟩
  subst hJ7
  obtain ⟨J14, hJ14, h⟩ := joinSplit h
  refine k_cut (τ := (List Tree) × Int × Frag × (Option Addr) × Nat) (fun t => [(0, pt b0), (3, .slice t.2.2.2.1 t.1.length t.2.2.2.2)]) (fun t => bk b0 #[.slice A_a0_0 a0_0.length c_a0_0, iv t.2.1] 46 :: t.2.2.1 :: X) (fun t => J14 t.1 t.2.1 = some r ∧ OwnR (rTree 24) 24 t.2.2.1 (.slice t.2.2.2.1 t.1.length t.2.2.2.2) t.1) ?_ ?_
  ·rintro ⟨l8, x13, h9, A10, k11⟩ ⟨h, o12⟩
   subst hJ14
   refine ksr (kx 1 (kcp h (fun _ hr15 => (parse_parser_want.ok (b0 := b0) hr15 R_a0_0)) rfl ⟨(.tail _ hm_H_a0_0), trivial⟩ (fun _ e => k_then_panic (kpn 1 e rfl)) fun r15 h => ?_))
   rintro _ _ ⟨rfl, rfl⟩
   refine nx_ret1 (kns' (kx 2 (knt (k_ret ?_))))
   obtain rfl := Option.some.inj h
   exact kdv (.slice A10 l8.length k11) [h9, bk b0 #[.slice A_a0_0 a0_0.length c_a0_0, iv r15] 46] (K.mv1 (k_end (PR.okI ⟨h9, A10, k11, o12, rfl, rfl⟩)))
  ·skip
   refine ksr (kx 1 (bnd h fun r17 hr17 h => (kc1 (parse_parser_got.ok (b0 := b0) hr17 R_a0_0) rfl ⟨(.tail _ hm_H_a0_0), trivial⟩ (knt ?_))))
   refine kcn h (fun h => ?_) fun h => ?_
   ·refine k_region (kx 2 (kcp h (fun _ hr19 => (hR.parse_parser_block (b0 := b0) hr19 R_a0_0)) rfl ⟨(.tail _ hm_H_a0_0), trivial⟩ (fun _ e => k_then_panic (kpn 1 e rfl)) fun r19 h => ?_))
    rintro _ _ ⟨h20, A21, k22, o23, rfl, rfl⟩
    refine nx_ret2 (kns #[iv r19.1, sv r19.2.1, iv r19.2.2.1, iv r19.2.2.2.1, .slice A21 r19.2.2.2.2.1.length k22] 24 1 fun b25 => (K.mv1 (K.mv1 (k_row (T := 24) (n := 1) (xs := [(Tree.mk r19.1 r19.2.1 r19.2.2.1 r19.2.2.2.1 r19.2.2.2.2.1)]) (RowI.one (treeO_mk (k := r19.1) (t := r19.2.1) (n := r19.2.2.1) (a := r19.2.2.2.1) 24 o23)) rfl rfl (Nat.le_of_ble_eq_true rfl) fun h26 o27 => (K.mv2 (bnd h fun l28 hl28 h => (kapR rfl ety22 rfl hl28 o5 o27 fun h29 A30 k31 o32 => (kx 1 (knt (K.mv1 ?_))))))))))
    exact k_meet (l28, r19.2.2.2.2.2, h29, A30, k31) ⟨h, o32⟩ sb rfl
   ·exact k_skip (k_then (k_meet (l1, r17.2, h2, A3, k4) ⟨h, o5⟩ sb rfl))
 ·skip
  refine k_block (k_none (K.mv1 (k_loop (τ := (List Tree) × Int × Frag × (Option Addr) × Nat) (fun t => [(0, pt b0), (3, .slice t.2.2.2.1 t.1.length t.2.2.2.2)]) (fun t => bk b0 #[.slice A_a0_0 a0_0.length c_a0_0, iv t.2.1] 46 :: t.2.2.1 :: X) (fun m t => parse_parser_branches.l0 m Rc a0_0 J7 t.1 t.2.1 = some r ∧ OwnR (rTree 24) 24 t.2.2.1 (.slice t.2.2.2.1 t.1.length t.2.2.2.2) t.1) k ([], a0_1, none_, none, 0) ⟨h, (OwnR.nil (rTree 24) 24 none_)⟩ sb rfl ?_)))
  clear h
  rintro m39 ⟨l33, x38, h34, A35, k36⟩ ⟨h, o37⟩
  cases m39 with
  | zero => simp [parse_parser_branches.l0] at h
  | succ m39 =>
   simp only [parse_parser_branches.l0] at h
   refine k_block (ksr (kx 2 (kcp h (fun _ hr40 => (parse_parser_exp.ok (b0 := b0) hr40 R_a0_0)) rfl ⟨(.tail _ hm_H_a0_0), trivial⟩ (fun _ e => k_then_panic (k_blk_panic (k_then_panic (k_blk_panic (k_then_panic (kpn 1 e rfl)))))) fun r40 h => ?_)))
   rintro _ _ ⟨h41, A42, k43, o44, rfl, rfl⟩
   refine nx_ret2 (kns #[iv r40.1, sv r40.2.1, iv r40.2.2.1, iv r40.2.2.2.1, .slice A42 r40.2.2.2.2.1.length k43] 24 1 fun b46 => (K.mv1 (K.mv1 (k_row (T := 24) (n := 1) (xs := [(Tree.mk r40.1 r40.2.1 r40.2.2.1 r40.2.2.2.1 r40.2.2.2.2.1)]) (RowI.one (treeO_mk (k := r40.1) (t := r40.2.1) (n := r40.2.2.1) (a := r40.2.2.2.1) 24 o44)) rfl rfl (Nat.le_of_ble_eq_true rfl) fun h47 o48 => (K.mv2 (bnd h fun l49 hl49 h => (kapR rfl ety22 rfl hl49 o37 o48 fun h50 A51 k52 o53 => (kx 1 (kns' (kx 1 ?_))))))))))
   refine K.mv1 (kcp h (fun _ hr54 => (parse_parser_want.ok (b0 := b0) hr54 R_a0_0)) rfl ⟨(.tail _ hm_H_a0_0), trivial⟩ (fun _ e => k_then_panic (k_blk_panic (k_then_panic (k_blk_panic (k_then_panic (kpn 1 e rfl)))))) fun r54 h => ?_)
   rintro _ _ ⟨rfl, rfl⟩
   refine nx_ret1 (kns' (kx 2 (kcp h (fun _ hr56 => (hR.parse_parser_block (b0 := b0) hr56 R_a0_0)) rfl ⟨(.tail _ hm_H_a0_0), trivial⟩ (fun _ e => k_then_panic (k_blk_panic (k_then_panic (k_blk_panic (k_then_panic (kpn 1 e rfl)))))) fun r56 h => ?_)))
   rintro _ _ ⟨h57, A58, k59, o60, rfl, rfl⟩
   refine nx_ret2 (kns #[iv r56.1, sv r56.2.1, iv r56.2.2.1, iv r56.2.2.2.1, .slice A58 r56.2.2.2.2.1.length k59] 24 1 fun b62 => (K.mv1 (K.mv1 (k_row (T := 24) (n := 1) (xs := [(Tree.mk r56.1 r56.2.1 r56.2.2.1 r56.2.2.2.1 r56.2.2.2.2.1)]) (RowI.one (treeO_mk (k := r56.1) (t := r56.2.1) (n := r56.2.2.1) (a := r56.2.2.2.1) 24 o60)) rfl rfl (Nat.le_of_ble_eq_true rfl) fun h63 o64 => (K.mv2 (bnd h fun l65 hl65 h => (kapR rfl ety22 rfl hl65 o53 o64 fun h66 A67 k68 o69 => (kx 1 (kns' (kx 1 ?_))))))))))
   refine K.mv1 (bnd h fun r70 hr70 h => (kc1 (parse_parser_got.ok (b0 := b0) hr70 R_a0_0) rfl ⟨(.tail _ hm_H_a0_0), trivial⟩ (kx 1 (knt ?_))))
   refine kcn h (fun h => ?_) fun h => ?_
   ·exact k_exit (k_there rfl (k_then_exit (k_here (k_then (k_meet (l65, r70.2, h66, A67, k68) ⟨h, o69⟩ sb rfl)))))
   ·exact k_skip (k_blk (k_then (k_again m39 (l65, r70.2, h66, A67, k68) (Nat.lt_succ_self _) ⟨h, o69⟩ sb rfl)))
def parse_parser_loop.g (Rc : PS) (k : Nat) (a0_0 : List (Int × ByteArray × Int × Int)) (a0_1 : Int) (a1 : Int) : Option (PR (Int × ByteArray × Int × Int × List Tree × Int)) := PR.bind (parse_parser_name.f k a0_0 a0_1) fun r2 => joinF (fun (x10 : Int) (x11 : Int) (l12 : List Tree) (x17 : Int) => PR.bind (parse_parser_want.f k a0_0 x17 (⟨#[100, 111]⟩ : ByteArray)) fun r19 => PR.bind (Rc.parse_parser_block a0_0 r19 false) fun r21 => (apd 64 l12 [(Tree.mk r21.1 r21.2.1 r21.2.2.1 r21.2.2.2.1 r21.2.2.2.2.1)]).bind fun l30 => PR.bind (parse_parser_want.f k a0_0 r21.2.2.2.2.2 (⟨#[101, 110, 100]⟩ : ByteArray)) fun r35 => some (PR.ok (x10, (⟨#[]⟩ : ByteArray), x11, a1, l30, r35))) (fun J18 => (parse_parser_got.f k a0_0 r2.2.2.2.2.2 (⟨#[61]⟩ : ByteArray)).bind fun r37 => cond r37.1 (PR.bind (parse_parser_exp.f k a0_0 r37.2 0) fun r39 => (apd 64 [(Tree.mk r2.1 r2.2.1 r2.2.2.1 r2.2.2.2.1 r2.2.2.2.2.1)] [(Tree.mk r39.1 r39.2.1 r39.2.2.1 r39.2.2.2.1 r39.2.2.2.2.1)]).bind fun l50 => PR.bind (parse_parser_want.f k a0_0 r39.2.2.2.2.2 (⟨#[44]⟩ : ByteArray)) fun r55 => PR.bind (parse_parser_exp.f k a0_0 r55 0) fun r57 => (apd 64 l50 [(Tree.mk r57.1 r57.2.1 r57.2.2.1 r57.2.2.2.1 r57.2.2.2.2.1)]).bind fun l66 => (parse_parser_got.f k a0_0 r57.2.2.2.2.2 (⟨#[44]⟩ : ByteArray)).bind fun r71 => cond r71.1 (PR.bind (parse_parser_exp.f k a0_0 r71.2 0) fun r73 => (apd 64 l66 [(Tree.mk r73.1 r73.2.1 r73.2.2.1 r73.2.2.2.1 r73.2.2.2.2.1)]).bind fun l82 => J18 26 0 l82 r73.2.2.2.2.2) (J18 26 0 l66 r71.2)) (joinF (fun (x87 : Int) (l88 : List Tree) => PR.bind (parse_parser_want.f k a0_0 x87 (⟨#[105, 110]⟩ : ByteArray)) fun r94 => PR.bind (parse_parser_exps.f k a0_0 r94) fun r96 => (apd 64 l88 r96.1).bind fun l102 => J18 27 ((l88.length : Nat) : Int) l102 r96.2) (fun J93 => (parse_parser_got.f k a0_0 r37.2 (⟨#[44]⟩ : ByteArray)).bind fun r107 => cond r107.1 (PR.bind (parse_parser_names.f k a0_0 r107.2) fun r109 => (apd 64 [(Tree.mk r2.1 r2.2.1 r2.2.2.1 r2.2.2.2.1 r2.2.2.2.2.1)] r109.1).bind fun l117 => J93 r109.2 l117) (J93 r107.2 ([(Tree.mk r2.1 r2.2.1 r2.2.2.1 r2.2.2.2.1 r2.2.2.2.2.1)])))))
set_option maxRecDepth 100000 in
theorem parse_parser_loop.okg {Rc : PS} (hR : Rc.Good) {k : Nat} {a0_0 : List (Int × ByteArray × Int × Int)} {a0_1 : Int} {a1 : Int} {b0 : Nat} {H_a0_0 : Frag} {A_a0_0 : Option Addr} {c_a0_0 : Nat} {r : PR (Int × ByteArray × Int × Int × List Tree × Int)} (h : parse_parser_loop.g Rc k a0_0 a0_1 a1 = some r) (R_a0_0 : RdT e49 4 H_a0_0 (.slice A_a0_0 a0_0.length c_a0_0) a0_0) : Ct Tryz.prog 63 #[pt b0, iv a1] [bk b0 #[.slice A_a0_0 a0_0.length c_a0_0, iv a0_1] 46] [H_a0_0] (PR.Post failV (fun (r : Int × ByteArray × Int × Int × List Tree × Int) e l1 => ∃ (H0_ : Frag) (A0_ : Option Addr) (c0_ : Nat), OwnR (rTree 24) 24 H0_ (.slice A0_ r.2.2.2.2.1.length c0_) r.2.2.2.2.1 ∧ e = .returned (.agg #[iv r.1, sv r.2.1, iv r.2.2.1, iv r.2.2.2.1, .slice A0_ r.2.2.2.2.1.length c0_]) ∧ l1 = [H0_, bk b0 #[.slice A_a0_0 a0_0.length c_a0_0, iv r.2.2.2.2.2] 46]) r) := by
 refine ct_enter (args := [pt b0, iv a1]) Tryz.func63 rfl (Nat.le_of_ble_eq_true rfl) ?_
 intro A X hh_
 obtain ⟨hm_H_a0_0, _⟩ := hh_
 unfold parse_parser_loop.g at h
 refine K.eq (env' := [(0, pt b0), (1, iv a1)]) (l' := bk b0 #[.slice A_a0_0 a0_0.length c_a0_0, iv a0_1] 46 :: X) rfl rfl (ksr (knp #[iv 0, sv noS, iv 0, iv 0, nS] 24 fun b1 => (kns' (kx 2 (K.mv1 (kcp h (fun _ hr2 => (parse_parser_name.ok (b0 := b0) hr2 R_a0_0)) rfl ⟨(.tail _ hm_H_a0_0), trivial⟩ (fun _ e => k_then_panic (kpn 1 e rfl)) fun r2 h => ?_))))))
 rintro _ _ ⟨h3, A4, k5, o6, rfl, rfl⟩
 refine nx_ret2 (kns #[iv r2.1, sv r2.2.1, iv r2.2.2.1, iv r2.2.2.2.1, .slice A4 r2.2.2.2.2.1.length k5] 24 1 fun b8 => (kx 1 (knp #[iv 0, sv noS, iv 0, iv 0, nS] 24 fun b9 => (kst 0 5 #[iv 27, sv noS, iv 0, iv a1, .slice (some ⟨b8, 0, none⟩) 1 1] (knt ?_)))))
 obtain ⟨J18, hJ18, h⟩ := joinSplit h
 refine k_cut (τ := Int × Int × (List Tree) × Int × Frag × (Option Addr) × Nat) (fun t => [(0, pt b0), (4, pt b1), (5, pt b9)]) (fun t => bk b9 #[iv t.1, sv noS, iv t.2.1, iv a1, .slice t.2.2.2.2.2.1 t.2.2.1.length t.2.2.2.2.2.2] 24 :: bk b0 #[.slice A_a0_0 a0_0.length c_a0_0, iv t.2.2.2.1] 46 :: bk b1 #[iv 0, sv noS, iv 0, iv 0, nS] 24 :: t.2.2.2.2.1 :: X) (fun t => J18 t.1 t.2.1 t.2.2.1 t.2.2.2.1 = some r ∧ OwnR (rTree 24) 24 t.2.2.2.2.1 (.slice t.2.2.2.2.2.1 t.2.2.1.length t.2.2.2.2.2.2) t.2.2.1) ?_ ?_
 ·rintro ⟨x10, x11, l12, x17, h13, A14, k15⟩ ⟨h, o16⟩
  subst hJ18
  refine ksr (kx 1 (K.mv1 (kcp h (fun _ hr19 => (parse_parser_want.ok (b0 := b0) hr19 R_a0_0)) rfl ⟨(t3 hm_H_a0_0), trivial⟩ (fun _ e => k_then_panic (kpn 3 e rfl)) fun r19 h => ?_)))
  rintro _ _ ⟨rfl, rfl⟩
  refine nx_ret1 (knt (k_seq (kpr [(0, 0), (1, 3), (2, 0), (3, 1), (4, 1)] [1] (kpx 1 (kpd 0 4 rfl (kpx 1 (kpt (ocp h (fun _ hr21 => (hR.parse_parser_block (b0 := b0) hr21 R_a0_0)) rfl ⟨(t3 hm_H_a0_0), trivial⟩ (fun _ e => k_then_panic (kpn 3 e rfl)) fun r21 h => ?_))))))))
  rintro _ _ ⟨h22, A23, k24, o25, rfl, rfl⟩
  refine nx_ret2 (kan [2] rfl (kpt (ons #[iv r21.1, sv r21.2.1, iv r21.2.2.1, iv r21.2.2.2.1, .slice A23 r21.2.2.2.2.1.length k24] 24 1 fun b27 => (kan [3] rfl (kpz (K.mv1 (K.mv1 (k_row (T := 24) (n := 1) (xs := [(Tree.mk r21.1 r21.2.1 r21.2.2.1 r21.2.2.2.1 r21.2.2.2.2.1)]) (RowI.one (treeO_mk (k := r21.1) (t := r21.2.1) (n := r21.2.2.1) (a := r21.2.2.2.1) 24 o25)) rfl rfl (Nat.le_of_ble_eq_true rfl) fun h28 o29 => (K.mv4 (bnd h fun l30 hl30 h => ?_))))))))))
  refine kapR rfl ety22 rfl hl30 o16 o29 fun h31 A32 k33 o34 => (kx 1 (K.mv2 (kst 4 1 #[iv x10, sv noS, iv x11, iv a1, .slice A32 l30.length k33] (kns' (kx 1 (K.mv2 (kcp h (fun _ hr35 => (parse_parser_want.ok (b0 := b0) hr35 R_a0_0)) rfl ⟨(t3 hm_H_a0_0), trivial⟩ (fun _ e => k_then_panic (kpn 3 e rfl)) fun r35 h => ?_)))))))
  rintro _ _ ⟨rfl, rfl⟩
  refine nx_ret1 (kns' (kla 1 0 5 rfl (K.mv1 (K.drop (K.mv2 (kst 0 5 #[iv x10, sv noS, iv x11, iv a1, .slice A32 l30.length k33] (knt (k_ret ?_))))))))
  obtain rfl := Option.some.inj h
  exact kda 0 5 rfl [h31, bk b0 #[.slice A_a0_0 a0_0.length c_a0_0, iv r35] 46] (K.drop (K.mv1 (k_end (PR.okI ⟨h31, A32, k33, o34, rfl, rfl⟩))))
 ·skip
  refine ksr (kx 1 (K.mv3 (bnd h fun r37 hr37 h => (kc1 (parse_parser_got.ok (b0 := b0) hr37 R_a0_0) rfl ⟨(t4 hm_H_a0_0), trivial⟩ (knt ?_)))))
  refine kcn h (fun h => ?_) fun h => ?_
  ·refine ksr (kx 1 (K.mv1 (kst 0 1 #[iv 26, sv noS, iv 0, iv a1, .slice (some ⟨b8, 0, none⟩) 1 1] (knt (k_seq (kpr [(0, 0), (1, 3), (2, 0), (3, 1), (4, 1)] [0] (kpx 1 (kpd 0 4 rfl (kpx 1 (kpt ?_))))))))))
   refine K.mv1 (ocp h (fun _ hr39 => (parse_parser_exp.ok (b0 := b0) hr39 R_a0_0)) rfl ⟨(t4 hm_H_a0_0), trivial⟩ (fun _ e => k_then_panic (k_then_panic (kpn 4 e rfl))) fun r39 h => ?_)
   rintro _ _ ⟨h40, A41, k42, o43, rfl, rfl⟩
   refine nx_ret2 (kan [2] rfl (kpt (ons #[iv r39.1, sv r39.2.1, iv r39.2.2.1, iv r39.2.2.2.1, .slice A41 r39.2.2.2.2.1.length k42] 24 1 fun b45 => (kan [3] rfl (kpz (K.mv1 (K.mv1 (k_row (T := 24) (n := 1) (xs := [(Tree.mk r39.1 r39.2.1 r39.2.2.1 r39.2.2.2.1 r39.2.2.2.2.1)]) (RowI.one (treeO_mk (k := r39.1) (t := r39.2.1) (n := r39.2.2.1) (a := r39.2.2.2.1) 24 o43)) rfl rfl (Nat.le_of_ble_eq_true rfl) fun h46 o47 => (K.mv4 (K.mv4 ?_))))))))))
   refine k_row (T := 24) (n := 1) (xs := [(Tree.mk r2.1 r2.2.1 r2.2.2.1 r2.2.2.2.1 r2.2.2.2.2.1)]) (RowI.one (treeO_mk (k := r2.1) (t := r2.2.1) (n := r2.2.2.1) (a := r2.2.2.2.1) 24 o6)) rfl rfl (Nat.le_of_ble_eq_true rfl) fun h48 o49 => (K.mv1 (K.mv1 (bnd h fun l50 hl50 h => (kapR rfl ety22 rfl hl50 o49 o47 fun h51 A52 k53 o54 => (kx 1 (K.mv2 (kst 4 1 #[iv 26, sv noS, iv 0, iv a1, .slice A52 l50.length k53] (kns' (kx 1 (K.mv2 ?_))))))))))
   refine kcp h (fun _ hr55 => (parse_parser_want.ok (b0 := b0) hr55 R_a0_0)) rfl ⟨(t3 hm_H_a0_0), trivial⟩ (fun _ e => k_then_panic (k_then_panic (kpn 3 e rfl))) fun r55 h => ?_
   rintro _ _ ⟨rfl, rfl⟩
   refine nx_ret1 (knt (k_seq (kpr [(0, 0), (1, 3), (2, 0), (3, 1), (4, 1)] [1] (kpx 1 (kpd 0 4 rfl (kpx 1 (kpt (ocp h (fun _ hr57 => (parse_parser_exp.ok (b0 := b0) hr57 R_a0_0)) rfl ⟨(t3 hm_H_a0_0), trivial⟩ (fun _ e => k_then_panic (k_then_panic (kpn 3 e rfl))) fun r57 h => ?_))))))))
   rintro _ _ ⟨h58, A59, k60, o61, rfl, rfl⟩
   refine nx_ret2 (kan [2] rfl (kpt (ons #[iv r57.1, sv r57.2.1, iv r57.2.2.1, iv r57.2.2.2.1, .slice A59 r57.2.2.2.2.1.length k60] 24 1 fun b63 => (kan [3] rfl (kpz (K.mv1 (K.mv1 (k_row (T := 24) (n := 1) (xs := [(Tree.mk r57.1 r57.2.1 r57.2.2.1 r57.2.2.2.1 r57.2.2.2.2.1)]) (RowI.one (treeO_mk (k := r57.1) (t := r57.2.1) (n := r57.2.2.1) (a := r57.2.2.2.1) 24 o61)) rfl rfl (Nat.le_of_ble_eq_true rfl) fun h64 o65 => (K.mv3 (bnd h fun l66 hl66 h => ?_))))))))))
   refine kapR rfl ety22 rfl hl66 o54 o65 fun h67 A68 k69 o70 => (kx 1 (K.mv2 (kst 4 1 #[iv 26, sv noS, iv 0, iv a1, .slice A68 l66.length k69] (kns' (kx 1 (K.mv2 (bnd h fun r71 hr71 h => (kc1 (parse_parser_got.ok (b0 := b0) hr71 R_a0_0) rfl ⟨(t3 hm_H_a0_0), trivial⟩ (knt ?_)))))))))
   refine kcn h (fun h => ?_) fun h => ?_
   ·refine kpr [(0, 0), (1, 3), (2, 0), (3, 1), (4, 1)] [1] (kpx 1 (kpd 0 4 rfl (kpx 1 (kpt (ocp h (fun _ hr73 => (parse_parser_exp.ok (b0 := b0) hr73 R_a0_0)) rfl ⟨(t3 hm_H_a0_0), trivial⟩ (fun _ e => k_then_panic (kpn 3 e rfl)) fun r73 h => ?_)))))
    rintro _ _ ⟨h74, A75, k76, o77, rfl, rfl⟩
    refine nx_ret2 (kan [2] rfl (kpt (ons #[iv r73.1, sv r73.2.1, iv r73.2.2.1, iv r73.2.2.2.1, .slice A75 r73.2.2.2.2.1.length k76] 24 1 fun b79 => (kan [3] rfl (kpz (K.mv1 (K.mv1 (k_row (T := 24) (n := 1) (xs := [(Tree.mk r73.1 r73.2.1 r73.2.2.1 r73.2.2.2.1 r73.2.2.2.2.1)]) (RowI.one (treeO_mk (k := r73.1) (t := r73.2.1) (n := r73.2.2.1) (a := r73.2.2.2.1) 24 o77)) rfl rfl (Nat.le_of_ble_eq_true rfl) fun h80 o81 => (K.mv3 (bnd h fun l82 hl82 h => ?_))))))))))
    exact kapR rfl ety22 rfl hl82 o70 o81 fun h83 A84 k85 o86 => (kx 1 (K.mv2 (kst 4 1 #[iv 26, sv noS, iv 0, iv a1, .slice A84 l82.length k85] (knt (K.mv1 (K.mv3 (K.mv3 (K.mv3 (k_meet (26, 0, l82, r73.2.2.2.2.2, h83, A84, k85) ⟨h, o86⟩ sb rfl)))))))))
   ·exact k_skip (k_then (K.mv2 (K.mv3 (K.mv2 (K.mv3 (k_meet (26, 0, l66, r71.2, h67, A68, k69) ⟨h, o70⟩ sb rfl))))))
  ·obtain ⟨J93, hJ93, h⟩ := joinSplit h
   refine k_cut (τ := Int × (List Tree) × Frag × (Option Addr) × Nat) (fun t => [(0, pt b0), (4, pt b1), (5, pt b9)]) (fun t => bk b0 #[.slice A_a0_0 a0_0.length c_a0_0, iv t.1] 46 :: bk b9 #[iv 27, sv noS, iv 0, iv a1, .slice t.2.2.2.1 t.2.1.length t.2.2.2.2] 24 :: bk b1 #[iv 0, sv noS, iv 0, iv 0, nS] 24 :: t.2.2.1 :: X) (fun t => J93 t.1 t.2.1 = some r ∧ OwnR (rTree 24) 24 t.2.2.1 (.slice t.2.2.2.1 t.2.1.length t.2.2.2.2) t.2.1) ?_ ?_
   ·rintro ⟨x87, l88, h89, A90, k91⟩ ⟨h, o92⟩
    subst hJ93
    refine ksr (kx 1 (kld 1 4 rfl (kx 2 (K.mv1 (kst 2 1 #[iv 27, sv noS, iv ((l88.length : Nat) : Int), iv a1, .slice A90 l88.length k91] (kns' (kx 1 (K.mv1 (kcp h (fun _ hr94 => (parse_parser_want.ok (b0 := b0) hr94 R_a0_0)) rfl ⟨(t3 hm_H_a0_0), trivial⟩ (fun _ e => k_then_panic (k_then_panic (kpn 3 e rfl))) fun r94 h => ?_)))))))))
    rintro _ _ ⟨rfl, rfl⟩
    refine nx_ret1 (knt (kpr [(0, 0), (1, 3), (2, 0), (3, 1)] [1] (kpx 1 (kpd 0 4 rfl (kpx 1 (kpt (ocp h (fun _ hr96 => (parse_parser_exps.ok (b0 := b0) hr96 R_a0_0)) rfl ⟨(t3 hm_H_a0_0), trivial⟩ (fun _ e => k_then_panic (kpn 3 e rfl)) fun r96 h => ?_)))))))
    rintro _ _ ⟨h97, A98, k99, o100, rfl, rfl⟩
    refine nx_ret2 (kan [2] rfl (kpz (K.mv4 (bnd h fun l102 hl102 h => (kapR rfl ety22 rfl hl102 o92 o100 fun h103 A104 k105 o106 => (kx 1 (K.mv2 (kst 4 1 #[iv 27, sv noS, iv ((l88.length : Nat) : Int), iv a1, .slice A104 l102.length k105] (knt (K.mv1 ?_))))))))))
    exact K.mv3 (K.mv3 (K.mv3 (k_meet (27, ((l88.length : Nat) : Int), l102, r96.2, h103, A104, k105) ⟨h, o106⟩ sb rfl)))
   ·skip
    refine ksr (kx 1 (bnd h fun r107 hr107 h => (kc1 (parse_parser_got.ok (b0 := b0) hr107 R_a0_0) rfl ⟨(t4 hm_H_a0_0), trivial⟩ (knt ?_))))
    refine kcn h (fun h => ?_) fun h => ?_
    ·refine kpr [(0, 0), (1, 3), (2, 0), (3, 1)] [1] (kpx 1 (kpd 0 4 rfl (kpx 1 (kpt (ocp h (fun _ hr109 => (parse_parser_names.ok (b0 := b0) hr109 R_a0_0)) rfl ⟨(t4 hm_H_a0_0), trivial⟩ (fun _ e => k_then_panic (k_then_panic (kpn 4 e rfl))) fun r109 h => ?_)))))
     rintro _ _ ⟨h110, A111, k112, o113, rfl, rfl⟩
     refine nx_ret2 (kan [2] rfl (kpz (K.mv4 (K.mv4 (k_row (T := 24) (n := 1) (xs := [(Tree.mk r2.1 r2.2.1 r2.2.2.1 r2.2.2.2.1 r2.2.2.2.2.1)]) (RowI.one (treeO_mk (k := r2.1) (t := r2.2.1) (n := r2.2.2.1) (a := r2.2.2.2.1) 24 o6)) rfl rfl (Nat.le_of_ble_eq_true rfl) fun h115 o116 => (K.mv1 (K.mv1 (bnd h fun l117 hl117 h => (kapR rfl ety22 rfl hl117 o116 o113 fun h118 A119 k120 o121 => (kx 1 ?_))))))))))
     exact K.mv2 (kst 4 1 #[iv 27, sv noS, iv 0, iv a1, .slice A119 l117.length k120] (knt (K.mv1 (K.mv3 (K.mv2 (K.mv3 (k_meet (r109.2, l117, h118, A119, k120) ⟨h, o121⟩ sb rfl)))))))
    ·exact k_skip (k_then (K.mv3 (K.mv3 (k_row (T := 24) (n := 1) (xs := [(Tree.mk r2.1 r2.2.1 r2.2.2.1 r2.2.2.2.1 r2.2.2.2.2.1)]) (RowI.one (treeO_mk (k := r2.1) (t := r2.2.1) (n := r2.2.2.1) (a := r2.2.2.2.1) 24 o6)) rfl rfl (Nat.le_of_ble_eq_true rfl) fun h122 o123 => (K.mv3 (K.mv3 (K.mv3 (k_meet (r107.2, [(Tree.mk r2.1 r2.2.1 r2.2.2.1 r2.2.2.2.1 r2.2.2.2.2.1)], h122, (some ⟨b8, 0, none⟩), 1) ⟨h, o123⟩ sb rfl))))))))
def parse_parser_plain.l0 : Nat → (a0_0 : List (Int × ByteArray × Int × Int)) → (J26 : (List Tree) → Int → Option (PR (Int × ByteArray × Int × Int × List Tree × Int))) → (x42 : Int) → (x43 : ByteArray) → (x44 : Int) → (x45 : Int) → (l46 : List Tree) → (l51 : List Tree) → (x56 : Int) → Option (PR (Int × ByteArray × Int × Int × List Tree × Int))
 | 0, _, _, _, _, _, _, _, _, _ => none
 | m57 + 1, a0_0, J26, x42, x43, x44, x45, l46, l51, x56 => joinF (fun (_ : Unit) => (apd 64 l51 [(Tree.mk x42 x43 x44 x45 l46)]).bind fun l62 => (parse_parser_got.f m57 a0_0 x56 (⟨#[44]⟩ : ByteArray)).bind fun r67 => cond (!r67.1) (J26 l62 r67.2) (PR.bind (parse_parser_suffixed.f m57 a0_0 r67.2) fun r70 => parse_parser_plain.l0 m57 a0_0 J26 r70.1 r70.2.1 r70.2.2.1 r70.2.2.2.1 r70.2.2.2.2.1 l62 r70.2.2.2.2.2)) (fun J58 => (parse_target.f m57 x42 x43 x44 x45 l46).bind fun r76 => cond (!r76) (PR.bind (parse_parser_fail.f m57 a0_0 x56 x45) fun r78 => J58 ()) (J58 ()))
def parse_parser_plain.g (Rc : PS) (k : Nat) (a0_0 : List (Int × ByteArray × Int × Int)) (a0_1 : Int) : Option (PR (Int × ByteArray × Int × Int × List Tree × Int)) := PR.bind (parse_parser_suffixed.f k a0_0 a0_1) fun r2 => ((parse_parser_is.f k a0_0 r2.2.2.2.2.2 (⟨#[61]⟩ : ByteArray)).bind fun r80 => cond (!r80) ((parse_parser_is.f k a0_0 r2.2.2.2.2.2 (⟨#[44]⟩ : ByteArray)).bind fun r82 => some (!r82)) (some false) : Option Bool).bind fun q9 => cond q9 (joinF (fun (_ : Unit) => some (PR.ok (23, (⟨#[]⟩ : ByteArray), 0, r2.2.2.2.1, [(Tree.mk r2.1 r2.2.1 r2.2.2.1 r2.2.2.2.1 r2.2.2.2.2.1)], r2.2.2.2.2.2))) (fun J11 => cond (r2.1 != 8) ((parse_parser_now.f k a0_0 r2.2.2.2.2.2).bind fun r16 => PR.bind (parse_parser_fail.f k a0_0 r2.2.2.2.2.2 r16.2.2.2) fun r17 => J11 ()) (J11 ()))) (joinF (fun (l20 : List Tree) (x25 : Int) => PR.bind (parse_parser_want.f k a0_0 x25 (⟨#[61]⟩ : ByteArray)) fun r27 => PR.bind (parse_parser_exps.f k a0_0 r27) fun r29 => (apd 64 l20 r29.1).bind fun l35 => some (PR.ok (22, (⟨#[]⟩ : ByteArray), ((l20.length : Nat) : Int), r2.2.2.2.1, l35, r29.2))) (fun J26 => parse_parser_plain.l0 k a0_0 J26 r2.1 r2.2.1 r2.2.2.1 r2.2.2.2.1 r2.2.2.2.2.1 ([]) r2.2.2.2.2.2))
set_option maxRecDepth 100000 in
theorem parse_parser_plain.okg {Rc : PS} (hR : Rc.Good) {k : Nat} {a0_0 : List (Int × ByteArray × Int × Int)} {a0_1 : Int} {b0 : Nat} {H_a0_0 : Frag} {A_a0_0 : Option Addr} {c_a0_0 : Nat} {r : PR (Int × ByteArray × Int × Int × List Tree × Int)} (h : parse_parser_plain.g Rc k a0_0 a0_1 = some r) (R_a0_0 : RdT e49 4 H_a0_0 (.slice A_a0_0 a0_0.length c_a0_0) a0_0) : Ct Tryz.prog 64 #[pt b0] [bk b0 #[.slice A_a0_0 a0_0.length c_a0_0, iv a0_1] 46] [H_a0_0] (PR.Post failV (fun (r : Int × ByteArray × Int × Int × List Tree × Int) e l1 => ∃ (H0_ : Frag) (A0_ : Option Addr) (c0_ : Nat), OwnR (rTree 24) 24 H0_ (.slice A0_ r.2.2.2.2.1.length c0_) r.2.2.2.2.1 ∧ e = .returned (.agg #[iv r.1, sv r.2.1, iv r.2.2.1, iv r.2.2.2.1, .slice A0_ r.2.2.2.2.1.length c0_]) ∧ l1 = [H0_, bk b0 #[.slice A_a0_0 a0_0.length c_a0_0, iv r.2.2.2.2.2] 46]) r) := by
 refine ct_enter (args := [pt b0]) Tryz.func64 rfl (Nat.le_of_ble_eq_true rfl) ?_
 intro A X hh_
 obtain ⟨hm_H_a0_0, _⟩ := hh_
 unfold parse_parser_plain.g at h
 refine K.eq (env' := [(0, pt b0)]) (l' := bk b0 #[.slice A_a0_0 a0_0.length c_a0_0, iv a0_1] 46 :: X) rfl rfl (ksr (knp #[iv 0, sv noS, iv 0, iv 0, nS] 24 fun b1 => (kns' (kx 1 (K.mv1 (kcp h (fun _ hr2 => (parse_parser_suffixed.ok (b0 := b0) hr2 R_a0_0)) rfl ⟨(.tail _ hm_H_a0_0), trivial⟩ (fun _ e => k_then_panic (kpn 1 e rfl)) fun r2 h => ?_))))))
 rintro _ _ ⟨h3, A4, k5, o6, rfl, rfl⟩
 refine nx_ret2 (knp #[iv 0, sv noS, iv 0, iv 0, nS] 24 fun b8 => (kst 0 5 #[iv r2.1, sv r2.2.1, iv r2.2.2.1, iv r2.2.2.2.1, .slice A4 r2.2.2.2.2.1.length k5] (knt (k_seq (bnd h fun q9 hq9 h => ?_)))))
 refine k_cut1 [(0, pt b0), (2, pt b1), (3, pt b8), (15, bv q9)] (bk b8 #[iv r2.1, sv r2.2.1, iv r2.2.2.1, iv r2.2.2.2.1, .slice A4 r2.2.2.2.2.1.length k5] 24 :: h3 :: bk b0 #[.slice A_a0_0 a0_0.length c_a0_0, iv r2.2.2.2.2.2] 46 :: bk b1 #[iv 0, sv noS, iv 0, iv 0, nS] 24 :: X) ?_ ?_
 ·clear hq9
  refine kcn h (fun h => ?_) fun h => ?_
  ·obtain ⟨J11, hJ11, h⟩ := joinSplit h
   refine k_cut (τ := Unit) (fun t => [(2, pt b1), (3, pt b8)]) (fun t => bk b8 #[iv r2.1, sv r2.2.1, iv r2.2.2.1, iv r2.2.2.2.1, .slice A4 r2.2.2.2.2.1.length k5] 24 :: h3 :: bk b0 #[.slice A_a0_0 a0_0.length c_a0_0, iv r2.2.2.2.2.2] 46 :: bk b1 #[iv 0, sv noS, iv 0, iv 0, nS] 24 :: X) (fun t => J11 () = some r) ?_ ?_
   ·rintro ⟨⟩ h
    subst hJ11
    refine ksr (kx 1 (kld 0 3 rfl (kla 0 0 5 rfl (K.drop (kns #[iv r2.1, sv r2.2.1, iv r2.2.2.1, iv r2.2.2.2.1, .slice A4 r2.2.2.2.2.1.length k5] 24 1 fun b12 => (kx 1 (K.mv3 (kst 0 5 #[iv 23, sv noS, iv 0, iv r2.2.2.2.1, .slice (some ⟨b12, 0, none⟩) 1 1] (knt (k_ret ?_))))))))))
    refine k_then_ret (K.mv2 (K.mv2 (k_row (T := 24) (n := 1) (xs := [(Tree.mk r2.1 r2.2.1 r2.2.2.1 r2.2.2.2.1 r2.2.2.2.2.1)]) (RowI.one (treeO_mk (k := r2.1) (t := r2.2.1) (n := r2.2.2.1) (a := r2.2.2.2.1) 24 o6)) rfl rfl (Nat.le_of_ble_eq_true rfl) fun h13 o14 => ?_)))
    obtain rfl := Option.some.inj h
    exact kda 1 5 rfl [h13, bk b0 #[.slice A_a0_0 a0_0.length c_a0_0, iv r2.2.2.2.2.2] 46] (K.mv1 (K.drop (k_end (PR.okI ⟨h13, (some ⟨b12, 0, none⟩), 1, o14, rfl, rfl⟩))))
   ·skip
    refine ksr (kx 1 (kld 0 0 rfl (kx 1 (knt ?_))))
    refine kcn h (fun h => ?_) fun h => ?_
    ·refine k_region (kx 2 (K.mv2 (bnd h fun r16 hr16 h => (kc1 (parse_parser_now.ok (b0 := b0) hr16 R_a0_0) rfl ⟨(t3 hm_H_a0_0), trivial⟩ (kx 1 (kcp h (fun _ hr17 => (parse_parser_fail.ok (b0 := b0) hr17 R_a0_0)) rfl ⟨(t3 hm_H_a0_0), trivial⟩ (fun _ e => k_then_panic (k_then_panic (kpn 3 e rfl))) fun r17 h => ?_))))))
     rintro _ _ ⟨rfl, rfl⟩
     exact nx_ret1 (knt (K.mv3 (K.mv1 (K.mv3 (K.mv3 (k_meet () h sb rfl))))))
    ·exact k_skip (k_then (k_meet () h sb rfl))
  ·refine k_skip (k_then (ksr (kx 1 (kld 0 3 rfl (kx 1 (knp #[iv 0, sv noS, iv 0, iv 0, nS] 24 fun b19 => (kst 0 5 #[iv 22, sv noS, iv 0, iv r2.2.2.2.1, nS] (knt ?_))))))))
   obtain ⟨J26, hJ26, h⟩ := joinSplit h
   refine k_cut (τ := (List Tree) × Int × Frag × (Option Addr) × Nat) (fun t => [(0, pt b0), (2, pt b1), (4, pt b19)]) (fun t => bk b19 #[iv 22, sv noS, iv 0, iv r2.2.2.2.1, .slice t.2.2.2.1 t.1.length t.2.2.2.2] 24 :: bk b0 #[.slice A_a0_0 a0_0.length c_a0_0, iv t.2.1] 46 :: bk b1 #[iv 0, sv noS, iv 0, iv 0, nS] 24 :: t.2.2.1 :: X) (fun t => J26 t.1 t.2.1 = some r ∧ OwnR (rTree 24) 24 t.2.2.1 (.slice t.2.2.2.1 t.1.length t.2.2.2.2) t.1) ?_ ?_
   ·rintro ⟨l20, x25, h21, A22, k23⟩ ⟨h, o24⟩
    subst hJ26
    refine ksr (kx 1 (kld 0 4 rfl (kx 2 (kst 2 1 #[iv 22, sv noS, iv ((l20.length : Nat) : Int), iv r2.2.2.2.1, .slice A22 l20.length k23] (kns' (kx 1 (K.mv1 (kcp h (fun _ hr27 => (parse_parser_want.ok (b0 := b0) hr27 R_a0_0)) rfl ⟨(t3 hm_H_a0_0), trivial⟩ (fun _ e => k_then_panic (kpn 3 e rfl)) fun r27 h => ?_))))))))
    rintro _ _ ⟨rfl, rfl⟩
    refine nx_ret1 (knt (k_seq (kpr [(0, 0), (1, 3), (2, 0), (3, 1)] [1] (kpx 1 (kpd 0 4 rfl (kpx 1 (kpt (ocp h (fun _ hr29 => (parse_parser_exps.ok (b0 := b0) hr29 R_a0_0)) rfl ⟨(t3 hm_H_a0_0), trivial⟩ (fun _ e => k_then_panic (kpn 3 e rfl)) fun r29 h => ?_))))))))
    rintro _ _ ⟨h30, A31, k32, o33, rfl, rfl⟩
    refine nx_ret2 (kan [2] rfl (kpz (K.mv4 (bnd h fun l35 hl35 h => (kapR rfl ety22 rfl hl35 o24 o33 fun h36 A37 k38 o39 => (kx 1 (K.mv2 (kst 4 1 #[iv 22, sv noS, iv ((l20.length : Nat) : Int), iv r2.2.2.2.1, .slice A37 l35.length k38] (kns' (kla 0 0 5 rfl ?_))))))))))
    refine K.drop (K.mv2 (kst 0 5 #[iv 22, sv noS, iv ((l20.length : Nat) : Int), iv r2.2.2.2.1, .slice A37 l35.length k38] (knt (k_ret ?_))))
    obtain rfl := Option.some.inj h
    exact kda 0 5 rfl [h36, bk b0 #[.slice A_a0_0 a0_0.length c_a0_0, iv r29.2] 46] (K.drop (k_end (PR.okI ⟨h36, A37, k38, o39, rfl, rfl⟩)))
   ·skip
    refine ksr (kla 1 0 5 rfl (K.mv1 (K.drop (knp #[iv 0, sv noS, iv 0, iv 0, nS] 24 fun b40 => (kst 0 5 #[iv r2.1, sv r2.2.1, iv r2.2.2.1, iv r2.2.2.2.1, .slice A4 r2.2.2.2.2.1.length k5] (knt (k_block (k_none (K.mv3 (K.mvN [_, _, _, _, _] _ _ ?_))))))))))
    refine K.mvN [_, _, _, _, _] _ _ (K.mvN [_, _, _, _, _] _ _ (K.mvN [_, _, _, _, _] _ _ (k_loop (τ := Int × ByteArray × Int × Int × (List Tree) × (List Tree) × Int × Nat × Frag × (Option Addr) × Nat × Frag × (Option Addr) × Nat) (fun t => [(0, pt b0), (2, pt b1), (4, pt b19), (5, pt t.2.2.2.2.2.2.2.1)]) (fun t => bk t.2.2.2.2.2.2.2.1 #[iv t.1, sv t.2.1, iv t.2.2.1, iv t.2.2.2.1, .slice t.2.2.2.2.2.2.2.2.2.1 t.2.2.2.2.1.length t.2.2.2.2.2.2.2.2.2.2.1] 24 :: bk b19 #[iv 22, sv noS, iv 0, iv r2.2.2.2.1, .slice t.2.2.2.2.2.2.2.2.2.2.2.2.1 t.2.2.2.2.2.1.length t.2.2.2.2.2.2.2.2.2.2.2.2.2] 24 :: bk b0 #[.slice A_a0_0 a0_0.length c_a0_0, iv t.2.2.2.2.2.2.1] 46 :: bk b1 #[iv 0, sv noS, iv 0, iv 0, nS] 24 :: t.2.2.2.2.2.2.2.2.1 :: t.2.2.2.2.2.2.2.2.2.2.2.1 :: X) (fun m t => parse_parser_plain.l0 m a0_0 J26 t.1 t.2.1 t.2.2.1 t.2.2.2.1 t.2.2.2.2.1 t.2.2.2.2.2.1 t.2.2.2.2.2.2.1 = some r ∧ OwnR (rTree 24) 24 t.2.2.2.2.2.2.2.2.1 (.slice t.2.2.2.2.2.2.2.2.2.1 t.2.2.2.2.1.length t.2.2.2.2.2.2.2.2.2.2.1) t.2.2.2.2.1 ∧ OwnR (rTree 24) 24 t.2.2.2.2.2.2.2.2.2.2.2.1 (.slice t.2.2.2.2.2.2.2.2.2.2.2.2.1 t.2.2.2.2.2.1.length t.2.2.2.2.2.2.2.2.2.2.2.2.2) t.2.2.2.2.2.1) k (r2.1, r2.2.1, r2.2.2.1, r2.2.2.2.1, r2.2.2.2.2.1, [], r2.2.2.2.2.2, b40, h3, A4, k5, none_, none, 0) ⟨h, o6, (OwnR.nil (rTree 24) 24 none_)⟩ sb rfl ?_)))
    clear h
    rintro m57 ⟨x42, x43, x44, x45, l46, l51, x56, b41, h47, A48, k49, h52, A53, k54⟩ ⟨h, o50, o55⟩
    cases m57 with
    | zero => simp [parse_parser_plain.l0] at h
    | succ m57 =>
     simp only [parse_parser_plain.l0] at h
     refine k_seq (k_block ?_)
     obtain ⟨J58, hJ58, h⟩ := joinSplit h
     refine k_cut (τ := Unit) (fun t => [(0, pt b0), (2, pt b1), (4, pt b19), (5, pt b41)]) (fun t => bk b41 #[iv x42, sv x43, iv x44, iv x45, .slice A48 l46.length k49] 24 :: bk b19 #[iv 22, sv noS, iv 0, iv r2.2.2.2.1, .slice A53 l51.length k54] 24 :: bk b0 #[.slice A_a0_0 a0_0.length c_a0_0, iv x56] 46 :: bk b1 #[iv 0, sv noS, iv 0, iv 0, nS] 24 :: h47 :: h52 :: X) (fun t => J58 () = some r) ?_ ?_
     ·rintro ⟨⟩ h
      subst hJ58
      refine ksr (kx 1 (kld 1 4 rfl (kla 0 0 5 rfl (kns #[iv x42, sv x43, iv x44, iv x45, .slice A48 l46.length k49] 24 1 fun b59 => (K.mvN [_, _, _, _, _] _ _ (K.mv1 (k_row (T := 24) (n := 1) (xs := [(Tree.mk x42 x43 x44 x45 l46)]) (RowI.one (treeO_mk (k := x42) (t := x43) (n := x44) (a := x45) 24 o50)) rfl rfl (Nat.le_of_ble_eq_true rfl) fun h60 o61 => (K.mvN [_, _, _, _, _] _ _ (bnd h fun l62 hl62 h => (kapR rfl ety22 rfl hl62 o55 o61 fun h63 A64 k65 o66 => ?_))))))))))
      refine kx 1 (K.mv2 (kst 4 1 #[iv 22, sv noS, iv 0, iv r2.2.2.2.1, .slice A64 l62.length k65] (kns' (kx 1 (K.mv3 (bnd h fun r67 hr67 h => (kc1 (parse_parser_got.ok (b0 := b0) hr67 R_a0_0) rfl ⟨(t4 hm_H_a0_0), trivial⟩ (kx 1 (knt ?_)))))))))
      refine kcn h (fun h => ?_) fun h => ?_
      ·refine k_exit (k_there rfl (k_then_exit (k_then_exit (k_here (k_then (K.mv3 (K.drop (K.mv2 (K.mv3 (K.mv2 ?_))))))))))
       exact K.mv3 (k_meet (l62, r67.2, h63, A64, k65) ⟨h, o66⟩ sb rfl)
      ·refine k_skip (k_blk (k_then (k_seq (ksr (kla 3 0 5 rfl (K.mv3 (K.drop (knr (knp #[iv 0, sv noS, iv 0, iv 0, nS] 24 fun b69 => (kst 0 5 #[iv x42, sv x43, iv x44, iv x45, .slice A48 l46.length k49] ?_))))))))))
       refine knr (kx 1 (K.mv1 (kcp h (fun _ hr70 => (parse_parser_suffixed.ok (b0 := b0) hr70 R_a0_0)) rfl ⟨(t4 hm_H_a0_0), trivial⟩ (fun _ e => k_then_panic (k_blk_panic (k_then_panic (kpn 4 e rfl)))) fun r70 h => ?_)))
       rintro _ _ ⟨h71, A72, k73, o74, rfl, rfl⟩
       exact nx_ret2 (K.mv2 (kst 0 5 #[iv r70.1, sv r70.2.1, iv r70.2.2.1, iv r70.2.2.2.1, .slice A72 r70.2.2.2.2.1.length k73] (knt (K.mv4 (K.mv2 (K.mvN [_, _, _, _, _] _ _ (K.mv4 (K.mvN [_, _, _, _, _] _ _ (K.mvN [_, _, _, _, _] _ _ (k_again m57 (r70.1, r70.2.1, r70.2.2.1, r70.2.2.2.1, r70.2.2.2.2.1, l62, r70.2.2.2.2.2, b69, h71, A72, k73, h63, A64, k65) (Nat.lt_succ_self _) ⟨h, o74, o66⟩ sb rfl))))))))))
     ·skip
      refine ksr (kla 0 0 5 rfl (bnd h fun r76 hr76 h => (kcv (parse_target.ok hr76 (OwnR.rd o50)) ⟨(.tail _ (.tail _ (.tail _ (.tail _ (.head _))))), trivial⟩ (kx 1 (knt ?_)))))
      refine kcn h (fun h => ?_) fun h => ?_
      ·refine k_region (kx 2 (kld 0 3 rfl (K.mv2 (kcp h (fun _ hr78 => (parse_parser_fail.ok (b0 := b0) hr78 R_a0_0)) rfl ⟨(t5 hm_H_a0_0), trivial⟩ (fun _ e => k_then_panic (k_blk_panic (k_then_panic (k_then_panic (k_blk_panic (k_then_panic (kpn 5 e rfl))))))) fun r78 h => ?_))))
       rintro _ _ ⟨rfl, rfl⟩
       exact nx_ret1 (knt (K.mvN [_, _, _, _, _] _ _ (K.mvN [_, _, _, _, _] _ _ (K.mvN [_, _, _, _, _] _ _ (K.mv3 (K.mvN [_, _, _, _, _] _ _ (K.mvN [_, _, _, _, _] _ _ (k_meet () h sb rfl))))))))
      ·exact k_skip (k_then (k_meet () h sb rfl))
 ·have h := hq9
  clear hq9
  refine k_region (kx 1 (K.mv2 (bnd h fun r80 hr80 h => (kc1 (parse_parser_is.ok (b0 := b0) hr80 R_a0_0) rfl ⟨(t3 hm_H_a0_0), trivial⟩ (kx 2 ?_)))))
  refine kcs 11 h (fun h => ?_) fun h => ?_
  ·exact kx 1 (bnd h fun r82 hr82 h => (kc1 (parse_parser_is.ok (b0 := b0) hr82 R_a0_0) rfl ⟨(t3 hm_H_a0_0), trivial⟩ (kx 2 (knt (K.mv3 (K.mv1 (K.mv3 (K.mv3 (k_meet1 ⟨gr, gr, gr, gb (Option.some.inj h), trivial⟩)))))))))
  ·exact kx 4 (knt (K.mv3 (K.mv1 (K.mv3 (K.mv3 (k_meet1 ⟨gr, gr, gr, gb (Option.some.inj h), trivial⟩))))))
def PS.at : Nat → PS
 | 0 => ⟨fun _ _ _ => none, fun _ _ => none, fun _ _ => none, fun _ _ => none, fun _ _ _ => none, fun _ _ => none⟩
 | k + 1 => ⟨fun a0_0 a0_1 a1 => parse_parser_block.g (PS.at k) k a0_0 a0_1 a1, fun a0_0 a0_1 => parse_parser_function.g (PS.at k) k a0_0 a0_1, fun a0_0 a0_1 => parse_parser_stat.g (PS.at k) k a0_0 a0_1, fun a0_0 a0_1 => parse_parser_branches.g (PS.at k) k a0_0 a0_1, fun a0_0 a0_1 a1 => parse_parser_loop.g (PS.at k) k a0_0 a0_1 a1, fun a0_0 a0_1 => parse_parser_plain.g (PS.at k) k a0_0 a0_1⟩
theorem PS.good : ∀ k, (PS.at k).Good
 | 0 => ⟨fun h _ => (by cases (show (none : Option _) = some _ from h)), fun h _ => (by cases (show (none : Option _) = some _ from h)), fun h _ => (by cases (show (none : Option _) = some _ from h)), fun h _ => (by cases (show (none : Option _) = some _ from h)), fun h _ => (by cases (show (none : Option _) = some _ from h)), fun h _ => (by cases (show (none : Option _) = some _ from h))⟩
 | k + 1 => ⟨fun h R_a0_0 => parse_parser_block.okg (PS.good k) h R_a0_0, fun h R_a0_0 => parse_parser_function.okg (PS.good k) h R_a0_0, fun h R_a0_0 => parse_parser_stat.okg (PS.good k) h R_a0_0, fun h R_a0_0 => parse_parser_branches.okg (PS.good k) h R_a0_0, fun h R_a0_0 => parse_parser_loop.okg (PS.good k) h R_a0_0, fun h R_a0_0 => parse_parser_plain.okg (PS.good k) h R_a0_0⟩
def parse_parser_block.f (k : Nat) (a0_0 : List (Int × ByteArray × Int × Int)) (a0_1 : Int) (a1 : Bool) : Option (PR (Int × ByteArray × Int × Int × List Tree × Int)) := parse_parser_block.g (PS.at k) k a0_0 a0_1 a1
theorem parse_parser_block.ok {k : Nat} {a0_0 : List (Int × ByteArray × Int × Int)} {a0_1 : Int} {a1 : Bool} {b0 : Nat} {H_a0_0 : Frag} {A_a0_0 : Option Addr} {c_a0_0 : Nat} {r : PR (Int × ByteArray × Int × Int × List Tree × Int)} (h : parse_parser_block.f k a0_0 a0_1 a1 = some r) (R_a0_0 : RdT e49 4 H_a0_0 (.slice A_a0_0 a0_0.length c_a0_0) a0_0) : Ct Tryz.prog 11 #[pt b0, bv a1] [bk b0 #[.slice A_a0_0 a0_0.length c_a0_0, iv a0_1] 46] [H_a0_0] (PR.Post failV (fun (r : Int × ByteArray × Int × Int × List Tree × Int) e l1 => ∃ (H0_ : Frag) (A0_ : Option Addr) (c0_ : Nat), OwnR (rTree 24) 24 H0_ (.slice A0_ r.2.2.2.2.1.length c0_) r.2.2.2.2.1 ∧ e = .returned (.agg #[iv r.1, sv r.2.1, iv r.2.2.1, iv r.2.2.2.1, .slice A0_ r.2.2.2.2.1.length c0_]) ∧ l1 = [H0_, bk b0 #[.slice A_a0_0 a0_0.length c_a0_0, iv r.2.2.2.2.2] 46]) r) := parse_parser_block.okg (PS.good k) h R_a0_0
end Go.Proofs.YtidiahkobapnjaaGreatDoor
namespace Go.Proofs.YtidiahkobapnjaaGreatDoor
open Go Go.RowKit
def parse_Parse.f (k : Nat) (a0 : ByteArray) : Option (Int × ByteArray × Int × Int × List Tree × Int × Int) := (lex_Scan.f k a0).bind fun r3 => cond (r3.2.1 != 0) (some (0, (⟨#[]⟩ : ByteArray), 0, 0, [], r3.2.1, r3.2.2)) (PR.elim (parse_parser_block.f k r3.1 0 true) (fun i15 => some (0, (⟨#[]⟩ : ByteArray), 0, 0, [], 4, i15)) fun r10 => joinF (fun (_ : Unit) => some (r10.1, r10.2.1, r10.2.2.1, r10.2.2.2.1, r10.2.2.2.2.1, 0, 0)) (fun J16 => (parse_parser_now.f k r3.1 r10.2.2.2.2.2).bind fun r17 => cond (r17.1 != 6) ((parse_parser_now.f k r3.1 r10.2.2.2.2.2).bind fun r19 => PR.elim (parse_parser_fail.f k r3.1 r10.2.2.2.2.2 r19.2.2.2) (fun i21 => some (0, (⟨#[]⟩ : ByteArray), 0, 0, [], 4, i21)) fun r20 => J16 ()) (J16 ())))
set_option maxRecDepth 100000 in
theorem parse_Parse.ok {k : Nat} {a0 : ByteArray} {G : Frag} {r : Int × ByteArray × Int × Int × List Tree × Int × Int} (h : parse_Parse.f k a0 = some r) (hG : GlP G) : Ct Tryz.prog 4 #[sv a0] [] [G] (fun e l1 => ∃ (H0_ : Frag) (A0_ : Option Addr) (c0_ : Nat), OwnR (rTree 24) 24 H0_ (.slice A0_ r.2.2.2.2.1.length c0_) r.2.2.2.2.1 ∧ e = .returned (.tuple #[.agg #[iv r.1, sv r.2.1, iv r.2.2.1, iv r.2.2.2.1, .slice A0_ r.2.2.2.2.1.length c0_], .agg #[iv r.2.2.2.2.2.1, iv r.2.2.2.2.2.2]]) ∧ l1 = [H0_]) := by
 refine ct_enterD (args := [sv a0]) Tryz.func4 rfl (Nat.le_of_ble_eq_true rfl) ?_
 intro A X hh_
 obtain ⟨hm_G, _⟩ := hh_
 unfold parse_Parse.f at h
 refine ksr (knp #[iv 0, sv noS, iv 0, iv 0, nS] 24 fun b1 => (knp #[iv 0, iv 0] 27 fun b2 => (kns' (kx 1 (bnd h fun r3 hr3 h => (kcl (lex_Scan.ok hr3 hG) rfl ⟨(t2 hm_G), trivial⟩ ?_))))))
 rintro _ _ ⟨h4, A5, k6, o7, rfl, rfl⟩
 refine nx_ret1 (kx 4 (K.mv1 (kst 0 2 #[iv r3.2.1, iv r3.2.2] (knt (k_seq (ksr (kx 1 (kld 0 0 rfl (kx 1 (knt ?_))))))))))
 refine kcn h (fun h => ?_) fun h => ?_
 ·refine k_seq (k_nopan (kpr [(0, 0), (1, 3), (2, 1)] [0] (kpx 1 (kpa 0 0 2 rfl (kpt (K.mv2 (ost 0 5 #[iv 0, sv noS, iv 0, iv 0, nS] (kan [1] rfl (kpz (K.mv1 ?_))))))))))
  refine kst 0 2 #[iv r3.2.1, iv r3.2.2] (K.mv2 (K.drop (knl (k_np (k_then (k_ret (k_then_ret ?_)))))))
  obtain rfl := Option.some.inj h
  exact k_doneD0 (v := .tuple #[.agg #[iv 0, sv noS, iv 0, iv 0, nS], .agg #[iv r3.2.1, iv r3.2.2]]) [.val (iv 0), .val (sv noS), .val (iv 0), .val (iv 0), .val (nS), .val (iv r3.2.1), .val (iv r3.2.2)] [.ld ⟨b1, 0, none⟩ (iv 0), .ld ⟨b1, 1, none⟩ (sv noS), .ld ⟨b1, 2, none⟩ (iv 0), .ld ⟨b1, 3, none⟩ (iv 0), .ld ⟨b1, 4, none⟩ (nS), .ld ⟨b2, 0, none⟩ (iv r3.2.1), .ld ⟨b2, 1, none⟩ (iv r3.2.2)] [none_] (by kernel_rfl) (by kernel_rfl) ⟨⟨1, _, _, _, rfl, rfl, rfl⟩, ⟨1, _, _, _, rfl, rfl, rfl⟩, ⟨1, _, _, _, rfl, rfl, rfl⟩, ⟨1, _, _, _, rfl, rfl, rfl⟩, ⟨1, _, _, _, rfl, rfl, rfl⟩, ⟨0, _, _, _, rfl, rfl, rfl⟩, ⟨0, _, _, _, rfl, rfl, rfl⟩, trivial⟩ (k_none (K.mv1 (K.drop (K.mv1 (K.drop (k_end ⟨none_, none, 0, (OwnR.nil (rTree 24) 24 none_), rfl, rfl⟩))))))
 ·refine k_skip (k_then (ksr (kx 1 (kl_defer { target := .fn (.func 10) #[pt b1, pt b2], args := #[] } (by kernel_rfl) (by kernel_rfl) (by kernel_rfl) (kns' (kx 2 (knp #[.slice A5 r3.1.length k6, iv 0] 46 fun b9 => (kx 1 (kns' (kx 1 ?_))))))))))
  rcases prElim h with ⟨i15, hr10, h⟩ | ⟨r10, hr10, h⟩
  ·refine kcl (parse_parser_block.ok (b0 := b9) hr10 (OwnT.rd o7)) rfl ⟨(.tail _ (.head _)), trivial⟩ ?_
   rintro _ _ ⟨rfl, rfl⟩
   refine nx_pan (k_then_panic (K.mv1 (K.drop (K.mv1 ?_))))
   obtain rfl := Option.some.inj h
   exact k_panD (v := .tuple #[.agg #[iv 0, sv noS, iv 0, iv 0, nS], .agg #[iv 4, iv i15]]) (bk b1 #[iv 0, sv noS, iv 0, iv 0, nS] 24 :: bk b2 #[iv 4, iv i15] 27 :: X) (fun _ => by kernel_rfl) (fun w_ hw_ => parse_Parse_1_pan hw_) [.val (iv 0), .val (sv noS), .val (iv 0), .val (iv 0), .val (nS), .val (iv 4), .val (iv i15)] [.ld ⟨b1, 0, none⟩ (iv 0), .ld ⟨b1, 1, none⟩ (sv noS), .ld ⟨b1, 2, none⟩ (iv 0), .ld ⟨b1, 3, none⟩ (iv 0), .ld ⟨b1, 4, none⟩ (nS), .ld ⟨b2, 0, none⟩ (iv 4), .ld ⟨b2, 1, none⟩ (iv i15)] [none_] (by kernel_rfl) (by kernel_rfl) ⟨⟨0, _, _, _, rfl, rfl, rfl⟩, ⟨0, _, _, _, rfl, rfl, rfl⟩, ⟨0, _, _, _, rfl, rfl, rfl⟩, ⟨0, _, _, _, rfl, rfl, rfl⟩, ⟨0, _, _, _, rfl, rfl, rfl⟩, ⟨1, _, _, _, rfl, rfl, rfl⟩, ⟨1, _, _, _, rfl, rfl, rfl⟩, trivial⟩ fun w_ hw_ => (⟨⟨none_, none, 0, (OwnR.nil (rTree 24) 24 none_), rfl, rfl⟩, St.nones 1 hw_.tail.tail⟩)
  refine kcl (parse_parser_block.ok (b0 := b9) hr10 (OwnT.rd o7)) rfl ⟨(.tail _ (.head _)), trivial⟩ ?_
  rintro _ _ ⟨h11, A12, k13, o14, rfl, rfl⟩
  refine nx_ret2 (K.mv4 (kst 0 5 #[iv r10.1, sv r10.2.1, iv r10.2.2.1, iv r10.2.2.2.1, .slice A12 r10.2.2.2.2.1.length k13] (knt ?_)))
  obtain ⟨J16, hJ16, h⟩ := joinSplit h
  refine k_cut (τ := Unit) (fun t => [(2, pt b1), (3, pt b2)]) (fun t => bk b1 #[iv r10.1, sv r10.2.1, iv r10.2.2.1, iv r10.2.2.2.1, .slice A12 r10.2.2.2.2.1.length k13] 24 :: h11 :: bk b2 #[iv r3.2.1, iv r3.2.2] 27 :: X) (fun t => J16 () = some r) ?_ ?_
  ·rintro ⟨⟩ h
   subst hJ16
   refine ksr (kla 0 0 5 rfl (kx 1 (kst 0 5 #[iv r10.1, sv r10.2.1, iv r10.2.2.1, iv r10.2.2.2.1, .slice A12 r10.2.2.2.2.1.length k13] (K.mv2 (kst 0 2 #[iv 0, iv 0] (knt (k_ret ?_)))))))
   obtain rfl := Option.some.inj h
   exact k_doneD (fun _ => by kernel_rfl) (parse_Parse_1_idle (pt b1) (pt b2)) (v := .tuple #[.agg #[iv r10.1, sv r10.2.1, iv r10.2.2.1, iv r10.2.2.2.1, .slice A12 r10.2.2.2.2.1.length k13], .agg #[iv 0, iv 0]]) [.val (iv r10.1), .val (sv r10.2.1), .val (iv r10.2.2.1), .val (iv r10.2.2.2.1), .val (.slice A12 r10.2.2.2.2.1.length k13), .val (iv 0), .val (iv 0)] [.ld ⟨b1, 0, none⟩ (iv r10.1), .ld ⟨b1, 1, none⟩ (sv r10.2.1), .ld ⟨b1, 2, none⟩ (iv r10.2.2.1), .ld ⟨b1, 3, none⟩ (iv r10.2.2.2.1), .ld ⟨b1, 4, none⟩ (.slice A12 r10.2.2.2.2.1.length k13), .ld ⟨b2, 0, none⟩ (iv 0), .ld ⟨b2, 1, none⟩ (iv 0)] [h11] (by kernel_rfl) (by kernel_rfl) ⟨⟨1, _, _, _, rfl, rfl, rfl⟩, ⟨1, _, _, _, rfl, rfl, rfl⟩, ⟨1, _, _, _, rfl, rfl, rfl⟩, ⟨1, _, _, _, rfl, rfl, rfl⟩, ⟨1, _, _, _, rfl, rfl, rfl⟩, ⟨0, _, _, _, rfl, rfl, rfl⟩, ⟨0, _, _, _, rfl, rfl, rfl⟩, trivial⟩ (K.drop (K.drop (k_endD ⟨h11, A12, k13, o14, rfl, rfl⟩)))
  ·skip
   refine ksr (kx 1 (K.mv2 (bnd h fun r17 hr17 h => (kc1 (parse_parser_now.ok (b0 := b9) hr17 (OwnT.rd o7)) rfl ⟨(.tail _ (.tail _ (.tail _ (.head _)))), trivial⟩ (kx 2 (knt ?_))))))
   refine kcn h (fun h => ?_) fun h => ?_
   ·refine k_region (kx 2 (bnd h fun r19 hr19 h => (kc1 (parse_parser_now.ok (b0 := b9) hr19 (OwnT.rd o7)) rfl ⟨(.tail _ (.tail _ (.tail _ (.head _)))), trivial⟩ (kx 1 ?_))))
    rcases prElim h with ⟨i21, hr20, h⟩ | ⟨r20, hr20, h⟩
    ·refine kcl (parse_parser_fail.ok (b0 := b9) hr20 (OwnT.rd o7)) rfl ⟨(.tail _ (.tail _ (.tail _ (.head _)))), trivial⟩ ?_
     rintro _ _ ⟨rfl, rfl⟩
     refine nx_pan (k_then_panic (K.mv1 (K.drop (K.mv2 (K.drop ?_)))))
     obtain rfl := Option.some.inj h
     exact k_panD (v := .tuple #[.agg #[iv 0, sv noS, iv 0, iv 0, nS], .agg #[iv 4, iv i21]]) (bk b1 #[iv 0, sv noS, iv 0, iv 0, nS] 24 :: bk b2 #[iv 4, iv i21] 27 :: X) (fun _ => by kernel_rfl) (fun w_ hw_ => parse_Parse_1_pan hw_) [.val (iv 0), .val (sv noS), .val (iv 0), .val (iv 0), .val (nS), .val (iv 4), .val (iv i21)] [.ld ⟨b1, 0, none⟩ (iv 0), .ld ⟨b1, 1, none⟩ (sv noS), .ld ⟨b1, 2, none⟩ (iv 0), .ld ⟨b1, 3, none⟩ (iv 0), .ld ⟨b1, 4, none⟩ (nS), .ld ⟨b2, 0, none⟩ (iv 4), .ld ⟨b2, 1, none⟩ (iv i21)] [none_] (by kernel_rfl) (by kernel_rfl) ⟨⟨0, _, _, _, rfl, rfl, rfl⟩, ⟨0, _, _, _, rfl, rfl, rfl⟩, ⟨0, _, _, _, rfl, rfl, rfl⟩, ⟨0, _, _, _, rfl, rfl, rfl⟩, ⟨0, _, _, _, rfl, rfl, rfl⟩, ⟨1, _, _, _, rfl, rfl, rfl⟩, ⟨1, _, _, _, rfl, rfl, rfl⟩, trivial⟩ fun w_ hw_ => (⟨⟨none_, none, 0, (OwnR.nil (rTree 24) 24 none_), rfl, rfl⟩, St.nones 1 hw_.tail.tail⟩)
    exact kc1 (parse_parser_fail.ok (b0 := b9) hr20 (OwnT.rd o7)) rfl ⟨(.tail _ (.tail _ (.tail _ (.head _)))), trivial⟩ (K.drop (K.mv3 (K.drop (knt (k_meet () h sb rfl)))))
   ·exact k_skip (k_then (K.drop (K.mv3 (K.drop (k_meet () h sb rfl)))))
end Go.Proofs.YtidiahkobapnjaaGreatDoor
namespace Go.Proofs.YtidiahkobapnjaaGreatDoor
open Go Go.RowKit
abbrev Tk := Int × ByteArray × Int × Int
inductive PV (α : Type) where
 | ok (a : α) (r : List Tk)
 | bad (at_ : Int)
def PV.bind {α β : Type} (x : Option (PV α)) (f : α → List Tk → Option (PV β)) : Option (PV β) :=
 match x with
 | none => none
 | some (.ok a r) => f a r
 | some (.bad i) => some (.bad i)
def hd (ts : List Tk) : Tk := ts.headD (6, ⟨#[]⟩, 0, 0)
def isT (w : ByteArray) (t : Tk) : Bool := (t.1 == 2 || t.1 == 5) && t.2.1.toList == w.toList
def isH (w : ByteArray) (ts : List Tk) : Bool := isT w (hd ts)
def pWant (w : ByteArray) (ts : List Tk) : Option (PV Unit) := if isH w ts then some (.ok () ts.tail) else some (.bad (hd ts).2.2.2)
abbrev kSemi : ByteArray := ⟨#[59]⟩
abbrev kComma : ByteArray := ⟨#[44]⟩
abbrev kEq : ByteArray := ⟨#[61]⟩
abbrev kLp : ByteArray := ⟨#[40]⟩
abbrev kRp : ByteArray := ⟨#[41]⟩
abbrev kLb : ByteArray := ⟨#[91]⟩
abbrev kRb : ByteArray := ⟨#[93]⟩
abbrev kLc : ByteArray := ⟨#[123]⟩
abbrev kRc : ByteArray := ⟨#[125]⟩
abbrev kDot : ByteArray := ⟨#[46]⟩
abbrev kHash : ByteArray := ⟨#[35]⟩
abbrev kMinus : ByteArray := ⟨#[45]⟩
abbrev kReturn : ByteArray := ⟨#[114, 101, 116, 117, 114, 110]⟩
abbrev kFunction : ByteArray := ⟨#[102, 117, 110, 99, 116, 105, 111, 110]⟩
abbrev kEnd : ByteArray := ⟨#[101, 110, 100]⟩
abbrev kElse : ByteArray := ⟨#[101, 108, 115, 101]⟩
abbrev kElseif : ByteArray := ⟨#[101, 108, 115, 101, 105, 102]⟩
abbrev kDo : ByteArray := ⟨#[100, 111]⟩
abbrev kWhile : ByteArray := ⟨#[119, 104, 105, 108, 101]⟩
abbrev kIf : ByteArray := ⟨#[105, 102]⟩
abbrev kThen : ByteArray := ⟨#[116, 104, 101, 110]⟩
abbrev kFor : ByteArray := ⟨#[102, 111, 114]⟩
abbrev kIn : ByteArray := ⟨#[105, 110]⟩
abbrev kLocal : ByteArray := ⟨#[108, 111, 99, 97, 108]⟩
abbrev kBreak : ByteArray := ⟨#[98, 114, 101, 97, 107]⟩
abbrev kNil : ByteArray := ⟨#[110, 105, 108]⟩
abbrev kTrue : ByteArray := ⟨#[116, 114, 117, 101]⟩
abbrev kFalse : ByteArray := ⟨#[102, 97, 108, 115, 101]⟩
abbrev kNot : ByteArray := ⟨#[110, 111, 116]⟩
abbrev kOr : ByteArray := ⟨#[111, 114]⟩
abbrev kAnd : ByteArray := ⟨#[97, 110, 100]⟩
abbrev kLt : ByteArray := ⟨#[60]⟩
abbrev kGt : ByteArray := ⟨#[62]⟩
abbrev kLe : ByteArray := ⟨#[60, 61]⟩
abbrev kGe : ByteArray := ⟨#[62, 61]⟩
abbrev kNe : ByteArray := ⟨#[126, 61]⟩
abbrev kEqq : ByteArray := ⟨#[61, 61]⟩
abbrev kCat : ByteArray := ⟨#[46, 46]⟩
abbrev kPlus : ByteArray := ⟨#[43]⟩
abbrev kStar : ByteArray := ⟨#[42]⟩
abbrev kSlash : ByteArray := ⟨#[47, 47]⟩
abbrev kPct : ByteArray := ⟨#[37]⟩
abbrev noB : ByteArray := ⟨#[]⟩
def pName (kind : Int) (ts : List Tk) : Option (PV Tree) :=
 if (hd ts).1 = 1 then some (.ok (.mk kind (hd ts).2.1 0 (hd ts).2.2.2 []) ts.tail) else some (.bad (hd ts).2.2.2)
def pNamesL : Nat → List Tree → List Tk → Option (PV (List Tree))
 | 0, _, _ => none
 | f + 1, acc, ts => if isH kComma ts then PV.bind (pName 6 ts.tail) fun n r => pNamesL f (acc ++ [n]) r else some (.ok acc ts)
def pNames (f : Nat) (ts : List Tk) : Option (PV (List Tree)) := PV.bind (pName 6 ts) fun n r => pNamesL f [n] r
def bindsH (ts : List Tk) : Int :=
 if isH kOr ts then 1 else if isH kAnd ts then 2
 else if isH kLt ts || isH kGt ts || isH kLe ts || isH kGe ts || isH kNe ts || isH kEqq ts then 3
 else if isH kCat ts then 4 else if isH kPlus ts || isH kMinus ts then 5 else if isH kStar ts || isH kSlash ts || isH kPct ts then 6 else 0
def endsH (ts : List Tk) : Bool := (hd ts).1 == 6 || isH kEnd ts || isH kElse ts || isH kElseif ts
mutual
def pExp : Nat → Int → List Tk → Option (PV Tree)
 | 0, _, _ => none
 | f + 1, least, ts => PV.bind (pOperand f ts) fun n r => pLoop f least n r
def pLoop : Nat → Int → Tree → List Tk → Option (PV Tree)
 | 0, _, _, _ => none
 | f + 1, least, n, ts =>
  if bindsH ts ≤ least then some (.ok n ts)
  else PV.bind (pExp f (if bindsH ts = 4 then 3 else bindsH ts) ts.tail) fun m r => pLoop f least (.mk 11 (hd ts).2.1 0 n.at_ [n, m]) r
def pOperand : Nat → List Tk → Option (PV Tree)
 | 0, _ => none
 | f + 1, ts =>
  if (hd ts).1 = 3 then some (.ok (.mk 4 noB (hd ts).2.2.1 (hd ts).2.2.2 []) ts.tail)
  else if (hd ts).1 = 4 then some (.ok (.mk 5 (hd ts).2.1 0 (hd ts).2.2.2 []) ts.tail)
  else if isH kNil ts then some (.ok (.mk 1 noB 0 (hd ts).2.2.2 []) ts.tail)
  else if isH kTrue ts then some (.ok (.mk 2 noB 0 (hd ts).2.2.2 []) ts.tail)
  else if isH kFalse ts then some (.ok (.mk 3 noB 0 (hd ts).2.2.2 []) ts.tail)
  else if isH kNot ts || isH kHash ts || isH kMinus ts then PV.bind (pExp f 7 ts.tail) fun m r => some (.ok (.mk 10 (hd ts).2.1 0 (hd ts).2.2.2 [m]) r)
  else if isH kLc ts then PV.bind (pFields f [] ts.tail) fun l r => some (.ok (.mk 12 noB 0 (hd ts).2.2.2 l) r)
  else pSuffixed f ts
def pFields : Nat → List Tree → List Tk → Option (PV (List Tree))
 | 0, _, _ => none
 | f + 1, acc, ts =>
  if isH kRc ts then some (.ok acc ts.tail)
  else PV.bind (pField f ts) fun x r =>
   if isH kComma r then pFields f (acc ++ [x]) r.tail
   else if isH kSemi r then pFields f (acc ++ [x]) r.tail
   else PV.bind (pWant kRc r) fun _ r => some (.ok (acc ++ [x]) r)
def pField : Nat → List Tk → Option (PV Tree)
 | 0, _ => none
 | f + 1, ts =>
  if isH kLb ts then
   PV.bind (pExp f 0 ts.tail) fun k r => PV.bind (pWant kRb r) fun _ r => PV.bind (pWant kEq r) fun _ r => PV.bind (pExp f 0 r) fun v r => some (.ok (.mk 14 noB 0 (hd ts).2.2.2 [k, v]) r)
  else if (hd ts).1 = 1 ∧ (hd ts.tail).1 = 5 ∧ (hd ts.tail).2.1.toList = kEq.toList then
   PV.bind (pExp f 0 ts.tail.tail) fun v r => some (.ok (.mk 14 noB 0 (hd ts).2.2.2 [.mk 5 (hd ts).2.1 0 (hd ts).2.2.2 [], v]) r)
  else PV.bind (pExp f 0 ts) fun v r => some (.ok (.mk 13 noB 0 (hd ts).2.2.2 [v]) r)
def pSuffixed : Nat → List Tk → Option (PV Tree)
 | 0, _ => none
 | f + 1, ts =>
  if isH kLp ts then PV.bind (pExp f 0 ts.tail) fun e r => PV.bind (pWant kRp r) fun _ r => pSufL f (hd ts).2.2.2 (.mk 9 noB 0 (hd ts).2.2.2 [e]) r
  else PV.bind (pName 6 ts) fun n r => pSufL f (hd ts).2.2.2 n r
def pSufL : Nat → Int → Tree → List Tk → Option (PV Tree)
 | 0, _, _, _ => none
 | f + 1, at_, n, ts =>
  if isH kLb ts then PV.bind (pExp f 0 ts.tail) fun e r => PV.bind (pWant kRb r) fun _ r => pSufL f at_ (.mk 7 noB 0 at_ [n, e]) r
  else if isH kDot ts then PV.bind (pName 5 ts.tail) fun e r => pSufL f at_ (.mk 7 noB 0 at_ [n, e]) r
  else if isH kLp ts then
   PV.bind (if isH kRp ts.tail then some (.ok [] ts.tail) else pExps f ts.tail) fun l r => PV.bind (pWant kRp r) fun _ r => pSufL f at_ (.mk 8 noB 0 at_ (n :: l)) r
  else some (.ok n ts)
def pExps : Nat → List Tk → Option (PV (List Tree))
 | 0, _ => none
 | f + 1, ts => PV.bind (pExp f 0 ts) fun e r => pExpsL f [e] r
def pExpsL : Nat → List Tree → List Tk → Option (PV (List Tree))
 | 0, _, _ => none
 | f + 1, acc, ts => if isH kComma ts then PV.bind (pExp f 0 ts.tail) fun e r => pExpsL f (acc ++ [e]) r else some (.ok acc ts)
end
mutual
def pBlock : Nat → Bool → List Tk → Option (PV Tree)
 | 0, _, _ => none
 | f + 1, chunk, ts => pBlockL f chunk (hd ts).2.2.2 [] ts
def pBlockL : Nat → Bool → Int → List Tree → List Tk → Option (PV Tree)
 | 0, _, _, _, _ => none
 | f + 1, chunk, at_, acc, ts =>
  if isH kSemi ts then pBlockL f chunk at_ acc ts.tail
  else if isH kReturn ts then
   PV.bind (if endsH ts.tail || isH kSemi ts.tail then some (.ok [] ts.tail) else pExps f ts.tail) fun l r =>
    some (.ok (.mk 20 noB 0 at_ (acc ++ [.mk 30 noB 0 (hd ts).2.2.2 l])) (if isH kSemi r then r.tail else r))
  else if chunk && isH kFunction ts then PV.bind (pFunction f ts) fun x r => pBlockL f chunk at_ (acc ++ [x]) r
  else if endsH ts then some (.ok (.mk 20 noB 0 at_ acc) ts)
  else PV.bind (pStat f ts) fun x r => pBlockL f chunk at_ (acc ++ [x]) r
def pFunction : Nat → List Tk → Option (PV Tree)
 | 0, _ => none
 | f + 1, ts =>
  PV.bind (pName 6 ts.tail) fun nm r => PV.bind (pWant kLp r) fun _ r =>
   PV.bind (if isH kRp r then some (.ok [] r) else pNames f r) fun ps r => PV.bind (pWant kRp r) fun _ r =>
    PV.bind (pBlock f false r) fun b r => PV.bind (pWant kEnd r) fun _ r => some (.ok (.mk 31 nm.text ps.length (hd ts).2.2.2 (ps ++ [b])) r)
/-- do, a block, end. -/
def pBody : Nat → List Tk → Option (PV Tree)
 | 0, _ => none
 | f + 1, ts => PV.bind (pWant kDo ts) fun _ r => PV.bind (pBlock f false r) fun b r => PV.bind (pWant kEnd r) fun _ r => some (.ok b r)
def pStat : Nat → List Tk → Option (PV Tree)
 | 0, _ => none
 | f + 1, ts =>
  if isH kDo ts then PV.bind (pBody f ts) fun b r => some (.ok (.mk 28 noB 0 (hd ts).2.2.2 [b]) r)
  else if isH kWhile ts then PV.bind (pExp f 0 ts.tail) fun e r => PV.bind (pBody f r) fun b r => some (.ok (.mk 25 noB 0 (hd ts).2.2.2 [e, b]) r)
  else if isH kIf ts then PV.bind (pBranches f [] ts.tail) fun l r => some (.ok (.mk 24 noB 0 (hd ts).2.2.2 l) r)
  else if isH kFor ts then pFor f (hd ts).2.2.2 ts.tail
  else if isH kLocal ts then
   PV.bind (pNames f ts.tail) fun l r => PV.bind (if isH kEq r then pExps f r.tail else some (.ok [] r)) fun es r => some (.ok (.mk 21 noB l.length (hd ts).2.2.2 (l ++ es)) r)
  else if isH kBreak ts then some (.ok (.mk 29 noB 0 (hd ts).2.2.2 []) ts.tail)
  else pPlain f ts
def pBranches : Nat → List Tree → List Tk → Option (PV (List Tree))
 | 0, _, _ => none
 | f + 1, acc, ts =>
  PV.bind (pExp f 0 ts) fun e r => PV.bind (pWant kThen r) fun _ r => PV.bind (pBlock f false r) fun b r =>
   if isH kElseif r then pBranches f (acc ++ [e] ++ [b]) r.tail
   else if isH kElse r then PV.bind (pBlock f false r.tail) fun c r => PV.bind (pWant kEnd r) fun _ r => some (.ok (acc ++ [e] ++ [b] ++ [c]) r)
   else PV.bind (pWant kEnd r) fun _ r => some (.ok (acc ++ [e] ++ [b]) r)
def pFor : Nat → Int → List Tk → Option (PV Tree)
 | 0, _, _ => none
 | f + 1, at_, ts =>
  PV.bind (pName 6 ts) fun n r =>
   if isH kEq r then
    PV.bind (pExp f 0 r.tail) fun a r => PV.bind (pWant kComma r) fun _ r => PV.bind (pExp f 0 r) fun b r =>
     PV.bind (if isH kComma r then PV.bind (pExp f 0 r.tail) fun c r => some (.ok [c] r) else some (.ok [] r)) fun cs r => PV.bind (pBody f r) fun bd r =>
      some (.ok (.mk 26 noB 0 at_ ([n] ++ [a] ++ [b] ++ cs ++ [bd])) r)
   else
    PV.bind (pNamesL f [n] r) fun l r => PV.bind (pWant kIn r) fun _ r => PV.bind (pExps f r) fun es r => PV.bind (pBody f r) fun bd r =>
     some (.ok (.mk 27 noB l.length at_ (l ++ es ++ [bd])) r)
def pPlain : Nat → List Tk → Option (PV Tree)
 | 0, _ => none
 | f + 1, ts =>
  PV.bind (pSuffixed f ts) fun e r =>
   if isH kEq r || isH kComma r then
    PV.bind (pTargets f [] e r) fun l r => PV.bind (pWant kEq r) fun _ r => PV.bind (pExps f r) fun es r => some (.ok (.mk 22 noB l.length e.at_ (l ++ es)) r)
   else if e.kind = 8 then some (.ok (.mk 23 noB 0 e.at_ [e]) r) else some (.bad (hd r).2.2.2)
/-- The targets of an assignment, from e on. -/
def pTargets : Nat → List Tree → Tree → List Tk → Option (PV (List Tree))
 | 0, _, _, _ => none
 | f + 1, acc, e, ts =>
  if e.kind = 6 ∨ e.kind = 7 then
   if isH kComma ts then PV.bind (pSuffixed f ts.tail) fun e' r => pTargets f (acc ++ [e]) e' r else some (.ok (acc ++ [e]) ts)
  else some (.bad e.at_)
end
end Go.Proofs.YtidiahkobapnjaaGreatDoor
namespace Go.Proofs.YtidiahkobapnjaaGreatDoor
open Go Go.RowKit
def Good : List Tk → Prop
 | [] => False
 | [t] => t.1 = 6
 | t :: u :: ts => t.1 ≠ 6 ∧ Good (u :: ts)
theorem Good.tail {ts : List Tk} (h : Good ts) (h6 : (hd ts).1 ≠ 6) : Good ts.tail ∧ ts.tail.length + 1 = ts.length ∧ ts.tail <:+ ts := by
 cases ts with
 | nil => exact h.elim
 | cons t ts =>
  cases ts with
  | nil => exact absurd h h6
  | cons u ts => exact ⟨h.2, rfl, List.suffix_cons t _⟩
theorem isH_ne {w : ByteArray} {ts : List Tk} (h : isH w ts = true) : (hd ts).1 ≠ 6 := by
 unfold isH isT at h
 intro h6
 rw [h6] at h
 simp at h
def Fwd {α : Type} (n : Nat) (ts : List Tk) : PV α → Prop
 | .ok _ r => Good r ∧ r.length + n ≤ ts.length ∧ r <:+ ts
 | .bad _ => True
def Step {α : Type} (n : Nat) (ts : List Tk) (x : Option (PV α)) : Prop := Good ts → ∀ v, x = some v → Fwd n ts v
section
variable {α β : Type} {n m : Nat} {ts : List Tk} {x : Option (PV α)} {f : α → List Tk → Option (PV β)}
theorem bind_some {v : PV β} (h : PV.bind x f = some v) : (∃ i, x = some (.bad i) ∧ v = .bad i) ∨ ∃ a r, x = some (.ok a r) ∧ f a r = some v := by
 unfold PV.bind at h
 split at h
 ·cases h
 ·exact .inr ⟨_, _, rfl, h⟩
 ·exact .inl ⟨_, rfl, (Option.some.inj h).symm⟩
theorem step_bind (h1 : Step n ts x) (h2 : ∀ a r, Step m r (f a r)) : Step (n + m) ts (PV.bind x f) := fun hg v hv => by
 rcases bind_some hv with ⟨i, _, rfl⟩ | ⟨a, r, hx, hf⟩
 ·trivial
 ·obtain ⟨g1, g2, g3⟩ := h1 hg _ hx
  have := h2 a r g1 v hf
  cases v with
  | bad => trivial
  | ok b s =>
   obtain ⟨g4, g5, g6⟩ := this
   exact ⟨g4, by omega, g6.trans g3⟩
theorem step_weak (h : Step n ts x) (hm : m ≤ n) : Step m ts x := fun hg v hv => by
 have := h hg v hv
 cases v with
 | bad => trivial
 | ok b s => exact ⟨this.1, by have := this.2.1; omega, this.2.2⟩
theorem step_none : Step n ts (none : Option (PV α)) := fun _ _ h => by cases h
theorem step_bad {i : Int} : Step n ts (some (.bad i) : Option (PV α)) := fun _ _ h => by cases h; trivial
theorem step_ok {a : α} : Step 0 ts (some (.ok a ts)) := fun hg _ h => by cases h; exact ⟨hg, Nat.le_refl _, List.suffix_refl _⟩
theorem step_tail (h6 : (hd ts).1 ≠ 6) (h : Step m ts.tail x) : Step (m + 1) ts x := fun hg v hv => by
 obtain ⟨g1, g2, g3⟩ := hg.tail h6
 have := h g1 v hv
 cases v with
 | bad => trivial
 | ok b s => exact ⟨this.1, by have := this.2.1; omega, this.2.2.trans g3⟩
theorem step_if {c : Prop} [Decidable c] {y z : Option (PV α)} (h1 : c → Step n ts y) (h2 : ¬ c → Step n ts z) : Step n ts (if c then y else z) := by
 by_cases h : c
 ·rw [if_pos h]; exact h1 h
 ·rw [if_neg h]; exact h2 h
theorem step_want (w : ByteArray) (ts : List Tk) : Step 1 ts (pWant w ts) := step_if (fun h => step_tail (isH_ne h) step_ok) fun _ => step_bad
theorem step_name (k : Int) (ts : List Tk) : Step 1 ts (pName k ts) := step_if (fun h => step_tail (by omega) step_ok) fun _ => step_bad
theorem step_namesL : ∀ (f : Nat) (acc : List Tree) (ts : List Tk), Step 0 ts (pNamesL f acc ts)
 | 0, _, _ => step_none
 | f + 1, acc, ts => by
  unfold pNamesL
  exact step_if (fun h => step_weak (step_tail (isH_ne h) (step_bind (step_name 6 _) fun _ _ => step_namesL f _ _)) (Nat.zero_le _)) fun _ => step_ok
theorem step_names (f : Nat) (ts : List Tk) : Step 1 ts (pNames f ts) := step_bind (step_name 6 ts) fun _ _ => step_namesL f _ _
end
structure StepE (f : Nat) : Prop where
 exp : ∀ least ts, Step 1 ts (pExp f least ts)
 loop : ∀ least n ts, Step 0 ts (pLoop f least n ts)
 operand : ∀ ts, Step 1 ts (pOperand f ts)
 fields : ∀ acc ts, Step 1 ts (pFields f acc ts)
 field : ∀ ts, Step 1 ts (pField f ts)
 suffixed : ∀ ts, Step 1 ts (pSuffixed f ts)
 sufL : ∀ at_ n ts, Step 0 ts (pSufL f at_ n ts)
 exps : ∀ ts, Step 1 ts (pExps f ts)
 expsL : ∀ acc ts, Step 0 ts (pExpsL f acc ts)
theorem bindsH_ne {ts : List Tk} (h : bindsH ts ≠ 0) : (hd ts).1 ≠ 6 := by
 intro h6
 have hf : ∀ w, isH w ts = false := fun w => by
  cases hw : isH w ts with
  | false => rfl
  | true => exact absurd h6 (isH_ne hw)
 exact h (by simp [bindsH, hf])
theorem bindsH_range (ts : List Tk) : 0 ≤ bindsH ts ∧ bindsH ts ≤ 6 := by
 unfold bindsH
 repeat' split
 all_goals omega
theorem stepE : ∀ f, StepE f
 | 0 => by constructor <;> intros <;> (first | unfold pExp | unfold pLoop | unfold pOperand | unfold pFields | unfold pField | unfold pSuffixed | unfold pSufL | unfold pExps | unfold pExpsL) <;> exact step_none
 | f + 1 => by
  have ih := stepE f
  constructor
  ·intro least ts; unfold pExp
   exact step_bind (ih.operand ts) fun _ _ => ih.loop _ _ _
  ·intro least n ts; unfold pLoop
   refine step_if (fun _ => step_ok) fun h => ?_
   by_cases h0 : bindsH ts = 0
   ·-- a least below 0 is never asked for; then nothing is eaten
    intro hg v hv
    by_cases h6 : (hd ts).1 = 6
    ·rcases bind_some hv with ⟨i, _, rfl⟩ | ⟨a, r, hx, hf⟩
     ·trivial
     ·exfalso
      cases ts with
      | nil => exact hg
      | cons t ts =>
       cases ts with
       | nil =>
        have hx' : pExp f (if bindsH [t] = 4 then 3 else bindsH [t]) [] = some (.ok a r) := hx
        clear hx hf hv
        cases f with
        | zero => unfold pExp at hx'; cases hx'
        | succ f =>
         unfold pExp at hx'
         rcases bind_some hx' with ⟨i, _, he⟩ | ⟨a', r', hx, hf⟩
         ·cases he
         ·cases f with
          | zero => unfold pOperand at hx; cases hx
          | succ f =>
           unfold pOperand at hx
           simp only [hd, List.headD_nil, isH, isT] at hx
           cases f with
           | zero => unfold pSuffixed at hx; simp at hx
           | succ f => unfold pSuffixed at hx; simp [isH, isT, hd, pName, PV.bind] at hx
       | cons u ts => exact hg.1 h6
    ·exact (step_weak (step_tail h6 (step_bind (ih.exp _ _) fun _ _ => ih.loop _ _ _)) (Nat.zero_le _)) hg v hv
   ·exact step_weak (step_tail (bindsH_ne h0) (step_bind (ih.exp _ _) fun _ _ => ih.loop _ _ _)) (Nat.zero_le _)
  ·intro ts; unfold pOperand
   refine step_if (fun h => step_tail (by omega) step_ok) fun _ => ?_
   refine step_if (fun h => step_tail (by omega) step_ok) fun _ => ?_
   refine step_if (fun h => step_tail (isH_ne h) step_ok) fun _ => ?_
   refine step_if (fun h => step_tail (isH_ne h) step_ok) fun _ => ?_
   refine step_if (fun h => step_tail (isH_ne h) step_ok) fun _ => ?_
   refine step_if (fun h => ?_) fun _ => ?_
   ·have h6 : (hd ts).1 ≠ 6 := by
     simp only [Bool.or_eq_true] at h
     rcases h with (h | h) | h <;> exact isH_ne h
    exact step_weak (step_tail h6 (step_bind (ih.exp _ _) fun _ _ => step_ok)) (by omega)
   refine step_if (fun h => ?_) fun _ => ?_
   ·exact step_weak (step_tail (isH_ne h) (step_bind (ih.fields _ _) fun _ _ => step_ok)) (by omega)
   ·exact ih.suffixed ts
  ·intro acc ts; unfold pFields
   refine step_if (fun h => step_tail (isH_ne h) step_ok) fun _ => ?_
   refine step_weak (step_bind (m := 0) (ih.field ts) fun x r => ?_) (by omega)
   refine step_if (fun h => step_weak (step_tail (isH_ne h) (ih.fields _ _)) (by omega)) fun _ => ?_
   refine step_if (fun h => step_weak (step_tail (isH_ne h) (ih.fields _ _)) (by omega)) fun _ => ?_
   exact step_weak (step_bind (step_want _ _) fun _ _ => step_ok) (by omega)
  ·intro ts; unfold pField
   refine step_if (fun h => ?_) fun _ => ?_
   ·exact step_weak (step_tail (isH_ne h) (step_bind (ih.exp _ _) fun _ _ => step_bind (step_want _ _) fun _ _ => step_bind (step_want _ _) fun _ _ => step_bind (ih.exp _ _) fun _ _ => step_ok)) (by omega)
   refine step_if (fun h => ?_) fun _ => ?_
   ·obtain ⟨h1, h2, _⟩ := h
    exact step_weak (step_tail (by omega) (step_tail (by omega) (step_bind (ih.exp _ _) fun _ _ => step_ok))) (by omega)
   ·exact step_bind (ih.exp _ _) fun _ _ => step_ok
  ·intro ts; unfold pSuffixed
   refine step_if (fun h => ?_) fun _ => ?_
   ·exact step_weak (step_tail (isH_ne h) (step_bind (ih.exp _ _) fun _ _ => step_bind (step_want _ _) fun _ _ => ih.sufL _ _ _)) (by omega)
   ·exact step_bind (step_name _ _) fun _ _ => ih.sufL _ _ _
  ·intro at_ n ts; unfold pSufL
   refine step_if (fun h => ?_) fun _ => ?_
   ·exact step_weak (step_tail (isH_ne h) (step_bind (ih.exp _ _) fun _ _ => step_bind (step_want _ _) fun _ _ => ih.sufL _ _ _)) (by omega)
   refine step_if (fun h => ?_) fun _ => ?_
   ·exact step_weak (step_tail (isH_ne h) (step_bind (step_name _ _) fun _ _ => ih.sufL _ _ _)) (by omega)
   refine step_if (fun h => ?_) fun _ => step_ok
   ·refine step_weak (step_tail (isH_ne h) (step_bind (n := 0) ?_ fun _ _ => step_bind (step_want _ _) fun _ _ => ih.sufL _ _ _)) (by omega)
    exact step_if (fun _ => step_ok) fun _ => step_weak (ih.exps _) (by omega)
  ·intro ts; unfold pExps
   exact step_bind (ih.exp _ _) fun _ _ => ih.expsL _ _
  ·intro acc ts; unfold pExpsL
   exact step_if (fun h => step_weak (step_tail (isH_ne h) (step_bind (ih.exp _ _) fun _ _ => ih.expsL _ _)) (by omega)) fun _ => step_ok
structure StepS (f : Nat) : Prop where
 block : ∀ c ts, Step 0 ts (pBlock f c ts)
 blockL : ∀ c at_ acc ts, Step 0 ts (pBlockL f c at_ acc ts)
 function : ∀ ts, (hd ts).1 ≠ 6 → Step 1 ts (pFunction f ts)
 body : ∀ ts, Step 1 ts (pBody f ts)
 stat : ∀ ts, Step 1 ts (pStat f ts)
 branches : ∀ acc ts, Step 1 ts (pBranches f acc ts)
 for_ : ∀ at_ ts, Step 1 ts (pFor f at_ ts)
 plain : ∀ ts, Step 1 ts (pPlain f ts)
 targets : ∀ acc e ts, Step 0 ts (pTargets f acc e ts)
theorem stepS : ∀ f, StepS f
 | 0 => by constructor <;> intros <;> (first | unfold pBlock | unfold pBlockL | unfold pFunction | unfold pBody | unfold pStat | unfold pBranches | unfold pFor | unfold pPlain | unfold pTargets) <;> exact step_none
 | f + 1 => by
  have ih := stepS f
  have ie := stepE f
  constructor
  ·intro c ts; unfold pBlock
   exact ih.blockL _ _ _ _
  ·intro c at_ acc ts; unfold pBlockL
   refine step_if (fun h => step_weak (step_tail (isH_ne h) (ih.blockL _ _ _ _)) (by omega)) fun _ => ?_
   refine step_if (fun h => ?_) fun _ => ?_
   ·refine step_weak (step_tail (isH_ne h) (step_bind (n := 0) (m := 0) ?_ fun l r => ?_)) (by omega)
    ·exact step_if (fun _ => step_ok) fun _ => step_weak (ie.exps _) (by omega)
    ·by_cases h : isH kSemi r = true
     ·rw [if_pos h]; exact step_weak (step_tail (isH_ne h) step_ok) (by omega)
     ·rw [if_neg h]; exact step_ok
   refine step_if (fun h => ?_) fun _ => ?_
   ·simp only [Bool.and_eq_true] at h
    exact step_weak (step_bind (ih.function _ (isH_ne h.2)) fun _ _ => ih.blockL _ _ _ _) (by omega)
   refine step_if (fun _ => step_ok) fun _ => ?_
   exact step_weak (step_bind (ih.stat _) fun _ _ => ih.blockL _ _ _ _) (by omega)
  ·intro ts h6; unfold pFunction
   refine step_weak (step_tail h6 (step_bind (step_name _ _) fun _ _ => step_bind (step_want _ _) fun _ r => step_bind (n := 0) ?_ fun _ _ => step_bind (step_want _ _) fun _ _ => step_bind (ih.block _ _) fun _ _ => step_bind (step_want _ _) fun _ _ => step_ok)) (by omega)
   exact step_if (fun _ => step_ok) fun _ => step_weak (step_names f r) (by omega)
  ·intro ts; unfold pBody
   exact step_weak (step_bind (step_want _ _) fun _ _ => step_bind (ih.block _ _) fun _ _ => step_bind (step_want _ _) fun _ _ => step_ok) (by omega)
  ·intro ts; unfold pStat
   refine step_if (fun h => step_bind (ih.body _) fun _ _ => step_ok) fun _ => ?_
   refine step_if (fun h => step_weak (step_tail (isH_ne h) (step_bind (ie.exp _ _) fun _ _ => step_bind (ih.body _) fun _ _ => step_ok)) (by omega)) fun _ => ?_
   refine step_if (fun h => step_weak (step_tail (isH_ne h) (step_bind (ih.branches _ _) fun _ _ => step_ok)) (by omega)) fun _ => ?_
   refine step_if (fun h => step_weak (step_tail (isH_ne h) (ih.for_ _ _)) (by omega)) fun _ => ?_
   refine step_if (fun h => ?_) fun _ => ?_
   ·refine step_weak (step_tail (isH_ne h) (step_bind (step_names f _) fun _ r => step_bind (n := 0) ?_ fun _ _ => step_ok)) (by omega)
    exact step_if (fun h => step_weak (step_tail (isH_ne h) (ie.exps _)) (by omega)) fun _ => step_ok
   refine step_if (fun h => step_tail (isH_ne h) step_ok) fun _ => ih.plain _
  ·intro acc ts; unfold pBranches
   refine step_weak (step_bind (ie.exp _ _) fun _ _ => step_bind (step_want _ _) fun _ _ => step_bind (m := 0) (ih.block _ _) fun _ r => ?_) (by omega)
   refine step_if (fun h => step_weak (step_tail (isH_ne h) (ih.branches _ _)) (by omega)) fun _ => ?_
   refine step_if (fun h => step_weak (step_tail (isH_ne h) (step_bind (ih.block _ _) fun _ _ => step_bind (step_want _ _) fun _ _ => step_ok)) (by omega)) fun _ => ?_
   exact step_weak (step_bind (step_want _ _) fun _ _ => step_ok) (by omega)
  ·intro at_ ts; unfold pFor
   refine step_weak (step_bind (m := 0) (step_name _ _) fun n r => ?_) (by omega)
   refine step_if (fun h => ?_) fun _ => ?_
   ·refine step_weak (step_tail (isH_ne h) (step_bind (ie.exp _ _) fun _ _ => step_bind (step_want _ _) fun _ _ => step_bind (ie.exp _ _) fun _ r => step_bind (n := 0) ?_ fun _ _ => step_bind (ih.body _) fun _ _ => step_ok)) (by omega)
    exact step_if (fun h => step_weak (step_tail (isH_ne h) (step_bind (ie.exp _ _) fun _ _ => step_ok)) (by omega)) fun _ => step_ok
   ·exact step_weak (step_bind (step_namesL _ _ _) fun _ _ => step_bind (step_want _ _) fun _ _ => step_bind (ie.exps _) fun _ _ => step_bind (ih.body _) fun _ _ => step_ok) (by omega)
  ·intro ts; unfold pPlain
   refine step_weak (step_bind (m := 0) (ie.suffixed _) fun e r => ?_) (by omega)
   refine step_if (fun h => ?_) fun _ => ?_
   ·exact step_weak (step_bind (ih.targets _ _ _) fun _ _ => step_bind (step_want _ _) fun _ _ => step_bind (ie.exps _) fun _ _ => step_ok) (by omega)
   ·exact step_if (fun _ => step_ok) fun _ => step_bad
  ·intro acc e ts; unfold pTargets
   refine step_if (fun _ => ?_) fun _ => step_bad
   exact step_if (fun h => step_weak (step_tail (isH_ne h) (step_bind (ie.suffixed _) fun _ _ => ih.targets _ _ _)) (by omega)) fun _ => step_ok
theorem tot_bind {α β : Type} {n : Nat} {ts : List Tk} {x : Option (PV α)} {f : α → List Tk → Option (PV β)} (hg : Good ts) (h1 : ∃ v, x = some v) (hs : Step n ts x) (h2 : ∀ a r, Good r → r.length + n ≤ ts.length → ∃ v, f a r = some v) : ∃ v, PV.bind x f = some v := by
 obtain ⟨v, rfl⟩ := h1
 cases v with
 | bad i => exact ⟨_, rfl⟩
 | ok a r =>
  obtain ⟨g1, g2, _⟩ := hs hg _ rfl
  exact h2 a r g1 g2
theorem tot_if {α : Type} {c : Prop} [Decidable c] {y z : Option (PV α)} (h1 : c → ∃ v, y = some v) (h2 : ¬ c → ∃ v, z = some v) : ∃ v, (if c then y else z) = some v := by
 by_cases h : c
 ·rw [if_pos h]; exact h1 h
 ·rw [if_neg h]; exact h2 h
theorem tot_want (w : ByteArray) (ts : List Tk) : ∃ v, pWant w ts = some v := tot_if (fun _ => ⟨_, rfl⟩) fun _ => ⟨_, rfl⟩
theorem tot_name (k : Int) (ts : List Tk) : ∃ v, pName k ts = some v := tot_if (fun _ => ⟨_, rfl⟩) fun _ => ⟨_, rfl⟩
theorem tot_namesL : ∀ (f : Nat) (acc : List Tree) (ts : List Tk), Good ts → 16 * ts.length + 1 ≤ f → ∃ v, pNamesL f acc ts = some v
 | 0, _, _, _, h => by omega
 | f + 1, acc, ts, hg, h => by
  unfold pNamesL
  refine tot_if (fun hc => ?_) fun _ => ⟨_, rfl⟩
  obtain ⟨g1, g2, _⟩ := hg.tail (isH_ne hc)
  exact tot_bind g1 (tot_name _ _) (step_name _ _) fun a r hr hl => tot_namesL f _ r hr (by omega)
structure TotE (f : Nat) : Prop where
 exp : ∀ least ts, 0 ≤ least → Good ts → 16 * ts.length + 5 ≤ f → ∃ v, pExp f least ts = some v
 loop : ∀ least n ts, 0 ≤ least → Good ts → 16 * ts.length + 1 ≤ f → ∃ v, pLoop f least n ts = some v
 operand : ∀ ts, Good ts → 16 * ts.length + 4 ≤ f → ∃ v, pOperand f ts = some v
 fields : ∀ acc ts, Good ts → 16 * ts.length + 7 ≤ f → ∃ v, pFields f acc ts = some v
 field : ∀ ts, Good ts → 16 * ts.length + 6 ≤ f → ∃ v, pField f ts = some v
 suffixed : ∀ ts, Good ts → 16 * ts.length + 3 ≤ f → ∃ v, pSuffixed f ts = some v
 sufL : ∀ at_ n ts, Good ts → 16 * ts.length + 1 ≤ f → ∃ v, pSufL f at_ n ts = some v
 exps : ∀ ts, Good ts → 16 * ts.length + 6 ≤ f → ∃ v, pExps f ts = some v
 expsL : ∀ acc ts, Good ts → 16 * ts.length + 1 ≤ f → ∃ v, pExpsL f acc ts = some v
theorem totE : ∀ f, TotE f
 | 0 => by constructor <;> intros <;> omega
 | f + 1 => by
  have ih := totE f
  have st := stepE f
  constructor
  ·intro least ts hl hg h; unfold pExp
   exact tot_bind hg (ih.operand _ hg (by omega)) (st.operand _) fun a r hr hn => ih.loop _ _ _ hl hr (by omega)
  ·intro least n ts hl hg h; unfold pLoop
   refine tot_if (fun _ => ⟨_, rfl⟩) fun hb => ?_
   obtain ⟨g1, g2, _⟩ := hg.tail (bindsH_ne (by omega))
   exact tot_bind g1 (ih.exp _ _ (by split <;> omega) g1 (by omega)) (st.exp _ _) fun a r hr hn => ih.loop _ _ _ hl hr (by omega)
  ·intro ts hg h; unfold pOperand
   refine tot_if (fun _ => ⟨_, rfl⟩) fun _ => tot_if (fun _ => ⟨_, rfl⟩) fun _ => tot_if (fun _ => ⟨_, rfl⟩) fun _ => tot_if (fun _ => ⟨_, rfl⟩) fun _ => tot_if (fun _ => ⟨_, rfl⟩) fun _ => tot_if (fun hc => ?_) fun _ => tot_if (fun hc => ?_) fun _ => ih.suffixed _ hg (by omega)
   ·have h6 : (hd ts).1 ≠ 6 := by
     simp only [Bool.or_eq_true] at hc
     rcases hc with (h | h) | h <;> exact isH_ne h
    obtain ⟨g1, g2, _⟩ := hg.tail h6
    exact tot_bind g1 (ih.exp _ _ (by omega) g1 (by omega)) (st.exp _ _) fun a r _ _ => ⟨_, rfl⟩
   ·obtain ⟨g1, g2, _⟩ := hg.tail (isH_ne hc)
    exact tot_bind g1 (ih.fields _ _ g1 (by omega)) (st.fields _ _) fun a r _ _ => ⟨_, rfl⟩
  ·intro acc ts hg h; unfold pFields
   refine tot_if (fun _ => ⟨_, rfl⟩) fun _ => tot_bind hg (ih.field _ hg (by omega)) (st.field _) fun x r hr hn => ?_
   refine tot_if (fun hc => ?_) fun _ => tot_if (fun hc => ?_) fun _ => tot_bind hr (tot_want _ _) (step_want _ _) fun _ _ _ _ => ⟨_, rfl⟩
   ·obtain ⟨g1, g2, _⟩ := hr.tail (isH_ne hc)
    exact ih.fields _ _ g1 (by omega)
   ·obtain ⟨g1, g2, _⟩ := hr.tail (isH_ne hc)
    exact ih.fields _ _ g1 (by omega)
  ·intro ts hg h; unfold pField
   refine tot_if (fun hc => ?_) fun _ => tot_if (fun hc => ?_) fun _ => tot_bind hg (ih.exp _ _ (by omega) hg (by omega)) (st.exp _ _) fun _ _ _ _ => ⟨_, rfl⟩
   ·obtain ⟨g1, g2, _⟩ := hg.tail (isH_ne hc)
    exact tot_bind g1 (ih.exp _ _ (by omega) g1 (by omega)) (st.exp _ _) fun _ r hr hn => tot_bind hr (tot_want _ _) (step_want _ _) fun _ r2 hr2 hn2 => tot_bind hr2 (tot_want _ _) (step_want _ _) fun _ r3 hr3 hn3 => tot_bind hr3 (ih.exp _ _ (by omega) hr3 (by omega)) (st.exp _ _) fun _ _ _ _ => ⟨_, rfl⟩
   ·obtain ⟨h1, h2, _⟩ := hc
    obtain ⟨g1, g2, _⟩ := hg.tail (by omega)
    obtain ⟨g3, g4, _⟩ := g1.tail (by omega)
    exact tot_bind g3 (ih.exp _ _ (by omega) g3 (by omega)) (st.exp _ _) fun _ _ _ _ => ⟨_, rfl⟩
  ·intro ts hg h; unfold pSuffixed
   refine tot_if (fun hc => ?_) fun _ => tot_bind hg (tot_name _ _) (step_name _ _) fun _ r hr hn => ih.sufL _ _ _ hr (by omega)
   obtain ⟨g1, g2, _⟩ := hg.tail (isH_ne hc)
   exact tot_bind g1 (ih.exp _ _ (by omega) g1 (by omega)) (st.exp _ _) fun _ r hr hn => tot_bind hr (tot_want _ _) (step_want _ _) fun _ r2 hr2 hn2 => ih.sufL _ _ _ hr2 (by omega)
  ·intro at_ n ts hg h; unfold pSufL
   refine tot_if (fun hc => ?_) fun _ => tot_if (fun hc => ?_) fun _ => tot_if (fun hc => ?_) fun _ => ⟨_, rfl⟩
   ·obtain ⟨g1, g2, _⟩ := hg.tail (isH_ne hc)
    exact tot_bind g1 (ih.exp _ _ (by omega) g1 (by omega)) (st.exp _ _) fun _ r hr hn => tot_bind hr (tot_want _ _) (step_want _ _) fun _ r2 hr2 hn2 => ih.sufL _ _ _ hr2 (by omega)
   ·obtain ⟨g1, g2, _⟩ := hg.tail (isH_ne hc)
    exact tot_bind g1 (tot_name _ _) (step_name _ _) fun _ r hr hn => ih.sufL _ _ _ hr (by omega)
   ·obtain ⟨g1, g2, _⟩ := hg.tail (isH_ne hc)
    exact tot_bind (n := 0) g1 (tot_if (fun _ => ⟨_, rfl⟩) fun _ => ih.exps _ g1 (by omega)) (step_if (fun _ => step_ok) fun _ => step_weak (st.exps _) (by omega)) fun _ r hr hn => tot_bind hr (tot_want _ _) (step_want _ _) fun _ r2 hr2 hn2 => ih.sufL _ _ _ hr2 (by omega)
  ·intro ts hg h; unfold pExps
   exact tot_bind hg (ih.exp _ _ (by omega) hg (by omega)) (st.exp _ _) fun _ r hr hn => ih.expsL _ _ hr (by omega)
  ·intro acc ts hg h; unfold pExpsL
   refine tot_if (fun hc => ?_) fun _ => ⟨_, rfl⟩
   obtain ⟨g1, g2, _⟩ := hg.tail (isH_ne hc)
   exact tot_bind g1 (ih.exp _ _ (by omega) g1 (by omega)) (st.exp _ _) fun _ r hr hn => ih.expsL _ _ hr (by omega)
structure TotS (f : Nat) : Prop where
 block : ∀ c ts, Good ts → 16 * ts.length + 9 ≤ f → ∃ v, pBlock f c ts = some v
 blockL : ∀ c at_ acc ts, Good ts → 16 * ts.length + 8 ≤ f → ∃ v, pBlockL f c at_ acc ts = some v
 function : ∀ ts, (hd ts).1 ≠ 6 → Good ts → 16 * ts.length + 7 ≤ f → ∃ v, pFunction f ts = some v
 body : ∀ ts, Good ts → 16 * ts.length + 6 ≤ f → ∃ v, pBody f ts = some v
 stat : ∀ ts, Good ts → 16 * ts.length + 7 ≤ f → ∃ v, pStat f ts = some v
 branches : ∀ acc ts, Good ts → 16 * ts.length + 6 ≤ f → ∃ v, pBranches f acc ts = some v
 for_ : ∀ at_ ts, Good ts → 16 * ts.length + 1 ≤ f → ∃ v, pFor f at_ ts = some v
 plain : ∀ ts, Good ts → 16 * ts.length + 6 ≤ f → ∃ v, pPlain f ts = some v
 targets : ∀ acc e ts, Good ts → 16 * ts.length + 1 ≤ f → ∃ v, pTargets f acc e ts = some v
theorem totS : ∀ f, TotS f
 | 0 => by constructor <;> intros <;> omega
 | f + 1 => by
  have ih := totS f
  have ie := totE f
  have se := stepE f
  have ss := stepS f
  constructor
  ·intro c ts hg h; unfold pBlock
   exact ih.blockL _ _ _ _ hg (by omega)
  ·intro c at_ acc ts hg h; unfold pBlockL
   refine tot_if (fun hc => ?_) fun _ => tot_if (fun hc => ?_) fun _ => tot_if (fun hc => ?_) fun _ => tot_if (fun _ => ⟨_, rfl⟩) fun _ => ?_
   ·obtain ⟨g1, g2, _⟩ := hg.tail (isH_ne hc)
    exact ih.blockL _ _ _ _ g1 (by omega)
   ·obtain ⟨g1, g2, _⟩ := hg.tail (isH_ne hc)
    exact tot_bind (n := 0) g1 (tot_if (fun _ => ⟨_, rfl⟩) fun _ => ie.exps _ g1 (by omega)) (step_if (fun _ => step_ok) fun _ => step_weak (se.exps _) (by omega)) fun _ r hr hn => ⟨_, rfl⟩
   ·simp only [Bool.and_eq_true] at hc
    exact tot_bind hg (ih.function _ (isH_ne hc.2) hg (by omega)) (ss.function _ (isH_ne hc.2)) fun _ r hr hn => ih.blockL _ _ _ _ hr (by omega)
   ·exact tot_bind hg (ih.stat _ hg (by omega)) (ss.stat _) fun _ r hr hn => ih.blockL _ _ _ _ hr (by omega)
  ·intro ts h6 hg h; unfold pFunction
   obtain ⟨g1, g2, _⟩ := hg.tail h6
   exact tot_bind g1 (tot_name _ _) (step_name _ _) fun _ r hr hn => tot_bind hr (tot_want _ _) (step_want _ _) fun _ r2 hr2 hn2 =>
    tot_bind (n := 0) hr2 (tot_if (fun _ => ⟨_, rfl⟩) fun _ => tot_bind hr2 (tot_name _ _) (step_name _ _) fun _ r hr hn => tot_namesL _ _ _ hr (by omega)) (step_if (fun _ => step_ok) fun _ => step_weak (step_names f r2) (by omega)) fun _ r3 hr3 hn3 =>
     tot_bind hr3 (tot_want _ _) (step_want _ _) fun _ r4 hr4 hn4 => tot_bind hr4 (ih.block _ _ hr4 (by omega)) (ss.block _ _) fun _ r5 hr5 hn5 => tot_bind hr5 (tot_want _ _) (step_want _ _) fun _ _ _ _ => ⟨_, rfl⟩
  ·intro ts hg h; unfold pBody
   exact tot_bind hg (tot_want _ _) (step_want _ _) fun _ r hr hn => tot_bind hr (ih.block _ _ hr (by omega)) (ss.block _ _) fun _ r5 hr5 hn5 => tot_bind hr5 (tot_want _ _) (step_want _ _) fun _ _ _ _ => ⟨_, rfl⟩
  ·intro ts hg h; unfold pStat
   refine tot_if (fun hc => ?_) fun _ => tot_if (fun hc => ?_) fun _ => tot_if (fun hc => ?_) fun _ => tot_if (fun hc => ?_) fun _ => tot_if (fun hc => ?_) fun _ => tot_if (fun hc => ⟨_, rfl⟩) fun _ => ih.plain _ hg (by omega)
   ·exact tot_bind hg (ih.body _ hg (by omega)) (ss.body _) fun _ _ _ _ => ⟨_, rfl⟩
   ·obtain ⟨g1, g2, _⟩ := hg.tail (isH_ne hc)
    exact tot_bind g1 (ie.exp _ _ (by omega) g1 (by omega)) (se.exp _ _) fun _ r hr hn => tot_bind hr (ih.body _ hr (by omega)) (ss.body _) fun _ _ _ _ => ⟨_, rfl⟩
   ·obtain ⟨g1, g2, _⟩ := hg.tail (isH_ne hc)
    exact tot_bind g1 (ih.branches _ _ g1 (by omega)) (ss.branches _ _) fun _ _ _ _ => ⟨_, rfl⟩
   ·obtain ⟨g1, g2, _⟩ := hg.tail (isH_ne hc)
    exact ih.for_ _ _ g1 (by omega)
   ·obtain ⟨g1, g2, _⟩ := hg.tail (isH_ne hc)
    refine tot_bind g1 (tot_bind g1 (tot_name _ _) (step_name _ _) fun _ r hr hn => tot_namesL _ _ _ hr (by omega)) (step_names f _) fun _ r hr hn => ?_
    refine tot_bind (n := 0) hr (tot_if (fun hc => ?_) fun _ => ⟨_, rfl⟩) (step_if (fun h => step_weak (step_tail (isH_ne h) (se.exps _)) (by omega)) fun _ => step_ok) fun _ _ _ _ => ⟨_, rfl⟩
    obtain ⟨g3, g4, _⟩ := hr.tail (isH_ne hc)
    exact ie.exps _ g3 (by omega)
  ·intro acc ts hg h; unfold pBranches
   refine tot_bind hg (ie.exp _ _ (by omega) hg (by omega)) (se.exp _ _) fun _ r hr hn => tot_bind hr (tot_want _ _) (step_want _ _) fun _ r2 hr2 hn2 => tot_bind hr2 (ih.block _ _ hr2 (by omega)) (ss.block _ _) fun _ r3 hr3 hn3 => ?_
   refine tot_if (fun hc => ?_) fun _ => tot_if (fun hc => ?_) fun _ => tot_bind hr3 (tot_want _ _) (step_want _ _) fun _ _ _ _ => ⟨_, rfl⟩
   ·obtain ⟨g1, g2, _⟩ := hr3.tail (isH_ne hc)
    exact ih.branches _ _ g1 (by omega)
   ·obtain ⟨g1, g2, _⟩ := hr3.tail (isH_ne hc)
    exact tot_bind g1 (ih.block _ _ g1 (by omega)) (ss.block _ _) fun _ r4 hr4 hn4 => tot_bind hr4 (tot_want _ _) (step_want _ _) fun _ _ _ _ => ⟨_, rfl⟩
  ·intro at_ ts hg h; unfold pFor
   refine tot_bind hg (tot_name _ _) (step_name _ _) fun n r hr hn => tot_if (fun hc => ?_) fun _ => ?_
   ·obtain ⟨g1, g2, _⟩ := hr.tail (isH_ne hc)
    refine tot_bind g1 (ie.exp _ _ (by omega) g1 (by omega)) (se.exp _ _) fun _ r2 hr2 hn2 => tot_bind hr2 (tot_want _ _) (step_want _ _) fun _ r3 hr3 hn3 => tot_bind hr3 (ie.exp _ _ (by omega) hr3 (by omega)) (se.exp _ _) fun _ r4 hr4 hn4 => ?_
    refine tot_bind (n := 0) hr4 (tot_if (fun hc => ?_) fun _ => ⟨_, rfl⟩) (step_if (fun h => step_weak (step_tail (isH_ne h) (step_bind (se.exp _ _) fun _ _ => step_ok)) (by omega)) fun _ => step_ok) fun _ r5 hr5 hn5 => tot_bind hr5 (ih.body _ hr5 (by omega)) (ss.body _) fun _ _ _ _ => ⟨_, rfl⟩
    obtain ⟨g3, g4, _⟩ := hr4.tail (isH_ne hc)
    exact tot_bind g3 (ie.exp _ _ (by omega) g3 (by omega)) (se.exp _ _) fun _ _ _ _ => ⟨_, rfl⟩
   ·exact tot_bind hr (tot_namesL _ _ _ hr (by omega)) (step_namesL _ _ _) fun _ r2 hr2 hn2 => tot_bind hr2 (tot_want _ _) (step_want _ _) fun _ r3 hr3 hn3 => tot_bind hr3 (ie.exps _ hr3 (by omega)) (se.exps _) fun _ r4 hr4 hn4 => tot_bind hr4 (ih.body _ hr4 (by omega)) (ss.body _) fun _ _ _ _ => ⟨_, rfl⟩
  ·intro ts hg h; unfold pPlain
   refine tot_bind hg (ie.suffixed _ hg (by omega)) (se.suffixed _) fun e r hr hn => tot_if (fun hc => ?_) fun _ => tot_if (fun _ => ⟨_, rfl⟩) fun _ => ⟨_, rfl⟩
   exact tot_bind hr (ih.targets _ _ _ hr (by omega)) (ss.targets _ _ _) fun _ r2 hr2 hn2 => tot_bind hr2 (tot_want _ _) (step_want _ _) fun _ r3 hr3 hn3 => tot_bind hr3 (ie.exps _ hr3 (by omega)) (se.exps _) fun _ _ _ _ => ⟨_, rfl⟩
  ·intro acc e ts hg h; unfold pTargets
   refine tot_if (fun _ => tot_if (fun hc => ?_) fun _ => ⟨_, rfl⟩) fun _ => ⟨_, rfl⟩
   obtain ⟨g1, g2, _⟩ := hg.tail (isH_ne hc)
   exact tot_bind g1 (ie.suffixed _ g1 (by omega)) (se.suffixed _) fun _ r hr hn => ih.targets _ _ _ hr (by omega)
end Go.Proofs.YtidiahkobapnjaaGreatDoor
namespace Go.Proofs.YtidiahkobapnjaaGreatDoor
open Go Go.RowKit
def Le {α : Type} (x y : Option α) : Prop := ∀ v, x = some v → y = some v
section
variable {α β : Type}
theorem Le.refl (x : Option α) : Le x x := fun _ h => h
theorem Le.none (x : Option α) : Le none x := fun _ h => by cases h
theorem Le.trans {x y z : Option α} (h1 : Le x y) (h2 : Le y z) : Le x z := fun v h => h2 v (h1 v h)
theorem Le.bind {x y : Option (PV α)} {f g : α → List Tk → Option (PV β)} (h : Le x y) (hf : ∀ a r, Le (f a r) (g a r)) : Le (PV.bind x f) (PV.bind y g) := fun v hv => by
 rcases bind_some hv with ⟨i, hx, rfl⟩ | ⟨a, r, hx, h2⟩
 ·rw [h _ hx]; rfl
 ·rw [h _ hx]; exact hf a r _ h2
theorem Le.ite {c : Prop} [Decidable c] {x y x' y' : Option α} (h1 : Le x x') (h2 : Le y y') : Le (if c then x else y) (if c then x' else y') := by
 by_cases h : c
 ·rw [if_pos h, if_pos h]; exact h1
 ·rw [if_neg h, if_neg h]; exact h2
end
theorem le_namesL : ∀ (f : Nat) (acc : List Tree) (ts : List Tk), Le (pNamesL f acc ts) (pNamesL (f + 1) acc ts)
 | 0, _, _ => Le.none _
 | f + 1, acc, ts => by
  rw [pNamesL, pNamesL]
  exact Le.ite (Le.bind (Le.refl _) fun _ _ => le_namesL f _ _) (Le.refl _)
theorem le_names (f : Nat) (ts : List Tk) : Le (pNames f ts) (pNames (f + 1) ts) := Le.bind (Le.refl _) fun _ _ => le_namesL f _ _
structure LeE (f : Nat) : Prop where
 exp : ∀ least ts, Le (pExp f least ts) (pExp (f + 1) least ts)
 loop : ∀ least n ts, Le (pLoop f least n ts) (pLoop (f + 1) least n ts)
 operand : ∀ ts, Le (pOperand f ts) (pOperand (f + 1) ts)
 fields : ∀ acc ts, Le (pFields f acc ts) (pFields (f + 1) acc ts)
 field : ∀ ts, Le (pField f ts) (pField (f + 1) ts)
 suffixed : ∀ ts, Le (pSuffixed f ts) (pSuffixed (f + 1) ts)
 sufL : ∀ at_ n ts, Le (pSufL f at_ n ts) (pSufL (f + 1) at_ n ts)
 exps : ∀ ts, Le (pExps f ts) (pExps (f + 1) ts)
 expsL : ∀ acc ts, Le (pExpsL f acc ts) (pExpsL (f + 1) acc ts)
theorem leE : ∀ f, LeE f
 | 0 => by constructor <;> intros <;> (first | rw [pExp] | rw [pLoop] | rw [pOperand] | rw [pFields] | rw [pField] | rw [pSuffixed] | rw [pSufL] | rw [pExps] | rw [pExpsL]) <;> exact Le.none _
 | f + 1 => by
  have ih := leE f
  constructor
  ·intro least ts; rw [pExp, pExp]
   exact Le.bind (ih.operand _) fun _ _ => ih.loop _ _ _
  ·intro least n ts; rw [pLoop, pLoop]
   exact Le.ite (Le.refl _) (Le.bind (ih.exp _ _) fun _ _ => ih.loop _ _ _)
  ·intro ts; rw [pOperand, pOperand]
   exact Le.ite (Le.refl _) (Le.ite (Le.refl _) (Le.ite (Le.refl _) (Le.ite (Le.refl _) (Le.ite (Le.refl _) (Le.ite (Le.bind (ih.exp _ _) fun _ _ => Le.refl _) (Le.ite (Le.bind (ih.fields _ _) fun _ _ => Le.refl _) (ih.suffixed _)))))))
  ·intro acc ts; rw [pFields, pFields]
   exact Le.ite (Le.refl _) (Le.bind (ih.field _) fun _ _ => Le.ite (ih.fields _ _) (Le.ite (ih.fields _ _) (Le.refl _)))
  ·intro ts; rw [pField, pField]
   exact Le.ite (Le.bind (ih.exp _ _) fun _ _ => Le.bind (Le.refl _) fun _ _ => Le.bind (Le.refl _) fun _ _ => Le.bind (ih.exp _ _) fun _ _ => Le.refl _) (Le.ite (Le.bind (ih.exp _ _) fun _ _ => Le.refl _) (Le.bind (ih.exp _ _) fun _ _ => Le.refl _))
  ·intro ts; rw [pSuffixed, pSuffixed]
   exact Le.ite (Le.bind (ih.exp _ _) fun _ _ => Le.bind (Le.refl _) fun _ _ => ih.sufL _ _ _) (Le.bind (Le.refl _) fun _ _ => ih.sufL _ _ _)
  ·intro at_ n ts; rw [pSufL, pSufL]
   exact Le.ite (Le.bind (ih.exp _ _) fun _ _ => Le.bind (Le.refl _) fun _ _ => ih.sufL _ _ _) (Le.ite (Le.bind (Le.refl _) fun _ _ => ih.sufL _ _ _) (Le.ite (Le.bind (Le.ite (Le.refl _) (ih.exps _)) fun _ _ => Le.bind (Le.refl _) fun _ _ => ih.sufL _ _ _) (Le.refl _)))
  ·intro ts; rw [pExps, pExps]
   exact Le.bind (ih.exp _ _) fun _ _ => ih.expsL _ _
  ·intro acc ts; rw [pExpsL, pExpsL]
   exact Le.ite (Le.bind (ih.exp _ _) fun _ _ => ih.expsL _ _) (Le.refl _)
structure LeS (f : Nat) : Prop where
 block : ∀ c ts, Le (pBlock f c ts) (pBlock (f + 1) c ts)
 blockL : ∀ c at_ acc ts, Le (pBlockL f c at_ acc ts) (pBlockL (f + 1) c at_ acc ts)
 function : ∀ ts, Le (pFunction f ts) (pFunction (f + 1) ts)
 body : ∀ ts, Le (pBody f ts) (pBody (f + 1) ts)
 stat : ∀ ts, Le (pStat f ts) (pStat (f + 1) ts)
 branches : ∀ acc ts, Le (pBranches f acc ts) (pBranches (f + 1) acc ts)
 for_ : ∀ at_ ts, Le (pFor f at_ ts) (pFor (f + 1) at_ ts)
 plain : ∀ ts, Le (pPlain f ts) (pPlain (f + 1) ts)
 targets : ∀ acc e ts, Le (pTargets f acc e ts) (pTargets (f + 1) acc e ts)
theorem leS : ∀ f, LeS f
 | 0 => by constructor <;> intros <;> (first | rw [pBlock] | rw [pBlockL] | rw [pFunction] | rw [pBody] | rw [pStat] | rw [pBranches] | rw [pFor] | rw [pPlain] | rw [pTargets]) <;> exact Le.none _
 | f + 1 => by
  have ih := leS f
  have ie := leE f
  constructor
  ·intro c ts; rw [pBlock, pBlock]; exact ih.blockL _ _ _ _
  ·intro c at_ acc ts; rw [pBlockL, pBlockL]
   exact Le.ite (ih.blockL _ _ _ _) (Le.ite (Le.bind (Le.ite (Le.refl _) (ie.exps _)) fun _ _ => Le.refl _) (Le.ite (Le.bind (ih.function _) fun _ _ => ih.blockL _ _ _ _) (Le.ite (Le.refl _) (Le.bind (ih.stat _) fun _ _ => ih.blockL _ _ _ _))))
  ·intro ts; rw [pFunction, pFunction]
   exact Le.bind (Le.refl _) fun _ _ => Le.bind (Le.refl _) fun _ _ => Le.bind (Le.ite (Le.refl _) (le_names _ _)) fun _ _ => Le.bind (Le.refl _) fun _ _ => Le.bind (ih.block _ _) fun _ _ => Le.refl _
  ·intro ts; rw [pBody, pBody]
   exact Le.bind (Le.refl _) fun _ _ => Le.bind (ih.block _ _) fun _ _ => Le.refl _
  ·intro ts; rw [pStat, pStat]
   exact Le.ite (Le.bind (ih.body _) fun _ _ => Le.refl _) (Le.ite (Le.bind (ie.exp _ _) fun _ _ => Le.bind (ih.body _) fun _ _ => Le.refl _) (Le.ite (Le.bind (ih.branches _ _) fun _ _ => Le.refl _) (Le.ite (ih.for_ _ _) (Le.ite (Le.bind (le_names _ _) fun _ _ => Le.bind (Le.ite (ie.exps _) (Le.refl _)) fun _ _ => Le.refl _) (Le.ite (Le.refl _) (ih.plain _))))))
  ·intro acc ts; rw [pBranches, pBranches]
   exact Le.bind (ie.exp _ _) fun _ _ => Le.bind (Le.refl _) fun _ _ => Le.bind (ih.block _ _) fun _ _ => Le.ite (ih.branches _ _) (Le.ite (Le.bind (ih.block _ _) fun _ _ => Le.refl _) (Le.refl _))
  ·intro at_ ts; rw [pFor, pFor]
   exact Le.bind (Le.refl _) fun _ _ => Le.ite (Le.bind (ie.exp _ _) fun _ _ => Le.bind (Le.refl _) fun _ _ => Le.bind (ie.exp _ _) fun _ _ => Le.bind (Le.ite (Le.bind (ie.exp _ _) fun _ _ => Le.refl _) (Le.refl _)) fun _ _ => Le.bind (ih.body _) fun _ _ => Le.refl _) (Le.bind (le_namesL _ _ _) fun _ _ => Le.bind (Le.refl _) fun _ _ => Le.bind (ie.exps _) fun _ _ => Le.bind (ih.body _) fun _ _ => Le.refl _)
  ·intro ts; rw [pPlain, pPlain]
   exact Le.bind (ie.suffixed _) fun _ _ => Le.ite (Le.bind (ih.targets _ _ _) fun _ _ => Le.bind (Le.refl _) fun _ _ => Le.bind (ie.exps _) fun _ _ => Le.refl _) (Le.refl _)
  ·intro acc e ts; rw [pTargets, pTargets]
   exact Le.ite (Le.ite (Le.bind (ie.suffixed _) fun _ _ => ih.targets _ _ _) (Le.refl _)) (Le.refl _)
theorem le_up {α : Type} {p : Nat → Option α} (h : ∀ f, Le (p f) (p (f + 1))) {f f' : Nat} (h0 : f ≤ f') : Le (p f) (p f') := by
 induction f' with
 | zero => rw [Nat.le_zero.1 h0]; exact Le.refl _
 | succ f' ih =>
  rcases Nat.lt_or_ge f (f' + 1) with h1 | h1
  ·exact (ih (by omega)).trans (h f')
  ·rw [show f = f' + 1 by omega]; exact Le.refl _
def val {α : Type} (x : Option (PV α)) : PV α := x.getD (.bad 0)
def fu (ts : List Tk) : Nat := 16 * ts.length + 16
theorem val_up {α : Type} {p : Nat → Option (PV α)} (h : ∀ f, Le (p f) (p (f + 1))) {f f0 : Nat} (h1 : ∃ v, p f = some v) (h2 : ∃ v, p f0 = some v) : p f = some (val (p f0)) := by
 obtain ⟨v, hv⟩ := h1
 obtain ⟨v0, hv0⟩ := h2
 rcases Nat.le_total f f0 with h' | h'
 ·have := le_up h h' v hv
  rw [hv, this]; rfl
 ·have := le_up h h' v0 hv0
  rw [this, hv0]; rfl
def vNamesL (acc : List Tree) (ts : List Tk) : PV (List Tree) := val (pNamesL (fu ts) acc ts)
def vExp (least : Int) (ts : List Tk) : PV Tree := val (pExp (fu ts) least ts)
def vLoop (least : Int) (n : Tree) (ts : List Tk) : PV Tree := val (pLoop (fu ts) least n ts)
def vOperand (ts : List Tk) : PV Tree := val (pOperand (fu ts) ts)
def vFields (acc : List Tree) (ts : List Tk) : PV (List Tree) := val (pFields (fu ts) acc ts)
def vField (ts : List Tk) : PV Tree := val (pField (fu ts) ts)
def vSuffixed (ts : List Tk) : PV Tree := val (pSuffixed (fu ts) ts)
def vSufL (at_ : Int) (n : Tree) (ts : List Tk) : PV Tree := val (pSufL (fu ts) at_ n ts)
def vExps (ts : List Tk) : PV (List Tree) := val (pExps (fu ts) ts)
def vExpsL (acc : List Tree) (ts : List Tk) : PV (List Tree) := val (pExpsL (fu ts) acc ts)
def vBlock (c : Bool) (ts : List Tk) : PV Tree := val (pBlock (fu ts) c ts)
def vBlockL (c : Bool) (at_ : Int) (acc : List Tree) (ts : List Tk) : PV Tree := val (pBlockL (fu ts) c at_ acc ts)
def vFunction (ts : List Tk) : PV Tree := val (pFunction (fu ts) ts)
def vBody (ts : List Tk) : PV Tree := val (pBody (fu ts) ts)
def vStat (ts : List Tk) : PV Tree := val (pStat (fu ts) ts)
def vBranches (acc : List Tree) (ts : List Tk) : PV (List Tree) := val (pBranches (fu ts) acc ts)
def vFor (at_ : Int) (ts : List Tk) : PV Tree := val (pFor (fu ts) at_ ts)
def vPlain (ts : List Tk) : PV Tree := val (pPlain (fu ts) ts)
def vTargets (acc : List Tree) (e : Tree) (ts : List Tk) : PV (List Tree) := val (pTargets (fu ts) acc e ts)
def vWant (w : ByteArray) (ts : List Tk) : PV Unit := if isH w ts then .ok () ts.tail else .bad (hd ts).2.2.2
def vName (kind : Int) (ts : List Tk) : PV Tree := if (hd ts).1 = 1 then .ok (.mk kind (hd ts).2.1 0 (hd ts).2.2.2 []) ts.tail else .bad (hd ts).2.2.2
section
variable {ts : List Tk} {f : Nat}
theorem pWant_v (w : ByteArray) (ts : List Tk) : pWant w ts = some (vWant w ts) := by unfold pWant vWant; split <;> rfl
theorem pName_v (k : Int) (ts : List Tk) : pName k ts = some (vName k ts) := by unfold pName vName; split <;> rfl
theorem pNamesL_v (acc : List Tree) (hg : Good ts) (hf : 16 * ts.length + 1 ≤ f) : pNamesL f acc ts = some (vNamesL acc ts) := val_up (p := fun f => pNamesL f acc ts) (fun f => le_namesL f acc ts) (tot_namesL _ _ _ hg hf) (tot_namesL _ _ _ hg (by unfold fu; omega))
theorem pExp_v {least : Int} (hl : 0 ≤ least) (hg : Good ts) (hf : 16 * ts.length + 5 ≤ f) : pExp f least ts = some (vExp least ts) := val_up (p := fun f => pExp f least ts) (fun f => (leE f).exp _ _) ((totE _).exp _ _ hl hg hf) ((totE _).exp _ _ hl hg (by unfold fu; omega))
theorem pLoop_v {least : Int} (n : Tree) (hl : 0 ≤ least) (hg : Good ts) (hf : 16 * ts.length + 1 ≤ f) : pLoop f least n ts = some (vLoop least n ts) := val_up (p := fun f => pLoop f least n ts) (fun f => (leE f).loop _ _ _) ((totE _).loop _ _ _ hl hg hf) ((totE _).loop _ _ _ hl hg (by unfold fu; omega))
theorem pOperand_v (hg : Good ts) (hf : 16 * ts.length + 4 ≤ f) : pOperand f ts = some (vOperand ts) := val_up (p := fun f => pOperand f ts) (fun f => (leE f).operand _) ((totE _).operand _ hg hf) ((totE _).operand _ hg (by unfold fu; omega))
theorem pFields_v (acc : List Tree) (hg : Good ts) (hf : 16 * ts.length + 7 ≤ f) : pFields f acc ts = some (vFields acc ts) := val_up (p := fun f => pFields f acc ts) (fun f => (leE f).fields _ _) ((totE _).fields _ _ hg hf) ((totE _).fields _ _ hg (by unfold fu; omega))
theorem pField_v (hg : Good ts) (hf : 16 * ts.length + 6 ≤ f) : pField f ts = some (vField ts) := val_up (p := fun f => pField f ts) (fun f => (leE f).field _) ((totE _).field _ hg hf) ((totE _).field _ hg (by unfold fu; omega))
theorem pSuffixed_v (hg : Good ts) (hf : 16 * ts.length + 3 ≤ f) : pSuffixed f ts = some (vSuffixed ts) := val_up (p := fun f => pSuffixed f ts) (fun f => (leE f).suffixed _) ((totE _).suffixed _ hg hf) ((totE _).suffixed _ hg (by unfold fu; omega))
theorem pSufL_v (at_ : Int) (n : Tree) (hg : Good ts) (hf : 16 * ts.length + 1 ≤ f) : pSufL f at_ n ts = some (vSufL at_ n ts) := val_up (p := fun f => pSufL f at_ n ts) (fun f => (leE f).sufL _ _ _) ((totE _).sufL _ _ _ hg hf) ((totE _).sufL _ _ _ hg (by unfold fu; omega))
theorem pExps_v (hg : Good ts) (hf : 16 * ts.length + 6 ≤ f) : pExps f ts = some (vExps ts) := val_up (p := fun f => pExps f ts) (fun f => (leE f).exps _) ((totE _).exps _ hg hf) ((totE _).exps _ hg (by unfold fu; omega))
theorem pExpsL_v (acc : List Tree) (hg : Good ts) (hf : 16 * ts.length + 1 ≤ f) : pExpsL f acc ts = some (vExpsL acc ts) := val_up (p := fun f => pExpsL f acc ts) (fun f => (leE f).expsL _ _) ((totE _).expsL _ _ hg hf) ((totE _).expsL _ _ hg (by unfold fu; omega))
theorem pBlock_v (c : Bool) (hg : Good ts) (hf : 16 * ts.length + 9 ≤ f) : pBlock f c ts = some (vBlock c ts) := val_up (p := fun f => pBlock f c ts) (fun f => (leS f).block _ _) ((totS _).block _ _ hg hf) ((totS _).block _ _ hg (by unfold fu; omega))
theorem pBlockL_v (c : Bool) (at_ : Int) (acc : List Tree) (hg : Good ts) (hf : 16 * ts.length + 8 ≤ f) : pBlockL f c at_ acc ts = some (vBlockL c at_ acc ts) := val_up (p := fun f => pBlockL f c at_ acc ts) (fun f => (leS f).blockL _ _ _ _) ((totS _).blockL _ _ _ _ hg hf) ((totS _).blockL _ _ _ _ hg (by unfold fu; omega))
theorem pFunction_v (h6 : (hd ts).1 ≠ 6) (hg : Good ts) (hf : 16 * ts.length + 7 ≤ f) : pFunction f ts = some (vFunction ts) := val_up (p := fun f => pFunction f ts) (fun f => (leS f).function _) ((totS _).function _ h6 hg hf) ((totS _).function _ h6 hg (by unfold fu; omega))
theorem pBody_v (hg : Good ts) (hf : 16 * ts.length + 6 ≤ f) : pBody f ts = some (vBody ts) := val_up (p := fun f => pBody f ts) (fun f => (leS f).body _) ((totS _).body _ hg hf) ((totS _).body _ hg (by unfold fu; omega))
theorem pStat_v (hg : Good ts) (hf : 16 * ts.length + 7 ≤ f) : pStat f ts = some (vStat ts) := val_up (p := fun f => pStat f ts) (fun f => (leS f).stat _) ((totS _).stat _ hg hf) ((totS _).stat _ hg (by unfold fu; omega))
theorem pBranches_v (acc : List Tree) (hg : Good ts) (hf : 16 * ts.length + 6 ≤ f) : pBranches f acc ts = some (vBranches acc ts) := val_up (p := fun f => pBranches f acc ts) (fun f => (leS f).branches _ _) ((totS _).branches _ _ hg hf) ((totS _).branches _ _ hg (by unfold fu; omega))
theorem pFor_v (at_ : Int) (hg : Good ts) (hf : 16 * ts.length + 1 ≤ f) : pFor f at_ ts = some (vFor at_ ts) := val_up (p := fun f => pFor f at_ ts) (fun f => (leS f).for_ _ _) ((totS _).for_ _ _ hg hf) ((totS _).for_ _ _ hg (by unfold fu; omega))
theorem pPlain_v (hg : Good ts) (hf : 16 * ts.length + 6 ≤ f) : pPlain f ts = some (vPlain ts) := val_up (p := fun f => pPlain f ts) (fun f => (leS f).plain _) ((totS _).plain _ hg hf) ((totS _).plain _ hg (by unfold fu; omega))
theorem pTargets_v (acc : List Tree) (e : Tree) (hg : Good ts) (hf : 16 * ts.length + 1 ≤ f) : pTargets f acc e ts = some (vTargets acc e ts) := val_up (p := fun f => pTargets f acc e ts) (fun f => (leS f).targets _ _ _) ((totS _).targets _ _ _ hg hf) ((totS _).targets _ _ _ hg (by unfold fu; omega))
theorem fWant (w : ByteArray) (hg : Good ts) : Fwd 1 ts (vWant w ts) := step_want w ts hg _ (pWant_v w ts)
theorem fName (k : Int) (hg : Good ts) : Fwd 1 ts (vName k ts) := step_name k ts hg _ (pName_v k ts)
theorem fNamesL (acc : List Tree) (hg : Good ts) : Fwd 0 ts (vNamesL acc ts) := step_namesL _ _ ts hg _ (pNamesL_v acc hg (by unfold fu; omega : _ ≤ fu ts))
theorem fExp {least : Int} (hl : 0 ≤ least) (hg : Good ts) : Fwd 1 ts (vExp least ts) := (stepE _).exp _ _ hg _ (pExp_v hl hg (by unfold fu; omega : _ ≤ fu ts))
theorem fOperand (hg : Good ts) : Fwd 1 ts (vOperand ts) := (stepE _).operand _ hg _ (pOperand_v hg (by unfold fu; omega : _ ≤ fu ts))
theorem fFields (acc : List Tree) (hg : Good ts) : Fwd 1 ts (vFields acc ts) := (stepE _).fields _ _ hg _ (pFields_v acc hg (by unfold fu; omega : _ ≤ fu ts))
theorem fField (hg : Good ts) : Fwd 1 ts (vField ts) := (stepE _).field _ hg _ (pField_v hg (by unfold fu; omega : _ ≤ fu ts))
theorem fSuffixed (hg : Good ts) : Fwd 1 ts (vSuffixed ts) := (stepE _).suffixed _ hg _ (pSuffixed_v hg (by unfold fu; omega : _ ≤ fu ts))
theorem fExps (hg : Good ts) : Fwd 1 ts (vExps ts) := (stepE _).exps _ hg _ (pExps_v hg (by unfold fu; omega : _ ≤ fu ts))
theorem fBlock (c : Bool) (hg : Good ts) : Fwd 0 ts (vBlock c ts) := (stepS _).block _ _ hg _ (pBlock_v c hg (by unfold fu; omega : _ ≤ fu ts))
theorem fFunction (h6 : (hd ts).1 ≠ 6) (hg : Good ts) : Fwd 1 ts (vFunction ts) := (stepS _).function _ h6 hg _ (pFunction_v h6 hg (by unfold fu; omega : _ ≤ fu ts))
theorem fBody (hg : Good ts) : Fwd 1 ts (vBody ts) := (stepS _).body _ hg _ (pBody_v hg (by unfold fu; omega : _ ≤ fu ts))
theorem fStat (hg : Good ts) : Fwd 1 ts (vStat ts) := (stepS _).stat _ hg _ (pStat_v hg (by unfold fu; omega : _ ≤ fu ts))
theorem fBranches (acc : List Tree) (hg : Good ts) : Fwd 1 ts (vBranches acc ts) := (stepS _).branches _ _ hg _ (pBranches_v acc hg (by unfold fu; omega : _ ≤ fu ts))
theorem fTargets (acc : List Tree) (e : Tree) (hg : Good ts) : Fwd 0 ts (vTargets acc e ts) := (stepS _).targets _ _ _ hg _ (pTargets_v acc e hg (by unfold fu; omega : _ ≤ fu ts))
end
def PV.then {α β : Type} : PV α → (α → List Tk → PV β) → PV β
 | .ok a r, f => f a r
 | .bad i, _ => .bad i
section
variable {α β : Type} {n : Nat} {ts : List Tk}
theorem eq_bind {x : Option (PV α)} {vx : PV α} {f : α → List Tk → Option (PV β)} {g : α → List Tk → PV β} (hx : x = some vx) (hw : Fwd n ts vx) (hf : ∀ a r, Good r → r.length + n ≤ ts.length → f a r = some (g a r)) : PV.bind x f = some (vx.then g) := by
 subst hx
 cases vx with
 | bad i => rfl
 | ok a r => exact hf a r hw.1 hw.2.1
theorem eq_if {c : Prop} [Decidable c] {y z : Option α} {y' z' : α} (h1 : c → y = some y') (h2 : ¬ c → z = some z') : (if c then y else z) = some (if c then y' else z') := by
 by_cases h : c
 ·rw [if_pos h, if_pos h]; exact h1 h
 ·rw [if_neg h, if_neg h]; exact h2 h
theorem fwd_if {c : Prop} [Decidable c] {y z : PV α} (h1 : c → Fwd n ts y) (h2 : ¬ c → Fwd n ts z) : Fwd n ts (if c then y else z) := by
 by_cases h : c
 ·rw [if_pos h]; exact h1 h
 ·rw [if_neg h]; exact h2 h
theorem fwd_weak {m : Nat} {x : PV α} (h : Fwd n ts x) (hm : m ≤ n) : Fwd m ts x := by
 cases x with
 | bad => trivial
 | ok a r => exact ⟨h.1, by have := h.2.1; omega, h.2.2⟩
theorem fwd_ok {a : α} (hg : Good ts) : Fwd 0 ts (.ok a ts) := ⟨hg, Nat.le_refl _, List.suffix_refl _⟩
theorem fwd_tail {x : PV α} (hg : Good ts) (h6 : (hd ts).1 ≠ 6) (h : Fwd n ts.tail x) : Fwd (n + 1) ts x := by
 obtain ⟨g1, g2, g3⟩ := hg.tail h6
 cases x with
 | bad => trivial
 | ok a r => exact ⟨h.1, by have := h.2.1; omega, h.2.2.trans g3⟩
theorem fwd_then {m : Nat} {x : PV α} {f : α → List Tk → PV β} (h1 : Fwd n ts x) (h2 : ∀ a r, Good r → r.length + n ≤ ts.length → Fwd m r (f a r)) : Fwd (n + m) ts (x.then f) := by
 cases x with
 | bad => trivial
 | ok a r =>
  obtain ⟨g1, g2, g3⟩ := h1
  have := h2 a r g1 g2
  show Fwd (n + m) ts (f a r)
  cases hf : f a r with
  | bad => trivial
  | ok b s =>
   rw [hf] at this
   exact ⟨this.1, by have := this.2.1; omega, this.2.2.trans g3⟩
end
section
variable {ts : List Tk}
theorem or3 {a b c : Bool} {ts : List Tk} {x y z : ByteArray} (ha : a = isH x ts) (hb : b = isH y ts) (hc : c = isH z ts) (h : (a || b || c) = true) : (hd ts).1 ≠ 6 := by
 subst ha hb hc
 simp only [Bool.or_eq_true] at h
 rcases h with (h | h) | h <;> exact isH_ne h
theorem vNamesL_eq (acc : List Tree) (hg : Good ts) : vNamesL acc ts = if isH kComma ts then (vName 6 ts.tail).then fun n r => vNamesL (acc ++ [n]) r else .ok acc ts := by
 have h := pNamesL_v acc hg (f := fu ts + 1) (by unfold fu; omega)
 rw [pNamesL] at h
 refine Option.some.inj (h.symm.trans (eq_if (fun hc => ?_) fun _ => rfl))
 obtain ⟨g1, g2, _⟩ := hg.tail (isH_ne hc)
 exact eq_bind (pName_v _ _) (fName 6 g1) fun a r hr hn => pNamesL_v _ hr (by unfold fu; omega)
def vNames (ts : List Tk) : PV (List Tree) := (vName 6 ts).then fun n r => vNamesL [n] r
theorem pNames_v {f : Nat} (hg : Good ts) (hf : 16 * ts.length + 1 ≤ f) : pNames f ts = some (vNames ts) := eq_bind (pName_v _ _) (fName 6 hg) fun a r hr hn => pNamesL_v _ hr (by omega)
theorem fNames (hg : Good ts) : Fwd 1 ts (vNames ts) := fwd_then (fName 6 hg) fun _ _ hr _ => fNamesL _ hr
theorem vExp_eq {least : Int} (hl : 0 ≤ least) (hg : Good ts) : vExp least ts = (vOperand ts).then fun n r => vLoop least n r := by
 have h := pExp_v hl hg (f := fu ts + 1) (by unfold fu; omega)
 rw [pExp] at h
 exact Option.some.inj (h.symm.trans (eq_bind (pOperand_v hg (by unfold fu; omega)) (fOperand hg) fun a r hr hn => pLoop_v _ hl hr (by unfold fu; omega)))
theorem vLoop_eq {least : Int} (n : Tree) (hl : 0 ≤ least) (hg : Good ts) : vLoop least n ts = if bindsH ts ≤ least then .ok n ts else (vExp (if bindsH ts = 4 then 3 else bindsH ts) ts.tail).then fun m r => vLoop least (.mk 11 (hd ts).2.1 0 n.at_ [n, m]) r := by
 have h := pLoop_v n hl hg (f := fu ts + 1) (by unfold fu; omega)
 rw [pLoop] at h
 refine Option.some.inj (h.symm.trans (eq_if (fun _ => rfl) fun hb => ?_))
 obtain ⟨g1, g2, _⟩ := hg.tail (bindsH_ne (by omega))
 have hq : (0 : Int) ≤ (if bindsH ts = 4 then 3 else bindsH ts) := by split <;> omega
 exact eq_bind (pExp_v hq g1 (by unfold fu; omega)) (fExp hq g1) fun a r hr hn => pLoop_v _ hl hr (by unfold fu; omega)
theorem vOperand_eq (hg : Good ts) : vOperand ts =
  if (hd ts).1 = 3 then .ok (.mk 4 noB (hd ts).2.2.1 (hd ts).2.2.2 []) ts.tail
  else if (hd ts).1 = 4 then .ok (.mk 5 (hd ts).2.1 0 (hd ts).2.2.2 []) ts.tail
  else if isH kNil ts then .ok (.mk 1 noB 0 (hd ts).2.2.2 []) ts.tail
  else if isH kTrue ts then .ok (.mk 2 noB 0 (hd ts).2.2.2 []) ts.tail
  else if isH kFalse ts then .ok (.mk 3 noB 0 (hd ts).2.2.2 []) ts.tail
  else if isH kNot ts || isH kHash ts || isH kMinus ts then (vExp 7 ts.tail).then fun m r => .ok (.mk 10 (hd ts).2.1 0 (hd ts).2.2.2 [m]) r
  else if isH kLc ts then (vFields [] ts.tail).then fun l r => .ok (.mk 12 noB 0 (hd ts).2.2.2 l) r
  else vSuffixed ts := by
 have h := pOperand_v hg (f := fu ts + 1) (by unfold fu; omega)
 rw [pOperand] at h
 refine Option.some.inj (h.symm.trans (eq_if (fun _ => rfl) fun _ => eq_if (fun _ => rfl) fun _ => eq_if (fun _ => rfl) fun _ => eq_if (fun _ => rfl) fun _ => eq_if (fun _ => rfl) fun _ => eq_if (fun hc => ?_) fun _ => eq_if (fun hc => ?_) fun _ => pSuffixed_v hg (by unfold fu; omega)))
 ·obtain ⟨g1, g2, _⟩ := hg.tail (or3 rfl rfl rfl hc)
  exact eq_bind (pExp_v (by omega) g1 (by unfold fu; omega)) (fExp (by omega) g1) fun _ _ _ _ => rfl
 ·obtain ⟨g1, g2, _⟩ := hg.tail (isH_ne hc)
  exact eq_bind (pFields_v _ g1 (by unfold fu; omega)) (fFields _ g1) fun _ _ _ _ => rfl
theorem vFields_eq (acc : List Tree) (hg : Good ts) : vFields acc ts =
  if isH kRc ts then .ok acc ts.tail
  else (vField ts).then fun x r =>
   if isH kComma r then vFields (acc ++ [x]) r.tail
   else if isH kSemi r then vFields (acc ++ [x]) r.tail
   else (vWant kRc r).then fun _ r => .ok (acc ++ [x]) r := by
 have h := pFields_v acc hg (f := fu ts + 1) (by unfold fu; omega)
 rw [pFields] at h
 refine Option.some.inj (h.symm.trans (eq_if (fun _ => rfl) fun _ => eq_bind (pField_v hg (by unfold fu; omega)) (fField hg) fun x r hr hn => eq_if (fun hc => ?_) fun _ => eq_if (fun hc => ?_) fun _ => eq_bind (pWant_v _ _) (fWant _ hr) fun _ _ _ _ => rfl))
 ·obtain ⟨g1, g2, _⟩ := hr.tail (isH_ne hc)
  exact pFields_v _ g1 (by unfold fu; omega)
 ·obtain ⟨g1, g2, _⟩ := hr.tail (isH_ne hc)
  exact pFields_v _ g1 (by unfold fu; omega)
theorem vField_eq (hg : Good ts) : vField ts =
  if isH kLb ts then
   (vExp 0 ts.tail).then fun k r => (vWant kRb r).then fun _ r => (vWant kEq r).then fun _ r => (vExp 0 r).then fun v r => .ok (.mk 14 noB 0 (hd ts).2.2.2 [k, v]) r
  else if (hd ts).1 = 1 ∧ (hd ts.tail).1 = 5 ∧ (hd ts.tail).2.1.toList = kEq.toList then
   (vExp 0 ts.tail.tail).then fun v r => .ok (.mk 14 noB 0 (hd ts).2.2.2 [.mk 5 (hd ts).2.1 0 (hd ts).2.2.2 [], v]) r
  else (vExp 0 ts).then fun v r => .ok (.mk 13 noB 0 (hd ts).2.2.2 [v]) r := by
 have h := pField_v hg (f := fu ts + 1) (by unfold fu; omega)
 rw [pField] at h
 refine Option.some.inj (h.symm.trans (eq_if (fun hc => ?_) fun _ => eq_if (fun hc => ?_) fun _ => eq_bind (pExp_v (by omega) hg (by unfold fu; omega)) (fExp (by omega) hg) fun _ _ _ _ => rfl))
 ·obtain ⟨g1, g2, _⟩ := hg.tail (isH_ne hc)
  exact eq_bind (pExp_v (by omega) g1 (by unfold fu; omega)) (fExp (by omega) g1) fun _ r hr hn => eq_bind (pWant_v _ _) (fWant _ hr) fun _ r2 hr2 hn2 => eq_bind (pWant_v _ _) (fWant _ hr2) fun _ r3 hr3 hn3 => eq_bind (pExp_v (by omega) hr3 (by unfold fu; omega)) (fExp (by omega) hr3) fun _ _ _ _ => rfl
 ·obtain ⟨h1, h2, _⟩ := hc
  obtain ⟨g1, g2, _⟩ := hg.tail (by omega)
  obtain ⟨g3, g4, _⟩ := g1.tail (by omega)
  exact eq_bind (pExp_v (by omega) g3 (by unfold fu; omega)) (fExp (by omega) g3) fun _ _ _ _ => rfl
theorem vSuffixed_eq (hg : Good ts) : vSuffixed ts =
  if isH kLp ts then (vExp 0 ts.tail).then fun e r => (vWant kRp r).then fun _ r => vSufL (hd ts).2.2.2 (.mk 9 noB 0 (hd ts).2.2.2 [e]) r
  else (vName 6 ts).then fun n r => vSufL (hd ts).2.2.2 n r := by
 have h := pSuffixed_v hg (f := fu ts + 1) (by unfold fu; omega)
 rw [pSuffixed] at h
 refine Option.some.inj (h.symm.trans (eq_if (fun hc => ?_) fun _ => eq_bind (pName_v _ _) (fName _ hg) fun _ r hr hn => pSufL_v _ _ hr (by unfold fu; omega)))
 obtain ⟨g1, g2, _⟩ := hg.tail (isH_ne hc)
 exact eq_bind (pExp_v (by omega) g1 (by unfold fu; omega)) (fExp (by omega) g1) fun _ r hr hn => eq_bind (pWant_v _ _) (fWant _ hr) fun _ r2 hr2 hn2 => pSufL_v _ _ hr2 (by unfold fu; omega)
def vArgs (ts : List Tk) : PV (List Tree) := if isH kRp ts then .ok [] ts else vExps ts
theorem fArgs (hg : Good ts) : Fwd 0 ts (vArgs ts) := fwd_if (fun _ => fwd_ok hg) fun _ => fwd_weak (fExps hg) (by omega)
theorem vSufL_eq (at_ : Int) (n : Tree) (hg : Good ts) : vSufL at_ n ts =
  if isH kLb ts then (vExp 0 ts.tail).then fun e r => (vWant kRb r).then fun _ r => vSufL at_ (.mk 7 noB 0 at_ [n, e]) r
  else if isH kDot ts then (vName 5 ts.tail).then fun e r => vSufL at_ (.mk 7 noB 0 at_ [n, e]) r
  else if isH kLp ts then (vArgs ts.tail).then fun l r => (vWant kRp r).then fun _ r => vSufL at_ (.mk 8 noB 0 at_ (n :: l)) r
  else .ok n ts := by
 have h := pSufL_v at_ n hg (f := fu ts + 1) (by unfold fu; omega)
 rw [pSufL] at h
 refine Option.some.inj (h.symm.trans (eq_if (fun hc => ?_) fun _ => eq_if (fun hc => ?_) fun _ => eq_if (fun hc => ?_) fun _ => rfl))
 ·obtain ⟨g1, g2, _⟩ := hg.tail (isH_ne hc)
  exact eq_bind (pExp_v (by omega) g1 (by unfold fu; omega)) (fExp (by omega) g1) fun _ r hr hn => eq_bind (pWant_v _ _) (fWant _ hr) fun _ r2 hr2 hn2 => pSufL_v _ _ hr2 (by unfold fu; omega)
 ·obtain ⟨g1, g2, _⟩ := hg.tail (isH_ne hc)
  exact eq_bind (pName_v _ _) (fName _ g1) fun _ r hr hn => pSufL_v _ _ hr (by unfold fu; omega)
 ·obtain ⟨g1, g2, _⟩ := hg.tail (isH_ne hc)
  exact eq_bind (eq_if (fun _ => rfl) fun _ => pExps_v g1 (by unfold fu; omega)) (fArgs g1) fun _ r hr hn => eq_bind (pWant_v _ _) (fWant _ hr) fun _ r2 hr2 hn2 => pSufL_v _ _ hr2 (by unfold fu; omega)
theorem vExps_eq (hg : Good ts) : vExps ts = (vExp 0 ts).then fun e r => vExpsL [e] r := by
 have h := pExps_v hg (f := fu ts + 1) (by unfold fu; omega)
 rw [pExps] at h
 exact Option.some.inj (h.symm.trans (eq_bind (pExp_v (by omega) hg (by unfold fu; omega)) (fExp (by omega) hg) fun a r hr hn => pExpsL_v _ hr (by unfold fu; omega)))
theorem vExpsL_eq (acc : List Tree) (hg : Good ts) : vExpsL acc ts = if isH kComma ts then (vExp 0 ts.tail).then fun e r => vExpsL (acc ++ [e]) r else .ok acc ts := by
 have h := pExpsL_v acc hg (f := fu ts + 1) (by unfold fu; omega)
 rw [pExpsL] at h
 refine Option.some.inj (h.symm.trans (eq_if (fun hc => ?_) fun _ => rfl))
 obtain ⟨g1, g2, _⟩ := hg.tail (isH_ne hc)
 exact eq_bind (pExp_v (by omega) g1 (by unfold fu; omega)) (fExp (by omega) g1) fun a r hr hn => pExpsL_v _ hr (by unfold fu; omega)
theorem vBlock_eq (c : Bool) (hg : Good ts) : vBlock c ts = vBlockL c (hd ts).2.2.2 [] ts := by
 have h := pBlock_v c hg (f := fu ts + 1) (by unfold fu; omega)
 rw [pBlock] at h
 exact Option.some.inj (h.symm.trans (pBlockL_v _ _ _ hg (by unfold fu; omega)))
def vRets (ts : List Tk) : PV (List Tree) := if endsH ts || isH kSemi ts then .ok [] ts else vExps ts
theorem fRets (hg : Good ts) : Fwd 0 ts (vRets ts) := fwd_if (fun _ => fwd_ok hg) fun _ => fwd_weak (fExps hg) (by omega)
theorem vBlockL_eq (c : Bool) (at_ : Int) (acc : List Tree) (hg : Good ts) : vBlockL c at_ acc ts =
  if isH kSemi ts then vBlockL c at_ acc ts.tail
  else if isH kReturn ts then (vRets ts.tail).then fun l r => .ok (.mk 20 noB 0 at_ (acc ++ [.mk 30 noB 0 (hd ts).2.2.2 l])) (if isH kSemi r then r.tail else r)
  else if c && isH kFunction ts then (vFunction ts).then fun x r => vBlockL c at_ (acc ++ [x]) r
  else if endsH ts then .ok (.mk 20 noB 0 at_ acc) ts
  else (vStat ts).then fun x r => vBlockL c at_ (acc ++ [x]) r := by
 have h := pBlockL_v c at_ acc hg (f := fu ts + 1) (by unfold fu; omega)
 rw [pBlockL] at h
 refine Option.some.inj (h.symm.trans (eq_if (fun hc => ?_) fun _ => eq_if (fun hc => ?_) fun _ => eq_if (fun hc => ?_) fun _ => eq_if (fun _ => rfl) fun _ => ?_))
 ·obtain ⟨g1, g2, _⟩ := hg.tail (isH_ne hc)
  exact pBlockL_v _ _ _ g1 (by unfold fu; omega)
 ·obtain ⟨g1, g2, _⟩ := hg.tail (isH_ne hc)
  exact eq_bind (eq_if (fun _ => rfl) fun _ => pExps_v g1 (by unfold fu; omega)) (fRets g1) fun _ r hr hn => rfl
 ·simp only [Bool.and_eq_true] at hc
  exact eq_bind (pFunction_v (isH_ne hc.2) hg (by unfold fu; omega)) (fFunction (isH_ne hc.2) hg) fun _ r hr hn => pBlockL_v _ _ _ hr (by unfold fu; omega)
 ·exact eq_bind (pStat_v hg (by unfold fu; omega)) (fStat hg) fun _ r hr hn => pBlockL_v _ _ _ hr (by unfold fu; omega)
def vParams (ts : List Tk) : PV (List Tree) := if isH kRp ts then .ok [] ts else vNames ts
theorem fParams (hg : Good ts) : Fwd 0 ts (vParams ts) := fwd_if (fun _ => fwd_ok hg) fun _ => fwd_weak (fNames hg) (by omega)
theorem vFunction_eq (h6 : (hd ts).1 ≠ 6) (hg : Good ts) : vFunction ts =
  (vName 6 ts.tail).then fun nm r => (vWant kLp r).then fun _ r => (vParams r).then fun ps r => (vWant kRp r).then fun _ r => (vBlock false r).then fun b r => (vWant kEnd r).then fun _ r => .ok (.mk 31 nm.text ps.length (hd ts).2.2.2 (ps ++ [b])) r := by
 have h := pFunction_v h6 hg (f := fu ts + 1) (by unfold fu; omega)
 rw [pFunction] at h
 obtain ⟨g1, g2, _⟩ := hg.tail h6
 exact Option.some.inj (h.symm.trans (eq_bind (pName_v _ _) (fName _ g1) fun _ r hr hn => eq_bind (pWant_v _ _) (fWant _ hr) fun _ r2 hr2 hn2 => eq_bind (eq_if (fun _ => rfl) fun _ => pNames_v hr2 (by unfold fu; omega)) (fParams hr2) fun _ r3 hr3 hn3 => eq_bind (pWant_v _ _) (fWant _ hr3) fun _ r4 hr4 hn4 => eq_bind (pBlock_v _ hr4 (by unfold fu; omega)) (fBlock _ hr4) fun _ r5 hr5 hn5 => eq_bind (pWant_v _ _) (fWant _ hr5) fun _ _ _ _ => rfl))
theorem vBody_eq (hg : Good ts) : vBody ts = (vWant kDo ts).then fun _ r => (vBlock false r).then fun b r => (vWant kEnd r).then fun _ r => .ok b r := by
 have h := pBody_v hg (f := fu ts + 1) (by unfold fu; omega)
 rw [pBody] at h
 exact Option.some.inj (h.symm.trans (eq_bind (pWant_v _ _) (fWant _ hg) fun _ r2 hr2 hn2 => eq_bind (pBlock_v _ hr2 (by unfold fu; omega)) (fBlock _ hr2) fun _ r5 hr5 hn5 => eq_bind (pWant_v _ _) (fWant _ hr5) fun _ _ _ _ => rfl))
def vInit (ts : List Tk) : PV (List Tree) := if isH kEq ts then vExps ts.tail else .ok [] ts
theorem fInit (hg : Good ts) : Fwd 0 ts (vInit ts) := fwd_if (fun hc => fwd_weak (fwd_tail hg (isH_ne hc) (fExps (hg.tail (isH_ne hc)).1)) (by omega)) fun _ => fwd_ok hg
theorem vStat_eq (hg : Good ts) : vStat ts =
  if isH kDo ts then (vBody ts).then fun b r => .ok (.mk 28 noB 0 (hd ts).2.2.2 [b]) r
  else if isH kWhile ts then (vExp 0 ts.tail).then fun e r => (vBody r).then fun b r => .ok (.mk 25 noB 0 (hd ts).2.2.2 [e, b]) r
  else if isH kIf ts then (vBranches [] ts.tail).then fun l r => .ok (.mk 24 noB 0 (hd ts).2.2.2 l) r
  else if isH kFor ts then vFor (hd ts).2.2.2 ts.tail
  else if isH kLocal ts then (vNames ts.tail).then fun l r => (vInit r).then fun es r => .ok (.mk 21 noB l.length (hd ts).2.2.2 (l ++ es)) r
  else if isH kBreak ts then .ok (.mk 29 noB 0 (hd ts).2.2.2 []) ts.tail
  else vPlain ts := by
 have h := pStat_v hg (f := fu ts + 1) (by unfold fu; omega)
 rw [pStat] at h
 refine Option.some.inj (h.symm.trans (eq_if (fun hc => ?_) fun _ => eq_if (fun hc => ?_) fun _ => eq_if (fun hc => ?_) fun _ => eq_if (fun hc => ?_) fun _ => eq_if (fun hc => ?_) fun _ => eq_if (fun hc => rfl) fun _ => pPlain_v hg (by unfold fu; omega)))
 ·exact eq_bind (pBody_v hg (by unfold fu; omega)) (fBody hg) fun _ _ _ _ => rfl
 ·obtain ⟨g1, g2, _⟩ := hg.tail (isH_ne hc)
  exact eq_bind (pExp_v (by omega) g1 (by unfold fu; omega)) (fExp (by omega) g1) fun _ r hr hn => eq_bind (pBody_v hr (by unfold fu; omega)) (fBody hr) fun _ _ _ _ => rfl
 ·obtain ⟨g1, g2, _⟩ := hg.tail (isH_ne hc)
  exact eq_bind (pBranches_v _ g1 (by unfold fu; omega)) (fBranches _ g1) fun _ _ _ _ => rfl
 ·obtain ⟨g1, g2, _⟩ := hg.tail (isH_ne hc)
  exact pFor_v _ g1 (by unfold fu; omega)
 ·obtain ⟨g1, g2, _⟩ := hg.tail (isH_ne hc)
  refine eq_bind (pNames_v g1 (by unfold fu; omega)) (fNames g1) fun _ r hr hn => eq_bind (eq_if (fun hc => ?_) fun _ => rfl) (fInit hr) fun _ _ _ _ => rfl
  obtain ⟨g3, g4, _⟩ := hr.tail (isH_ne hc)
  exact pExps_v g3 (by unfold fu; omega)
theorem vBranches_eq (acc : List Tree) (hg : Good ts) : vBranches acc ts =
  (vExp 0 ts).then fun e r => (vWant kThen r).then fun _ r => (vBlock false r).then fun b r =>
   if isH kElseif r then vBranches (acc ++ [e] ++ [b]) r.tail
   else if isH kElse r then (vBlock false r.tail).then fun c r => (vWant kEnd r).then fun _ r => .ok (acc ++ [e] ++ [b] ++ [c]) r
   else (vWant kEnd r).then fun _ r => .ok (acc ++ [e] ++ [b]) r := by
 have h := pBranches_v acc hg (f := fu ts + 1) (by unfold fu; omega)
 rw [pBranches] at h
 refine Option.some.inj (h.symm.trans (eq_bind (pExp_v (by omega) hg (by unfold fu; omega)) (fExp (by omega) hg) fun _ r hr hn => eq_bind (pWant_v _ _) (fWant _ hr) fun _ r2 hr2 hn2 => eq_bind (pBlock_v _ hr2 (by unfold fu; omega)) (fBlock _ hr2) fun _ r3 hr3 hn3 => eq_if (fun hc => ?_) fun _ => eq_if (fun hc => ?_) fun _ => eq_bind (pWant_v _ _) (fWant _ hr3) fun _ _ _ _ => rfl))
 ·obtain ⟨g1, g2, _⟩ := hr3.tail (isH_ne hc)
  exact pBranches_v _ g1 (by unfold fu; omega)
 ·obtain ⟨g1, g2, _⟩ := hr3.tail (isH_ne hc)
  exact eq_bind (pBlock_v _ g1 (by unfold fu; omega)) (fBlock _ g1) fun _ r4 hr4 hn4 => eq_bind (pWant_v _ _) (fWant _ hr4) fun _ _ _ _ => rfl
def vStep (ts : List Tk) : PV (List Tree) := if isH kComma ts then (vExp 0 ts.tail).then fun c r => .ok [c] r else .ok [] ts
theorem fStep (hg : Good ts) : Fwd 0 ts (vStep ts) := fwd_if (fun hc => fwd_weak (fwd_tail hg (isH_ne hc) (fwd_then (fExp (by omega) (hg.tail (isH_ne hc)).1) fun _ _ hr _ => fwd_ok hr)) (by omega)) fun _ => fwd_ok hg
theorem vFor_eq (at_ : Int) (hg : Good ts) : vFor at_ ts =
  (vName 6 ts).then fun n r =>
   if isH kEq r then
    (vExp 0 r.tail).then fun a r => (vWant kComma r).then fun _ r => (vExp 0 r).then fun b r => (vStep r).then fun cs r => (vBody r).then fun bd r => .ok (.mk 26 noB 0 at_ ([n] ++ [a] ++ [b] ++ cs ++ [bd])) r
   else
    (vNamesL [n] r).then fun l r => (vWant kIn r).then fun _ r => (vExps r).then fun es r => (vBody r).then fun bd r => .ok (.mk 27 noB l.length at_ (l ++ es ++ [bd])) r := by
 have h := pFor_v at_ hg (f := fu ts + 1) (by unfold fu; omega)
 rw [pFor] at h
 refine Option.some.inj (h.symm.trans (eq_bind (pName_v _ _) (fName _ hg) fun n r hr hn => eq_if (fun hc => ?_) fun _ => ?_))
 ·obtain ⟨g1, g2, _⟩ := hr.tail (isH_ne hc)
  refine eq_bind (pExp_v (by omega) g1 (by unfold fu; omega)) (fExp (by omega) g1) fun _ r2 hr2 hn2 => eq_bind (pWant_v _ _) (fWant _ hr2) fun _ r3 hr3 hn3 => eq_bind (pExp_v (by omega) hr3 (by unfold fu; omega)) (fExp (by omega) hr3) fun _ r4 hr4 hn4 => eq_bind (vx := vStep r4) (eq_if (fun hc => ?_) fun _ => rfl) (fStep hr4) fun _ r5 hr5 hn5 => eq_bind (pBody_v hr5 (by unfold fu; omega)) (fBody hr5) fun _ _ _ _ => rfl
  obtain ⟨g3, g4, _⟩ := hr4.tail (isH_ne hc)
  exact eq_bind (pExp_v (by omega) g3 (by unfold fu; omega)) (fExp (by omega) g3) fun _ _ _ _ => rfl
 ·exact eq_bind (pNamesL_v _ hr (by unfold fu; omega)) (fNamesL _ hr) fun _ r2 hr2 hn2 => eq_bind (pWant_v _ _) (fWant _ hr2) fun _ r3 hr3 hn3 => eq_bind (pExps_v hr3 (by unfold fu; omega)) (fExps hr3) fun _ r4 hr4 hn4 => eq_bind (pBody_v hr4 (by unfold fu; omega)) (fBody hr4) fun _ _ _ _ => rfl
theorem vPlain_eq (hg : Good ts) : vPlain ts =
  (vSuffixed ts).then fun e r =>
   if isH kEq r || isH kComma r then (vTargets [] e r).then fun l r => (vWant kEq r).then fun _ r => (vExps r).then fun es r => .ok (.mk 22 noB l.length e.at_ (l ++ es)) r
   else if e.kind = 8 then .ok (.mk 23 noB 0 e.at_ [e]) r else .bad (hd r).2.2.2 := by
 have h := pPlain_v hg (f := fu ts + 1) (by unfold fu; omega)
 rw [pPlain] at h
 refine Option.some.inj (h.symm.trans (eq_bind (pSuffixed_v hg (by unfold fu; omega)) (fSuffixed hg) fun e r hr hn => eq_if (fun hc => ?_) fun _ => eq_if (fun _ => rfl) fun _ => rfl))
 exact eq_bind (pTargets_v _ _ hr (by unfold fu; omega)) (fTargets _ _ hr) fun _ r2 hr2 hn2 => eq_bind (pWant_v _ _) (fWant _ hr2) fun _ r3 hr3 hn3 => eq_bind (pExps_v hr3 (by unfold fu; omega)) (fExps hr3) fun _ _ _ _ => rfl
theorem vTargets_eq (acc : List Tree) (e : Tree) (hg : Good ts) : vTargets acc e ts =
  if e.kind = 6 ∨ e.kind = 7 then
   if isH kComma ts then (vSuffixed ts.tail).then fun e' r => vTargets (acc ++ [e]) e' r else .ok (acc ++ [e]) ts
  else .bad e.at_ := by
 have h := pTargets_v acc e hg (f := fu ts + 1) (by unfold fu; omega)
 rw [pTargets] at h
 refine Option.some.inj (h.symm.trans (eq_if (fun _ => eq_if (fun hc => ?_) fun _ => rfl) fun _ => rfl))
 obtain ⟨g1, g2, _⟩ := hg.tail (isH_ne hc)
 exact eq_bind (pSuffixed_v g1 (by unfold fu; omega)) (fSuffixed g1) fun _ r hr hn => pTargets_v _ _ hr (by unfold fu; omega)
end
def vAll (ts : List Tk) : PV Tree := (vBlock true ts).then fun b r => if (hd r).1 = 6 then .ok b r else .bad (hd r).2.2.2
end Go.Proofs.YtidiahkobapnjaaGreatDoor
namespace Go.Proofs.YtidiahkobapnjaaGreatDoor
open Go Go.RowKit
theorem then_assoc {α β γ : Type} (x : PV α) (f : α → List Tk → PV β) (g : β → List Tk → PV γ) : (x.then f).then g = x.then fun a r => (f a r).then g := by cases x <;> rfl
theorem then_congr {α β : Type} {n : Nat} {ts : List Tk} {x : PV α} (hw : Fwd n ts x) {f g : α → List Tk → PV β} (h : ∀ a r, Good r → r.length + n ≤ ts.length → f a r = g a r) : x.then f = x.then g := by
 cases x with
 | bad => rfl
 | ok a r => exact h a r hw.1 hw.2.1
theorem then_ok {α β : Type} {x : PV α} {f : α → List Tk → PV β} {b : β} {r : List Tk} (h : x.then f = .ok b r) : ∃ a s, x = .ok a s ∧ f a s = .ok b r := by
 cases x with
 | bad => cases h
 | ok a s => exact ⟨a, s, rfl, h⟩
theorem vLoop_split : ∀ (n : Nat) (least : Int) (x : Tree) (ts : List Tk), ts.length ≤ n → 0 ≤ least → Good ts → vLoop least x ts = (vLoop (least + 1) x ts).then fun y r => vLoop least y r
 | 0, _, _, [], _, _, hg => hg.elim
 | n + 1, least, x, ts, hn, hl, hg => by
  rw [vLoop_eq (least := least + 1) x (by omega) hg]
  by_cases h1 : bindsH ts ≤ least + 1
  ·rw [if_pos h1]; rfl
  ·rw [if_neg h1, vLoop_eq x hl hg, if_neg (by omega), then_assoc]
   obtain ⟨g1, g2, _⟩ := hg.tail (bindsH_ne (by omega))
   have hq : (0 : Int) ≤ (if bindsH ts = 4 then 3 else bindsH ts) := by split <;> omega
   exact then_congr (fExp hq g1) fun a r hr hl2 => vLoop_split n least _ r (by omega) hl hr
theorem vExp_climb {least : Int} {ts : List Tk} (hl : 0 ≤ least) (hg : Good ts) : vExp least ts = (vExp (least + 1) ts).then fun y r => vLoop least y r := by
 rw [vExp_eq hl hg, vExp_eq (least := least + 1) (by omega) hg, then_assoc]
 exact then_congr (fOperand hg) fun a r hr _ => vLoop_split _ _ _ _ (Nat.le_refl _) hl hr
theorem vLoop_stop : ∀ (n : Nat) (least : Int) (x y : Tree) (ts r : List Tk), ts.length ≤ n → 0 ≤ least → Good ts → vLoop least x ts = .ok y r → bindsH r ≤ least
 | 0, _, _, _, [], _, _, _, hg, _ => hg.elim
 | n + 1, least, x, y, ts, r, hn, hl, hg, h => by
  rw [vLoop_eq x hl hg] at h
  split at h
  ·cases h; assumption
  ·rename_i hb
   obtain ⟨a, s, h1, h2⟩ := then_ok h
   obtain ⟨g1, g2, _⟩ := hg.tail (bindsH_ne (by omega))
   have hq : (0 : Int) ≤ (if bindsH ts = 4 then 3 else bindsH ts) := by split <;> omega
   have hf := fExp hq g1
   rw [h1] at hf
   exact vLoop_stop n least _ y s r (by have := hf.2.1; omega) hl hf.1 h2
theorem vExp_stop {least : Int} {ts r : List Tk} {y : Tree} (hl : 0 ≤ least) (hg : Good ts) (h : vExp least ts = .ok y r) : bindsH r ≤ least := by
 rw [vExp_eq hl hg] at h
 obtain ⟨a, s, h1, h2⟩ := then_ok h
 have hf := fOperand hg
 rw [h1] at hf
 exact vLoop_stop _ least a y s r (Nat.le_refl _) hl hf.1 h2
theorem vExp_top {least : Int} {ts : List Tk} (hl : 6 ≤ least) (hg : Good ts) : vExp least ts = vOperand ts := by
 rw [vExp_eq (by omega) hg]
 have : (vOperand ts).then (fun n r => vLoop least n r) = (vOperand ts).then (fun n r => .ok n r) := then_congr (fOperand hg) fun a r hr _ => by
  rw [vLoop_eq a (by omega) hr, if_pos (by have := (bindsH_range r).2; omega)]
 rw [this]
 cases vOperand ts <;> rfl
theorem len_namesL : ∀ (n : Nat) (acc : List Tree) (ts : List Tk), ts.length ≤ n → Good ts → ∀ l r, vNamesL acc ts = .ok l r → l.length + r.length ≤ acc.length + ts.length
 | 0, _, [], _, hg, _, _, _ => hg.elim
 | n + 1, acc, ts, hn, hg, l, r, h => by
  rw [vNamesL_eq acc hg] at h
  split at h
  ·rename_i hc
   obtain ⟨g1, g2, _⟩ := hg.tail (isH_ne hc)
   obtain ⟨a, s, h1, h2⟩ := then_ok h
   have hf := fName 6 g1
   rw [h1] at hf
   have := len_namesL n (acc ++ [a]) s (by have := hf.2.1; omega) hf.1 l r h2
   have := hf.2.1
   simp only [List.length_append, List.length_cons, List.length_nil] at *
   omega
  ·cases h; omega
theorem len_names {ts : List Tk} (hg : Good ts) {l : List Tree} {r : List Tk} (h : vNames ts = .ok l r) : l.length + r.length ≤ ts.length := by
 obtain ⟨a, s, h1, h2⟩ := then_ok h
 have hf := fName 6 hg
 rw [h1] at hf
 have := len_namesL _ [a] s (Nat.le_refl _) hf.1 l r h2
 have := hf.2.1
 simp only [List.length_cons, List.length_nil] at *
 omega
theorem len_expsL : ∀ (n : Nat) (acc : List Tree) (ts : List Tk), ts.length ≤ n → Good ts → ∀ l r, vExpsL acc ts = .ok l r → l.length + r.length ≤ acc.length + ts.length
 | 0, _, [], _, hg, _, _, _ => hg.elim
 | n + 1, acc, ts, hn, hg, l, r, h => by
  rw [vExpsL_eq acc hg] at h
  split at h
  ·rename_i hc
   obtain ⟨g1, g2, _⟩ := hg.tail (isH_ne hc)
   obtain ⟨a, s, h1, h2⟩ := then_ok h
   have hf := fExp (least := 0) (by omega) g1
   rw [h1] at hf
   have := len_expsL n (acc ++ [a]) s (by have := hf.2.1; omega) hf.1 l r h2
   have := hf.2.1
   simp only [List.length_append, List.length_cons, List.length_nil] at *
   omega
  ·cases h; omega
theorem len_exps {ts : List Tk} (hg : Good ts) {l : List Tree} {r : List Tk} (h : vExps ts = .ok l r) : l.length + r.length ≤ ts.length := by
 rw [vExps_eq hg] at h
 obtain ⟨a, s, h1, h2⟩ := then_ok h
 have hf := fExp (least := 0) (by omega) hg
 rw [h1] at hf
 have := len_expsL _ [a] s (Nat.le_refl _) hf.1 l r h2
 have := hf.2.1
 simp only [List.length_cons, List.length_nil] at *
 omega
end Go.Proofs.YtidiahkobapnjaaGreatDoor
namespace Go.Proofs.YtidiahkobapnjaaGreatDoor
open Go Go.RowKit
def ix (l ts : List Tk) : Int := (l.length : Int) - (ts.length : Int)
theorem wrap64 (x : Int) (h1 : -9223372036854775808 ≤ x) (h2 : x ≤ 9223372036854775807) : IntKind.i64.wrap x = x := by
 unfold IntKind.wrap; simp [IntKind.bits, IntKind.signed]; omega
section
variable {l ts : List Tk}
theorem drop_ix (hs : ts <:+ l) : l.drop (l.length - ts.length) = ts := by
 obtain ⟨p, rfl⟩ := hs
 simp
theorem idx_hd (hg : Good ts) (hs : ts <:+ l) : lIdx l (ix l ts) = some (hd ts) := by
 have hle := hs.length_le
 unfold lIdx ix
 rw [if_pos (by omega), show ((l.length : Int) - (ts.length : Int)).toNat = l.length - ts.length by omega]
 have := drop_ix hs
 rw [← List.head?_drop, this]
 cases ts with
 | nil => exact hg.elim
 | cons t ts => rfl
theorem ix_tail (hl : l.length ≤ 1000000) (hg : Good ts) (hs : ts <:+ l) (h6 : (hd ts).1 ≠ 6) : IntKind.i64.wrap (ix l ts + 1) = ix l ts.tail := by
 obtain ⟨_, g2, _⟩ := hg.tail h6
 have hle := hs.length_le
 unfold ix
 rw [wrap64 _ (by omega) (by omega)]
 omega
def conv {α β : Type} (l : List Tk) (e : α → Int → β) : PV α → PR β
 | .ok a r => .ok (e a (ix l r))
 | .bad i => .bad i
def eT (n : Tree) (i : Int) : Int × ByteArray × Int × Int × List Tree × Int := (n.kind, n.text, n.n, n.at_, n.kids, i)
def eL (n : List Tree) (i : Int) : List Tree × Int := (n, i)
def eU (_ : Unit) (i : Int) : Int := i
theorem tree_eta (n : Tree) : Tree.mk n.kind n.text n.n n.at_ n.kids = n := by cases n; rfl
theorem conv_bind {α β α' β' : Type} {e : α → Int → α'} {e' : β → Int → β'} {x : PV α} {F : α' → Option (PR β')} {g : α → List Tk → PV β} {n : Nat} (hw : Fwd n ts x) (h : ∀ a r, Good r → r <:+ ts → r.length + n ≤ ts.length → F (e a (ix l r)) = some (conv l e' (g a r))) :
  PR.bind (some (conv l e x)) F = some (conv l e' (x.then g)) := by
 cases x with
 | bad i => rfl
 | ok a r => exact h a r hw.1 hw.2.2 hw.2.1
theorem conv_if {β β' : Type} {e' : β → Int → β'} {c : Prop} [Decidable c] {b : Bool} {x y : Option (PR β')} {x' y' : PV β} (hb : b = decide c) (h1 : c → x = some (conv l e' x')) (h2 : ¬ c → y = some (conv l e' y')) : cond b x y = some (conv l e' (if c then x' else y')) := by
 subst hb
 by_cases h : c
 ·rw [if_pos h, decide_eq_true h]; exact h1 h
 ·rw [if_neg h, decide_eq_false h]; exact h2 h
theorem beq_dec (a b : Int) : (a == b) = decide (a = b) := by
 by_cases h : a = b
 ·rw [decide_eq_true h, beq_iff_eq]; exact h
 ·rw [decide_eq_false h, beq_eq_false_iff_ne]; exact h
theorem bool_dec (b : Bool) : b = decide (b = true) := by cases b <;> rfl
variable (k : Nat) (hl : l.length ≤ 1000000) (hg : Good ts) (hs : ts <:+ l)
include hg hs
theorem now_eq : parse_parser_now.f k l (ix l ts) = some (hd ts) := by
 unfold parse_parser_now.f
 rw [idx_hd hg hs]
 rfl
theorem is_eq (w : ByteArray) : parse_parser_is.f k l (ix l ts) w = some (isH w ts) := by
 unfold parse_parser_is.f
 rw [now_eq k hg hs]
 simp only [Option.bind_some, isH, isT]
 cases (hd ts).1 == (2 : Int) <;> cases (hd ts).1 == (5 : Int) <;> rfl
include hl
theorem got_eq (w : ByteArray) : parse_parser_got.f k l (ix l ts) w = some (isH w ts, ix l (if isH w ts then ts.tail else ts)) := by
 unfold parse_parser_got.f
 rw [is_eq k hg hs]
 simp only [Option.bind_some]
 cases h : isH w ts with
 | true => simp only [cond_true, if_true, ix_tail hl hg hs (isH_ne h)]
 | false => rfl
theorem want_eq (w : ByteArray) : parse_parser_want.f k l (ix l ts) w = some (conv l eU (vWant w ts)) := by
 unfold parse_parser_want.f vWant
 rw [got_eq k hl hg hs]
 simp only [Option.bind_some]
 cases h : isH w ts with
 | true => rfl
 | false =>
  simp only [Bool.not_false, cond_true, Bool.false_eq_true, if_false]
  rw [now_eq k hg hs]
  rfl
theorem name_eq : parse_parser_name.f k l (ix l ts) = some (conv l eT (vName 6 ts)) := by
 unfold parse_parser_name.f vName
 rw [now_eq k hg hs]
 simp only [Option.bind_some, joinF]
 by_cases h : (hd ts).1 = 1
 ·rw [if_pos h, h, ix_tail hl hg hs (by omega)]
  rfl
 ·rw [if_neg h, show ((hd ts).1 != 1) = true by rw [bne_iff_ne]; exact h]
  rfl
omit hl
theorem ends_eq : parse_parser_ends.f k l (ix l ts) = some (endsH ts) := by
 unfold parse_parser_ends.f endsH
 simp only [now_eq k hg hs, is_eq k hg hs, Option.bind_some, kEnd, kElse, kElseif]
 generalize ((hd ts).1 == (6 : Int)) = b1
 generalize isH (⟨#[101, 110, 100]⟩ : ByteArray) ts = b2
 generalize isH (⟨#[101, 108, 115, 101]⟩ : ByteArray) ts = b3
 generalize isH (⟨#[101, 108, 115, 101, 105, 102]⟩ : ByteArray) ts = b4
 cases b1 <;> cases b2 <;> cases b3 <;> cases b4 <;> rfl
end
theorem binds_eq (k : Nat) (ts : List Tk) : parse_binds.f k (hd ts).1 (hd ts).2.1 (hd ts).2.2.1 (hd ts).2.2.2 = some (bindsH ts) := by
 unfold parse_binds.f bindsH isH isT
 simp only [joinF, kOr, kAnd, kLt, kGt, kLe, kGe, kNe, kEqq, kCat, kPlus, kMinus, kStar, kSlash, kPct]
 generalize (hd ts).1 = kd
 generalize (hd ts).2.1.toList = tx
 have hsw : (cond (kd != (5 : Int)) (some (kd != (2 : Int))) (some false) : Option Bool) = some (!(kd == 2 || kd == 5)) := by
  rw [bne, bne]
  cases kd == (5 : Int) <;> cases kd == (2 : Int) <;> rfl
 rw [hsw]
 simp only [Option.bind_some]
 cases (kd == 2 || kd == 5) with
 | false => simp
 | true =>
  simp only [Bool.not_true, cond_false, Bool.true_and]
  generalize (tx == (⟨#[111, 114]⟩ : ByteArray).toList) = b
  cases b with
  | true => rfl
  | false =>
  generalize (tx == (⟨#[97, 110, 100]⟩ : ByteArray).toList) = b
  cases b with
  | true => rfl
  | false =>
  generalize (tx == (⟨#[60]⟩ : ByteArray).toList) = b1
  generalize (tx == (⟨#[62]⟩ : ByteArray).toList) = b2
  generalize (tx == (⟨#[60, 61]⟩ : ByteArray).toList) = b3
  generalize (tx == (⟨#[62, 61]⟩ : ByteArray).toList) = b4
  generalize (tx == (⟨#[126, 61]⟩ : ByteArray).toList) = b5
  generalize (tx == (⟨#[61, 61]⟩ : ByteArray).toList) = b6
  generalize (tx == (⟨#[46, 46]⟩ : ByteArray).toList) = b7
  generalize (tx == (⟨#[43]⟩ : ByteArray).toList) = b8
  generalize (tx == (⟨#[45]⟩ : ByteArray).toList) = b9
  generalize (tx == (⟨#[42]⟩ : ByteArray).toList) = c1
  generalize (tx == (⟨#[47, 47]⟩ : ByteArray).toList) = c2
  generalize (tx == (⟨#[37]⟩ : ByteArray).toList) = c3
  cases b1 with
  | true => rfl
  | false =>
  cases b2 with
  | true => rfl
  | false =>
  cases b3 with
  | true => rfl
  | false =>
  cases b4 with
  | true => rfl
  | false =>
  cases b5 with
  | true => rfl
  | false =>
  cases b6 with
  | true => rfl
  | false =>
  cases b7 with
  | true => rfl
  | false =>
  cases b8 <;> cases b9 <;> cases c1 <;> cases c2 <;> cases c3 <;> rfl
end Go.Proofs.YtidiahkobapnjaaGreatDoor
namespace Go.Proofs.YtidiahkobapnjaaGreatDoor
open Go Go.RowKit
section
variable {l : List Tk}
theorem lbeq_dec (a b : List UInt8) : (a == b) = decide (a = b) := by
 by_cases h : a = b
 ·rw [decide_eq_true h, beq_iff_eq]; exact h
 ·rw [decide_eq_false h, beq_eq_false_iff_ne]; exact h
theorem vStr_eq {ts : List Tk} : vName 5 ts = (vName 6 ts).then fun n r => .ok (.mk 5 n.text n.n n.at_ n.kids) r := by
 unfold vName
 split <;> rfl
theorem apd_ok' {α : Type} {b : Nat} {xs ys : List α} (h : (xs.length + ys.length) * b ≤ 140737488355328) : apd b xs ys = some (xs ++ ys) := by
 unfold apd
 rw [decide_eq_true h]
 rfl
variable (hl : l.length ≤ 1000000)
include hl
theorem namesL_eq (J : List Tree → Int → Option (PR (List Tree × Int))) (hJ : ∀ a i, J a i = some (.ok (a, i))) : ∀ (m : Nat) (acc : List Tree) (ts : List Tk), Good ts → ts <:+ l → ts.length < m → acc.length + ts.length ≤ 1000000 →
  parse_parser_names.l0 m l J acc (ix l ts) = some (conv l eL (vNamesL acc ts))
 | 0, _, _, _, _, h, _ => by omega
 | m + 1, acc, ts, hg, hs, hm, ha => by
  rw [parse_parser_names.l0, got_eq m hl hg hs, vNamesL_eq acc hg]
  simp only [Option.bind_some]
  refine conv_if (bool_dec _) (fun hc => ?_) fun hc => ?_
  ·simp only [hc, if_true]
   obtain ⟨g1, g2, g3⟩ := hg.tail (isH_ne hc)
   rw [name_eq m hl g1 (g3.trans hs)]
   refine conv_bind (fName 6 g1) fun n r hr hrs hn => ?_
   simp only [eT, tree_eta]
   rw [apd_ok' (by simp only [List.length_cons, List.length_nil]; omega)]
   simp only [Option.bind_some]
   exact namesL_eq J hJ m _ r hr (hrs.trans (g3.trans hs)) (by omega) (by simp only [List.length_append, List.length_cons, List.length_nil]; omega)
  ·simp only [if_neg hc, hJ]
   rfl
theorem names_eqA (k : Nat) {ts : List Tk} (hg : Good ts) (hs : ts <:+ l) (hk : ts.length ≤ k) : parse_parser_names.f k l (ix l ts) = some (conv l eL (vNames ts)) := by
 unfold parse_parser_names.f vNames
 rw [name_eq k hl hg hs]
 refine conv_bind (fName 6 hg) fun n r hr hrs hn => ?_
 simp only [joinF, eT, tree_eta]
 have := hrs.length_le
 have := hs.length_le
 exact namesL_eq hl _ (fun _ _ => rfl) k _ r hr (hrs.trans hs) (by omega) (by simp only [List.length_cons, List.length_nil]; omega)
end
structure AE (l : List Tk) (k : Nat) : Prop where
 exp : ∀ least ts, 0 ≤ least → Good ts → ts <:+ l → 16 * ts.length + 5 ≤ k → (PE.at k).parse_parser_exp l (ix l ts) least = some (conv l eT (vExp least ts))
 operand : ∀ ts, Good ts → ts <:+ l → 16 * ts.length + 4 ≤ k → (PE.at k).parse_parser_operand l (ix l ts) = some (conv l eT (vOperand ts))
 suffixed : ∀ ts, Good ts → ts <:+ l → 16 * ts.length + 3 ≤ k → (PE.at k).parse_parser_suffixed l (ix l ts) = some (conv l eT (vSuffixed ts))
 fields : ∀ ts, Good ts → ts <:+ l → 16 * ts.length + 7 ≤ k → (PE.at k).parse_parser_fields l (ix l ts) = some (conv l eL (vFields [] ts))
 field : ∀ ts, Good ts → ts <:+ l → 16 * ts.length + 6 ≤ k → (PE.at k).parse_parser_field l (ix l ts) = some (conv l eT (vField ts))
 exps : ∀ ts, Good ts → ts <:+ l → 16 * ts.length + 6 ≤ k → (PE.at k).parse_parser_exps l (ix l ts) = some (conv l eL (vExps ts))
section
variable {l : List Tk} (hl : l.length ≤ 1000000) {k : Nat} (ih : AE l k)
include hl ih
theorem loop_eq (least : Int) (h0 : 0 ≤ least) (r2 : Int × ByteArray × Int × Int × List Tree × Int) : ∀ (m : Nat) (n : Tree) (ts : List Tk), n.at_ = r2.2.2.2.1 → Good ts → ts <:+ l → ts.length < m → 16 * ts.length ≤ k →
  parse_parser_exp.l0 m (PE.at k) l least r2 n.kind n.text n.n n.kids (ix l ts) = some (conv l eT (vLoop least n ts))
 | 0, _, _, _, _, _, h, _ => by omega
 | m + 1, n, ts, hn, hg, hs, hm, hk => by
  rw [parse_parser_exp.l0, now_eq m hg hs, vLoop_eq n h0 hg]
  simp only [Option.bind_some, binds_eq]
  refine conv_if rfl (fun hc => ?_) fun hc => ?_
  ·rw [← hn]; rfl
  ·obtain ⟨g1, g2, g3⟩ := hg.tail (bindsH_ne (by omega))
   have hb := bindsH_range ts
   simp only [joinF]
   rw [ix_tail hl hg hs (bindsH_ne (by omega)), wrap64 (bindsH ts - 1) (by omega) (by omega)]
   have hq : (0 : Int) ≤ (if bindsH ts = 4 then 3 else bindsH ts) := by split <;> omega
   have key : ∀ q : Int, q = (if bindsH ts = 4 then 3 else bindsH ts) → PR.bind ((PE.at k).parse_parser_exp l (ix l ts.tail) q) (fun r25 => parse_parser_exp.l0 m (PE.at k) l least r2 (11 : Int) (hd ts).2.1 (0 : Int) ([(Tree.mk n.kind n.text n.n r2.2.2.2.1 n.kids), (Tree.mk r25.1 r25.2.1 r25.2.2.1 r25.2.2.2.1 r25.2.2.2.2.1)]) r25.2.2.2.2.2) = some (conv l eT ((vExp (if bindsH ts = 4 then 3 else bindsH ts) ts.tail).then fun m r => vLoop least (.mk 11 (hd ts).2.1 0 n.at_ [n, m]) r)) := by
    intro q hqe
    subst hqe
    rw [ih.exp _ _ hq g1 (g3.trans hs) (by omega)]
    refine conv_bind (fExp hq g1) fun x r hr hrs hrn => ?_
    simp only [eT, tree_eta]
    rw [← hn, tree_eta]
    exact loop_eq least h0 r2 m (.mk 11 (hd ts).2.1 0 n.at_ [n, x]) r hn hr (hrs.trans (g3.trans hs)) (by omega) (by omega)
   by_cases h4 : bindsH ts = 4
   ·rw [show (bindsH ts == (4 : Int)) = true by rw [beq_iff_eq]; exact h4]
    exact key _ (by rw [if_pos h4, h4]; rfl)
   ·rw [show (bindsH ts == (4 : Int)) = false by rw [beq_eq_false_iff_ne]; exact h4]
    exact key _ (by rw [if_neg h4])
theorem exp_eq (least : Int) (h0 : 0 ≤ least) {ts : List Tk} (hg : Good ts) (hs : ts <:+ l) (hk : 16 * ts.length + 4 ≤ k) : parse_parser_exp.g (PE.at k) k l (ix l ts) least = some (conv l eT (vExp least ts)) := by
 unfold parse_parser_exp.g
 rw [ih.operand ts hg hs hk, vExp_eq h0 hg]
 refine conv_bind (fOperand hg) fun n r hr hrs hn => ?_
 exact loop_eq hl ih least h0 (eT n (ix l r)) k n r rfl hr (hrs.trans hs) (by omega) (by omega)
theorem operand_eq {ts : List Tk} (hg : Good ts) (hs : ts <:+ l) (hk : 16 * ts.length + 3 ≤ k) : parse_parser_operand.g (PE.at k) k l (ix l ts) = some (conv l eT (vOperand ts)) := by
 unfold parse_parser_operand.g
 rw [now_eq k hg hs, vOperand_eq hg]
 simp only [Option.bind_some, joinF, is_eq k hg hs, got_eq k hl hg hs]
 refine conv_if (beq_dec _ _) (fun hc => ?_) fun h3 => ?_
 ·rw [ix_tail hl hg hs (by omega)]; rfl
 refine conv_if (beq_dec _ _) (fun hc => ?_) fun h4 => ?_
 ·rw [ix_tail hl hg hs (by omega)]; rfl
 refine conv_if (bool_dec _) (fun hc => ?_) fun h5 => ?_
 ·rw [ix_tail hl hg hs (isH_ne hc)]; rfl
 refine conv_if (bool_dec _) (fun hc => ?_) fun h6 => ?_
 ·rw [ix_tail hl hg hs (isH_ne hc)]; rfl
 refine conv_if (bool_dec _) (fun hc => ?_) fun h7 => ?_
 ·rw [ix_tail hl hg hs (isH_ne hc)]; rfl
 have hun : ∀ (h8 : (isH kNot ts || isH kHash ts || isH kMinus ts) = true), PR.bind ((PE.at k).parse_parser_exp l (ix l ts.tail) (7 : Int)) (fun r21 => some (PR.ok ((10 : Int), (hd ts).2.1, (0 : Int), (hd ts).2.2.2, [(Tree.mk r21.1 r21.2.1 r21.2.2.1 r21.2.2.2.1 r21.2.2.2.2.1)], r21.2.2.2.2.2))) = some (conv l eT ((vExp 7 ts.tail).then fun m r => .ok (.mk 10 (hd ts).2.1 0 (hd ts).2.2.2 [m]) r)) := fun h8 => by
  obtain ⟨g1, g2, g3⟩ := hg.tail (or3 rfl rfl rfl h8)
  rw [ih.exp 7 _ (by omega) g1 (g3.trans hs) (by omega)]
  refine conv_bind (fExp (by omega) g1) fun x r hr hrs hn => ?_
  simp only [eT, tree_eta]
  rfl
 cases hA : isH kNot ts with
 | true =>
  have h8 : (isH kNot ts || isH kHash ts || isH kMinus ts) = true := by rw [hA]; rfl
  rw [hA] at h8
  simp only [cond_true, if_true, h8]
  exact hun (by rw [hA]; rfl)
 | false =>
 simp only [Bool.false_eq_true, if_false, cond_false, Bool.false_or, got_eq k hl hg hs, Option.bind_some]
 cases hB : isH kHash ts with
 | true =>
  simp only [cond_true, if_true, Bool.true_or]
  exact hun (by rw [hB]; simp)
 | false =>
 simp only [Bool.false_eq_true, if_false, cond_false, Bool.false_or, got_eq k hl hg hs, Option.bind_some]
 cases hC : isH kMinus ts with
 | true =>
  simp only [cond_true, if_true]
  exact hun (by rw [hC]; simp)
 | false =>
 simp only [Bool.false_eq_true, if_false, cond_false, got_eq k hl hg hs, Option.bind_some]
 refine conv_if (bool_dec _) (fun hc => ?_) fun h9 => ?_
 ·simp only [hc, if_true]
  obtain ⟨g1, g2, g3⟩ := hg.tail (isH_ne hc)
  rw [ih.fields _ g1 (g3.trans hs) (by omega)]
  refine conv_bind (fFields _ g1) fun x r hr hrs hn => ?_
  rfl
 ·simp only [if_neg h9]
  rw [ih.suffixed _ hg hs (by omega)]
  have := conv_bind (e' := eT) (F := fun r38 : Int × ByteArray × Int × Int × List Tree × Int => some (PR.ok (r38.1, r38.2.1, r38.2.2.1, r38.2.2.2.1, r38.2.2.2.2.1, r38.2.2.2.2.2))) (g := fun n r => .ok n r) (l := l) (fSuffixed hg) (e := eT) (fun n r _ _ _ => rfl)
  rw [this]
  cases vSuffixed ts <;> rfl
theorem expsL_eq (J : List Tree → Int → Option (PR (List Tree × Int))) (hJ : ∀ a i, J a i = some (.ok (a, i))) : ∀ (m : Nat) (acc : List Tree) (ts : List Tk), Good ts → ts <:+ l → ts.length < m → acc.length + ts.length ≤ 1000000 → 16 * ts.length ≤ k →
  parse_parser_exps.l0 m (PE.at k) l J acc (ix l ts) = some (conv l eL (vExpsL acc ts))
 | 0, _, _, _, _, h, _, _ => by omega
 | m + 1, acc, ts, hg, hs, hm, ha, hk => by
  rw [parse_parser_exps.l0, got_eq m hl hg hs, vExpsL_eq acc hg]
  simp only [Option.bind_some]
  refine conv_if (bool_dec _) (fun hc => ?_) fun hc => ?_
  ·simp only [hc, if_true]
   obtain ⟨g1, g2, g3⟩ := hg.tail (isH_ne hc)
   rw [ih.exp 0 _ (by omega) g1 (g3.trans hs) (by omega)]
   refine conv_bind (fExp (by omega) g1) fun n r hr hrs hn => ?_
   simp only [eT, tree_eta]
   rw [apd_ok' (by simp only [List.length_cons, List.length_nil]; omega)]
   simp only [Option.bind_some]
   exact expsL_eq J hJ m _ r hr (hrs.trans (g3.trans hs)) (by omega) (by simp only [List.length_append, List.length_cons, List.length_nil]; omega) (by omega)
  ·simp only [if_neg hc, hJ]
   rfl
theorem exps_eq {ts : List Tk} (hg : Good ts) (hs : ts <:+ l) (hk : 16 * ts.length + 5 ≤ k) : parse_parser_exps.g (PE.at k) k l (ix l ts) = some (conv l eL (vExps ts)) := by
 unfold parse_parser_exps.g
 rw [ih.exp 0 ts (by omega) hg hs hk, vExps_eq hg]
 refine conv_bind (fExp (by omega) hg) fun n r hr hrs hn => ?_
 simp only [joinF, eT, tree_eta]
 have := hs.length_le
 exact expsL_eq hl ih _ (fun _ _ => rfl) k _ r hr (hrs.trans hs) (by omega) (by simp only [List.length_cons, List.length_nil]; omega) (by omega)
theorem fieldsL_eq (J : List Tree → Int → Option (PR (List Tree × Int))) (hJ : ∀ a r, Good r → r <:+ l → J a (ix l r) = some (conv l eL ((vWant kRc r).then fun _ r => .ok a r))) : ∀ (m : Nat) (acc : List Tree) (ts : List Tk), Good ts → ts <:+ l → ts.length < m → acc.length + ts.length ≤ 1000000 → 16 * ts.length + 6 ≤ k →
  parse_parser_fields.l0 m (PE.at k) l J acc (ix l ts) = some (conv l eL (vFields acc ts))
 | 0, _, _, _, _, h, _, _ => by omega
 | m + 1, acc, ts, hg, hs, hm, ha, hk => by
  rw [parse_parser_fields.l0, is_eq m hg hs, vFields_eq acc hg]
  simp only [Option.bind_some]
  by_cases hR : isH kRc ts = true
  ·rw [if_pos hR, show isH (⟨#[125]⟩ : ByteArray) ts = true from hR]
   simp only [Bool.not_true, cond_false]
   rw [hJ acc ts hg hs]
   unfold vWant
   rw [if_pos hR]
   rfl
  ·rw [if_neg hR, show isH (⟨#[125]⟩ : ByteArray) ts = false from by simpa using hR]
   simp only [Bool.not_false, cond_true]
   rw [ih.field ts hg hs hk]
   refine conv_bind (fField hg) fun x r hr hrs hn => ?_
   simp only [eT, tree_eta]
   rw [apd_ok' (by simp only [List.length_cons, List.length_nil]; omega)]
   have hrl := hrs.trans hs
   simp only [Option.bind_some, joinF, got_eq m hl hr hrl]
   have more : ∀ {w : ByteArray}, isH w r = true → parse_parser_fields.l0 m (PE.at k) l J (acc ++ [x]) (ix l r.tail) = some (conv l eL (vFields (acc ++ [x]) r.tail)) := fun hc => by
    obtain ⟨g1, g2, g3⟩ := hr.tail (isH_ne hc)
    exact fieldsL_eq J hJ m _ _ g1 (g3.trans hrl) (by omega) (by simp only [List.length_append, List.length_cons, List.length_nil]; omega) (by omega)
   by_cases hc : isH kComma r = true
   ·rw [if_pos hc, show isH (⟨#[44]⟩ : ByteArray) r = true from hc]
    simp only [Bool.not_true, cond_false, if_true]
    exact more hc
   ·rw [if_neg hc, show isH (⟨#[44]⟩ : ByteArray) r = false from by simpa using hc]
    simp only [Bool.not_false, cond_true, Bool.false_eq_true, if_false, got_eq m hl hr hrl, Option.bind_some]
    by_cases hd : isH kSemi r = true
    ·rw [if_pos hd, show isH (⟨#[59]⟩ : ByteArray) r = true from hd]
     simp only [Bool.not_true, cond_false, if_true]
     exact more hd
    ·rw [if_neg hd, show isH (⟨#[59]⟩ : ByteArray) r = false from by simpa using hd]
     simp only [Bool.not_false, cond_true, Bool.false_eq_true, if_false]
     exact hJ _ _ hr hrl
theorem fields_eq {ts : List Tk} (hg : Good ts) (hs : ts <:+ l) (hk : 16 * ts.length + 6 ≤ k) : parse_parser_fields.g (PE.at k) k l (ix l ts) = some (conv l eL (vFields [] ts)) := by
 unfold parse_parser_fields.g
 simp only [joinF]
 have := hs.length_le
 refine fieldsL_eq hl ih _ (fun a r hr hrs => ?_) k [] ts hg hs (by omega) (by simp only [List.length_nil]; omega) hk
 rw [want_eq k hl hr hrs]
 exact conv_bind (fWant _ hr) fun _ r2 hr2 _ _ => rfl
theorem field_eq {ts : List Tk} (hg : Good ts) (hs : ts <:+ l) (hk : 16 * ts.length + 5 ≤ k) : parse_parser_field.g (PE.at k) k l (ix l ts) = some (conv l eT (vField ts)) := by
 unfold parse_parser_field.g
 rw [now_eq k hg hs, vField_eq hg]
 simp only [Option.bind_some, joinF, got_eq k hl hg hs]
 refine conv_if (bool_dec _) (fun hc => ?_) fun h1 => ?_
 ·simp only [hc, if_true]
  obtain ⟨g1, g2, g3⟩ := hg.tail (isH_ne hc)
  rw [ih.exp 0 _ (by omega) g1 (g3.trans hs) (by omega)]
  refine conv_bind (fExp (by omega) g1) fun x r hr hrs hn => ?_
  simp only [eT, tree_eta]
  have h1 := hrs.trans (g3.trans hs)
  rw [want_eq k hl hr h1]
  refine conv_bind (fWant _ hr) fun _ r2 hr2 hrs2 hn2 => ?_
  simp only [eU]
  rw [want_eq k hl hr2 (hrs2.trans h1)]
  refine conv_bind (fWant _ hr2) fun _ r3 hr3 hrs3 hn3 => ?_
  simp only [eU]
  rw [ih.exp 0 _ (by omega) hr3 (hrs3.trans (hrs2.trans h1)) (by omega)]
  refine conv_bind (fExp (by omega) hr3) fun y r4 hr4 hrs4 hn4 => ?_
  simp only [eT, tree_eta]
  rw [apd_ok' (by simp)]
  rfl
 simp only [if_neg h1]
 have hq : ((cond ((hd ts).1 == (1 : Int)) ((lIdx l (IntKind.i64.wrap (ix l ts + (1 : Int)))).bind fun x57 => cond (x57.1 == (5 : Int)) ((lIdx l (IntKind.i64.wrap (ix l ts + (1 : Int)))).bind fun x65 => some (x65.2.1.toList == (⟨#[61]⟩ : ByteArray).toList)) (some false)) (some false)) : Option Bool) = some (decide ((hd ts).1 = 1 ∧ (hd ts.tail).1 = 5 ∧ (hd ts.tail).2.1.toList = kEq.toList)) := by
  by_cases h : (hd ts).1 = 1
  ·obtain ⟨g1, g2, g3⟩ := hg.tail (by omega)
   rw [ix_tail hl hg hs (by omega), idx_hd g1 (g3.trans hs), h]
   simp only [beq_self_eq_true, cond_true, Option.bind_some, true_and]
   by_cases h5 : (hd ts.tail).1 = 5
   ·rw [h5]
    simp only [beq_self_eq_true, cond_true, true_and]
    exact congrArg some (lbeq_dec _ _)
   ·rw [show ((hd ts.tail).1 == (5 : Int)) = false by rw [beq_eq_false_iff_ne]; exact h5]
    simp [h5]
  ·rw [show ((hd ts).1 == (1 : Int)) = false by rw [beq_eq_false_iff_ne]; exact h]
   simp [h]
 rw [hq]
 simp only [Option.bind_some]
 refine conv_if rfl (fun hc => ?_) fun h2 => ?_
 ·obtain ⟨h1, h5, he⟩ := hc
  obtain ⟨g1, g2, g3⟩ := hg.tail (by omega)
  obtain ⟨g4, g5, g6⟩ := g1.tail (by omega)
  rw [name_eq k hl hg hs]
  unfold vName
  rw [if_pos h1]
  simp only [conv, PR.bind, eT, Tree.kind, Tree.text, Tree.n, Tree.at_, Tree.kids]
  have hE : isH kEq ts.tail = true := by unfold isH isT; rw [h5, he]; simp
  rw [want_eq k hl g1 (g3.trans hs)]
  unfold vWant
  rw [if_pos hE]
  simp only [conv, eU]
  rw [ih.exp 0 _ (by omega) g4 (g6.trans (g3.trans hs)) (by omega)]
  have := conv_bind (l := l) (e := eT) (e' := eT) (x := vExp 0 ts.tail.tail) (F := fun r13 => (apd 64 [Tree.mk 5 (hd ts).2.1 0 (hd ts).2.2.2 []] [(Tree.mk r13.1 r13.2.1 r13.2.2.1 r13.2.2.2.1 r13.2.2.2.2.1)]).bind fun l22 => some (PR.ok ((14 : Int), (⟨#[]⟩ : ByteArray), (0 : Int), (hd ts).2.2.2, l22, r13.2.2.2.2.2))) (g := fun v r => .ok (.mk 14 noB 0 (hd ts).2.2.2 [.mk 5 (hd ts).2.1 0 (hd ts).2.2.2 [], v]) r) (fExp (by omega) g4) (fun y r4 hr4 hrs4 hn4 => by
   simp only [eT, tree_eta]
   rw [apd_ok' (by simp)]
   rfl)
  exact this
 ·rw [ih.exp 0 _ (by omega) hg hs (by omega)]
  refine conv_bind (fExp (by omega) hg) fun y r4 hr4 hrs4 hn4 => ?_
  simp only [eT, tree_eta]
  rw [apd_ok' (by simp)]
  rfl
theorem sufL_eq (r2 : Tk) : ∀ (m : Nat) (n : Tree) (ts : List Tk), Good ts → ts <:+ l → ts.length < m → 16 * ts.length ≤ k →
  parse_parser_suffixed.l0 m (PE.at k) l r2 n.kind n.text n.n n.at_ n.kids (ix l ts) = some (conv l eT (vSufL r2.2.2.2 n ts))
 | 0, _, _, _, _, h, _ => by omega
 | m + 1, n, ts, hg, hs, hm, hk => by
  rw [parse_parser_suffixed.l0, got_eq m hl hg hs, vSufL_eq _ n hg]
  simp only [Option.bind_some, tree_eta]
  refine conv_if (bool_dec _) (fun hc => ?_) fun h1 => ?_
  ·simp only [hc, if_true]
   obtain ⟨g1, g2, g3⟩ := hg.tail (isH_ne hc)
   rw [ih.exp 0 _ (by omega) g1 (g3.trans hs) (by omega)]
   refine conv_bind (fExp (by omega) g1) fun x r hr hrs hn => ?_
   simp only [eT, tree_eta]
   have hrl := hrs.trans (g3.trans hs)
   rw [want_eq m hl hr hrl]
   refine conv_bind (fWant _ hr) fun _ r2' hr2 hrs2 hn2 => ?_
   exact sufL_eq r2 m (.mk 7 noB 0 r2.2.2.2 [n, x]) r2' hr2 (hrs2.trans hrl) (by omega) (by omega)
  simp only [if_neg h1, got_eq m hl hg hs, Option.bind_some]
  refine conv_if (bool_dec _) (fun hc => ?_) fun h2 => ?_
  ·simp only [hc, if_true]
   obtain ⟨g1, g2, g3⟩ := hg.tail (isH_ne hc)
   rw [name_eq m hl g1 (g3.trans hs), vStr_eq, then_assoc]
   refine conv_bind (fName 6 g1) fun x r hr hrs hn => ?_
   exact sufL_eq r2 m (.mk 7 noB 0 r2.2.2.2 [n, .mk 5 x.text x.n x.at_ x.kids]) r hr (hrs.trans (g3.trans hs)) (by omega) (by omega)
  simp only [if_neg h2, got_eq m hl hg hs, Option.bind_some]
  refine conv_if (bool_dec _) (fun hc => ?_) fun h3 => ?_
  ·simp only [hc, if_true]
   obtain ⟨g1, g2, g3⟩ := hg.tail (isH_ne hc)
   have gs := g3.trans hs
   have hlen := hs.length_le
   simp only [joinF, is_eq m g1 gs, Option.bind_some]
   unfold vArgs
   have tl : ∀ (xs : List Tree) (r : List Tk), Good r → r <:+ l → r.length ≤ ts.tail.length → PR.bind (parse_parser_want.f m l (ix l r) (⟨#[41]⟩ : ByteArray)) (fun r63 => parse_parser_suffixed.l0 m (PE.at k) l r2 (8 : Int) (⟨#[]⟩ : ByteArray) (0 : Int) r2.2.2.2 (n :: xs) r63) = some (conv l eT ((vWant kRp r).then fun _ r => vSufL r2.2.2.2 (.mk 8 noB 0 r2.2.2.2 (n :: xs)) r)) := fun xs r hr hrl hn => by
    rw [want_eq m hl hr hrl]
    refine conv_bind (fWant _ hr) fun _ r2' hr2 hrs2 hn2 => ?_
    exact sufL_eq r2 m (.mk 8 noB 0 r2.2.2.2 (n :: xs)) r2' hr2 (hrs2.trans hrl) (by omega) (by omega)
   by_cases hR : isH kRp ts.tail = true
   ·rw [if_pos hR, show isH (⟨#[41]⟩ : ByteArray) ts.tail = true from hR]
    exact tl [] _ g1 gs (Nat.le_refl _)
   ·rw [if_neg hR, show isH (⟨#[41]⟩ : ByteArray) ts.tail = false from by simpa using hR]
    simp only [Bool.not_false, cond_true]
    rw [ih.exps _ g1 gs (by omega)]
    cases hv : vExps ts.tail with
    | bad i => rfl
    | ok xs r =>
     have hf := fExps g1
     rw [hv] at hf
     have hxl := len_exps g1 hv
     show (apd 64 [n] xs).bind _ = _
     rw [apd_ok' (by simp only [List.length_cons, List.length_nil]; omega)]
     exact tl xs r hf.1 (hf.2.2.trans gs) (by have := hf.2.1; omega)
  ·simp only [if_neg h3]
   rfl
theorem suffixed_eq {ts : List Tk} (hg : Good ts) (hs : ts <:+ l) (hk : 16 * ts.length + 2 ≤ k) : parse_parser_suffixed.g (PE.at k) k l (ix l ts) = some (conv l eT (vSuffixed ts)) := by
 unfold parse_parser_suffixed.g
 rw [now_eq k hg hs, vSuffixed_eq hg]
 simp only [Option.bind_some, joinF, got_eq k hl hg hs]
 refine conv_if (bool_dec _) (fun hc => ?_) fun h1 => ?_
 ·simp only [hc, if_true]
  obtain ⟨g1, g2, g3⟩ := hg.tail (isH_ne hc)
  rw [ih.exp 0 _ (by omega) g1 (g3.trans hs) (by omega)]
  refine conv_bind (fExp (by omega) g1) fun x r hr hrs hn => ?_
  simp only [eT, tree_eta]
  have hrl := hrs.trans (g3.trans hs)
  rw [want_eq k hl hr hrl]
  refine conv_bind (fWant _ hr) fun _ r2' hr2 hrs2 hn2 => ?_
  exact sufL_eq hl ih (hd ts) k (.mk 9 noB 0 (hd ts).2.2.2 [x]) r2' hr2 (hrs2.trans hrl) (by omega) (by omega)
 ·simp only [if_neg h1]
  rw [name_eq k hl hg hs]
  refine conv_bind (fName 6 hg) fun n r hr hrs hn => ?_
  exact sufL_eq hl ih (hd ts) k n r hr (hrs.trans hs) (by omega) (by omega)
end
theorem aE {l : List Tk} (hl : l.length ≤ 1000000) : ∀ k, AE l k
 | 0 => by constructor <;> intros <;> omega
 | k + 1 => by
  have ih := aE hl k
  exact ⟨fun least ts h0 hg hs h => exp_eq hl ih least h0 hg hs (by omega), fun ts hg hs h => operand_eq hl ih hg hs (by omega), fun ts hg hs h => suffixed_eq hl ih hg hs (by omega), fun ts hg hs h => fields_eq hl ih hg hs (by omega), fun ts hg hs h => field_eq hl ih hg hs (by omega), fun ts hg hs h => exps_eq hl ih hg hs (by omega)⟩
end Go.Proofs.YtidiahkobapnjaaGreatDoor
namespace Go.Proofs.YtidiahkobapnjaaGreatDoor
open Go Go.RowKit
theorem vNamesL_pre (pre : List Tree) : ∀ (n : Nat) (acc : List Tree) (ts : List Tk), ts.length ≤ n → Good ts → vNamesL (pre ++ acc) ts = (vNamesL acc ts).then fun xs r => .ok (pre ++ xs) r
 | 0, _, [], _, hg => hg.elim
 | n + 1, acc, ts, hn, hg => by
  rw [vNamesL_eq _ hg, vNamesL_eq acc hg]
  by_cases hc : isH kComma ts = true
  ·rw [if_pos hc, if_pos hc, then_assoc]
   obtain ⟨g1, g2, g3⟩ := hg.tail (isH_ne hc)
   refine then_congr (fName 6 g1) fun x r hr hl => ?_
   rw [List.append_assoc]
   exact vNamesL_pre pre n _ r (by omega) hr
  ·rw [if_neg hc, if_neg hc]; rfl
structure AS (l : List Tk) (k : Nat) : Prop where
 block : ∀ c ts, Good ts → ts <:+ l → 16 * ts.length + 9 ≤ k → (PS.at k).parse_parser_block l (ix l ts) c = some (conv l eT (vBlock c ts))
 function : ∀ ts, isH kFunction ts = true → Good ts → ts <:+ l → 16 * ts.length + 7 ≤ k → (PS.at k).parse_parser_function l (ix l ts) = some (conv l eT (vFunction ts))
 stat : ∀ ts, Good ts → ts <:+ l → 16 * ts.length + 7 ≤ k → (PS.at k).parse_parser_stat l (ix l ts) = some (conv l eT (vStat ts))
 branches : ∀ ts, Good ts → ts <:+ l → 16 * ts.length + 6 ≤ k → (PS.at k).parse_parser_branches l (ix l ts) = some (conv l eL (vBranches [] ts))
 loop : ∀ at_ ts, Good ts → ts <:+ l → 16 * ts.length + 8 ≤ k → (PS.at k).parse_parser_loop l (ix l ts) at_ = some (conv l eT (vFor at_ ts))
 plain : ∀ ts, Good ts → ts <:+ l → 16 * ts.length + 6 ≤ k → (PS.at k).parse_parser_plain l (ix l ts) = some (conv l eT (vPlain ts))
section
variable {l : List Tk} (hl : l.length ≤ 1000000)
include hl
theorem fexp_eq (k : Nat) {ts : List Tk} (hg : Good ts) (hs : ts <:+ l) (hk : 16 * ts.length + 4 ≤ k) : parse_parser_exp.f k l (ix l ts) 0 = some (conv l eT (vExp 0 ts)) := exp_eq hl (aE hl k) 0 (by omega) hg hs hk
theorem fexps_eq (k : Nat) {ts : List Tk} (hg : Good ts) (hs : ts <:+ l) (hk : 16 * ts.length + 5 ≤ k) : parse_parser_exps.f k l (ix l ts) = some (conv l eL (vExps ts)) := exps_eq hl (aE hl k) hg hs hk
theorem fsuf_eq (k : Nat) {ts : List Tk} (hg : Good ts) (hs : ts <:+ l) (hk : 16 * ts.length + 2 ≤ k) : parse_parser_suffixed.f k l (ix l ts) = some (conv l eT (vSuffixed ts)) := suffixed_eq hl (aE hl k) hg hs hk
omit hl in
theorem body_ok {ts : List Tk} (h : isH kDo ts = true) (hg : Good ts) : vBody ts = (vBlock false ts.tail).then fun b r => (vWant kEnd r).then fun _ r => .ok b r := by
 rw [vBody_eq hg]
 unfold vWant
 rw [if_pos h]
 rfl
variable {k : Nat} (ih : AS l k)
include ih
theorem want_body (F : Tree → Option (List Tree)) (G : List Tree → Int → Option (PR (Int × ByteArray × Int × Int × List Tree × Int))) (g : Tree → Tree) {ts : List Tk} (hg : Good ts) (hs : ts <:+ l) (hk : 16 * ts.length + 9 ≤ k + 16)
  (hG : ∀ b r, Good r → r <:+ l → ∃ xs, F b = some xs ∧ G xs (ix l r) = some (conv l eT (.ok (g b) r))) :
  PR.bind (parse_parser_want.f k l (ix l ts) (⟨#[100, 111]⟩ : ByteArray)) (fun r36 => PR.bind ((PS.at k).parse_parser_block l r36 false) fun r38 => (F (Tree.mk r38.1 r38.2.1 r38.2.2.1 r38.2.2.2.1 r38.2.2.2.2.1)).bind fun l49 => PR.bind (parse_parser_want.f k l r38.2.2.2.2.2 (⟨#[101, 110, 100]⟩ : ByteArray)) fun r54 => G l49 r54) =
   some (conv l eT ((vBody ts).then fun b r => .ok (g b) r)) := by
 rw [want_eq k hl hg hs, vBody_eq hg, then_assoc]
 refine conv_bind (fWant _ hg) fun _ r hr hrs hn => ?_
 simp only [eU]
 have h1 := hrs.trans hs
 rw [ih.block false r hr h1 (by omega), then_assoc]
 refine conv_bind (fBlock false hr) fun b r2 hr2 hrs2 hn2 => ?_
 simp only [eT, tree_eta]
 have h2 := hrs2.trans h1
 obtain ⟨xs, hF, _⟩ := hG b r2 hr2 h2
 rw [hF, then_assoc]
 simp only [Option.bind_some]
 rw [want_eq k hl hr2 h2]
 refine conv_bind (fWant _ hr2) fun _ r3 hr3 hrs3 hn3 => ?_
 obtain ⟨xs', hF', hG'⟩ := hG b r3 hr3 (hrs3.trans h2)
 rw [hF] at hF'
 cases hF'
 exact hG'
theorem blockL_eq (chunk : Bool) (r2 : Tk) : ∀ (m : Nat) (acc : List Tree) (ts : List Tk), Good ts → ts <:+ l → 16 * ts.length + 6 < m → acc.length + ts.length ≤ 1000000 → 16 * ts.length + 8 ≤ k →
  parse_parser_block.l0 m (PS.at k) l chunk r2 acc (ix l ts) = some (conv l eT (vBlockL chunk r2.2.2.2 acc ts))
 | 0, _, _, _, _, h, _, _ => by omega
 | m + 1, acc, ts, hg, hs, hm, ha, hk => by
  rw [parse_parser_block.l0, now_eq m hg hs, vBlockL_eq chunk _ acc hg]
  simp only [Option.bind_some, got_eq m hl hg hs]
  refine conv_if (bool_dec _) (fun hc => ?_) fun h1 => ?_
  ·simp only [hc, if_true]
   obtain ⟨g1, g2, g3⟩ := hg.tail (isH_ne hc)
   exact blockL_eq chunk r2 m acc _ g1 (g3.trans hs) (by omega) (by omega) (by omega)
  simp only [if_neg h1, got_eq m hl hg hs, Option.bind_some]
  refine conv_if (bool_dec _) (fun hc => ?_) fun h2 => ?_
  ·simp only [hc, if_true]
   obtain ⟨g1, g2, g3⟩ := hg.tail (isH_ne hc)
   have gs := g3.trans hs
   have hend : ∀ (xs : List Tree) (r : List Tk), Good r → r <:+ l → (parse_parser_got.f m l (ix l r) (⟨#[59]⟩ : ByteArray)).bind (fun r25 => (apd 64 acc [(Tree.mk (30 : Int) (⟨#[]⟩ : ByteArray) (0 : Int) (hd ts).2.2.2 xs)]).bind fun l29 => some (PR.ok ((20 : Int), (⟨#[]⟩ : ByteArray), (0 : Int), r2.2.2.2, l29, r25.2))) = some (conv l eT (.ok (.mk 20 noB 0 r2.2.2.2 (acc ++ [.mk 30 noB 0 (hd ts).2.2.2 xs])) (if isH kSemi r then r.tail else r))) := fun xs r hr hrl => by
    rw [got_eq m hl hr hrl, apd_ok' (by simp only [List.length_cons, List.length_nil]; omega)]
    rfl
   simp only [joinF, ends_eq m g1 gs, is_eq m g1 gs, Option.bind_some]
   unfold vRets
   cases hE : endsH ts.tail with
   | true =>
    simp only [Bool.not_true, cond_false, Option.bind_some, Bool.true_or, if_true]
    exact hend [] _ g1 gs
   | false =>
    simp only [Bool.not_false, cond_true, Option.bind_some, Bool.false_or]
    by_cases hS : isH kSemi ts.tail = true
    ·rw [if_pos hS, show isH (⟨#[59]⟩ : ByteArray) ts.tail = true from hS]
     exact hend [] _ g1 gs
    ·rw [if_neg hS, show isH (⟨#[59]⟩ : ByteArray) ts.tail = false from by simpa using hS]
     simp only [Bool.not_false, cond_true]
     rw [fexps_eq hl m g1 gs (by omega)]
     refine conv_bind (fExps g1) fun xs r hr hrs hn => ?_
     exact hend xs r hr (hrs.trans gs)
  simp only [if_neg h2, is_eq m hg hs, ends_eq m hg hs, Option.bind_some]
  have hq : (cond chunk (some (isH (⟨#[102, 117, 110, 99, 116, 105, 111, 110]⟩ : ByteArray) ts)) (some false) : Option Bool) = some (chunk && isH kFunction ts) := by cases chunk <;> rfl
  rw [hq]
  simp only [Option.bind_some]
  have more : ∀ (x : Tree) (r : List Tk), Good r → r <:+ ts → r.length + 1 ≤ ts.length → ((apd 64 acc [x]).bind fun l56 => parse_parser_block.l0 m (PS.at k) l chunk r2 l56 (ix l r)) = some (conv l eT (vBlockL chunk r2.2.2.2 (acc ++ [x]) r)) := fun x r hr hrs hn => by
   rw [apd_ok' (by simp only [List.length_cons, List.length_nil]; omega)]
   exact blockL_eq chunk r2 m _ r hr (hrs.trans hs) (by omega) (by simp only [List.length_append, List.length_cons, List.length_nil]; omega) (by omega)
  refine conv_if (bool_dec _) (fun hc => ?_) fun h3 => ?_
  ·simp only [Bool.and_eq_true] at hc
   rw [ih.function ts hc.2 hg hs (by omega)]
   refine conv_bind (fFunction (isH_ne hc.2) hg) fun x r hr hrs hn => ?_
   simp only [eT, tree_eta]
   exact more x r hr hrs hn
  refine conv_if (bool_dec _) (fun hc => rfl) fun h4 => ?_
  rw [ih.stat ts hg hs (by omega)]
  refine conv_bind (fStat hg) fun x r hr hrs hn => ?_
  simp only [eT, tree_eta]
  exact more x r hr hrs hn
theorem block_eq (c : Bool) {ts : List Tk} (hg : Good ts) (hs : ts <:+ l) (hk : 16 * ts.length + 8 ≤ k) : parse_parser_block.g (PS.at k) k l (ix l ts) c = some (conv l eT (vBlock c ts)) := by
 unfold parse_parser_block.g
 rw [now_eq k hg hs, vBlock_eq c hg]
 simp only [Option.bind_some]
 have := hs.length_le
 exact blockL_eq hl ih c (hd ts) k [] ts hg hs (by omega) (by simp only [List.length_nil]; omega) hk
theorem function_eq {ts : List Tk} (hf : isH kFunction ts = true) (hg : Good ts) (hs : ts <:+ l) (hk : 16 * ts.length + 6 ≤ k) : parse_parser_function.g (PS.at k) k l (ix l ts) = some (conv l eT (vFunction ts)) := by
 unfold parse_parser_function.g
 rw [now_eq k hg hs, vFunction_eq (isH_ne hf) hg]
 simp only [Option.bind_some]
 rw [want_eq k hl hg hs]
 unfold vWant
 rw [if_pos hf]
 obtain ⟨g1, g2, g3⟩ := hg.tail (isH_ne hf)
 have gs := g3.trans hs
 have hle := hs.length_le
 show PR.bind (parse_parser_name.f k l (ix l ts.tail)) _ = _
 rw [name_eq k hl g1 gs]
 refine conv_bind (fName 6 g1) fun nm r hr hrs hn => ?_
 simp only [eT]
 have h1 := hrs.trans gs
 rw [want_eq k hl hr h1]
 refine conv_bind (fWant _ hr) fun _ r2 hr2 hrs2 hn2 => ?_
 simp only [eU, joinF]
 have h2 := hrs2.trans h1
 have tl : ∀ (ps : List Tree) (r : List Tk), Good r → r <:+ l → r.length + 1 ≤ ts.length → ps.length ≤ 1000000 → PR.bind (parse_parser_want.f k l (ix l r) (⟨#[41]⟩ : ByteArray)) (fun r21 => PR.bind ((PS.at k).parse_parser_block l r21 false) fun r23 => (apd 64 ps [(Tree.mk r23.1 r23.2.1 r23.2.2.1 r23.2.2.2.1 r23.2.2.2.2.1)]).bind fun l32 => PR.bind (parse_parser_want.f k l r23.2.2.2.2.2 (⟨#[101, 110, 100]⟩ : ByteArray)) fun r37 => some (PR.ok ((31 : Int), nm.text, ((ps.length : Nat) : Int), (hd ts).2.2.2, l32, r37))) =
   some (conv l eT ((vWant kRp r).then fun _ r => (vBlock false r).then fun b r => (vWant kEnd r).then fun _ r => .ok (.mk 31 nm.text ps.length (hd ts).2.2.2 (ps ++ [b])) r)) := fun ps r hr hrl hn hps => by
  rw [want_eq k hl hr hrl]
  refine conv_bind (fWant _ hr) fun _ s hs1 hss hn' => ?_
  simp only [eU]
  have h3 := hss.trans hrl
  rw [ih.block false s hs1 h3 (by omega)]
  refine conv_bind (fBlock false hs1) fun b s2 hs2 hss2 hn2' => ?_
  simp only [eT, tree_eta]
  rw [apd_ok' (by simp only [List.length_cons, List.length_nil]; omega)]
  simp only [Option.bind_some]
  rw [want_eq k hl hs2 (hss2.trans h3)]
  exact conv_bind (fWant _ hs2) fun _ s3 _ _ _ => rfl
 rw [is_eq k hr2 h2]
 simp only [Option.bind_some]
 unfold vParams
 by_cases hR : isH kRp r2 = true
 ·rw [if_pos hR, show isH (⟨#[41]⟩ : ByteArray) r2 = true from hR]
  exact tl [] r2 hr2 h2 (by omega) (by simp)
 ·rw [if_neg hR, show isH (⟨#[41]⟩ : ByteArray) r2 = false from by simpa using hR]
  simp only [Bool.not_false, cond_true]
  rw [names_eqA hl k hr2 h2 (by omega)]
  cases hv : vNames r2 with
  | bad i => rfl
  | ok ps s =>
   have hf := fNames hr2
   rw [hv] at hf
   have hln := len_names hr2 hv
   exact tl ps s hf.1 (hf.2.2.trans h2) (by have := hf.2.1; omega) (by omega)
theorem branchesL_eq (J : List Tree → Int → Option (PR (List Tree × Int))) (hJ : ∀ a r, Good r → r <:+ l → 16 * r.length + 9 ≤ k → a.length ≤ 1000000 → J a (ix l r) = some (conv l eL (if isH kElse r then (vBlock false r.tail).then fun c r => (vWant kEnd r).then fun _ r => .ok (a ++ [c]) r else (vWant kEnd r).then fun _ r => .ok a r))) :
  ∀ (m : Nat) (acc : List Tree) (ts : List Tk), Good ts → ts <:+ l → 16 * ts.length + 4 < m → acc.length + 2 * ts.length ≤ 1000000 → 16 * ts.length ≤ k → parse_parser_branches.l0 m (PS.at k) l J acc (ix l ts) = some (conv l eL (vBranches acc ts))
 | 0, _, _, _, _, h, _, _ => by omega
 | m + 1, acc, ts, hg, hs, hm, ha, hk => by
  rw [parse_parser_branches.l0, fexp_eq hl m hg hs (by omega), vBranches_eq acc hg]
  refine conv_bind (fExp (by omega) hg) fun e r hr hrs hn => ?_
  simp only [eT, tree_eta]
  have h1 := hrs.trans hs
  rw [apd_ok' (by simp only [List.length_cons, List.length_nil]; omega)]
  simp only [Option.bind_some]
  rw [want_eq m hl hr h1]
  refine conv_bind (fWant _ hr) fun _ r2 hr2 hrs2 hn2 => ?_
  simp only [eU]
  have h2 := hrs2.trans h1
  rw [ih.block false r2 hr2 h2 (by omega)]
  refine conv_bind (fBlock false hr2) fun b r3 hr3 hrs3 hn3 => ?_
  simp only [eT, tree_eta]
  have h3 := hrs3.trans h2
  rw [apd_ok' (by simp only [List.length_append, List.length_cons, List.length_nil]; omega)]
  simp only [Option.bind_some, got_eq m hl hr3 h3]
  by_cases hc : isH kElseif r3 = true
  ·rw [if_pos hc, show isH (⟨#[101, 108, 115, 101, 105, 102]⟩ : ByteArray) r3 = true from hc]
   simp only [Bool.not_true, cond_false, if_true]
   obtain ⟨g1, g2, g3⟩ := hr3.tail (isH_ne hc)
   exact branchesL_eq J hJ m _ _ g1 (g3.trans h3) (by omega) (by simp only [List.length_append, List.length_cons, List.length_nil]; omega) (by omega)
  ·rw [if_neg hc, show isH (⟨#[101, 108, 115, 101, 105, 102]⟩ : ByteArray) r3 = false from by simpa using hc]
   simp only [Bool.not_false, cond_true, Bool.false_eq_true, if_false]
   exact hJ _ r3 hr3 h3 (by omega) (by simp only [List.length_append, List.length_cons, List.length_nil]; omega)
theorem branches_eq {ts : List Tk} (hg : Good ts) (hs : ts <:+ l) (hk : 16 * ts.length + 5 ≤ k) (hl2 : l.length ≤ 400000) : parse_parser_branches.g (PS.at k) k l (ix l ts) = some (conv l eL (vBranches [] ts)) := by
 unfold parse_parser_branches.g
 simp only [joinF]
 have hle := hs.length_le
 refine branchesL_eq hl ih _ (fun a r hr hrl hk2 ha => ?_) k [] ts hg hs (by omega) (by simp only [List.length_nil]; omega) (by omega)
 rw [got_eq k hl hr hrl]
 simp only [Option.bind_some]
 refine conv_if (bool_dec _) (fun hc => ?_) fun h1 => ?_
 ·simp only [hc, if_true]
  obtain ⟨g1, g2, g3⟩ := hr.tail (isH_ne hc)
  have gs := g3.trans hrl
  rw [ih.block false _ g1 gs (by omega)]
  refine conv_bind (fBlock false g1) fun c r3 hr3 hrs3 hn3 => ?_
  simp only [eT, tree_eta]
  rw [apd_ok' (by simp only [List.length_cons, List.length_nil]; omega)]
  simp only [Option.bind_some]
  rw [want_eq k hl hr3 (hrs3.trans gs)]
  exact conv_bind (fWant _ hr3) fun _ _ _ _ _ => rfl
 ·simp only [if_neg h1]
  rw [want_eq k hl hr hrl]
  exact conv_bind (fWant _ hr) fun _ _ _ _ _ => rfl
theorem for_eq (at_ : Int) {ts : List Tk} (hg : Good ts) (hs : ts <:+ l) (hk : 16 * ts.length + 7 ≤ k) : parse_parser_loop.g (PS.at k) k l (ix l ts) at_ = some (conv l eT (vFor at_ ts)) := by
 unfold parse_parser_loop.g
 rw [name_eq k hl hg hs, vFor_eq at_ hg]
 refine conv_bind (fName 6 hg) fun n r hr hrs hn => ?_
 simp only [eT, tree_eta, joinF]
 have h1 := hrs.trans hs
 have hle := hs.length_le
 have tl : ∀ (kd nn : Int) (xs : List Tree) (r : List Tk), Good r → r <:+ l → r.length + 1 ≤ ts.length → xs.length ≤ 1000000 → PR.bind (parse_parser_want.f k l (ix l r) (⟨#[100, 111]⟩ : ByteArray)) (fun r19 => PR.bind ((PS.at k).parse_parser_block l r19 false) fun r21 => (apd 64 xs [(Tree.mk r21.1 r21.2.1 r21.2.2.1 r21.2.2.2.1 r21.2.2.2.2.1)]).bind fun l30 => PR.bind (parse_parser_want.f k l r21.2.2.2.2.2 (⟨#[101, 110, 100]⟩ : ByteArray)) fun r35 => some (PR.ok (kd, (⟨#[]⟩ : ByteArray), nn, at_, l30, r35))) =
   some (conv l eT ((vBody r).then fun bd r => .ok (.mk kd noB nn at_ (xs ++ [bd])) r)) := fun kd nn xs r hr hrl hn hxs =>
  want_body hl ih (fun b => apd 64 xs [b]) (fun l30 r35 => some (PR.ok (kd, (⟨#[]⟩ : ByteArray), nn, at_, l30, r35))) (fun bd => .mk kd noB nn at_ (xs ++ [bd])) hr hrl (by omega) fun b s hs1 hsl => ⟨_, apd_ok' (by simp only [List.length_cons, List.length_nil]; omega), rfl⟩
 rw [got_eq k hl hr h1]
 simp only [Option.bind_some]
 refine conv_if (bool_dec _) (fun hc => ?_) fun hne => ?_
 ·simp only [hc, if_true]
  obtain ⟨g1, g2, g3⟩ := hr.tail (isH_ne hc)
  have gs := g3.trans h1
  rw [fexp_eq hl k g1 gs (by omega)]
  refine conv_bind (fExp (by omega) g1) fun a r2 hr2 hrs2 hn2 => ?_
  simp only [eT, tree_eta]
  have h2 := hrs2.trans gs
  rw [apd_ok' (by simp)]
  simp only [Option.bind_some]
  rw [want_eq k hl hr2 h2]
  refine conv_bind (fWant _ hr2) fun _ r3 hr3 hrs3 hn3 => ?_
  simp only [eU]
  have h3 := hrs3.trans h2
  rw [fexp_eq hl k hr3 h3 (by omega)]
  refine conv_bind (fExp (by omega) hr3) fun b r4 hr4 hrs4 hn4 => ?_
  simp only [eT, tree_eta]
  have h4 := hrs4.trans h3
  rw [apd_ok' (by simp)]
  simp only [Option.bind_some, got_eq k hl hr4 h4]
  unfold vStep
  by_cases hC : isH kComma r4 = true
  ·rw [if_pos hC, show isH (⟨#[44]⟩ : ByteArray) r4 = true from hC]
   simp only [cond_true, if_true]
   obtain ⟨g5, g6, g7⟩ := hr4.tail (isH_ne hC)
   have gs5 := g7.trans h4
   rw [fexp_eq hl k g5 gs5 (by omega), then_assoc]
   refine conv_bind (fExp (by omega) g5) fun c r5 hr5 hrs5 hn5 => ?_
   simp only [eT, tree_eta]
   rw [apd_ok' (by simp)]
   exact tl 26 0 _ r5 hr5 (hrs5.trans gs5) (by omega) (by simp)
  ·rw [if_neg hC, show isH (⟨#[44]⟩ : ByteArray) r4 = false from by simpa using hC]
   simp only [cond_false, Bool.false_eq_true, if_false]
   have := tl 26 0 ([n] ++ [a] ++ [b]) r4 hr4 h4 (by omega) (by simp)
   simp only [PV.then, List.append_nil]
   exact this
 ·simp only [if_neg hne, got_eq k hl hr h1, Option.bind_some]
  have tl2 : ∀ (xs : List Tree) (r : List Tk), Good r → r <:+ l → r.length + 1 ≤ ts.length → xs.length + r.length ≤ ts.length + 1 → PR.bind (parse_parser_want.f k l (ix l r) (⟨#[105, 110]⟩ : ByteArray)) (fun r94 => PR.bind (parse_parser_exps.f k l r94) fun r96 => (apd 64 xs r96.1).bind fun l102 => PR.bind (parse_parser_want.f k l r96.2 (⟨#[100, 111]⟩ : ByteArray)) fun r19 => PR.bind ((PS.at k).parse_parser_block l r19 false) fun r21 => (apd 64 l102 [(Tree.mk r21.1 r21.2.1 r21.2.2.1 r21.2.2.2.1 r21.2.2.2.2.1)]).bind fun l30 => PR.bind (parse_parser_want.f k l r21.2.2.2.2.2 (⟨#[101, 110, 100]⟩ : ByteArray)) fun r35 => some (PR.ok ((27 : Int), (⟨#[]⟩ : ByteArray), ((xs.length : Nat) : Int), at_, l30, r35))) =
    some (conv l eT ((vWant kIn r).then fun _ r => (vExps r).then fun es r => (vBody r).then fun bd r => .ok (.mk 27 noB xs.length at_ (xs ++ es ++ [bd])) r)) := fun xs r hr hrl hn hx => by
   rw [want_eq k hl hr hrl]
   refine conv_bind (fWant _ hr) fun _ r3 hr3 hrs3 hn3 => ?_
   simp only [eU]
   have h3 := hrs3.trans hrl
   rw [fexps_eq hl k hr3 h3 (by omega)]
   cases hv : vExps r3 with
   | bad i => rfl
   | ok es s =>
    have hf := fExps hr3
    rw [hv] at hf
    have hln := len_exps hr3 hv
    show (apd 64 xs es).bind _ = _
    rw [apd_ok' (by omega)]
    exact tl 27 xs.length (xs ++ es) s hf.1 (hf.2.2.trans h3) (by have := hf.2.1; omega) (by simp only [List.length_append]; omega)
  by_cases hC : isH kComma r = true
  ·rw [show isH (⟨#[44]⟩ : ByteArray) r = true from hC]
   simp only [cond_true, if_true]
   obtain ⟨g1, g2, g3⟩ := hr.tail (isH_ne hC)
   have gs := g3.trans h1
   rw [names_eqA hl k g1 gs (by omega)]
   have e : vNamesL [n] r = (vNames r.tail).then fun xs r => .ok ([n] ++ xs) r := by
    rw [vNamesL_eq _ hr, if_pos hC]
    unfold vNames
    rw [then_assoc]
    exact then_congr (fName 6 g1) fun x s hs1 _ => vNamesL_pre [n] _ [x] s (Nat.le_refl _) hs1
   rw [e, then_assoc]
   cases hv : vNames r.tail with
   | bad i => rfl
   | ok xs s =>
    have hf := fNames g1
    rw [hv] at hf
    have hln := len_names g1 hv
    show (apd 64 [n] xs).bind _ = _
    rw [apd_ok' (by simp only [List.length_cons, List.length_nil]; omega)]
    exact tl2 ([n] ++ xs) s hf.1 (hf.2.2.trans gs) (by have := hf.2.1; omega) (by simp only [List.length_append, List.length_cons, List.length_nil]; omega)
  ·rw [show isH (⟨#[44]⟩ : ByteArray) r = false from by simpa using hC]
   simp only [cond_false, Bool.false_eq_true, if_false]
   rw [vNamesL_eq _ hr, if_neg hC]
   exact tl2 [n] r hr h1 (by omega) (by simp only [List.length_cons, List.length_nil]; omega)
theorem stat_eq {ts : List Tk} (hg : Good ts) (hs : ts <:+ l) (hk : 16 * ts.length + 6 ≤ k) : parse_parser_stat.g (PS.at k) k l (ix l ts) = some (conv l eT (vStat ts)) := by
 unfold parse_parser_stat.g
 rw [now_eq k hg hs, vStat_eq hg]
 simp only [Option.bind_some, joinF, got_eq k hl hg hs]
 have hle := hs.length_le
 refine conv_if (bool_dec _) (fun hc => ?_) fun h1 => ?_
 ·simp only [hc, if_true]
  obtain ⟨g1, g2, g3⟩ := hg.tail (isH_ne hc)
  have gs := g3.trans hs
  rw [body_ok hc hg, then_assoc, ih.block false _ g1 gs (by omega)]
  refine conv_bind (fBlock false g1) fun b r hr hrs hn => ?_
  simp only [eT, tree_eta]
  rw [want_eq k hl hr (hrs.trans gs), then_assoc]
  exact conv_bind (fWant _ hr) fun _ _ _ _ _ => rfl
 simp only [if_neg h1, got_eq k hl hg hs, Option.bind_some]
 refine conv_if (bool_dec _) (fun hc => ?_) fun h2 => ?_
 ·simp only [hc, if_true]
  obtain ⟨g1, g2, g3⟩ := hg.tail (isH_ne hc)
  have gs := g3.trans hs
  rw [fexp_eq hl k g1 gs (by omega)]
  refine conv_bind (fExp (by omega) g1) fun e r hr hrs hn => ?_
  simp only [eT, tree_eta]
  exact want_body hl ih (fun b => apd 64 [e] [b]) (fun l49 r54 => some (PR.ok ((25 : Int), (⟨#[]⟩ : ByteArray), (0 : Int), (hd ts).2.2.2, l49, r54))) (fun b => .mk 25 noB 0 (hd ts).2.2.2 [e, b]) hr (hrs.trans gs) (by omega) fun b s _ _ => ⟨_, apd_ok' (by simp), rfl⟩
 simp only [if_neg h2, got_eq k hl hg hs, Option.bind_some]
 refine conv_if (bool_dec _) (fun hc => ?_) fun h3 => ?_
 ·simp only [hc, if_true]
  obtain ⟨g1, g2, g3⟩ := hg.tail (isH_ne hc)
  rw [ih.branches _ g1 (g3.trans hs) (by omega)]
  exact conv_bind (fBranches _ g1) fun _ _ _ _ _ => rfl
 simp only [if_neg h3, got_eq k hl hg hs, Option.bind_some]
 have same : ∀ {x : PV Tree}, (PR.bind (some (conv l eT x)) fun r66 => some (PR.ok (r66.1, r66.2.1, r66.2.2.1, r66.2.2.2.1, r66.2.2.2.2.1, r66.2.2.2.2.2))) = some (conv l eT x) := fun {x} => by cases x <;> rfl
 refine conv_if (bool_dec _) (fun hc => ?_) fun h4 => ?_
 ·simp only [hc, if_true]
  obtain ⟨g1, g2, g3⟩ := hg.tail (isH_ne hc)
  rw [ih.loop _ _ g1 (g3.trans hs) (by omega)]
  exact same
 simp only [if_neg h4, got_eq k hl hg hs, Option.bind_some]
 refine conv_if (bool_dec _) (fun hc => ?_) fun h5 => ?_
 ·simp only [hc, if_true]
  obtain ⟨g1, g2, g3⟩ := hg.tail (isH_ne hc)
  have gs := g3.trans hs
  rw [names_eqA hl k g1 gs (by omega)]
  cases hv : vNames ts.tail with
  | bad i => rfl
  | ok xs r =>
   have hf := fNames g1
   rw [hv] at hf
   have hln := len_names g1 hv
   have hrl := hf.2.2.trans gs
   show (parse_parser_got.f k l (ix l r) _).bind _ = some (conv l eT ((vInit r).then _))
   rw [got_eq k hl hf.1 hrl]
   unfold vInit
   simp only [Option.bind_some, eL]
   by_cases hE : isH kEq r = true
   ·rw [if_pos hE, show isH (⟨#[61]⟩ : ByteArray) r = true from hE]
    simp only [cond_true, if_true]
    obtain ⟨g4, g5, g6⟩ := hf.1.tail (isH_ne hE)
    have h6 := hf.2.1
    rw [fexps_eq hl k g4 (g6.trans hrl) (by omega)]
    cases hv2 : vExps r.tail with
    | bad i => rfl
    | ok es s =>
     have hln2 := len_exps g4 hv2
     show (apd 64 xs es).bind _ = _
     rw [apd_ok' (by omega)]
     rfl
   ·rw [if_neg hE, show isH (⟨#[61]⟩ : ByteArray) r = false from by simpa using hE]
    simp only [cond_false, Bool.false_eq_true, if_false, PV.then, List.append_nil]
    rfl
 simp only [if_neg h5, got_eq k hl hg hs, Option.bind_some]
 refine conv_if (bool_dec _) (fun hc => ?_) fun h6 => ?_
 ·simp only [hc, if_true]
  rfl
 simp only [if_neg h6]
 rw [ih.plain _ hg hs (by omega)]
 exact same
omit ih in
theorem targets_eq (J : List Tree → Int → Option (PR (Int × ByteArray × Int × Int × List Tree × Int))) (g : List Tree → List Tk → PV Tree) (N : Nat) (hJ : ∀ a r, Good r → r <:+ l → r.length ≤ N → a.length + r.length ≤ 1000000 → J a (ix l r) = some (conv l eT (g a r))) :
  ∀ (m : Nat) (acc : List Tree) (e : Tree) (ts : List Tk), Good ts → ts <:+ l → 16 * ts.length + 2 < m → ts.length ≤ N → acc.length + ts.length + 1 ≤ 1000000 → parse_parser_plain.l0 m l J e.kind e.text e.n e.at_ e.kids acc (ix l ts) = some (conv l eT ((vTargets acc e ts).then g))
 | 0, _, _, _, _, _, h, _, _ => by omega
 | m + 1, acc, e, ts, hg, hs, hm, hN, ha => by
  rw [parse_parser_plain.l0, vTargets_eq acc e hg]
  simp only [joinF, tree_eta]
  have ht : parse_target.f m e.kind e.text e.n e.at_ e.kids = some (decide (e.kind = 6 ∨ e.kind = 7)) := by
   unfold parse_target.f
   rw [beq_dec, beq_dec]
   by_cases h6 : e.kind = 6
   ·simp [h6]
   ·simp [h6]
  rw [ht]
  simp only [Option.bind_some]
  by_cases hk : e.kind = 6 ∨ e.kind = 7
  ·rw [if_pos hk, decide_eq_true hk]
   simp only [Bool.not_true, cond_false]
   rw [apd_ok' (by simp only [List.length_cons, List.length_nil]; omega)]
   simp only [Option.bind_some, got_eq m hl hg hs]
   by_cases hc : isH kComma ts = true
   ·rw [show isH (⟨#[44]⟩ : ByteArray) ts = true from hc]
    simp only [Bool.not_true, cond_false, if_true]
    rw [then_assoc]
    obtain ⟨g1, g2, g3⟩ := hg.tail (isH_ne hc)
    have gs := g3.trans hs
    rw [fsuf_eq hl m g1 gs (by omega)]
    refine conv_bind (fSuffixed g1) fun x r hr hrs hn => ?_
    exact targets_eq J g N hJ m _ x r hr (hrs.trans gs) (by omega) (by omega) (by simp only [List.length_append, List.length_cons, List.length_nil]; omega)
   ·rw [show isH (⟨#[44]⟩ : ByteArray) ts = false from by simpa using hc]
    simp only [Bool.not_false, cond_true, Bool.false_eq_true, if_false]
    exact hJ _ ts hg hs (by omega) (by simp only [List.length_append, List.length_cons, List.length_nil]; omega)
  ·rw [if_neg hk, decide_eq_false hk]
   rfl
omit ih in
theorem plain_eq (k : Nat) {ts : List Tk} (hg : Good ts) (hs : ts <:+ l) (hk : 16 * ts.length + 5 ≤ k) : parse_parser_plain.g (PS.at k) k l (ix l ts) = some (conv l eT (vPlain ts)) := by
 unfold parse_parser_plain.g
 rw [fsuf_eq hl k hg hs (by omega), vPlain_eq hg]
 have hle := hs.length_le
 refine conv_bind (fSuffixed hg) fun e r hr hrs hn => ?_
 have h1 := hrs.trans hs
 simp only [eT, tree_eta, is_eq k hr h1, Option.bind_some, joinF]
 have hq : (cond (!isH (⟨#[61]⟩ : ByteArray) r) (some (!isH (⟨#[44]⟩ : ByteArray) r)) (some false) : Option Bool) = some (!(isH kEq r || isH kComma r)) := by
  show (cond (!isH kEq r) (some (!isH kComma r)) (some false) : Option Bool) = _
  cases isH kEq r <;> cases isH kComma r <;> rfl
 rw [hq]
 simp only [Option.bind_some]
 cases hb : (isH kEq r || isH kComma r) with
 | true =>
  simp only [Bool.not_true, cond_false, if_true]
  refine targets_eq hl _ (fun l r => (vWant kEq r).then fun _ r => (vExps r).then fun es r => .ok (.mk 22 noB l.length e.at_ (l ++ es)) r) r.length (fun a s hs1 hsl hsn ha => ?_) k [] e r hr h1 (by omega) (Nat.le_refl _) (by simp only [List.length_nil]; omega)
  rw [want_eq k hl hs1 hsl]
  refine conv_bind (fWant _ hs1) fun _ s2 hs2 hss2 hn2 => ?_
  simp only [eU]
  have h2 := hss2.trans hsl
  have hkey : 16 * s2.length + 5 ≤ k := by have := hs2; omega
  rw [fexps_eq hl k hs2 h2 hkey]
  cases hv : vExps s2 with
  | bad i => rfl
  | ok es s3 =>
   have hln := len_exps hs2 hv
   show (apd 64 a es).bind _ = _
   rw [apd_ok' (by omega)]
   rfl
 | false =>
  simp only [Bool.not_false, cond_true, Bool.false_eq_true, if_false]
  by_cases h8 : e.kind = 8
  ·rw [if_pos h8, h8]
   rfl
  ·rw [if_neg h8, show (e.kind != 8) = true by rw [bne_iff_ne]; exact h8]
   simp only [cond_true, now_eq k hr h1, Option.bind_some]
   rfl
end
theorem aS {l : List Tk} (hl : l.length ≤ 400000) : ∀ k, AS l k
 | 0 => by constructor <;> intros <;> omega
 | k + 1 => by
  have ih := aS hl k
  have h1 : l.length ≤ 1000000 := by omega
  exact ⟨fun c ts hg hs h => block_eq h1 ih c hg hs (by omega), fun ts hf hg hs h => function_eq h1 ih hf hg hs (by omega), fun ts hg hs h => stat_eq h1 ih hg hs (by omega), fun ts hg hs h => branches_eq h1 ih hg hs (by omega) hl, fun at_ ts hg hs h => for_eq h1 ih at_ hg hs (by omega), fun ts hg hs h => plain_eq h1 k hg hs (by omega)⟩
theorem fblock_eq {l : List Tk} (hl : l.length ≤ 400000) (k : Nat) (c : Bool) {ts : List Tk} (hg : Good ts) (hs : ts <:+ l) (hk : 16 * ts.length + 8 ≤ k) : parse_parser_block.f k l (ix l ts) c = some (conv l eT (vBlock c ts)) := block_eq (by omega) (aS hl k) c hg hs hk
end Go.Proofs.YtidiahkobapnjaaGreatDoor
