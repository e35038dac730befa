/- Texts of mine for checkRenames_card, part 3. -/
import Derived.Test.YtdkgnlaneccioaaGreatDoorCrB
set_option linter.unusedSimpArgs false
set_option linter.unusedVariables false
set_option linter.unusedSectionVars false
namespace Go.Proofs.YtdkgnlaneccioaaGreatDoor
open Go Go.RowKit
def parse_parser_now.f (_k : Nat) (a0_0 : List (Int × ByteArray × Int × Int)) (a0_1 : Int) : Option (Int × ByteArray × Int × Int) := (lIdx a0_0 a0_1).bind fun x2 => some (x2.1, x2.2.1, x2.2.2.1, x2.2.2.2)
set_option maxRecDepth 100000 in
theorem parse_parser_now.ok {k : Nat} {a0_0 : List (Int × ByteArray × Int × Int)} {a0_1 : Int} {b0 : Nat} {H_a0_0 : Frag} {A_a0_0 : Option Addr} {c_a0_0 : Nat} {r : Int × ByteArray × Int × Int} (h : parse_parser_now.f k a0_0 a0_1 = some r) (R_a0_0 : RdT e76 4 H_a0_0 (.slice A_a0_0 a0_0.length c_a0_0) a0_0) : Ct Tryz.prog 31 #[pt b0] [bk b0 #[.slice A_a0_0 a0_0.length c_a0_0, iv a0_1] 73] [H_a0_0] (fun e l1 => e = .returned (.agg #[iv r.1, sv r.2.1, iv r.2.2.1, iv r.2.2.2]) ∧ l1 = [bk b0 #[.slice A_a0_0 a0_0.length c_a0_0, iv a0_1] 73]) := by
 refine ct_enter (args := [pt b0]) Tryz.func31 rfl (Nat.le_of_ble_eq_true rfl) ?_
 intro A X hh_
 obtain ⟨hm_H_a0_0, _⟩ := hh_
 unfold parse_parser_now.f at h
 refine K.eq (env' := [(0, pt b0)]) (l' := bk b0 #[.slice A_a0_0 a0_0.length c_a0_0, iv a0_1] 73 :: X) rfl rfl (ksr (knp #[iv 0, sv noS, iv 0, iv 0] 76 fun b1 => (knt (k_seq (kpr [(0, 0), (1, 0), (2, 0), (3, 3), (4, 0), (5, 0), (6, 0), (7, 3)] [1] (kpx 3 (kpd 0 0 rfl (kpx 3 (kpd 0 1 rfl (kpz ?_))))))))))
 refine bnd h fun x2 hx2 h => (kelP (T := 76) (kd := .i64) e76_ok rfl hx2 R_a0_0 fun p3 e4 y5 => ?_)
 have e4 : Elem _ p3 [iv x2.1, sv x2.2.1, iv x2.2.2.1, iv x2.2.2.2] := e4
 refine keN rfl e4 (t2 hm_H_a0_0) (kst 0 4 #[iv x2.1, sv x2.2.1, iv x2.2.2.1, iv x2.2.2.2] (knt (k_ret ?_)))
 obtain rfl := Option.some.inj h
 exact kda 0 4 rfl [bk b0 #[.slice A_a0_0 a0_0.length c_a0_0, iv a0_1] 73] (K.drop (k_end ⟨rfl, rfl⟩))
def parse_parser_is.f (k : Nat) (a0_0 : List (Int × ByteArray × Int × Int)) (a0_1 : Int) (a1 : ByteArray) : Option (Bool) := (parse_parser_now.f k a0_0 a0_1).bind fun r1 => (cond (r1.1 == 2) (some (r1.2.1.toList == a1.toList)) (cond (r1.1 == 5) (some (r1.2.1.toList == a1.toList)) (some false)) : Option Bool).bind fun q3 => some (q3)
set_option maxRecDepth 100000 in
theorem parse_parser_is.ok {k : Nat} {a0_0 : List (Int × ByteArray × Int × Int)} {a0_1 : Int} {a1 : ByteArray} {b0 : Nat} {H_a0_0 : Frag} {A_a0_0 : Option Addr} {c_a0_0 : Nat} {r : Bool} (h : parse_parser_is.f k a0_0 a0_1 a1 = some r) (R_a0_0 : RdT e76 4 H_a0_0 (.slice A_a0_0 a0_0.length c_a0_0) a0_0) : Ct Tryz.prog 46 #[pt b0, sv a1] [bk b0 #[.slice A_a0_0 a0_0.length c_a0_0, iv a0_1] 73] [H_a0_0] (fun e l1 => e = .returned (bv r) ∧ l1 = [bk b0 #[.slice A_a0_0 a0_0.length c_a0_0, iv a0_1] 73]) := by
 refine ct_enter (args := [pt b0, sv a1]) Tryz.func46 rfl (Nat.le_of_ble_eq_true rfl) ?_
 intro A X hh_
 obtain ⟨hm_H_a0_0, _⟩ := hh_
 unfold parse_parser_is.f at h
 refine K.eq (env' := [(0, pt b0), (1, sv a1)]) (l' := bk b0 #[.slice A_a0_0 a0_0.length c_a0_0, iv a0_1] 73 :: X) rfl rfl (ksr (kx 1 (kns' (kx 1 (bnd h fun r1 hr1 h => (kc1 (parse_parser_now.ok (b0 := b0) hr1 R_a0_0) rfl ⟨hm_H_a0_0, trivial⟩ (knp #[iv 0, sv noS, iv 0, iv 0] 76 fun b2 => (kst 0 4 #[iv r1.1, sv r1.2.1, iv r1.2.2.1, iv r1.2.2.2] (knt (bnd h fun q3 hq3 h => ?_))))))))))
 refine k_cut1 [(4, bv q3)] (bk b0 #[.slice A_a0_0 a0_0.length c_a0_0, iv a0_1] 73 :: X) ?_ ?_
 ·clear hq3
  refine k_ret ?_
  obtain rfl := Option.some.inj h
  exact kdn rfl
 ·have h := hq3
  clear hq3
  refine k_region (kx 1 (kld 0 0 rfl (kx 2 ?_)))
  refine kcs 11 h (fun h => ?_) fun h => ?_
  ·exact kx 6 (kld 0 1 rfl (K.drop (kx 4 (knt (k_meet1 ⟨gb (Option.some.inj h), trivial⟩)))))
  ·refine kx 1 (kld 0 0 rfl (kx 3 ?_))
   refine kcs 16 h (fun h => ?_) fun h => ?_
   ·exact kx 1 (kld 0 1 rfl (K.drop (kx 4 (knt (k_meet1 ⟨gb (Option.some.inj h), trivial⟩)))))
   ·exact kx 6 (knt (K.drop (k_meet1 ⟨gb (Option.some.inj h), trivial⟩)))
def parse_parser_got.f (k : Nat) (a0_0 : List (Int × ByteArray × Int × Int)) (a0_1 : Int) (a1 : ByteArray) : Option (Bool × Int) := (parse_parser_is.f k a0_0 a0_1 a1).bind fun r1 => cond r1 (some (true, IntKind.i64.wrap (a0_1 + 1))) (some (false, a0_1))
set_option maxRecDepth 100000 in
theorem parse_parser_got.ok {k : Nat} {a0_0 : List (Int × ByteArray × Int × Int)} {a0_1 : Int} {a1 : ByteArray} {b0 : Nat} {H_a0_0 : Frag} {A_a0_0 : Option Addr} {c_a0_0 : Nat} {r : Bool × Int} (h : parse_parser_got.f k a0_0 a0_1 a1 = some r) (R_a0_0 : RdT e76 4 H_a0_0 (.slice A_a0_0 a0_0.length c_a0_0) a0_0) : Ct Tryz.prog 44 #[pt b0, sv a1] [bk b0 #[.slice A_a0_0 a0_0.length c_a0_0, iv a0_1] 73] [H_a0_0] (fun e l1 => e = .returned (bv r.1) ∧ l1 = [bk b0 #[.slice A_a0_0 a0_0.length c_a0_0, iv r.2] 73]) := by
 refine ct_enter (args := [pt b0, sv a1]) Tryz.func44 rfl (Nat.le_of_ble_eq_true rfl) ?_
 intro A X hh_
 obtain ⟨hm_H_a0_0, _⟩ := hh_
 unfold parse_parser_got.f at h
 refine K.eq (env' := [(0, pt b0), (1, sv a1)]) (l' := bk b0 #[.slice A_a0_0 a0_0.length c_a0_0, iv a0_1] 73 :: X) rfl rfl (ksr (kx 1 (knt (k_seq (ksr (kx 2 (bnd h fun r1 hr1 h => (kc1 (parse_parser_is.ok (b0 := b0) hr1 R_a0_0) rfl ⟨hm_H_a0_0, trivial⟩ (knt ?_)))))))))
 refine kcn h (fun h => ?_) fun h => ?_
 ·refine ksr (kx 3 (kld 0 1 rfl (kx 3 (kst 1 1 #[.slice A_a0_0 a0_0.length c_a0_0, iv (IntKind.i64.wrap (a0_1 + 1))] (kns' (kx 1 (knt (k_ret (k_then_ret ?_)))))))))
  obtain rfl := Option.some.inj h
  exact kdn rfl
 ·refine k_skip (k_then (ksr (kx 1 (knt (k_ret ?_)))))
  obtain rfl := Option.some.inj h
  exact kdn rfl
def failV (i : Int) : Value := .iface 70 (.agg #[.int .i64 4, .int .i64 i])
def parse_parser_fail.f (_k : Nat) (a0_0 : List (Int × ByteArray × Int × Int)) (a0_1 : Int) (a1 : Int) : Option (PR (Unit)) := some (PR.bad a1)
set_option maxRecDepth 100000 in
theorem parse_parser_fail.ok {k : Nat} {a0_0 : List (Int × ByteArray × Int × Int)} {a0_1 : Int} {a1 : Int} {b0 : Nat} {H_a0_0 : Frag} {A_a0_0 : Option Addr} {c_a0_0 : Nat} {r : PR (Unit)} (h : parse_parser_fail.f k a0_0 a0_1 a1 = some r) (R_a0_0 : RdT e76 4 H_a0_0 (.slice A_a0_0 a0_0.length c_a0_0) a0_0) : Ct Tryz.prog 32 #[pt b0, iv a1] [bk b0 #[.slice A_a0_0 a0_0.length c_a0_0, iv a0_1] 73] [H_a0_0] (PR.Post failV (fun (r : Unit) e l1 => e = .returned (.tuple #[]) ∧ l1 = [bk b0 #[.slice A_a0_0 a0_0.length c_a0_0, iv a0_1] 73]) r) := by
 refine ct_enter (args := [pt b0, iv a1]) Tryz.func32 rfl (Nat.le_of_ble_eq_true rfl) ?_
 intro A X hh_
 obtain ⟨hm_H_a0_0, _⟩ := hh_
 unfold parse_parser_fail.f at h
 refine K.eq (env' := [(0, pt b0), (1, iv a1)]) (l' := bk b0 #[.slice A_a0_0 a0_0.length c_a0_0, iv a0_1] 73 :: X) rfl rfl (k_region (kx 3 ?_))
 obtain rfl := Option.some.inj h
 exact kl_panic (v := failV a1) (by kernel_rfl) (by kernel_rfl) (by kernel_rfl) (k_panicked [] (K.drop (k_end PR.badI)))
def parse_parser_want.f (k : Nat) (a0_0 : List (Int × ByteArray × Int × Int)) (a0_1 : Int) (a1 : ByteArray) : Option (PR (Int)) := (parse_parser_got.f k a0_0 a0_1 a1).bind fun r1 => cond (!r1.1) ((parse_parser_now.f k a0_0 r1.2).bind fun r3 => PR.bind (parse_parser_fail.f k a0_0 r1.2 r3.2.2.2) fun r4 => some (PR.ok (r1.2))) (some (PR.ok (r1.2)))
set_option maxRecDepth 100000 in
theorem parse_parser_want.ok {k : Nat} {a0_0 : List (Int × ByteArray × Int × Int)} {a0_1 : Int} {a1 : ByteArray} {b0 : Nat} {H_a0_0 : Frag} {A_a0_0 : Option Addr} {c_a0_0 : Nat} {r : PR (Int)} (h : parse_parser_want.f k a0_0 a0_1 a1 = some r) (R_a0_0 : RdT e76 4 H_a0_0 (.slice A_a0_0 a0_0.length c_a0_0) a0_0) : Ct Tryz.prog 67 #[pt b0, sv a1] [bk b0 #[.slice A_a0_0 a0_0.length c_a0_0, iv a0_1] 73] [H_a0_0] (PR.Post failV (fun (r : Int) e l1 => e = .returned (.tuple #[]) ∧ l1 = [bk b0 #[.slice A_a0_0 a0_0.length c_a0_0, iv r] 73]) r) := by
 refine ct_enter (args := [pt b0, sv a1]) Tryz.func67 rfl (Nat.le_of_ble_eq_true rfl) ?_
 intro A X hh_
 obtain ⟨hm_H_a0_0, _⟩ := hh_
 unfold parse_parser_want.f at h
 refine K.eq (env' := [(0, pt b0), (1, sv a1)]) (l' := bk b0 #[.slice A_a0_0 a0_0.length c_a0_0, iv a0_1] 73 :: X) rfl rfl (ksr (kx 2 (bnd h fun r1 hr1 h => (kc1 (parse_parser_got.ok (b0 := b0) hr1 R_a0_0) rfl ⟨hm_H_a0_0, trivial⟩ (kx 1 (knt ?_))))))
 refine kcn h (fun h => ?_) fun h => ?_
 ·refine k_region (kx 2 (bnd h fun r3 hr3 h => (kc1 (parse_parser_now.ok (b0 := b0) hr3 R_a0_0) rfl ⟨hm_H_a0_0, trivial⟩ (kx 1 (kcp h (fun _ hr4 => (parse_parser_fail.ok (b0 := b0) hr4 R_a0_0)) rfl ⟨hm_H_a0_0, trivial⟩ (fun _ e => kpn 0 e rfl) fun r4 h => ?_)))))
  rintro _ _ ⟨rfl, rfl⟩
  refine nx_ret1 (knl (k_fall ?_))
  obtain rfl := Option.some.inj h
  exact kdnp ⟨rfl, rfl⟩ rfl
 ·refine k_skip (k_fall ?_)
  obtain rfl := Option.some.inj h
  exact kdnp ⟨rfl, rfl⟩ rfl
def parse_parser_name.f (k : Nat) (a0_0 : List (Int × ByteArray × Int × Int)) (a0_1 : Int) : Option (PR (Int × ByteArray × Int × Int × List Tree × Int)) := (parse_parser_now.f k a0_0 a0_1).bind fun r2 => joinF (fun (_ : Unit) => some (PR.ok (6, r2.2.1, 0, r2.2.2.2, [], IntKind.i64.wrap (a0_1 + 1)))) (fun J4 => cond (r2.1 != 1) (PR.bind (parse_parser_fail.f k a0_0 a0_1 r2.2.2.2) fun r6 => J4 ()) (J4 ()))
set_option maxRecDepth 100000 in
theorem parse_parser_name.ok {k : Nat} {a0_0 : List (Int × ByteArray × Int × Int)} {a0_1 : Int} {b0 : Nat} {H_a0_0 : Frag} {A_a0_0 : Option Addr} {c_a0_0 : Nat} {r : PR (Int × ByteArray × Int × Int × List Tree × Int)} (h : parse_parser_name.f k a0_0 a0_1 = some r) (R_a0_0 : RdT e76 4 H_a0_0 (.slice A_a0_0 a0_0.length c_a0_0) a0_0) : Ct Tryz.prog 68 #[pt b0] [bk b0 #[.slice A_a0_0 a0_0.length c_a0_0, iv a0_1] 73] [H_a0_0] (PR.Post failV (fun (r : Int × ByteArray × Int × Int × List Tree × Int) e l1 => ∃ (H0_ : Frag) (A0_ : Option Addr) (c0_ : Nat), OwnR (rTree 36) 36 H0_ (.slice A0_ r.2.2.2.2.1.length c0_) r.2.2.2.2.1 ∧ e = .returned (.agg #[iv r.1, sv r.2.1, iv r.2.2.1, iv r.2.2.2.1, .slice A0_ r.2.2.2.2.1.length c0_]) ∧ l1 = [H0_, bk b0 #[.slice A_a0_0 a0_0.length c_a0_0, iv r.2.2.2.2.2] 73]) r) := by
 refine ct_enter (args := [pt b0]) Tryz.func68 rfl (Nat.le_of_ble_eq_true rfl) ?_
 intro A X hh_
 obtain ⟨hm_H_a0_0, _⟩ := hh_
 unfold parse_parser_name.f at h
 refine K.eq (env' := [(0, pt b0)]) (l' := bk b0 #[.slice A_a0_0 a0_0.length c_a0_0, iv a0_1] 73 :: X) rfl rfl (ksr (knp #[iv 0, sv noS, iv 0, iv 0, nS] 36 fun b1 => (kns' (kx 1 (K.mv1 (bnd h fun r2 hr2 h => (kc1 (parse_parser_now.ok (b0 := b0) hr2 R_a0_0) rfl ⟨(.tail _ hm_H_a0_0), trivial⟩ (knp #[iv 0, sv noS, iv 0, iv 0] 76 fun b3 => (kst 0 4 #[iv r2.1, sv r2.2.1, iv r2.2.2.1, iv r2.2.2.2] (knt ?_))))))))))
 obtain ⟨J4, hJ4, h⟩ := joinSplit h
 refine k_cut (τ := Unit) (fun t => [(0, pt b0), (2, pt b1), (3, pt b3)]) (fun t => bk b3 #[iv r2.1, sv r2.2.1, iv r2.2.2.1, iv r2.2.2.2] 76 :: bk b0 #[.slice A_a0_0 a0_0.length c_a0_0, iv a0_1] 73 :: bk b1 #[iv 0, sv noS, iv 0, iv 0, nS] 36 :: X) (fun t => J4 () = some r) ?_ ?_
 ·rintro ⟨⟩ h
  subst hJ4
  refine ksr (kx 3 (kld 1 1 rfl (kx 3 (K.mv1 (kst 1 1 #[.slice A_a0_0 a0_0.length c_a0_0, iv (IntKind.i64.wrap (a0_1 + 1))] (kns' (kx 1 (kld 1 1 rfl (kx 1 (kld 1 3 rfl ?_))))))))))
  refine K.mv1 (K.drop (kx 1 (K.mv1 (kst 0 5 #[iv 6, sv r2.2.1, iv 0, iv r2.2.2.2, nS] (knt (k_ret ?_))))))
  obtain rfl := Option.some.inj h
  exact kda 0 5 rfl [none_, bk b0 #[.slice A_a0_0 a0_0.length c_a0_0, iv (IntKind.i64.wrap (a0_1 + 1))] 73] (k_none (K.mv1 (K.drop (k_end (PR.okI ⟨none_, none, 0, (OwnR.nil (rTree 36) 36 none_), rfl, rfl⟩)))))
 ·skip
  refine ksr (kx 1 (kld 0 0 rfl (kx 1 (knt ?_))))
  refine kcn h (fun h => ?_) fun h => ?_
  ·refine k_region (kx 2 (kld 0 3 rfl (K.mv1 (kcp h (fun _ hr6 => (parse_parser_fail.ok (b0 := b0) hr6 R_a0_0)) rfl ⟨(t2 hm_H_a0_0), trivial⟩ (fun _ e => k_then_panic (kpn 2 e rfl)) fun r6 h => ?_))))
   rintro _ _ ⟨rfl, rfl⟩
   exact nx_ret1 (knt (K.mv2 (K.mv1 (K.mv2 (k_meet () h sb rfl)))))
  ·exact k_skip (k_then (k_meet () h sb rfl))
theorem ety34 : ElemTy Tryz.prog 34 36 5 64 Tryz.t36 (.agg #[iv 0, sv noS, iv 0, iv 0, nS]) := ⟨by kernel_rfl, by kernel_rfl, by kernel_rfl, by kernel_rfl, by kernel_rfl, by kernel_rfl, by decide⟩
def parse_parser_names.l0 : Nat → (a0_0 : List (Int × ByteArray × Int × Int)) → (J14 : (List Tree) → Int → Option (PR (List Tree × Int))) → (l15 : List Tree) → (x20 : Int) → Option (PR (List Tree × Int))
 | 0, _, _, _, _ => none
 | m21 + 1, a0_0, J14, l15, x20 => (parse_parser_got.f m21 a0_0 x20 (⟨#[44]⟩ : ByteArray)).bind fun r24 => cond r24.1 (PR.bind (parse_parser_name.f m21 a0_0 r24.2) fun r26 => (apd 64 l15 [(Tree.mk r26.1 r26.2.1 r26.2.2.1 r26.2.2.2.1 r26.2.2.2.2.1)]).bind fun l35 => parse_parser_names.l0 m21 a0_0 J14 l35 r26.2.2.2.2.2) (J14 l15 r24.2)
def parse_parser_names.f (k : Nat) (a0_0 : List (Int × ByteArray × Int × Int)) (a0_1 : Int) : Option (PR (List Tree × Int)) := PR.bind (parse_parser_name.f k a0_0 a0_1) fun r1 => joinF (fun (l8 : List Tree) (x13 : Int) => some (PR.ok (l8, x13))) (fun J14 => parse_parser_names.l0 k a0_0 J14 ([(Tree.mk r1.1 r1.2.1 r1.2.2.1 r1.2.2.2.1 r1.2.2.2.2.1)]) r1.2.2.2.2.2)
set_option maxRecDepth 100000 in
theorem parse_parser_names.ok {k : Nat} {a0_0 : List (Int × ByteArray × Int × Int)} {a0_1 : Int} {b0 : Nat} {H_a0_0 : Frag} {A_a0_0 : Option Addr} {c_a0_0 : Nat} {r : PR (List Tree × Int)} (h : parse_parser_names.f k a0_0 a0_1 = some r) (R_a0_0 : RdT e76 4 H_a0_0 (.slice A_a0_0 a0_0.length c_a0_0) a0_0) : Ct Tryz.prog 69 #[pt b0] [bk b0 #[.slice A_a0_0 a0_0.length c_a0_0, iv a0_1] 73] [H_a0_0] (PR.Post failV (fun (r : List Tree × Int) e l1 => ∃ (H0_ : Frag) (A0_ : Option Addr) (c0_ : Nat), OwnR (rTree 36) 36 H0_ (.slice A0_ r.1.length c0_) r.1 ∧ e = .returned (.slice A0_ r.1.length c0_) ∧ l1 = [H0_, bk b0 #[.slice A_a0_0 a0_0.length c_a0_0, iv r.2] 73]) r) := by
 refine ct_enter (args := [pt b0]) Tryz.func69 rfl (Nat.le_of_ble_eq_true rfl) ?_
 intro A X hh_
 obtain ⟨hm_H_a0_0, _⟩ := hh_
 unfold parse_parser_names.f at h
 refine K.eq (env' := [(0, pt b0)]) (l' := bk b0 #[.slice A_a0_0 a0_0.length c_a0_0, iv a0_1] 73 :: X) rfl rfl (ksr (kx 1 (kns' (kx 1 (kcp h (fun _ hr1 => (parse_parser_name.ok (b0 := b0) hr1 R_a0_0)) rfl ⟨hm_H_a0_0, trivial⟩ (fun _ e => k_then_panic (kpn 0 e rfl)) fun r1 h => ?_)))))
 rintro _ _ ⟨h2, A3, k4, o5, rfl, rfl⟩
 refine nx_ret2 (kns #[iv r1.1, sv r1.2.1, iv r1.2.2.1, iv r1.2.2.2.1, .slice A3 r1.2.2.2.2.1.length k4] 36 1 fun b7 => (kx 1 (knt ?_)))
 obtain ⟨J14, hJ14, h⟩ := joinSplit h
 refine k_cut (τ := (List Tree) × Int × Frag × (Option Addr) × Nat) (fun t => [(3, .slice t.2.2.2.1 t.1.length t.2.2.2.2)]) (fun t => bk b0 #[.slice A_a0_0 a0_0.length c_a0_0, iv t.2.1] 73 :: t.2.2.1 :: X) (fun t => J14 t.1 t.2.1 = some r ∧ OwnR (rTree 36) 36 t.2.2.1 (.slice t.2.2.2.1 t.1.length t.2.2.2.2) t.1) ?_ ?_
 ·rintro ⟨l8, x13, h9, A10, k11⟩ ⟨h, o12⟩
  subst hJ14
  refine ksr (kx 2 (knt (k_ret ?_)))
  obtain rfl := Option.some.inj h
  exact kdv (.slice A10 l8.length k11) [h9, bk b0 #[.slice A_a0_0 a0_0.length c_a0_0, iv x13] 73] (K.mv1 (k_end (PR.okI ⟨h9, A10, k11, o12, rfl, rfl⟩)))
 ·skip
  refine k_block (K.mv1 (K.mv1 (k_row (T := 36) (n := 1) (xs := [(Tree.mk r1.1 r1.2.1 r1.2.2.1 r1.2.2.2.1 r1.2.2.2.2.1)]) (RowI.one (treeO_mk (k := r1.1) (t := r1.2.1) (n := r1.2.2.1) (a := r1.2.2.2.1) 36 o5)) rfl rfl (Nat.le_of_ble_eq_true rfl) fun h22 o23 => (K.mv1 (k_loop (τ := (List Tree) × Int × Frag × (Option Addr) × Nat) (fun t => [(0, pt b0), (3, .slice t.2.2.2.1 t.1.length t.2.2.2.2)]) (fun t => bk b0 #[.slice A_a0_0 a0_0.length c_a0_0, iv t.2.1] 73 :: t.2.2.1 :: X) (fun m t => parse_parser_names.l0 m a0_0 J14 t.1 t.2.1 = some r ∧ OwnR (rTree 36) 36 t.2.2.1 (.slice t.2.2.2.1 t.1.length t.2.2.2.2) t.1) k ([(Tree.mk r1.1 r1.2.1 r1.2.2.1 r1.2.2.2.1 r1.2.2.2.2.1)], r1.2.2.2.2.2, h22, (some ⟨b7, 0, none⟩), 1) ⟨h, o23⟩ sb rfl ?_)))))
  clear h
  rintro m21 ⟨l15, x20, h16, A17, k18⟩ ⟨h, o19⟩
  cases m21 with
  | zero => simp [parse_parser_names.l0] at h
  | succ m21 =>
   simp only [parse_parser_names.l0] at h
   refine k_seq (ksr (kx 1 (bnd h fun r24 hr24 h => (kc1 (parse_parser_got.ok (b0 := b0) hr24 R_a0_0) rfl ⟨(.tail _ hm_H_a0_0), trivial⟩ (knt ?_)))))
   refine kcn h (fun h => ?_) fun h => ?_
   ·refine k_skip (k_then (k_block (k_region (kx 2 (kcp h (fun _ hr26 => (parse_parser_name.ok (b0 := b0) hr26 R_a0_0)) rfl ⟨(.tail _ hm_H_a0_0), trivial⟩ (fun _ e => k_blk_panic (k_then_panic (k_blk_panic (k_then_panic (kpn 1 e rfl))))) fun r26 h => ?_)))))
    rintro _ _ ⟨h27, A28, k29, o30, rfl, rfl⟩
    refine nx_ret2 (kns #[iv r26.1, sv r26.2.1, iv r26.2.2.1, iv r26.2.2.2.1, .slice A28 r26.2.2.2.2.1.length k29] 36 1 fun b32 => (K.mv1 (K.mv1 (k_row (T := 36) (n := 1) (xs := [(Tree.mk r26.1 r26.2.1 r26.2.2.1 r26.2.2.2.1 r26.2.2.2.2.1)]) (RowI.one (treeO_mk (k := r26.1) (t := r26.2.1) (n := r26.2.2.1) (a := r26.2.2.2.1) 36 o30)) rfl rfl (Nat.le_of_ble_eq_true rfl) fun h33 o34 => (K.mv2 (bnd h fun l35 hl35 h => (kapR rfl ety34 rfl hl35 o19 o34 fun h36 A37 k38 o39 => (kx 1 (knl (k_blk ?_))))))))))
    exact k_then (K.mv1 (k_again m21 (l35, r26.2.2.2.2.2, h36, A37, k38) (Nat.lt_succ_self _) ⟨h, o39⟩ sb rfl))
   ·exact k_exit (k_then_exit (k_then_exit (k_here (k_then (k_meet (l15, r24.2, h16, A17, k18) ⟨h, o19⟩ sb rfl)))))
def parse_parser_ends.f (k : Nat) (a0_0 : List (Int × ByteArray × Int × Int)) (a0_1 : Int) : Option (Bool) := ((parse_parser_now.f k a0_0 a0_1).bind fun r2 => cond (r2.1 == 6) (some true) ((parse_parser_is.f k a0_0 a0_1 (⟨#[101, 110, 100]⟩ : ByteArray)).bind fun r4 => cond r4 (some true) ((parse_parser_is.f k a0_0 a0_1 (⟨#[101, 108, 115, 101]⟩ : ByteArray)).bind fun r6 => cond r6 (some true) ((parse_parser_is.f k a0_0 a0_1 (⟨#[101, 108, 115, 101, 105, 102]⟩ : ByteArray)).bind fun r8 => some r8))) : Option Bool).bind fun q1 => some (q1)
set_option maxRecDepth 100000 in
theorem parse_parser_ends.ok {k : Nat} {a0_0 : List (Int × ByteArray × Int × Int)} {a0_1 : Int} {b0 : Nat} {H_a0_0 : Frag} {A_a0_0 : Option Addr} {c_a0_0 : Nat} {r : Bool} (h : parse_parser_ends.f k a0_0 a0_1 = some r) (R_a0_0 : RdT e76 4 H_a0_0 (.slice A_a0_0 a0_0.length c_a0_0) a0_0) : Ct Tryz.prog 45 #[pt b0] [bk b0 #[.slice A_a0_0 a0_0.length c_a0_0, iv a0_1] 73] [H_a0_0] (fun e l1 => e = .returned (bv r) ∧ l1 = [bk b0 #[.slice A_a0_0 a0_0.length c_a0_0, iv a0_1] 73]) := by
 refine ct_enter (args := [pt b0]) Tryz.func45 rfl (Nat.le_of_ble_eq_true rfl) ?_
 intro A X hh_
 obtain ⟨hm_H_a0_0, _⟩ := hh_
 unfold parse_parser_ends.f at h
 refine K.eq (env' := [(0, pt b0)]) (l' := bk b0 #[.slice A_a0_0 a0_0.length c_a0_0, iv a0_1] 73 :: X) rfl rfl (ksr (kx 1 (knt (bnd h fun q1 hq1 h => ?_))))
 refine k_cut1 [(2, bv q1)] (bk b0 #[.slice A_a0_0 a0_0.length c_a0_0, iv a0_1] 73 :: X) ?_ ?_
 ·clear hq1
  refine k_ret ?_
  obtain rfl := Option.some.inj h
  exact kdn rfl
 ·have h := hq1
  clear hq1
  refine k_region (kx 1 (bnd h fun r2 hr2 h => (kc1 (parse_parser_now.ok (b0 := b0) hr2 R_a0_0) rfl ⟨hm_H_a0_0, trivial⟩ (kx 3 ?_))))
  refine kcs 7 h (fun h => ?_) fun h => ?_
  ·exact kx 12 (knt (k_meet1 ⟨gb (Option.some.inj h), trivial⟩))
  ·refine kx 1 (bnd h fun r4 hr4 h => (kc1 (parse_parser_is.ok (b0 := b0) hr4 R_a0_0) rfl ⟨hm_H_a0_0, trivial⟩ (kx 2 ?_)))
   refine kcs 11 h (fun h => ?_) fun h => ?_
   ·exact kx 8 (knt (k_meet1 ⟨gb (Option.some.inj h), trivial⟩))
   ·refine kx 1 (bnd h fun r6 hr6 h => (kc1 (parse_parser_is.ok (b0 := b0) hr6 R_a0_0) rfl ⟨hm_H_a0_0, trivial⟩ (kx 2 ?_)))
    refine kcs 15 h (fun h => ?_) fun h => ?_
    ·exact kx 4 (knt (k_meet1 ⟨gb (Option.some.inj h), trivial⟩))
    ·exact kx 1 (bnd h fun r8 hr8 h => (kc1 (parse_parser_is.ok (b0 := b0) hr8 R_a0_0) rfl ⟨hm_H_a0_0, trivial⟩ (kx 2 (knt (k_meet1 ⟨gb (Option.some.inj h), trivial⟩)))))
def parse_binds.f (_k : Nat) (a0_0 : Int) (a0_1 : ByteArray) (a0_2 : Int) (a0_3 : Int) : Option (Int) := (cond (a0_0 != 5) (some (a0_0 != 2)) (some false) : Option Bool).bind fun q2 => cond q2 (some (0)) (cond (a0_1.toList == (⟨#[111, 114]⟩ : ByteArray).toList) (some (1)) (cond (a0_1.toList == (⟨#[97, 110, 100]⟩ : ByteArray).toList) (some (2)) (joinF (fun (x6 : Bool) => cond x6 (some (3)) (cond (a0_1.toList == (⟨#[46, 46]⟩ : ByteArray).toList) (some (4)) (joinF (fun (x10 : Bool) => cond x10 (some (5)) (joinF (fun (x13 : Bool) => cond x13 (some (6)) (some (0))) (fun J14 => cond (a0_1.toList == (⟨#[42]⟩ : ByteArray).toList) (J14 (a0_1.toList == (⟨#[42]⟩ : ByteArray).toList)) (cond (a0_1.toList == (⟨#[47, 47]⟩ : ByteArray).toList) (J14 (a0_1.toList == (⟨#[47, 47]⟩ : ByteArray).toList)) (J14 (a0_1.toList == (⟨#[37]⟩ : ByteArray).toList)))))) (fun J11 => cond (a0_1.toList == (⟨#[43]⟩ : ByteArray).toList) (J11 (a0_1.toList == (⟨#[43]⟩ : ByteArray).toList)) (J11 (a0_1.toList == (⟨#[45]⟩ : ByteArray).toList)))))) (fun J7 => cond (a0_1.toList == (⟨#[60]⟩ : ByteArray).toList) (J7 (a0_1.toList == (⟨#[60]⟩ : ByteArray).toList)) (cond (a0_1.toList == (⟨#[62]⟩ : ByteArray).toList) (J7 (a0_1.toList == (⟨#[62]⟩ : ByteArray).toList)) (cond (a0_1.toList == (⟨#[60, 61]⟩ : ByteArray).toList) (J7 (a0_1.toList == (⟨#[60, 61]⟩ : ByteArray).toList)) (cond (a0_1.toList == (⟨#[62, 61]⟩ : ByteArray).toList) (J7 (a0_1.toList == (⟨#[62, 61]⟩ : ByteArray).toList)) (cond (a0_1.toList == (⟨#[126, 61]⟩ : ByteArray).toList) (J7 (a0_1.toList == (⟨#[126, 61]⟩ : ByteArray).toList)) (J7 (a0_1.toList == (⟨#[61, 61]⟩ : ByteArray).toList))))))))))
set_option maxRecDepth 100000 in
theorem parse_binds.ok {k : Nat} {a0_0 : Int} {a0_1 : ByteArray} {a0_2 : Int} {a0_3 : Int} {r : Int} (h : parse_binds.f k a0_0 a0_1 a0_2 a0_3 = some r) : Ct Tryz.prog 90 #[.agg #[iv a0_0, sv a0_1, iv a0_2, iv a0_3]] [] [] (fun e l1 => e = .returned (iv r) ∧ l1 = []) := by
 refine ct_enter (args := [.agg #[iv a0_0, sv a0_1, iv a0_2, iv a0_3]]) Tryz.func90 rfl (Nat.le_of_ble_eq_true rfl) ?_
 intro A X hh_
 unfold parse_binds.f at h
 refine ksr (knp #[iv a0_0, sv a0_1, iv a0_2, iv a0_3] 76 fun b1 => (kx 1 (knt (k_seq (bnd h fun q2 hq2 h => ?_)))))
 refine k_cut1 [(1, pt b1), (10, bv q2)] (bk b1 #[iv a0_0, sv a0_1, iv a0_2, iv a0_3] 76 :: X) ?_ ?_
 ·clear hq2
  refine kcn h (fun h => ?_) fun h => ?_
  ·refine ksr (kx 1 (knt (k_ret (k_then_ret ?_))))
   obtain rfl := Option.some.inj h
   exact K.drop (kdn rfl)
  ·refine k_skip (k_then (k_seq (ksr (kx 1 (kld 0 1 rfl (K.drop (knt (k_block (ksr (kx 2 ?_))))))))))
   refine knt ?_
   refine kcn h (fun h => ?_) fun h => ?_
   ·refine ksr (kx 1 (knt (k_ret (k_blk_ret (k_then_ret ?_)))))
    obtain rfl := Option.some.inj h
    exact kdn rfl
   ·refine ksr (kx 2 (knt ?_))
    refine kcn h (fun h => ?_) fun h => ?_
    ·refine ksr (kx 1 (knt (k_ret (k_blk_ret (k_then_ret ?_)))))
     obtain rfl := Option.some.inj h
     exact kdn rfl
    ·obtain ⟨J7, hJ7, h⟩ := joinSplit h
     refine k_cut (τ := Bool) (fun t => [(12, sv a0_1), (17, bv t)]) (fun t => X) (fun t => J7 t = some r) ?_ ?_
     ·rintro x6 h
      subst hJ7
      refine kcn h (fun h => ?_) fun h => ?_
      ·refine ksr (kx 1 (knt (k_ret (k_blk_ret (k_then_ret ?_)))))
       obtain rfl := Option.some.inj h
       exact kdn rfl
      ·refine ksr (kx 2 (knt ?_))
       refine kcn h (fun h => ?_) fun h => ?_
       ·refine ksr (kx 1 (knt (k_ret (k_blk_ret (k_then_ret ?_)))))
        obtain rfl := Option.some.inj h
        exact kdn rfl
       ·obtain ⟨J11, hJ11, h⟩ := joinSplit h
        refine k_cut (τ := Bool) (fun t => [(12, sv a0_1), (26, bv t)]) (fun t => X) (fun t => J11 t = some r) ?_ ?_
        ·rintro x10 h
         subst hJ11
         refine kcn h (fun h => ?_) fun h => ?_
         ·refine ksr (kx 1 (knt (k_ret (k_blk_ret (k_then_ret ?_)))))
          obtain rfl := Option.some.inj h
          exact kdn rfl
         ·obtain ⟨J14, hJ14, h⟩ := joinSplit h
          refine k_cut (τ := Bool) (fun t => [(29, bv t)]) (fun t => X) (fun t => J14 t = some r) ?_ ?_
          ·rintro x13 h
           subst hJ14
           refine kcn h (fun h => ?_) fun h => ?_
           ·refine ksr (kx 1 (knt (k_ret (k_blk_ret (k_then_ret ?_)))))
            obtain rfl := Option.some.inj h
            exact kdn rfl
           ·refine k_skip (k_blk (k_then (ksr (kx 1 (knt (k_ret ?_))))))
            obtain rfl := Option.some.inj h
            exact kdn rfl
          ·skip
           refine ksr (kx 2 (knt ?_))
           refine kcn h (fun h => ?_) fun h => ?_
           ·exact k_skip (k_then (k_meet (a0_1.toList == (⟨#[42]⟩ : ByteArray).toList) h sb rfl))
           ·refine ksr (kx 2 (knt ?_))
            refine kcn h (fun h => ?_) fun h => ?_
            ·exact k_skip (k_then (k_meet (a0_1.toList == (⟨#[47, 47]⟩ : ByteArray).toList) h sb rfl))
            ·exact k_region (kx 2 (knt (k_meet (a0_1.toList == (⟨#[37]⟩ : ByteArray).toList) h sb rfl)))
        ·skip
         refine ksr (kx 2 (knt ?_))
         refine kcn h (fun h => ?_) fun h => ?_
         ·exact k_skip (k_then (k_meet (a0_1.toList == (⟨#[43]⟩ : ByteArray).toList) h sb rfl))
         ·exact k_region (kx 2 (knt (k_meet (a0_1.toList == (⟨#[45]⟩ : ByteArray).toList) h sb rfl)))
     ·skip
      refine ksr (kx 2 (knt ?_))
      refine kcn h (fun h => ?_) fun h => ?_
      ·exact k_skip (k_then (k_meet (a0_1.toList == (⟨#[60]⟩ : ByteArray).toList) h sb rfl))
      ·refine ksr (kx 2 (knt ?_))
       refine kcn h (fun h => ?_) fun h => ?_
       ·exact k_skip (k_then (k_meet (a0_1.toList == (⟨#[62]⟩ : ByteArray).toList) h sb rfl))
       ·refine ksr (kx 2 (knt ?_))
        refine kcn h (fun h => ?_) fun h => ?_
        ·exact k_skip (k_then (k_meet (a0_1.toList == (⟨#[60, 61]⟩ : ByteArray).toList) h sb rfl))
        ·refine ksr (kx 2 (knt ?_))
         refine kcn h (fun h => ?_) fun h => ?_
         ·exact k_skip (k_then (k_meet (a0_1.toList == (⟨#[62, 61]⟩ : ByteArray).toList) h sb rfl))
         ·refine ksr (kx 2 (knt ?_))
          refine kcn h (fun h => ?_) fun h => ?_
          ·exact k_skip (k_then (k_meet (a0_1.toList == (⟨#[126, 61]⟩ : ByteArray).toList) h sb rfl))
          ·exact k_region (kx 2 (knt (k_meet (a0_1.toList == (⟨#[61, 61]⟩ : ByteArray).toList) h sb rfl)))
 ·have h := hq2
  clear hq2
  refine k_region (kx 1 (kld 0 0 rfl (kx 2 ?_)))
  refine kcs 6 h (fun h => ?_) fun h => ?_
  ·exact kx 1 (kld 0 0 rfl (kx 2 (knt (k_meet1 ⟨gr, gb (Option.some.inj h), trivial⟩))))
  ·exact kx 4 (knt (k_meet1 ⟨gr, gb (Option.some.inj h), trivial⟩))
def parse_target.f (_k : Nat) (a0_0 : Int) (a0_1 : ByteArray) (a0_2 : Int) (a0_3 : Int) (a0_4 : List Tree) : Option (Bool) := (cond (a0_0 == 6) (some true) (some (a0_0 == 7)) : Option Bool).bind fun q2 => some (q2)
set_option maxRecDepth 100000 in
theorem parse_target.ok {k : Nat} {a0_0 : Int} {a0_1 : ByteArray} {a0_2 : Int} {a0_3 : Int} {a0_4 : List Tree} {H_a0_4 : Frag} {A_a0_4 : Option Addr} {c_a0_4 : Nat} {r : Bool} (h : parse_target.f k a0_0 a0_1 a0_2 a0_3 a0_4 = some r) (R_a0_4 : RdR (rTree 36) H_a0_4 (.slice A_a0_4 a0_4.length c_a0_4) a0_4) : Ct Tryz.prog 92 #[.agg #[iv a0_0, sv a0_1, iv a0_2, iv a0_3, .slice A_a0_4 a0_4.length c_a0_4]] [] [H_a0_4] (fun e l1 => e = .returned (bv r) ∧ l1 = []) := by
 refine ct_enter (args := [.agg #[iv a0_0, sv a0_1, iv a0_2, iv a0_3, .slice A_a0_4 a0_4.length c_a0_4]]) Tryz.func92 rfl (Nat.le_of_ble_eq_true rfl) ?_
 intro A X hh_
 obtain ⟨hm_H_a0_4, _⟩ := hh_
 unfold parse_target.f at h
 refine ksr (knp #[iv a0_0, sv a0_1, iv a0_2, iv a0_3, .slice A_a0_4 a0_4.length c_a0_4] 36 fun b1 => (kx 1 (knt (bnd h fun q2 hq2 h => ?_))))
 refine k_cut1 [(2, bv q2)] (X) ?_ ?_
 ·clear hq2
  refine k_ret ?_
  obtain rfl := Option.some.inj h
  exact kdn rfl
 ·have h := hq2
  clear hq2
  refine k_region (kx 1 (kld 0 0 rfl (kx 2 ?_)))
  refine kcs 6 h (fun h => ?_) fun h => ?_
  ·exact kx 5 (knt (K.drop (k_meet1 ⟨gb (Option.some.inj h), trivial⟩)))
  ·exact kx 1 (kld 0 0 rfl (K.drop (kx 3 (knt (k_meet1 ⟨gb (Option.some.inj h), trivial⟩)))))
end Go.Proofs.YtdkgnlaneccioaaGreatDoor
namespace Go.Proofs.YtdkgnlaneccioaaGreatDoor
open Go Go.RowKit
theorem St.nones {A : World} {X : List Frag} {w : World} : ∀ (n : Nat), St A X w → St A (List.replicate n none_ ++ X) w
 | 0, h => h
 | n + 1, h => by
  have := St.nones n h
  exact ⟨⟨fun _ _ h => (by cases h), fun _ _ _ => .inl rfl, this.sat⟩, this.os, this.tape, this.output, this.size⟩
theorem parse_Parse_1_idle (p q : Value) (w : World) :
  CallsD Tryz.prog 29 #[p, q] .returning w fun e u' w' => e = .returned (.tuple #[]) ∧ u' = .returning ∧ w = w' := by
 refine callsD_of_wpS Tryz.func29 rfl fun c₀ cs hu => ?_
 apply wpS_seq
 apply wpS_region
 simp [wpOpsS, go_sem, recoverD, hu, Tryz.ntmps29, Exit.thenS, Array.replicate_succ]
 refine wpS_of_wp ?_
 go_wp2
 cases c₀
 simp_all [bodyPostS, results, Tryz.results29]
set_option maxRecDepth 100000 in
theorem parse_Parse_1_pan {A w : World} {X : List Frag} {p q : Nat} {x0 x1 x2 x3 x4 y0 y1 : Value} {i : Int} (hw : St A (blk p (.cells #[x0, x1, x2, x3, x4] 36 (0, 0)) :: blk q (.cells #[y0, y1] 31 (0, 0)) :: X) w) :
  CallsD Tryz.prog 29 #[.pointer (some ⟨p, 0, none⟩), .pointer (some ⟨q, 0, none⟩)] (.panicking [{ v := failV i, recovered := false }]) w fun e u' w' => e = .returned (.tuple #[]) ∧ settle u' = .returning ∧ St A (blk p (.cells #[.int .i64 (0 : Int), .string (⟨#[]⟩ : ByteArray), .int .i64 (0 : Int), .int .i64 (0 : Int), .slice none 0 0] 36 (0, 0)) :: blk q (.cells #[.int .i64 (4 : Int), .int .i64 i] 31 (0, 0)) :: X) w' := by
 refine callsD_of_wpS Tryz.func29 rfl fun c₀ cs hu => ?_
 apply wpS_seq
 apply wpS_region
 simp [wpOpsS, go_sem, recoverD, hu, Tryz.ntmps29, Exit.thenS, Array.replicate_succ]
 refine wpS_of_wp ?_
 refine (?_ : K [] A Tryz.f29.ntmps [(0, .pointer (some ⟨p, 0, none⟩)), (1, .pointer (some ⟨q, 0, none⟩)), (5, .iface 70 (.agg #[.int .i64 (4 : Int), .int .i64 i]))] (blk p (.cells #[x0, x1, x2, x3, x4] 36 (0, 0)) :: blk q (.cells #[y0, y1] 31 (0, 0)) :: X) _) _ w ⟨rfl, rfl, ?_⟩ hw
 rotate_left
 ·intro j v hj
  simp only [Env.get] at hj
  match j with
  | 0 => cases hj; rfl
  | 1 => cases hj; rfl
  | 2 => cases hj
  | 3 => cases hj
  | 4 => cases hj
  | 5 => cases hj; rfl
  | j + 6 => cases hj
 refine k_block ?_
 refine k_seq ?_
 refine k_region ?_
 refine kl_steps 1 [(0, .pointer (some ⟨p, 0, none⟩)), (1, .pointer (some ⟨q, 0, none⟩)), (5, .iface 70 (.agg #[.int .i64 (4 : Int), .int .i64 i])), (7, .bool false)] (by kernel_rfl) ?_
 refine k_nil ?_
 refine k_then ?_
 refine k_cond_false (by kernel_rfl) ?_
 refine k_seq ?_
 refine k_region ?_
 refine kl_steps 3 [(0, .pointer (some ⟨p, 0, none⟩)), (1, .pointer (some ⟨q, 0, none⟩)), (5, .iface 70 (.agg #[.int .i64 (4 : Int), .int .i64 i])), (9, .bool true), (10, .agg #[.int .i64 (4 : Int), .int .i64 i])] (by kernel_rfl) ?_
 refine k_nil ?_
 refine k_then ?_
 refine k_cond_true (by kernel_rfl) ?_
 refine k_seq ?_
 refine k_region ?_
 refine kl_new (.cells #[.int .i64 (0 : Int), .int .i64 (0 : Int)] 70 (0, 0)) (fun b => .pointer (some ⟨b, 0, none⟩)) (by kernel_rfl) (by kernel_rfl) (fun _ => by kernel_rfl) fun b1 => ?_
 refine kl_store (cs' := #[.int .i64 (4 : Int), .int .i64 i]) [.st ⟨b1, 0, none⟩ (.int .i64 (4 : Int)), .st ⟨b1, 1, none⟩ (.int .i64 i)] (by kernel_rfl) (by kernel_rfl) (by kernel_rfl) ⟨rfl, rfl, trivial⟩ (by kernel_rfl) ?_
 refine k_nil ?_
 refine k_then ?_
 refine k_region_plan [(0, 0), (1, 3), (2, 1)] (fun w => OnAll [blk b1 (.cells #[.int .i64 (4 : Int), .int .i64 i] 70 (0, 0))] w) (by kernel_rfl) (by kernel_rfl) (fun _ _ d _ _ h => by cases d <;> exact h) (fun w h_ => ⟨h_.sat.on _ (.head _), trivial⟩) ?_
 simp only [planOps, List.filterMap_cons, List.filterMap_nil, List.getElem?_toArray, List.getElem?_cons_zero, List.getElem?_cons_succ, Option.map_some, List.drop_succ_cons, List.drop_zero, List.length_cons, List.length_nil]
 refine kp_steps 1 [(0, .pointer (some ⟨p, 0, none⟩)), (1, .pointer (some ⟨q, 0, none⟩)), (3, .pointer (some ⟨b1, 0, none⟩)), (11, .agg #[.int .i64 (0 : Int), .string (⟨#[]⟩ : ByteArray), .int .i64 (0 : Int), .int .i64 (0 : Int), .slice none 0 0])] (by kernel_rfl) (by kernel_rfl) ?_
 refine kp_loadS (v := .agg #[.int .i64 (4 : Int), .int .i64 i]) [blk b1 (.cells #[.int .i64 (4 : Int), .int .i64 i] 70 (0, 0))] [.val (.int .i64 (4 : Int)), .val (.int .i64 i)] [.ld ⟨b1, 0, none⟩ (.int .i64 (4 : Int)), .ld ⟨b1, 1, none⟩ (.int .i64 i)] (by kernel_rfl) (by kernel_rfl) (by kernel_rfl) (fun _ h => h) ⟨⟨0, _, _, _, rfl, rfl, rfl⟩, ⟨0, _, _, _, rfl, rfl, rfl⟩, trivial⟩ ?_
 refine kp_turn (by kernel_rfl) ?_
 refine K.mv1 ?_
 refine op_store (cs' := #[.int .i64 (0 : Int), .string (⟨#[]⟩ : ByteArray), .int .i64 (0 : Int), .int .i64 (0 : Int), .slice none 0 0]) [.st ⟨p, 0, none⟩ (.int .i64 (0 : Int)), .st ⟨p, 1, none⟩ (.string (⟨#[]⟩ : ByteArray)), .st ⟨p, 2, none⟩ (.int .i64 (0 : Int)), .st ⟨p, 3, none⟩ (.int .i64 (0 : Int)), .st ⟨p, 4, none⟩ (.slice none 0 0)] (by kernel_rfl) (by kernel_rfl) ⟨rfl, rfl, rfl, rfl, rfl, trivial⟩ (by kernel_rfl) ?_
 refine k_and (fun w h_ => ⟨h_.sat.on _ (.tail _ (.head _)), trivial⟩) ?_
 refine kp_done ?_
 refine K.mv2 ?_
 refine kl_store (cs' := #[.int .i64 (4 : Int), .int .i64 i]) [.st ⟨q, 0, none⟩ (.int .i64 (4 : Int)), .st ⟨q, 1, none⟩ (.int .i64 i)] (by kernel_rfl) (by kernel_rfl) (by kernel_rfl) ⟨rfl, rfl, trivial⟩ (by kernel_rfl) ?_
 refine K.mv2 ?_
 refine K.drop ?_
 refine k_nil ?_
 refine k_blk ?_
 refine K.mv1 ?_
 intro a' w' ha' hw'
 have hd := ha'.defers
 simp [bodyPostS, results, Tryz.results29, hd, settle]
 exact hw'
end Go.Proofs.YtdkgnlaneccioaaGreatDoor
namespace Go.Proofs.YtdkgnlaneccioaaGreatDoor
open Go Go.RowKit
structure PE where
 parse_parser_exp : (a0_0 : List (Int × ByteArray × Int × Int)) → (a0_1 : Int) → (a1 : Int) → Option (PR (Int × ByteArray × Int × Int × List Tree × Int))
 parse_parser_operand : (a0_0 : List (Int × ByteArray × Int × Int)) → (a0_1 : Int) → Option (PR (Int × ByteArray × Int × Int × List Tree × Int))
 parse_parser_suffixed : (a0_0 : List (Int × ByteArray × Int × Int)) → (a0_1 : Int) → Option (PR (Int × ByteArray × Int × Int × List Tree × Int))
 parse_parser_fields : (a0_0 : List (Int × ByteArray × Int × Int)) → (a0_1 : Int) → Option (PR (List Tree × Int))
 parse_parser_field : (a0_0 : List (Int × ByteArray × Int × Int)) → (a0_1 : Int) → Option (PR (Int × ByteArray × Int × Int × List Tree × Int))
 parse_parser_exps : (a0_0 : List (Int × ByteArray × Int × Int)) → (a0_1 : Int) → Option (PR (List Tree × Int))
structure PE.Good (R : PE) : Prop where
 parse_parser_exp : ∀ {a0_0 : List (Int × ByteArray × Int × Int)} {a0_1 : Int} {a1 : Int} {b0 : Nat} {H_a0_0 : Frag} {A_a0_0 : Option Addr} {c_a0_0 : Nat} {r : PR (Int × ByteArray × Int × Int × List Tree × Int)} (h : R.parse_parser_exp a0_0 a0_1 a1 = some r) (R_a0_0 : RdT e76 4 H_a0_0 (.slice A_a0_0 a0_0.length c_a0_0) a0_0), Ct Tryz.prog 66 #[pt b0, iv a1] [bk b0 #[.slice A_a0_0 a0_0.length c_a0_0, iv a0_1] 73] [H_a0_0] (PR.Post failV (fun (r : Int × ByteArray × Int × Int × List Tree × Int) e l1 => ∃ (H0_ : Frag) (A0_ : Option Addr) (c0_ : Nat), OwnR (rTree 36) 36 H0_ (.slice A0_ r.2.2.2.2.1.length c0_) r.2.2.2.2.1 ∧ e = .returned (.agg #[iv r.1, sv r.2.1, iv r.2.2.1, iv r.2.2.2.1, .slice A0_ r.2.2.2.2.1.length c0_]) ∧ l1 = [H0_, bk b0 #[.slice A_a0_0 a0_0.length c_a0_0, iv r.2.2.2.2.2] 73]) r)
 parse_parser_operand : ∀ {a0_0 : List (Int × ByteArray × Int × Int)} {a0_1 : Int} {b0 : Nat} {H_a0_0 : Frag} {A_a0_0 : Option Addr} {c_a0_0 : Nat} {r : PR (Int × ByteArray × Int × Int × List Tree × Int)} (h : R.parse_parser_operand a0_0 a0_1 = some r) (R_a0_0 : RdT e76 4 H_a0_0 (.slice A_a0_0 a0_0.length c_a0_0) a0_0), Ct Tryz.prog 89 #[pt b0] [bk b0 #[.slice A_a0_0 a0_0.length c_a0_0, iv a0_1] 73] [H_a0_0] (PR.Post failV (fun (r : Int × ByteArray × Int × Int × List Tree × Int) e l1 => ∃ (H0_ : Frag) (A0_ : Option Addr) (c0_ : Nat), OwnR (rTree 36) 36 H0_ (.slice A0_ r.2.2.2.2.1.length c0_) r.2.2.2.2.1 ∧ e = .returned (.agg #[iv r.1, sv r.2.1, iv r.2.2.1, iv r.2.2.2.1, .slice A0_ r.2.2.2.2.1.length c0_]) ∧ l1 = [H0_, bk b0 #[.slice A_a0_0 a0_0.length c_a0_0, iv r.2.2.2.2.2] 73]) r)
 parse_parser_suffixed : ∀ {a0_0 : List (Int × ByteArray × Int × Int)} {a0_1 : Int} {b0 : Nat} {H_a0_0 : Frag} {A_a0_0 : Option Addr} {c_a0_0 : Nat} {r : PR (Int × ByteArray × Int × Int × List Tree × Int)} (h : R.parse_parser_suffixed a0_0 a0_1 = some r) (R_a0_0 : RdT e76 4 H_a0_0 (.slice A_a0_0 a0_0.length c_a0_0) a0_0), Ct Tryz.prog 91 #[pt b0] [bk b0 #[.slice A_a0_0 a0_0.length c_a0_0, iv a0_1] 73] [H_a0_0] (PR.Post failV (fun (r : Int × ByteArray × Int × Int × List Tree × Int) e l1 => ∃ (H0_ : Frag) (A0_ : Option Addr) (c0_ : Nat), OwnR (rTree 36) 36 H0_ (.slice A0_ r.2.2.2.2.1.length c0_) r.2.2.2.2.1 ∧ e = .returned (.agg #[iv r.1, sv r.2.1, iv r.2.2.1, iv r.2.2.2.1, .slice A0_ r.2.2.2.2.1.length c0_]) ∧ l1 = [H0_, bk b0 #[.slice A_a0_0 a0_0.length c_a0_0, iv r.2.2.2.2.2] 73]) r)
 parse_parser_fields : ∀ {a0_0 : List (Int × ByteArray × Int × Int)} {a0_1 : Int} {b0 : Nat} {H_a0_0 : Frag} {A_a0_0 : Option Addr} {c_a0_0 : Nat} {r : PR (List Tree × Int)} (h : R.parse_parser_fields a0_0 a0_1 = some r) (R_a0_0 : RdT e76 4 H_a0_0 (.slice A_a0_0 a0_0.length c_a0_0) a0_0), Ct Tryz.prog 103 #[pt b0] [bk b0 #[.slice A_a0_0 a0_0.length c_a0_0, iv a0_1] 73] [H_a0_0] (PR.Post failV (fun (r : List Tree × Int) e l1 => ∃ (H0_ : Frag) (A0_ : Option Addr) (c0_ : Nat), OwnR (rTree 36) 36 H0_ (.slice A0_ r.1.length c0_) r.1 ∧ e = .returned (.slice A0_ r.1.length c0_) ∧ l1 = [H0_, bk b0 #[.slice A_a0_0 a0_0.length c_a0_0, iv r.2] 73]) r)
 parse_parser_field : ∀ {a0_0 : List (Int × ByteArray × Int × Int)} {a0_1 : Int} {b0 : Nat} {H_a0_0 : Frag} {A_a0_0 : Option Addr} {c_a0_0 : Nat} {r : PR (Int × ByteArray × Int × Int × List Tree × Int)} (h : R.parse_parser_field a0_0 a0_1 = some r) (R_a0_0 : RdT e76 4 H_a0_0 (.slice A_a0_0 a0_0.length c_a0_0) a0_0), Ct Tryz.prog 109 #[pt b0] [bk b0 #[.slice A_a0_0 a0_0.length c_a0_0, iv a0_1] 73] [H_a0_0] (PR.Post failV (fun (r : Int × ByteArray × Int × Int × List Tree × Int) e l1 => ∃ (H0_ : Frag) (A0_ : Option Addr) (c0_ : Nat), OwnR (rTree 36) 36 H0_ (.slice A0_ r.2.2.2.2.1.length c0_) r.2.2.2.2.1 ∧ e = .returned (.agg #[iv r.1, sv r.2.1, iv r.2.2.1, iv r.2.2.2.1, .slice A0_ r.2.2.2.2.1.length c0_]) ∧ l1 = [H0_, bk b0 #[.slice A_a0_0 a0_0.length c_a0_0, iv r.2.2.2.2.2] 73]) r)
 parse_parser_exps : ∀ {a0_0 : List (Int × ByteArray × Int × Int)} {a0_1 : Int} {b0 : Nat} {H_a0_0 : Frag} {A_a0_0 : Option Addr} {c_a0_0 : Nat} {r : PR (List Tree × Int)} (h : R.parse_parser_exps a0_0 a0_1 = some r) (R_a0_0 : RdT e76 4 H_a0_0 (.slice A_a0_0 a0_0.length c_a0_0) a0_0), Ct Tryz.prog 47 #[pt b0] [bk b0 #[.slice A_a0_0 a0_0.length c_a0_0, iv a0_1] 73] [H_a0_0] (PR.Post failV (fun (r : List Tree × Int) e l1 => ∃ (H0_ : Frag) (A0_ : Option Addr) (c0_ : Nat), OwnR (rTree 36) 36 H0_ (.slice A0_ r.1.length c0_) r.1 ∧ e = .returned (.slice A0_ r.1.length c0_) ∧ l1 = [H0_, bk b0 #[.slice A_a0_0 a0_0.length c_a0_0, iv r.2] 73]) r)
def parse_parser_exp.l0 : Nat → (Rc : PE) → (a0_0 : List (Int × ByteArray × Int × Int)) → (a1 : Int) → (r2 : Int × ByteArray × Int × Int × List Tree × Int) → (x9 : Int) → (x10 : ByteArray) → (x11 : Int) → (l12 : List Tree) → (x17 : Int) → Option (PR (Int × ByteArray × Int × Int × List Tree × Int))
 | 0, _, _, _, _, _, _, _, _, _ => none
 | m18 + 1, Rc, a0_0, a1, r2, x9, x10, x11, l12, x17 => (parse_parser_now.f m18 a0_0 x17).bind fun r19 => (parse_binds.f m18 r19.1 r19.2.1 r19.2.2.1 r19.2.2.2).bind fun r21 => cond (decide (r21 ≤ a1)) (some (PR.ok (x9, x10, x11, r2.2.2.2.1, l12, x17))) (joinF (fun (x23 : Int) => PR.bind (Rc.parse_parser_exp a0_0 (IntKind.i64.wrap (x17 + 1)) x23) fun r25 => parse_parser_exp.l0 m18 Rc a0_0 a1 r2 11 r19.2.1 0 ([(Tree.mk x9 x10 x11 r2.2.2.2.1 l12), (Tree.mk r25.1 r25.2.1 r25.2.2.1 r25.2.2.2.1 r25.2.2.2.2.1)]) r25.2.2.2.2.2) (fun J24 => cond (r21 == 4) (J24 (IntKind.i64.wrap (r21 - 1))) (J24 r21)))
def parse_parser_exp.g (Rc : PE) (k : Nat) (a0_0 : List (Int × ByteArray × Int × Int)) (a0_1 : Int) (a1 : Int) : Option (PR (Int × ByteArray × Int × Int × List Tree × Int)) := PR.bind (Rc.parse_parser_operand a0_0 a0_1) fun r2 => parse_parser_exp.l0 k Rc a0_0 a1 r2 r2.1 r2.2.1 r2.2.2.1 r2.2.2.2.2.1 r2.2.2.2.2.2
set_option maxRecDepth 100000 in
theorem parse_parser_exp.okg {Rc : PE} (hR : Rc.Good) {k : Nat} {a0_0 : List (Int × ByteArray × Int × Int)} {a0_1 : Int} {a1 : Int} {b0 : Nat} {H_a0_0 : Frag} {A_a0_0 : Option Addr} {c_a0_0 : Nat} {r : PR (Int × ByteArray × Int × Int × List Tree × Int)} (h : parse_parser_exp.g Rc k a0_0 a0_1 a1 = some r) (R_a0_0 : RdT e76 4 H_a0_0 (.slice A_a0_0 a0_0.length c_a0_0) a0_0) : Ct Tryz.prog 66 #[pt b0, iv a1] [bk b0 #[.slice A_a0_0 a0_0.length c_a0_0, iv a0_1] 73] [H_a0_0] (PR.Post failV (fun (r : Int × ByteArray × Int × Int × List Tree × Int) e l1 => ∃ (H0_ : Frag) (A0_ : Option Addr) (c0_ : Nat), OwnR (rTree 36) 36 H0_ (.slice A0_ r.2.2.2.2.1.length c0_) r.2.2.2.2.1 ∧ e = .returned (.agg #[iv r.1, sv r.2.1, iv r.2.2.1, iv r.2.2.2.1, .slice A0_ r.2.2.2.2.1.length c0_]) ∧ l1 = [H0_, bk b0 #[.slice A_a0_0 a0_0.length c_a0_0, iv r.2.2.2.2.2] 73]) r) := by
 refine ct_enter (args := [pt b0, iv a1]) Tryz.func66 rfl (Nat.le_of_ble_eq_true rfl) ?_
 intro A X hh_
 obtain ⟨hm_H_a0_0, _⟩ := hh_
 unfold parse_parser_exp.g at h
 refine K.eq (env' := [(0, pt b0), (1, iv a1)]) (l' := bk b0 #[.slice A_a0_0 a0_0.length c_a0_0, iv a0_1] 73 :: X) rfl rfl (ksr (knp #[iv 0, sv noS, iv 0, iv 0, nS] 36 fun b1 => (kns' (kx 1 (K.mv1 (kcp h (fun _ hr2 => (hR.parse_parser_operand (b0 := b0) hr2 R_a0_0)) rfl ⟨(.tail _ hm_H_a0_0), trivial⟩ (fun _ e => k_then_panic (kpn 1 e rfl)) fun r2 h => ?_))))))
 rintro _ _ ⟨h3, A4, k5, o6, rfl, rfl⟩
 refine nx_ret2 (knp #[iv 0, sv noS, iv 0, iv 0, nS] 36 fun b8 => (kst 0 5 #[iv r2.1, sv r2.2.1, iv r2.2.2.1, iv r2.2.2.2.1, .slice A4 r2.2.2.2.2.1.length k5] (knt (k_block (K.mv1 (K.mv3 (K.mv3 (K.mv3 (k_loop (τ := Int × ByteArray × Int × (List Tree) × Int × Frag × (Option Addr) × Nat) (fun t => [(0, pt b0), (1, iv a1), (4, pt b1), (5, pt b8)]) (fun t => bk b8 #[iv t.1, sv t.2.1, iv t.2.2.1, iv r2.2.2.2.1, .slice t.2.2.2.2.2.2.1 t.2.2.2.1.length t.2.2.2.2.2.2.2] 36 :: bk b0 #[.slice A_a0_0 a0_0.length c_a0_0, iv t.2.2.2.2.1] 73 :: bk b1 #[iv 0, sv noS, iv 0, iv 0, nS] 36 :: t.2.2.2.2.2.1 :: X) (fun m t => parse_parser_exp.l0 m Rc a0_0 a1 r2 t.1 t.2.1 t.2.2.1 t.2.2.2.1 t.2.2.2.2.1 = some r ∧ OwnR (rTree 36) 36 t.2.2.2.2.2.1 (.slice t.2.2.2.2.2.2.1 t.2.2.2.1.length t.2.2.2.2.2.2.2) t.2.2.2.1) k (r2.1, r2.2.1, r2.2.2.1, r2.2.2.2.2.1, r2.2.2.2.2.2, h3, A4, k5) ⟨h, o6⟩ sb rfl ?_)))))))))
 clear h
 rintro m18 ⟨x9, x10, x11, l12, x17, h13, A14, k15⟩ ⟨h, o16⟩
 cases m18 with
 | zero => simp [parse_parser_exp.l0] at h
 | succ m18 =>
  simp only [parse_parser_exp.l0] at h
  refine k_block (ksr (kx 1 (K.mv1 (bnd h fun r19 hr19 h => (kc1 (parse_parser_now.ok (b0 := b0) hr19 R_a0_0) rfl ⟨(t3 hm_H_a0_0), trivial⟩ (knp #[iv 0, sv noS, iv 0, iv 0] 76 fun b20 => (kst 0 4 #[iv r19.1, sv r19.2.1, iv r19.2.2.1, iv r19.2.2.2] (kns' (kla 0 0 4 rfl (bnd h fun r21 hr21 h => ?_))))))))))
  refine kcv (parse_binds.ok hr21) trivial (kx 1 (knt (k_seq (ksr (kx 3 (knt ?_))))))
  refine kcn h (fun h => ?_) fun h => ?_
  ·refine ksr (kla 2 0 5 rfl (K.drop (K.mv1 (K.drop (K.mv1 (kst 0 5 #[iv x9, sv x10, iv x11, iv r2.2.2.2.1, .slice A14 l12.length k15] (knt (k_ret (k_then_ret (k_blk_ret ?_))))))))))
   refine k_then_ret (k_blk_ret ?_)
   obtain rfl := Option.some.inj h
   exact kda 0 5 rfl [h13, bk b0 #[.slice A_a0_0 a0_0.length c_a0_0, iv x17] 73] (K.drop (K.mv1 (k_end (PR.okI ⟨h13, A14, k15, o16, rfl, rfl⟩))))
  ·refine k_skip (k_then (ksr (kx 3 (kld 1 1 rfl (kx 3 (K.mv1 (kst 1 1 #[.slice A_a0_0 a0_0.length c_a0_0, iv (IntKind.i64.wrap (x17 + 1))] (kns' (kx 2 (knt ?_))))))))))
   obtain ⟨J24, hJ24, h⟩ := joinSplit h
   refine k_cut (τ := Int) (fun t => [(0, pt b0), (1, iv a1), (4, pt b1), (5, pt b8), (6, pt b20), (8, iv t)]) (fun t => bk b0 #[.slice A_a0_0 a0_0.length c_a0_0, iv (IntKind.i64.wrap (x17 + 1))] 73 :: bk b20 #[iv r19.1, sv r19.2.1, iv r19.2.2.1, iv r19.2.2.2] 76 :: bk b8 #[iv x9, sv x10, iv x11, iv r2.2.2.2.1, .slice A14 l12.length k15] 36 :: bk b1 #[iv 0, sv noS, iv 0, iv 0, nS] 36 :: h13 :: X) (fun t => J24 t = some r) ?_ ?_
   ·rintro x23 h
    subst hJ24
    refine kpr [(0, 0), (1, 3), (2, 0), (3, 3), (4, 3), (5, 0), (6, 0), (7, 1), (8, 1)] [1, 2] (kpx 1 (kpd 0 1 rfl (kpx 1 (kpd 1 3 rfl (kpa 1 0 5 rfl (kpx 2 (kpt (ocp h (fun _ hr25 => (hR.parse_parser_exp (b0 := b0) hr25 R_a0_0)) rfl ⟨(t4 hm_H_a0_0), trivial⟩ (fun _ e => k_blk_panic (k_then_panic (k_blk_panic (kpn 4 e rfl)))) fun r25 h => ?_))))))))
    rintro _ _ ⟨h26, A27, k28, o29, rfl, rfl⟩
    refine nx_ret2 (kan [2, 3] rfl (kpt (ons #[iv x9, sv x10, iv x11, iv r2.2.2.2.1, .slice A14 l12.length k15, iv r25.1, sv r25.2.1, iv r25.2.2.1, iv r25.2.2.2.1, .slice A27 r25.2.2.2.2.1.length k28] 36 2 fun b31 => (kan [3, 4] rfl (kpz (kx 1 (K.mv4 (kst 0 5 #[iv 11, sv r19.2.1, iv 0, iv r2.2.2.2.1, .slice (some ⟨b31, 0, none⟩) 2 2] (K.mv4 (K.drop ?_))))))))))
    refine knl (k_blk (k_then (K.mv2 (K.mvN [_, _, _, _, _] _ _ (k_or fun p32 => (K.mv2 (k_row (T := 36) (n := 2) (xs := [(Tree.mk x9 x10 x11 r2.2.2.2.1 l12), (Tree.mk r25.1 r25.2.1 r25.2.2.1 r25.2.2.2.1 r25.2.2.2.2.1)]) (RowI.cons (treeO_mk (k := x9) (t := x10) (n := x11) (a := r2.2.2.2.1) 36 o16) p32 (RowI.one (treeO_mk (k := r25.1) (t := r25.2.1) (n := r25.2.2.1) (a := r25.2.2.2.1) 36 o29))) rfl rfl (Nat.le_of_ble_eq_true rfl) fun h33 o34 => (K.mv3 (K.mv3 (K.mv3 ?_))))))))))
    exact k_again m18 (11, r19.2.1, 0, [(Tree.mk x9 x10 x11 r2.2.2.2.1 l12), (Tree.mk r25.1 r25.2.1 r25.2.2.1 r25.2.2.2.1 r25.2.2.2.2.1)], r25.2.2.2.2.2, h33, (some ⟨b31, 0, none⟩), 2) (Nat.lt_succ_self _) ⟨h, o34⟩ sb rfl
   ·skip
    refine ksr (kx 2 (knt ?_))
    refine kcn h (fun h => ?_) fun h => ?_
    ·exact k_region (kx 3 (knt (k_meet (IntKind.i64.wrap (r21 - 1)) h sb rfl)))
    ·exact k_skip (k_then (k_meet r21 h sb rfl))
def parse_parser_operand.g (Rc : PE) (k : Nat) (a0_0 : List (Int × ByteArray × Int × Int)) (a0_1 : Int) : Option (PR (Int × ByteArray × Int × Int × List Tree × Int)) := (parse_parser_now.f k a0_0 a0_1).bind fun r2 => joinF (fun (x5 : Int) (x6 : ByteArray) (x7 : Int) => some (PR.ok (x5, x6, x7, r2.2.2.2, [], IntKind.i64.wrap (a0_1 + 1)))) (fun J8 => cond (r2.1 == 3) (J8 4 (⟨#[]⟩ : ByteArray) r2.2.2.1) (cond (r2.1 == 4) (J8 5 r2.2.1 0) ((parse_parser_is.f k a0_0 a0_1 (⟨#[110, 105, 108]⟩ : ByteArray)).bind fun r11 => cond r11 (J8 1 (⟨#[]⟩ : ByteArray) 0) ((parse_parser_is.f k a0_0 a0_1 (⟨#[116, 114, 117, 101]⟩ : ByteArray)).bind fun r13 => cond r13 (J8 2 (⟨#[]⟩ : ByteArray) 0) ((parse_parser_is.f k a0_0 a0_1 (⟨#[102, 97, 108, 115, 101]⟩ : ByteArray)).bind fun r15 => cond r15 (J8 3 (⟨#[]⟩ : ByteArray) 0) (joinF (fun (x17 : Bool) (x18 : Int) => cond x17 (PR.bind (Rc.parse_parser_exp a0_0 x18 7) fun r21 => some (PR.ok (10, r2.2.1, 0, r2.2.2.2, [(Tree.mk r21.1 r21.2.1 r21.2.2.1 r21.2.2.2.1 r21.2.2.2.2.1)], r21.2.2.2.2.2))) ((parse_parser_got.f k a0_0 x18 (⟨#[123]⟩ : ByteArray)).bind fun r30 => cond r30.1 (PR.bind (Rc.parse_parser_fields a0_0 r30.2) fun r32 => some (PR.ok (12, (⟨#[]⟩ : ByteArray), 0, r2.2.2.2, r32.1, r32.2))) (PR.bind (Rc.parse_parser_suffixed a0_0 r30.2) fun r38 => some (PR.ok (r38.1, r38.2.1, r38.2.2.1, r38.2.2.2.1, r38.2.2.2.2.1, r38.2.2.2.2.2))))) (fun J19 => (parse_parser_got.f k a0_0 a0_1 (⟨#[110, 111, 116]⟩ : ByteArray)).bind fun r44 => cond r44.1 (J19 r44.1 r44.2) ((parse_parser_got.f k a0_0 r44.2 (⟨#[35]⟩ : ByteArray)).bind fun r46 => cond r46.1 (J19 r46.1 r46.2) ((parse_parser_got.f k a0_0 r46.2 (⟨#[45]⟩ : ByteArray)).bind fun r48 => J19 r48.1 r48.2)))))))))
set_option maxRecDepth 100000 in
theorem parse_parser_operand.okg {Rc : PE} (hR : Rc.Good) {k : Nat} {a0_0 : List (Int × ByteArray × Int × Int)} {a0_1 : Int} {b0 : Nat} {H_a0_0 : Frag} {A_a0_0 : Option Addr} {c_a0_0 : Nat} {r : PR (Int × ByteArray × Int × Int × List Tree × Int)} (h : parse_parser_operand.g Rc k a0_0 a0_1 = some r) (R_a0_0 : RdT e76 4 H_a0_0 (.slice A_a0_0 a0_0.length c_a0_0) a0_0) : Ct Tryz.prog 89 #[pt b0] [bk b0 #[.slice A_a0_0 a0_0.length c_a0_0, iv a0_1] 73] [H_a0_0] (PR.Post failV (fun (r : Int × ByteArray × Int × Int × List Tree × Int) e l1 => ∃ (H0_ : Frag) (A0_ : Option Addr) (c0_ : Nat), OwnR (rTree 36) 36 H0_ (.slice A0_ r.2.2.2.2.1.length c0_) r.2.2.2.2.1 ∧ e = .returned (.agg #[iv r.1, sv r.2.1, iv r.2.2.1, iv r.2.2.2.1, .slice A0_ r.2.2.2.2.1.length c0_]) ∧ l1 = [H0_, bk b0 #[.slice A_a0_0 a0_0.length c_a0_0, iv r.2.2.2.2.2] 73]) r) := by
 refine ct_enter (args := [pt b0]) Tryz.func89 rfl (Nat.le_of_ble_eq_true rfl) ?_
 intro A X hh_
 obtain ⟨hm_H_a0_0, _⟩ := hh_
 unfold parse_parser_operand.g at h
 refine K.eq (env' := [(0, pt b0)]) (l' := bk b0 #[.slice A_a0_0 a0_0.length c_a0_0, iv a0_1] 73 :: X) rfl rfl (ksr (knp #[iv 0, sv noS, iv 0, iv 0, nS] 36 fun b1 => (kns' (kx 1 (K.mv1 (bnd h fun r2 hr2 h => (kc1 (parse_parser_now.ok (b0 := b0) hr2 R_a0_0) rfl ⟨(.tail _ hm_H_a0_0), trivial⟩ (knp #[iv 0, sv noS, iv 0, iv 0] 76 fun b3 => (kst 0 4 #[iv r2.1, sv r2.2.1, iv r2.2.2.1, iv r2.2.2.2] (kns' ?_))))))))))
 refine kx 1 (kld 0 3 rfl (kx 1 (knp #[iv 0, sv noS, iv 0, iv 0, nS] 36 fun b4 => (kst 0 5 #[iv 0, sv noS, iv 0, iv r2.2.2.2, nS] (knt ?_)))))
 obtain ⟨J8, hJ8, h⟩ := joinSplit h
 refine k_cut (τ := Int × ByteArray × Int) (fun t => [(0, pt b0), (2, pt b1), (4, pt b4)]) (fun t => bk b4 #[iv t.1, sv t.2.1, iv t.2.2, iv r2.2.2.2, nS] 36 :: bk b0 #[.slice A_a0_0 a0_0.length c_a0_0, iv a0_1] 73 :: bk b1 #[iv 0, sv noS, iv 0, iv 0, nS] 36 :: X) (fun t => J8 t.1 t.2.1 t.2.2 = some r) ?_ ?_
 ·rintro ⟨x5, x6, x7⟩ h
  subst hJ8
  refine ksr (kx 3 (kld 1 1 rfl (kx 3 (K.mv1 (kst 1 1 #[.slice A_a0_0 a0_0.length c_a0_0, iv (IntKind.i64.wrap (a0_1 + 1))] (kns' (kla 1 0 5 rfl (K.mv1 (K.drop (K.mv1 ?_))))))))))
  refine kst 0 5 #[iv x5, sv x6, iv x7, iv r2.2.2.2, nS] (knt (k_ret ?_))
  obtain rfl := Option.some.inj h
  exact kda 0 5 rfl [none_, bk b0 #[.slice A_a0_0 a0_0.length c_a0_0, iv (IntKind.i64.wrap (a0_1 + 1))] 73] (k_none (K.mv1 (K.drop (k_end (PR.okI ⟨none_, none, 0, (OwnR.nil (rTree 36) 36 none_), rfl, rfl⟩)))))
 ·skip
  refine k_block (ksr (kx 1 (kld 1 0 rfl (kx 2 (knt ?_)))))
  refine kcn h (fun h => ?_) fun h => ?_
  ·refine kpr [(0, 0), (1, 3), (2, 0), (3, 1)] [1] (kpx 1 (kpd 0 2 rfl (kpx 1 (kpt (ost 0 1 #[iv 4, sv noS, iv 0, iv r2.2.2.2, nS] (kan [1] rfl (kpz (kx 1 (kst 2 1 #[iv 4, sv noS, iv r2.2.2.1, iv r2.2.2.2, nS] (K.mv1 ?_))))))))))
   exact K.drop (knl (k_blk (k_then (k_meet (4, (⟨#[]⟩ : ByteArray), r2.2.2.1) h sb rfl))))
  ·refine ksr (kx 1 (kld 1 0 rfl (kx 2 (knt ?_))))
   refine kcn h (fun h => ?_) fun h => ?_
   ·refine kpr [(0, 0), (1, 3), (2, 0), (3, 1)] [1] (kpx 1 (kpd 0 1 rfl (kpx 1 (kpt (ost 0 1 #[iv 5, sv noS, iv 0, iv r2.2.2.2, nS] (kan [1] rfl (kpz (kx 1 (kst 1 1 #[iv 5, sv r2.2.1, iv 0, iv r2.2.2.2, nS] (K.mv1 ?_))))))))))
    exact K.drop (knl (k_blk (k_then (k_meet (5, r2.2.1, 0) h sb rfl))))
   ·refine ksr (kx 1 (K.mv2 (bnd h fun r11 hr11 h => (kc1 (parse_parser_is.ok (b0 := b0) hr11 R_a0_0) rfl ⟨(t3 hm_H_a0_0), trivial⟩ (kx 1 (knt ?_))))))
    refine kcn h (fun h => ?_) fun h => ?_
    ·exact k_region (kx 1 (K.mv1 (kst 0 1 #[iv 1, sv noS, iv 0, iv r2.2.2.2, nS] (K.mv2 (K.drop (knl (k_blk (k_then (k_meet (1, (⟨#[]⟩ : ByteArray), 0) h sb rfl)))))))))
    ·refine ksr (kx 1 (bnd h fun r13 hr13 h => (kc1 (parse_parser_is.ok (b0 := b0) hr13 R_a0_0) rfl ⟨(t3 hm_H_a0_0), trivial⟩ (kx 1 (knt ?_)))))
     refine kcn h (fun h => ?_) fun h => ?_
     ·exact k_region (kx 1 (K.mv1 (kst 0 1 #[iv 2, sv noS, iv 0, iv r2.2.2.2, nS] (K.mv2 (K.drop (knl (k_blk (k_then (k_meet (2, (⟨#[]⟩ : ByteArray), 0) h sb rfl)))))))))
     ·refine ksr (kx 1 (bnd h fun r15 hr15 h => (kc1 (parse_parser_is.ok (b0 := b0) hr15 R_a0_0) rfl ⟨(t3 hm_H_a0_0), trivial⟩ (kx 1 (knt ?_)))))
      refine kcn h (fun h => ?_) fun h => ?_
      ·exact k_region (kx 1 (K.mv1 (kst 0 1 #[iv 3, sv noS, iv 0, iv r2.2.2.2, nS] (K.mv2 (K.drop (knl (k_blk (k_then (k_meet (3, (⟨#[]⟩ : ByteArray), 0) h sb rfl)))))))))
      ·obtain ⟨J19, hJ19, h⟩ := joinSplit h
       refine k_cut (τ := Bool × Int) (fun t => [(0, pt b0), (2, pt b1), (3, pt b3), (40, bv t.1)]) (fun t => bk b0 #[.slice A_a0_0 a0_0.length c_a0_0, iv t.2] 73 :: bk b3 #[iv r2.1, sv r2.2.1, iv r2.2.2.1, iv r2.2.2.2] 76 :: bk b1 #[iv 0, sv noS, iv 0, iv 0, nS] 36 :: X) (fun t => J19 t.1 t.2 = some r) ?_ ?_
       ·rintro ⟨x17, x18⟩ h
        subst hJ19
        refine kcn h (fun h => ?_) fun h => ?_
        ·refine k_seq (kpr [(0, 0), (1, 3), (2, 0), (3, 3), (4, 0), (5, 1), (6, 1)] [1] (kpx 1 (kpd 0 1 rfl (kpx 1 (kpd 0 3 rfl (kpx 1 (kpt (ocp h (fun _ hr21 => (hR.parse_parser_exp (b0 := b0) hr21 R_a0_0)) rfl ⟨(t2 hm_H_a0_0), trivial⟩ (fun _ e => k_then_panic (k_blk_panic (k_then_panic (kpn 2 e rfl)))) fun r21 h => ?_))))))))
         rintro _ _ ⟨h22, A23, k24, o25, rfl, rfl⟩
         refine nx_ret2 (kan [2] rfl (kpt (ons #[iv r21.1, sv r21.2.1, iv r21.2.2.1, iv r21.2.2.2.1, .slice A23 r21.2.2.2.2.1.length k24] 36 1 fun b27 => (kan [3] rfl (kpz (kx 1 (K.mv4 (kst 0 5 #[iv 10, sv r2.2.1, iv 0, iv r2.2.2.2, .slice (some ⟨b27, 0, none⟩) 1 1] (K.mv4 (K.drop ?_))))))))))
         refine knt (k_ret (k_blk_ret (k_then_ret (K.mv2 (K.mv2 (k_row (T := 36) (n := 1) (xs := [(Tree.mk r21.1 r21.2.1 r21.2.2.1 r21.2.2.2.1 r21.2.2.2.2.1)]) (RowI.one (treeO_mk (k := r21.1) (t := r21.2.1) (n := r21.2.2.1) (a := r21.2.2.2.1) 36 o25)) rfl rfl (Nat.le_of_ble_eq_true rfl) fun h28 o29 => ?_))))))
         obtain rfl := Option.some.inj h
         exact kda 1 5 rfl [h28, bk b0 #[.slice A_a0_0 a0_0.length c_a0_0, iv r21.2.2.2.2.2] 73] (K.mv1 (K.drop (k_end (PR.okI ⟨h28, (some ⟨b27, 0, none⟩), 1, o29, rfl, rfl⟩))))
        ·refine ksr (kx 1 (bnd h fun r30 hr30 h => (kc1 (parse_parser_got.ok (b0 := b0) hr30 R_a0_0) rfl ⟨(t2 hm_H_a0_0), trivial⟩ (kx 1 (knt ?_)))))
         refine kcn h (fun h => ?_) fun h => ?_
         ·refine k_seq (kpr [(0, 0), (1, 3), (2, 0), (3, 1)] [1] (kpx 1 (kpd 0 3 rfl (kpx 1 (kpt (ocp h (fun _ hr32 => (hR.parse_parser_fields (b0 := b0) hr32 R_a0_0)) rfl ⟨(t2 hm_H_a0_0), trivial⟩ (fun _ e => k_then_panic (k_blk_panic (k_then_panic (kpn 2 e rfl)))) fun r32 h => ?_))))))
          rintro _ _ ⟨h33, A34, k35, o36, rfl, rfl⟩
          refine nx_ret2 (kan [2] rfl (kpz (kx 1 (K.mv3 (kst 0 5 #[iv 12, sv noS, iv 0, iv r2.2.2.2, .slice A34 r32.1.length k35] (K.mv3 (K.drop (knt (k_ret (k_blk_ret ?_))))))))))
          refine k_then_ret ?_
          obtain rfl := Option.some.inj h
          exact kda 0 5 rfl [h33, bk b0 #[.slice A_a0_0 a0_0.length c_a0_0, iv r32.2] 73] (K.drop (k_end (PR.okI ⟨h33, A34, k35, o36, rfl, rfl⟩)))
         ·refine ksr (kx 1 (kcp h (fun _ hr38 => (hR.parse_parser_suffixed (b0 := b0) hr38 R_a0_0)) rfl ⟨(t2 hm_H_a0_0), trivial⟩ (fun _ e => k_then_panic (k_blk_panic (k_then_panic (kpn 2 e rfl)))) fun r38 h => ?_))
          rintro _ _ ⟨h39, A40, k41, o42, rfl, rfl⟩
          refine nx_ret2 (K.mv2 (K.drop (K.mv2 (kst 0 5 #[iv r38.1, sv r38.2.1, iv r38.2.2.1, iv r38.2.2.2.1, .slice A40 r38.2.2.2.2.1.length k41] (knt (k_ret (k_blk_ret (k_then_ret ?_))))))))
          obtain rfl := Option.some.inj h
          exact kda 0 5 rfl [h39, bk b0 #[.slice A_a0_0 a0_0.length c_a0_0, iv r38.2.2.2.2.2] 73] (K.drop (k_end (PR.okI ⟨h39, A40, k41, o42, rfl, rfl⟩)))
       ·skip
        refine ksr (kx 1 (bnd h fun r44 hr44 h => (kc1 (parse_parser_got.ok (b0 := b0) hr44 R_a0_0) rfl ⟨(t3 hm_H_a0_0), trivial⟩ (K.mv1 (K.drop (kx 1 (knt ?_)))))))
        refine kcn h (fun h => ?_) fun h => ?_
        ·exact k_skip (k_then (k_meet (r44.1, r44.2) h sb rfl))
        ·refine ksr (kx 1 (bnd h fun r46 hr46 h => (kc1 (parse_parser_got.ok (b0 := b0) hr46 R_a0_0) rfl ⟨(t2 hm_H_a0_0), trivial⟩ (kx 1 (knt ?_)))))
         refine kcn h (fun h => ?_) fun h => ?_
         ·exact k_skip (k_then (k_meet (r46.1, r46.2) h sb rfl))
         ·exact k_region (kx 1 (bnd h fun r48 hr48 h => (kc1 (parse_parser_got.ok (b0 := b0) hr48 R_a0_0) rfl ⟨(t2 hm_H_a0_0), trivial⟩ (kx 1 (knt (k_meet (r48.1, r48.2) h sb rfl))))))
def parse_parser_suffixed.l0 : Nat → (Rc : PE) → (a0_0 : List (Int × ByteArray × Int × Int)) → (r2 : Int × ByteArray × Int × Int) → (x15 : Int) → (x16 : ByteArray) → (x17 : Int) → (x18 : Int) → (l19 : List Tree) → (x24 : Int) → Option (PR (Int × ByteArray × Int × Int × List Tree × Int))
 | 0, _, _, _, _, _, _, _, _, _ => none
 | m25 + 1, Rc, a0_0, r2, x15, x16, x17, x18, l19, x24 => (parse_parser_got.f m25 a0_0 x24 (⟨#[91]⟩ : ByteArray)).bind fun r26 => cond r26.1 (PR.bind (Rc.parse_parser_exp a0_0 r26.2 0) fun r28 => PR.bind (parse_parser_want.f m25 a0_0 r28.2.2.2.2.2 (⟨#[93]⟩ : ByteArray)) fun r35 => parse_parser_suffixed.l0 m25 Rc a0_0 r2 7 (⟨#[]⟩ : ByteArray) 0 r2.2.2.2 ([(Tree.mk x15 x16 x17 x18 l19), (Tree.mk r28.1 r28.2.1 r28.2.2.1 r28.2.2.2.1 r28.2.2.2.2.1)]) r35) ((parse_parser_got.f m25 a0_0 r26.2 (⟨#[46]⟩ : ByteArray)).bind fun r40 => cond r40.1 (PR.bind (parse_parser_name.f m25 a0_0 r40.2) fun r42 => parse_parser_suffixed.l0 m25 Rc a0_0 r2 7 (⟨#[]⟩ : ByteArray) 0 r2.2.2.2 ([(Tree.mk x15 x16 x17 x18 l19), (Tree.mk 5 r42.2.1 r42.2.2.1 r42.2.2.2.1 r42.2.2.2.2.1)]) r42.2.2.2.2.2) ((parse_parser_got.f m25 a0_0 r40.2 (⟨#[40]⟩ : ByteArray)).bind fun r53 => cond r53.1 (joinF (fun (l56 : List Tree) (x61 : Int) => PR.bind (parse_parser_want.f m25 a0_0 x61 (⟨#[41]⟩ : ByteArray)) fun r63 => parse_parser_suffixed.l0 m25 Rc a0_0 r2 8 (⟨#[]⟩ : ByteArray) 0 r2.2.2.2 l56 r63) (fun J62 => (parse_parser_is.f m25 a0_0 r53.2 (⟨#[41]⟩ : ByteArray)).bind fun r65 => cond (!r65) (PR.bind (Rc.parse_parser_exps a0_0 r53.2) fun r67 => (apd 64 [(Tree.mk x15 x16 x17 x18 l19)] r67.1).bind fun l75 => J62 l75 r67.2) (J62 ([(Tree.mk x15 x16 x17 x18 l19)]) r53.2))) (some (PR.ok (x15, x16, x17, x18, l19, r53.2)))))
def parse_parser_suffixed.g (Rc : PE) (k : Nat) (a0_0 : List (Int × ByteArray × Int × Int)) (a0_1 : Int) : Option (PR (Int × ByteArray × Int × Int × List Tree × Int)) := (parse_parser_now.f k a0_0 a0_1).bind fun r2 => joinF (fun (x4 : Int) (x5 : ByteArray) (x6 : Int) (x7 : Int) (l8 : List Tree) (x13 : Int) => parse_parser_suffixed.l0 k Rc a0_0 r2 x4 x5 x6 x7 l8 x13) (fun J14 => (parse_parser_got.f k a0_0 a0_1 (⟨#[40]⟩ : ByteArray)).bind fun r82 => cond r82.1 (PR.bind (Rc.parse_parser_exp a0_0 r82.2 0) fun r84 => PR.bind (parse_parser_want.f k a0_0 r84.2.2.2.2.2 (⟨#[41]⟩ : ByteArray)) fun r91 => J14 9 (⟨#[]⟩ : ByteArray) 0 r2.2.2.2 ([(Tree.mk r84.1 r84.2.1 r84.2.2.1 r84.2.2.2.1 r84.2.2.2.2.1)]) r91) (PR.bind (parse_parser_name.f k a0_0 r82.2) fun r95 => J14 r95.1 r95.2.1 r95.2.2.1 r95.2.2.2.1 r95.2.2.2.2.1 r95.2.2.2.2.2))
set_option maxRecDepth 100000 in
theorem parse_parser_suffixed.okg {Rc : PE} (hR : Rc.Good) {k : Nat} {a0_0 : List (Int × ByteArray × Int × Int)} {a0_1 : Int} {b0 : Nat} {H_a0_0 : Frag} {A_a0_0 : Option Addr} {c_a0_0 : Nat} {r : PR (Int × ByteArray × Int × Int × List Tree × Int)} (h : parse_parser_suffixed.g Rc k a0_0 a0_1 = some r) (R_a0_0 : RdT e76 4 H_a0_0 (.slice A_a0_0 a0_0.length c_a0_0) a0_0) : Ct Tryz.prog 91 #[pt b0] [bk b0 #[.slice A_a0_0 a0_0.length c_a0_0, iv a0_1] 73] [H_a0_0] (PR.Post failV (fun (r : Int × ByteArray × Int × Int × List Tree × Int) e l1 => ∃ (H0_ : Frag) (A0_ : Option Addr) (c0_ : Nat), OwnR (rTree 36) 36 H0_ (.slice A0_ r.2.2.2.2.1.length c0_) r.2.2.2.2.1 ∧ e = .returned (.agg #[iv r.1, sv r.2.1, iv r.2.2.1, iv r.2.2.2.1, .slice A0_ r.2.2.2.2.1.length c0_]) ∧ l1 = [H0_, bk b0 #[.slice A_a0_0 a0_0.length c_a0_0, iv r.2.2.2.2.2] 73]) r) := by
 refine ct_enter (args := [pt b0]) Tryz.func91 rfl (Nat.le_of_ble_eq_true rfl) ?_
 intro A X hh_
 obtain ⟨hm_H_a0_0, _⟩ := hh_
 unfold parse_parser_suffixed.g at h
 refine K.eq (env' := [(0, pt b0)]) (l' := bk b0 #[.slice A_a0_0 a0_0.length c_a0_0, iv a0_1] 73 :: X) rfl rfl (ksr (knp #[iv 0, sv noS, iv 0, iv 0, nS] 36 fun b1 => (kns' (kx 1 (K.mv1 (bnd h fun r2 hr2 h => (kc1 (parse_parser_now.ok (b0 := b0) hr2 R_a0_0) rfl ⟨(.tail _ hm_H_a0_0), trivial⟩ (kx 2 (kns' (knp #[iv 0, sv noS, iv 0, iv 0, nS] 36 fun b3 => ?_))))))))))
 refine knt ?_
 obtain ⟨J14, hJ14, h⟩ := joinSplit h
 refine k_cut (τ := Int × ByteArray × Int × Int × (List Tree) × Int × Frag × (Option Addr) × Nat) (fun t => [(0, pt b0), (2, pt b1), (3, iv r2.2.2.2), (4, pt b3)]) (fun t => bk b3 #[iv t.1, sv t.2.1, iv t.2.2.1, iv t.2.2.2.1, .slice t.2.2.2.2.2.2.2.1 t.2.2.2.2.1.length t.2.2.2.2.2.2.2.2] 36 :: bk b0 #[.slice A_a0_0 a0_0.length c_a0_0, iv t.2.2.2.2.2.1] 73 :: bk b1 #[iv 0, sv noS, iv 0, iv 0, nS] 36 :: t.2.2.2.2.2.2.1 :: X) (fun t => J14 t.1 t.2.1 t.2.2.1 t.2.2.2.1 t.2.2.2.2.1 t.2.2.2.2.2.1 = some r ∧ OwnR (rTree 36) 36 t.2.2.2.2.2.2.1 (.slice t.2.2.2.2.2.2.2.1 t.2.2.2.2.1.length t.2.2.2.2.2.2.2.2) t.2.2.2.2.1) ?_ ?_
 ·rintro ⟨x4, x5, x6, x7, l8, x13, h9, A10, k11⟩ ⟨h, o12⟩
  subst hJ14
  refine k_block (k_loop (τ := Int × ByteArray × Int × Int × (List Tree) × Int × Frag × (Option Addr) × Nat) (fun t => [(0, pt b0), (2, pt b1), (3, iv r2.2.2.2), (4, pt b3)]) (fun t => bk b3 #[iv t.1, sv t.2.1, iv t.2.2.1, iv t.2.2.2.1, .slice t.2.2.2.2.2.2.2.1 t.2.2.2.2.1.length t.2.2.2.2.2.2.2.2] 36 :: bk b0 #[.slice A_a0_0 a0_0.length c_a0_0, iv t.2.2.2.2.2.1] 73 :: bk b1 #[iv 0, sv noS, iv 0, iv 0, nS] 36 :: t.2.2.2.2.2.2.1 :: X) (fun m t => parse_parser_suffixed.l0 m Rc a0_0 r2 t.1 t.2.1 t.2.2.1 t.2.2.2.1 t.2.2.2.2.1 t.2.2.2.2.2.1 = some r ∧ OwnR (rTree 36) 36 t.2.2.2.2.2.2.1 (.slice t.2.2.2.2.2.2.2.1 t.2.2.2.2.1.length t.2.2.2.2.2.2.2.2) t.2.2.2.2.1) k (x4, x5, x6, x7, l8, x13, h9, A10, k11) ⟨h, o12⟩ sb rfl ?_)
  clear h
  rintro m25 ⟨x15, x16, x17, x18, l19, x24, h20, A21, k22⟩ ⟨h, o23⟩
  cases m25 with
  | zero => simp [parse_parser_suffixed.l0] at h
  | succ m25 =>
   simp only [parse_parser_suffixed.l0] at h
   refine k_block (k_block (ksr (kx 1 (K.mv1 (bnd h fun r26 hr26 h => (kc1 (parse_parser_got.ok (b0 := b0) hr26 R_a0_0) rfl ⟨(t3 hm_H_a0_0), trivial⟩ (kx 1 (knt ?_))))))))
   refine kcn h (fun h => ?_) fun h => ?_
   ·refine k_seq (kpr [(0, 0), (1, 3), (2, 0), (3, 1)] [1] (kpx 1 (kpa 0 0 5 rfl (kpx 1 (kpt (ocp h (fun _ hr28 => (hR.parse_parser_exp (b0 := b0) hr28 R_a0_0)) rfl ⟨(t3 hm_H_a0_0), trivial⟩ (fun _ e => k_then_panic (k_blk_panic (k_blk_panic (k_then_panic (k_blk_panic (kpn 3 e rfl)))))) fun r28 h => ?_))))))
    rintro _ _ ⟨h29, A30, k31, o32, rfl, rfl⟩
    refine nx_ret2 (kan [2] rfl (kpz (kns #[iv x15, sv x16, iv x17, iv x18, .slice A21 l19.length k22, iv r28.1, sv r28.2.1, iv r28.2.2.1, iv r28.2.2.2.1, .slice A30 r28.2.2.2.2.1.length k31] 36 2 fun b34 => (kx 1 (K.mv3 (kst 0 5 #[iv 7, sv noS, iv 0, iv r2.2.2.2, .slice (some ⟨b34, 0, none⟩) 2 2] (knr (kx 1 (K.mv3 (kcp h (fun _ hr35 => (parse_parser_want.ok (b0 := b0) hr35 R_a0_0)) rfl ⟨(t5 hm_H_a0_0), trivial⟩ (fun _ e => k_blk_panic (k_blk_panic (k_then_panic (k_blk_panic (kpn 5 e rfl))))) fun r35 h => ?_))))))))))
    rintro _ _ ⟨rfl, rfl⟩
    refine nx_ret1 (knl (k_blk (k_blk (k_then (K.mv3 (K.mvN [_, _, _, _, _] _ _ (k_or fun p37 => (K.mv3 (k_row (T := 36) (n := 2) (xs := [(Tree.mk x15 x16 x17 x18 l19), (Tree.mk r28.1 r28.2.1 r28.2.2.1 r28.2.2.2.1 r28.2.2.2.2.1)]) (RowI.cons (treeO_mk (k := x15) (t := x16) (n := x17) (a := x18) 36 o23) p37 (RowI.one (treeO_mk (k := r28.1) (t := r28.2.1) (n := r28.2.2.1) (a := r28.2.2.2.1) 36 o32))) rfl rfl (Nat.le_of_ble_eq_true rfl) fun h38 o39 => (K.mv3 ?_))))))))))
    exact K.mv2 (K.mv3 (k_again m25 (7, (⟨#[]⟩ : ByteArray), 0, r2.2.2.2, [(Tree.mk x15 x16 x17 x18 l19), (Tree.mk r28.1 r28.2.1 r28.2.2.1 r28.2.2.2.1 r28.2.2.2.2.1)], r35, h38, (some ⟨b34, 0, none⟩), 2) (Nat.lt_succ_self _) ⟨h, o39⟩ sb rfl))
   ·refine ksr (kx 1 (bnd h fun r40 hr40 h => (kc1 (parse_parser_got.ok (b0 := b0) hr40 R_a0_0) rfl ⟨(t3 hm_H_a0_0), trivial⟩ (kx 1 (knt ?_)))))
    refine kcn h (fun h => ?_) fun h => ?_
    ·refine ksr (kx 1 (kcp h (fun _ hr42 => (parse_parser_name.ok (b0 := b0) hr42 R_a0_0)) rfl ⟨(t3 hm_H_a0_0), trivial⟩ (fun _ e => k_then_panic (k_blk_panic (k_blk_panic (k_then_panic (k_blk_panic (kpn 3 e rfl)))))) fun r42 h => ?_))
     rintro _ _ ⟨h43, A44, k45, o46, rfl, rfl⟩
     refine nx_ret2 (knp #[iv 0, sv noS, iv 0, iv 0, nS] 36 fun b48 => (kst 0 5 #[iv r42.1, sv r42.2.1, iv r42.2.2.1, iv r42.2.2.2.1, .slice A44 r42.2.2.2.2.1.length k45] (kns' (kx 1 (kst 0 1 #[iv 5, sv r42.2.1, iv r42.2.2.1, iv r42.2.2.2.1, .slice A44 r42.2.2.2.2.1.length k45] (knr (kx 1 (kla 3 0 5 rfl (kla 0 0 5 rfl (K.drop ?_))))))))))
     refine kns #[iv x15, sv x16, iv x17, iv x18, .slice A21 l19.length k22, iv 5, sv r42.2.1, iv r42.2.2.1, iv r42.2.2.2.1, .slice A44 r42.2.2.2.2.1.length k45] 36 2 fun b49 => (kx 1 (K.mv3 (kst 0 5 #[iv 7, sv noS, iv 0, iv r2.2.2.2, .slice (some ⟨b49, 0, none⟩) 2 2] (knl (k_blk (k_blk (k_then (K.mv2 (K.mvN [_, _, _, _, _] _ _ (k_or fun p50 => ?_))))))))))
     exact K.mv2 (k_row (T := 36) (n := 2) (xs := [(Tree.mk x15 x16 x17 x18 l19), (Tree.mk 5 r42.2.1 r42.2.2.1 r42.2.2.2.1 r42.2.2.2.2.1)]) (RowI.cons (treeO_mk (k := x15) (t := x16) (n := x17) (a := x18) 36 o23) p50 (RowI.one (treeO_mk (k := 5) (t := r42.2.1) (n := r42.2.2.1) (a := r42.2.2.2.1) 36 o46))) rfl rfl (Nat.le_of_ble_eq_true rfl) fun h51 o52 => (K.mv3 (K.mv3 (K.mv3 (k_again m25 (7, (⟨#[]⟩ : ByteArray), 0, r2.2.2.2, [(Tree.mk x15 x16 x17 x18 l19), (Tree.mk 5 r42.2.1 r42.2.2.1 r42.2.2.2.1 r42.2.2.2.2.1)], r42.2.2.2.2.2, h51, (some ⟨b49, 0, none⟩), 2) (Nat.lt_succ_self _) ⟨h, o52⟩ sb rfl)))))
    ·refine ksr (kx 1 (bnd h fun r53 hr53 h => (kc1 (parse_parser_got.ok (b0 := b0) hr53 R_a0_0) rfl ⟨(t3 hm_H_a0_0), trivial⟩ (kx 1 (knt ?_)))))
     refine kcn h (fun h => ?_) fun h => ?_
     ·refine ksr (kx 1 (kla 1 0 5 rfl (kns #[iv x15, sv x16, iv x17, iv x18, .slice A21 l19.length k22] 36 1 fun b55 => (kx 1 (K.mv2 (kst 0 5 #[iv 8, sv noS, iv 0, iv r2.2.2.2, .slice (some ⟨b55, 0, none⟩) 1 1] (knt ?_)))))))
      obtain ⟨J62, hJ62, h⟩ := joinSplit h
      refine k_cut (τ := (List Tree) × Int × Frag × (Option Addr) × Nat) (fun t => [(0, pt b0), (2, pt b1), (3, iv r2.2.2.2), (4, pt b3)]) (fun t => bk b3 #[iv 8, sv noS, iv 0, iv r2.2.2.2, .slice t.2.2.2.1 t.1.length t.2.2.2.2] 36 :: bk b0 #[.slice A_a0_0 a0_0.length c_a0_0, iv t.2.1] 73 :: bk b1 #[iv 0, sv noS, iv 0, iv 0, nS] 36 :: t.2.2.1 :: X) (fun t => J62 t.1 t.2.1 = some r ∧ OwnR (rTree 36) 36 t.2.2.1 (.slice t.2.2.2.1 t.1.length t.2.2.2.2) t.1) ?_ ?_
      ·rintro ⟨l56, x61, h57, A58, k59⟩ ⟨h, o60⟩
       subst hJ62
       refine k_region (kx 1 (K.mv1 (kcp h (fun _ hr63 => (parse_parser_want.ok (b0 := b0) hr63 R_a0_0)) rfl ⟨(t3 hm_H_a0_0), trivial⟩ (fun _ e => k_blk_panic (k_blk_panic (k_then_panic (k_blk_panic (kpn 3 e rfl))))) fun r63 h => ?_)))
       rintro _ _ ⟨rfl, rfl⟩
       exact nx_ret1 (knl (k_blk (k_blk (k_then (K.mv3 (K.mv3 (K.mv2 (K.mv3 (k_again m25 (8, (⟨#[]⟩ : ByteArray), 0, r2.2.2.2, l56, r63, h57, A58, k59) (Nat.lt_succ_self _) ⟨h, o60⟩ sb rfl)))))))))
      ·skip
       refine ksr (kx 1 (K.mv2 (bnd h fun r65 hr65 h => (kc1 (parse_parser_is.ok (b0 := b0) hr65 R_a0_0) rfl ⟨(t4 hm_H_a0_0), trivial⟩ (kx 1 (knt ?_))))))
       refine kcn h (fun h => ?_) fun h => ?_
       ·refine kpr [(0, 0), (1, 3), (2, 0), (3, 1)] [1] (kpx 1 (kpd 0 4 rfl (kpx 1 (kpt (ocp h (fun _ hr67 => (hR.parse_parser_exps (b0 := b0) hr67 R_a0_0)) rfl ⟨(t4 hm_H_a0_0), trivial⟩ (fun _ e => k_then_panic (k_blk_panic (k_blk_panic (k_then_panic (k_blk_panic (kpn 4 e rfl)))))) fun r67 h => ?_)))))
        rintro _ _ ⟨h68, A69, k70, o71, rfl, rfl⟩
        refine nx_ret2 (kan [2] rfl (kpz (K.mvN [_, _, _, _, _] _ _ (K.mv4 (k_row (T := 36) (n := 1) (xs := [(Tree.mk x15 x16 x17 x18 l19)]) (RowI.one (treeO_mk (k := x15) (t := x16) (n := x17) (a := x18) 36 o23)) rfl rfl (Nat.le_of_ble_eq_true rfl) fun h73 o74 => (K.mv1 (K.mv1 (bnd h fun l75 hl75 h => (kapR rfl ety34 rfl hl75 o74 o71 fun h76 A77 k78 o79 => (kx 1 ?_))))))))))
        exact K.mv2 (kst 4 1 #[iv 8, sv noS, iv 0, iv r2.2.2.2, .slice A77 l75.length k78] (knt (K.mv1 (K.mv3 (K.mv3 (K.mv3 (k_meet (l75, r67.2, h76, A77, k78) ⟨h, o79⟩ sb rfl)))))))
       ·exact k_skip (k_then (K.mv4 (K.mv3 (k_row (T := 36) (n := 1) (xs := [(Tree.mk x15 x16 x17 x18 l19)]) (RowI.one (treeO_mk (k := x15) (t := x16) (n := x17) (a := x18) 36 o23)) rfl rfl (Nat.le_of_ble_eq_true rfl) fun h80 o81 => (K.mv3 (K.mv2 (K.mv3 (k_meet ([(Tree.mk x15 x16 x17 x18 l19)], r53.2, h80, (some ⟨b55, 0, none⟩), 1) ⟨h, o81⟩ sb rfl))))))))
     ·refine ksr (kla 1 0 5 rfl (K.mv1 (K.drop (K.mv1 (kst 0 5 #[iv x15, sv x16, iv x17, iv x18, .slice A21 l19.length k22] (knt (k_ret (k_blk_ret (k_blk_ret (k_then_ret ?_))))))))))
      refine k_blk_ret ?_
      obtain rfl := Option.some.inj h
      exact kda 0 5 rfl [h20, bk b0 #[.slice A_a0_0 a0_0.length c_a0_0, iv r53.2] 73] (K.drop (K.mv1 (k_end (PR.okI ⟨h20, A21, k22, o23, rfl, rfl⟩))))
 ·skip
  refine ksr (kx 1 (K.mv1 (bnd h fun r82 hr82 h => (kc1 (parse_parser_got.ok (b0 := b0) hr82 R_a0_0) rfl ⟨(t2 hm_H_a0_0), trivial⟩ (knt ?_)))))
  refine kcn h (fun h => ?_) fun h => ?_
  ·refine ksr (kx 2 (kcp h (fun _ hr84 => (hR.parse_parser_exp (b0 := b0) hr84 R_a0_0)) rfl ⟨(t2 hm_H_a0_0), trivial⟩ (fun _ e => k_then_panic (k_then_panic (kpn 2 e rfl))) fun r84 h => ?_))
   rintro _ _ ⟨h85, A86, k87, o88, rfl, rfl⟩
   refine nx_ret2 (kns #[iv r84.1, sv r84.2.1, iv r84.2.2.1, iv r84.2.2.2.1, .slice A86 r84.2.2.2.2.1.length k87] 36 1 fun b90 => (kx 1 (K.mv3 (kst 0 5 #[iv 9, sv noS, iv 0, iv r2.2.2.2, .slice (some ⟨b90, 0, none⟩) 1 1] (knr (kx 1 (K.mv3 (kcp h (fun _ hr91 => (parse_parser_want.ok (b0 := b0) hr91 R_a0_0)) rfl ⟨(t4 hm_H_a0_0), trivial⟩ (fun _ e => k_then_panic (kpn 4 e rfl)) fun r91 h => ?_))))))))
   rintro _ _ ⟨rfl, rfl⟩
   exact nx_ret1 (knt (K.mv3 (K.mv3 (k_row (T := 36) (n := 1) (xs := [(Tree.mk r84.1 r84.2.1 r84.2.2.1 r84.2.2.2.1 r84.2.2.2.2.1)]) (RowI.one (treeO_mk (k := r84.1) (t := r84.2.1) (n := r84.2.2.1) (a := r84.2.2.2.1) 36 o88)) rfl rfl (Nat.le_of_ble_eq_true rfl) fun h93 o94 => (K.mv3 (K.mv2 (K.mv3 (k_meet (9, (⟨#[]⟩ : ByteArray), 0, r2.2.2.2, [(Tree.mk r84.1 r84.2.1 r84.2.2.1 r84.2.2.2.1 r84.2.2.2.2.1)], r91, h93, (some ⟨b90, 0, none⟩), 1) ⟨h, o94⟩ sb rfl))))))))
  ·refine k_region (kx 1 (kcp h (fun _ hr95 => (parse_parser_name.ok (b0 := b0) hr95 R_a0_0)) rfl ⟨(t2 hm_H_a0_0), trivial⟩ (fun _ e => k_then_panic (kpn 2 e rfl)) fun r95 h => ?_))
   rintro _ _ ⟨h96, A97, k98, o99, rfl, rfl⟩
   exact nx_ret2 (K.mv2 (kst 0 5 #[iv r95.1, sv r95.2.1, iv r95.2.2.1, iv r95.2.2.2.1, .slice A97 r95.2.2.2.2.1.length k98] (knt (K.mv1 (K.mv3 (K.mv3 (K.mv3 (k_meet (r95.1, r95.2.1, r95.2.2.1, r95.2.2.2.1, r95.2.2.2.2.1, r95.2.2.2.2.2, h96, A97, k98) ⟨h, o99⟩ sb rfl))))))))
def parse_parser_fields.l0 : Nat → (Rc : PE) → (a0_0 : List (Int × ByteArray × Int × Int)) → (J7 : (List Tree) → Int → Option (PR (List Tree × Int))) → (l10 : List Tree) → (x15 : Int) → Option (PR (List Tree × Int))
 | 0, _, _, _, _, _ => none
 | m16 + 1, Rc, a0_0, J7, l10, x15 => (parse_parser_is.f m16 a0_0 x15 (⟨#[125]⟩ : ByteArray)).bind fun r17 => cond (!r17) (PR.bind (Rc.parse_parser_field a0_0 x15) fun r19 => (apd 64 l10 [(Tree.mk r19.1 r19.2.1 r19.2.2.1 r19.2.2.2.1 r19.2.2.2.2.1)]).bind fun l28 => joinF (fun (x33 : Bool) (x34 : Int) => cond x33 (J7 l28 x34) (parse_parser_fields.l0 m16 Rc a0_0 J7 l28 x34)) (fun J35 => (parse_parser_got.f m16 a0_0 r19.2.2.2.2.2 (⟨#[44]⟩ : ByteArray)).bind fun r37 => cond (!r37.1) ((parse_parser_got.f m16 a0_0 r37.2 (⟨#[59]⟩ : ByteArray)).bind fun r39 => J35 (!r39.1) r39.2) (J35 false r37.2))) (J7 l10 x15)
def parse_parser_fields.g (Rc : PE) (k : Nat) (a0_0 : List (Int × ByteArray × Int × Int)) (a0_1 : Int) : Option (PR (List Tree × Int)) := joinF (fun (l1 : List Tree) (x6 : Int) => PR.bind (parse_parser_want.f k a0_0 x6 (⟨#[125]⟩ : ByteArray)) fun r8 => some (PR.ok (l1, r8))) (fun J7 => parse_parser_fields.l0 k Rc a0_0 J7 ([]) a0_1)
set_option maxRecDepth 100000 in
theorem parse_parser_fields.okg {Rc : PE} (hR : Rc.Good) {k : Nat} {a0_0 : List (Int × ByteArray × Int × Int)} {a0_1 : Int} {b0 : Nat} {H_a0_0 : Frag} {A_a0_0 : Option Addr} {c_a0_0 : Nat} {r : PR (List Tree × Int)} (h : parse_parser_fields.g Rc k a0_0 a0_1 = some r) (R_a0_0 : RdT e76 4 H_a0_0 (.slice A_a0_0 a0_0.length c_a0_0) a0_0) : Ct Tryz.prog 103 #[pt b0] [bk b0 #[.slice A_a0_0 a0_0.length c_a0_0, iv a0_1] 73] [H_a0_0] (PR.Post failV (fun (r : List Tree × Int) e l1 => ∃ (H0_ : Frag) (A0_ : Option Addr) (c0_ : Nat), OwnR (rTree 36) 36 H0_ (.slice A0_ r.1.length c0_) r.1 ∧ e = .returned (.slice A0_ r.1.length c0_) ∧ l1 = [H0_, bk b0 #[.slice A_a0_0 a0_0.length c_a0_0, iv r.2] 73]) r) := by
 refine ct_enter (args := [pt b0]) Tryz.func103 rfl (Nat.le_of_ble_eq_true rfl) ?_
 intro A X hh_
 obtain ⟨hm_H_a0_0, _⟩ := hh_
 unfold parse_parser_fields.g at h
 refine K.eq (env' := [(0, pt b0)]) (l' := bk b0 #[.slice A_a0_0 a0_0.length c_a0_0, iv a0_1] 73 :: X) rfl rfl (ksr (kx 1 (kns' (kx 1 (knt ?_)))))
 obtain ⟨J7, hJ7, h⟩ := joinSplit h
 refine k_cut (τ := (List Tree) × Int × Frag × (Option Addr) × Nat) (fun t => [(0, pt b0), (3, .slice t.2.2.2.1 t.1.length t.2.2.2.2)]) (fun t => bk b0 #[.slice A_a0_0 a0_0.length c_a0_0, iv t.2.1] 73 :: t.2.2.1 :: X) (fun t => J7 t.1 t.2.1 = some r ∧ OwnR (rTree 36) 36 t.2.2.1 (.slice t.2.2.2.1 t.1.length t.2.2.2.2) t.1) ?_ ?_
 ·rintro ⟨l1, x6, h2, A3, k4⟩ ⟨h, o5⟩
  subst hJ7
  refine ksr (kx 1 (kcp h (fun _ hr8 => (parse_parser_want.ok (b0 := b0) hr8 R_a0_0)) rfl ⟨(.tail _ hm_H_a0_0), trivial⟩ (fun _ e => k_then_panic (kpn 1 e rfl)) fun r8 h => ?_))
  rintro _ _ ⟨rfl, rfl⟩
  refine nx_ret1 (kns' (kx 2 (knt (k_ret ?_))))
  obtain rfl := Option.some.inj h
  exact kdv (.slice A3 l1.length k4) [h2, bk b0 #[.slice A_a0_0 a0_0.length c_a0_0, iv r8] 73] (K.mv1 (k_end (PR.okI ⟨h2, A3, k4, o5, rfl, rfl⟩)))
 ·skip
  refine k_block (k_none (K.mv1 (k_loop (τ := (List Tree) × Int × Frag × (Option Addr) × Nat) (fun t => [(0, pt b0), (3, .slice t.2.2.2.1 t.1.length t.2.2.2.2)]) (fun t => bk b0 #[.slice A_a0_0 a0_0.length c_a0_0, iv t.2.1] 73 :: t.2.2.1 :: X) (fun m t => parse_parser_fields.l0 m Rc a0_0 J7 t.1 t.2.1 = some r ∧ OwnR (rTree 36) 36 t.2.2.1 (.slice t.2.2.2.1 t.1.length t.2.2.2.2) t.1) k ([], a0_1, none_, none, 0) ⟨h, (OwnR.nil (rTree 36) 36 none_)⟩ sb rfl ?_)))
  clear h
  rintro m16 ⟨l10, x15, h11, A12, k13⟩ ⟨h, o14⟩
  cases m16 with
  | zero => simp [parse_parser_fields.l0] at h
  | succ m16 =>
   simp only [parse_parser_fields.l0] at h
   refine k_seq (ksr (kx 1 (bnd h fun r17 hr17 h => (kc1 (parse_parser_is.ok (b0 := b0) hr17 R_a0_0) rfl ⟨(.tail _ hm_H_a0_0), trivial⟩ (kx 1 (knt ?_))))))
   refine kcn h (fun h => ?_) fun h => ?_
   ·refine k_skip (k_then (k_block (ksr (kx 2 (kcp h (fun _ hr19 => (hR.parse_parser_field (b0 := b0) hr19 R_a0_0)) rfl ⟨(.tail _ hm_H_a0_0), trivial⟩ (fun _ e => k_then_panic (k_blk_panic (k_then_panic (k_blk_panic (k_then_panic (kpn 1 e rfl)))))) fun r19 h => ?_)))))
    rintro _ _ ⟨h20, A21, k22, o23, rfl, rfl⟩
    refine nx_ret2 (kns #[iv r19.1, sv r19.2.1, iv r19.2.2.1, iv r19.2.2.2.1, .slice A21 r19.2.2.2.2.1.length k22] 36 1 fun b25 => (K.mv1 (K.mv1 (k_row (T := 36) (n := 1) (xs := [(Tree.mk r19.1 r19.2.1 r19.2.2.1 r19.2.2.2.1 r19.2.2.2.2.1)]) (RowI.one (treeO_mk (k := r19.1) (t := r19.2.1) (n := r19.2.2.1) (a := r19.2.2.2.1) 36 o23)) rfl rfl (Nat.le_of_ble_eq_true rfl) fun h26 o27 => (K.mv2 (bnd h fun l28 hl28 h => (kapR rfl ety34 rfl hl28 o14 o27 fun h29 A30 k31 o32 => (kx 1 (knt ?_)))))))))
    obtain ⟨J35, hJ35, h⟩ := joinSplit h
    refine k_cut (τ := Bool × Int) (fun t => [(0, pt b0), (3, .slice A30 l28.length k31), (19, bv t.1)]) (fun t => h29 :: bk b0 #[.slice A_a0_0 a0_0.length c_a0_0, iv t.2] 73 :: X) (fun t => J35 t.1 t.2 = some r) ?_ ?_
    ·rintro ⟨x33, x34⟩ h
     subst hJ35
     refine kcn h (fun h => ?_) fun h => ?_
     ·exact k_exit (k_there rfl (k_then_exit (k_here (k_then (K.mv1 (k_meet (l28, x34, h29, A30, k31) ⟨h, o32⟩ sb rfl))))))
     ·exact k_skip (k_blk (k_then (K.mv1 (k_again m16 (l28, x34, h29, A30, k31) (Nat.lt_succ_self _) ⟨h, o32⟩ sb rfl))))
    ·skip
     refine k_region (kx 1 (K.mv1 (bnd h fun r37 hr37 h => (kc1 (parse_parser_got.ok (b0 := b0) hr37 R_a0_0) rfl ⟨(.tail _ hm_H_a0_0), trivial⟩ (kx 2 ?_)))))
     refine kcs 15 h (fun h => ?_) fun h => ?_
     ·exact kx 1 (bnd h fun r39 hr39 h => (kc1 (parse_parser_got.ok (b0 := b0) hr39 R_a0_0) rfl ⟨(.tail _ hm_H_a0_0), trivial⟩ (kx 2 (knt (K.mv1 (k_meet (!r39.1, r39.2) h sb rfl))))))
     ·exact kx 4 (knt (K.mv1 (k_meet (false, r37.2) h sb rfl)))
   ·exact k_exit (k_then_exit (k_then_exit (k_here (k_then (k_meet (l10, x15, h11, A12, k13) ⟨h, o14⟩ sb rfl)))))
def parse_parser_field.g (Rc : PE) (k : Nat) (a0_0 : List (Int × ByteArray × Int × Int)) (a0_1 : Int) : Option (PR (Int × ByteArray × Int × Int × List Tree × Int)) := (parse_parser_now.f k a0_0 a0_1).bind fun r2 => joinF (fun (x5 : Int) (l6 : List Tree) (x11 : Int) => PR.bind (Rc.parse_parser_exp a0_0 x11 0) fun r13 => (apd 64 l6 [(Tree.mk r13.1 r13.2.1 r13.2.2.1 r13.2.2.2.1 r13.2.2.2.2.1)]).bind fun l22 => some (PR.ok (x5, (⟨#[]⟩ : ByteArray), 0, r2.2.2.2, l22, r13.2.2.2.2.2))) (fun J12 => (parse_parser_got.f k a0_0 a0_1 (⟨#[91]⟩ : ByteArray)).bind fun r27 => cond r27.1 (PR.bind (Rc.parse_parser_exp a0_0 r27.2 0) fun r29 => PR.bind (parse_parser_want.f k a0_0 r29.2.2.2.2.2 (⟨#[93]⟩ : ByteArray)) fun r36 => PR.bind (parse_parser_want.f k a0_0 r36 (⟨#[61]⟩ : ByteArray)) fun r38 => J12 14 ([(Tree.mk r29.1 r29.2.1 r29.2.2.1 r29.2.2.2.1 r29.2.2.2.2.1)]) r38) ((cond (r2.1 == 1) ((lIdx a0_0 (IntKind.i64.wrap (r27.2 + 1))).bind fun x57 => cond (x57.1 == 5) ((lIdx a0_0 (IntKind.i64.wrap (r27.2 + 1))).bind fun x65 => some (x65.2.1.toList == (⟨#[61]⟩ : ByteArray).toList)) (some false)) (some false) : Option Bool).bind fun q42 => cond q42 (PR.bind (parse_parser_name.f k a0_0 r27.2) fun r44 => PR.bind (parse_parser_want.f k a0_0 r44.2.2.2.2.2 (⟨#[61]⟩ : ByteArray)) fun r52 => J12 14 ([(Tree.mk 5 r44.2.1 r44.2.2.1 r44.2.2.2.1 r44.2.2.2.2.1)]) r52) (J12 13 ([]) r27.2)))
set_option maxRecDepth 100000 in
theorem parse_parser_field.okg {Rc : PE} (hR : Rc.Good) {k : Nat} {a0_0 : List (Int × ByteArray × Int × Int)} {a0_1 : Int} {b0 : Nat} {H_a0_0 : Frag} {A_a0_0 : Option Addr} {c_a0_0 : Nat} {r : PR (Int × ByteArray × Int × Int × List Tree × Int)} (h : parse_parser_field.g Rc k a0_0 a0_1 = some r) (R_a0_0 : RdT e76 4 H_a0_0 (.slice A_a0_0 a0_0.length c_a0_0) a0_0) : Ct Tryz.prog 109 #[pt b0] [bk b0 #[.slice A_a0_0 a0_0.length c_a0_0, iv a0_1] 73] [H_a0_0] (PR.Post failV (fun (r : Int × ByteArray × Int × Int × List Tree × Int) e l1 => ∃ (H0_ : Frag) (A0_ : Option Addr) (c0_ : Nat), OwnR (rTree 36) 36 H0_ (.slice A0_ r.2.2.2.2.1.length c0_) r.2.2.2.2.1 ∧ e = .returned (.agg #[iv r.1, sv r.2.1, iv r.2.2.1, iv r.2.2.2.1, .slice A0_ r.2.2.2.2.1.length c0_]) ∧ l1 = [H0_, bk b0 #[.slice A_a0_0 a0_0.length c_a0_0, iv r.2.2.2.2.2] 73]) r) := by
 refine ct_enter (args := [pt b0]) Tryz.func109 rfl (Nat.le_of_ble_eq_true rfl) ?_
 intro A X hh_
 obtain ⟨hm_H_a0_0, _⟩ := hh_
 unfold parse_parser_field.g at h
 refine K.eq (env' := [(0, pt b0)]) (l' := bk b0 #[.slice A_a0_0 a0_0.length c_a0_0, iv a0_1] 73 :: X) rfl rfl (ksr (knp #[iv 0, sv noS, iv 0, iv 0, nS] 36 fun b1 => (kns' (kx 1 (K.mv1 (bnd h fun r2 hr2 h => (kc1 (parse_parser_now.ok (b0 := b0) hr2 R_a0_0) rfl ⟨(.tail _ hm_H_a0_0), trivial⟩ (knp #[iv 0, sv noS, iv 0, iv 0] 76 fun b3 => (kst 0 4 #[iv r2.1, sv r2.2.1, iv r2.2.2.1, iv r2.2.2.2] (kns' ?_))))))))))
 refine kx 1 (kld 0 3 rfl (kx 1 (knp #[iv 0, sv noS, iv 0, iv 0, nS] 36 fun b4 => (kst 0 5 #[iv 14, sv noS, iv 0, iv r2.2.2.2, nS] (knt ?_)))))
 obtain ⟨J12, hJ12, h⟩ := joinSplit h
 refine k_cut (τ := Int × (List Tree) × Int × Frag × (Option Addr) × Nat) (fun t => [(0, pt b0), (2, pt b1), (4, pt b4)]) (fun t => bk b4 #[iv t.1, sv noS, iv 0, iv r2.2.2.2, .slice t.2.2.2.2.1 t.2.1.length t.2.2.2.2.2] 36 :: bk b0 #[.slice A_a0_0 a0_0.length c_a0_0, iv t.2.2.1] 73 :: bk b1 #[iv 0, sv noS, iv 0, iv 0, nS] 36 :: t.2.2.2.1 :: X) (fun t => J12 t.1 t.2.1 t.2.2.1 = some r ∧ OwnR (rTree 36) 36 t.2.2.2.1 (.slice t.2.2.2.2.1 t.2.1.length t.2.2.2.2.2) t.2.1) ?_ ?_
 ·rintro ⟨x5, l6, x11, h7, A8, k9⟩ ⟨h, o10⟩
  subst hJ12
  refine k_seq (kpr [(0, 0), (1, 3), (2, 0), (3, 1), (4, 1)] [0] (kpx 1 (kpd 0 4 rfl (kpx 1 (kpt (K.mv1 (ocp h (fun _ hr13 => (hR.parse_parser_exp (b0 := b0) hr13 R_a0_0)) rfl ⟨(t3 hm_H_a0_0), trivial⟩ (fun _ e => k_then_panic (kpn 3 e rfl)) fun r13 h => ?_)))))))
  rintro _ _ ⟨h14, A15, k16, o17, rfl, rfl⟩
  refine nx_ret2 (kan [2] rfl (kpt (ons #[iv r13.1, sv r13.2.1, iv r13.2.2.1, iv r13.2.2.2.1, .slice A15 r13.2.2.2.2.1.length k16] 36 1 fun b19 => (kan [3] rfl (kpz (K.mv1 (K.mv1 (k_row (T := 36) (n := 1) (xs := [(Tree.mk r13.1 r13.2.1 r13.2.2.1 r13.2.2.2.1 r13.2.2.2.2.1)]) (RowI.one (treeO_mk (k := r13.1) (t := r13.2.1) (n := r13.2.2.1) (a := r13.2.2.2.1) 36 o17)) rfl rfl (Nat.le_of_ble_eq_true rfl) fun h20 o21 => (K.mv4 (bnd h fun l22 hl22 h => ?_))))))))))
  refine kapR rfl ety34 rfl hl22 o10 o21 fun h23 A24 k25 o26 => (kx 1 (K.mv2 (kst 4 1 #[iv x5, sv noS, iv 0, iv r2.2.2.2, .slice A24 l22.length k25] (kns' (kla 0 0 5 rfl (K.drop (K.mv2 (kst 0 5 #[iv x5, sv noS, iv 0, iv r2.2.2.2, .slice A24 l22.length k25] (knt (k_ret ?_))))))))))
  obtain rfl := Option.some.inj h
  exact kda 0 5 rfl [h23, bk b0 #[.slice A_a0_0 a0_0.length c_a0_0, iv r13.2.2.2.2.2] 73] (K.drop (k_end (PR.okI ⟨h23, A24, k25, o26, rfl, rfl⟩)))
 ·skip
  refine k_block (ksr (kx 1 (K.mv2 (bnd h fun r27 hr27 h => (kc1 (parse_parser_got.ok (b0 := b0) hr27 R_a0_0) rfl ⟨(t3 hm_H_a0_0), trivial⟩ (kx 1 (knt ?_)))))))
  refine kcn h (fun h => ?_) fun h => ?_
  ·refine ksr (kx 1 (kcp h (fun _ hr29 => (hR.parse_parser_exp (b0 := b0) hr29 R_a0_0)) rfl ⟨(t3 hm_H_a0_0), trivial⟩ (fun _ e => k_then_panic (k_blk_panic (k_then_panic (kpn 3 e rfl)))) fun r29 h => ?_))
   rintro _ _ ⟨h30, A31, k32, o33, rfl, rfl⟩
   refine nx_ret2 (K.mv3 (K.drop (kns #[iv r29.1, sv r29.2.1, iv r29.2.2.1, iv r29.2.2.2.1, .slice A31 r29.2.2.2.2.1.length k32] 36 1 fun b35 => (kx 1 (K.mv3 (kst 4 1 #[iv 14, sv noS, iv 0, iv r2.2.2.2, .slice (some ⟨b35, 0, none⟩) 1 1] (kns' (kx 1 (K.mv3 (kcp h (fun _ hr36 => (parse_parser_want.ok (b0 := b0) hr36 R_a0_0)) rfl ⟨(t4 hm_H_a0_0), trivial⟩ (fun _ e => k_then_panic (k_blk_panic (k_then_panic (kpn 4 e rfl)))) fun r36 h => ?_))))))))))
   rintro _ _ ⟨rfl, rfl⟩
   refine nx_ret1 (knr (kx 1 (kcp h (fun _ hr38 => (parse_parser_want.ok (b0 := b0) hr38 R_a0_0)) rfl ⟨(t4 hm_H_a0_0), trivial⟩ (fun _ e => k_blk_panic (k_then_panic (kpn 4 e rfl))) fun r38 h => ?_)))
   rintro _ _ ⟨rfl, rfl⟩
   exact nx_ret1 (knl (k_blk (k_then (K.mv3 (K.mv3 (k_row (T := 36) (n := 1) (xs := [(Tree.mk r29.1 r29.2.1 r29.2.2.1 r29.2.2.2.1 r29.2.2.2.2.1)]) (RowI.one (treeO_mk (k := r29.1) (t := r29.2.1) (n := r29.2.2.1) (a := r29.2.2.2.1) 36 o33)) rfl rfl (Nat.le_of_ble_eq_true rfl) fun h40 o41 => (K.mv3 (K.mv2 (K.mv3 (k_meet (14, [(Tree.mk r29.1 r29.2.1 r29.2.2.1 r29.2.2.2.1 r29.2.2.2.2.1)], r38, h40, (some ⟨b35, 0, none⟩), 1) ⟨h, o41⟩ sb rfl))))))))))
  ·refine bnd h fun q42 hq42 h => ?_
   refine k_cut1 [(0, pt b0), (2, pt b1), (4, pt b4), (23, bv q42)] (bk b0 #[.slice A_a0_0 a0_0.length c_a0_0, iv r27.2] 73 :: bk b4 #[iv 14, sv noS, iv 0, iv r2.2.2.2, nS] 36 :: bk b1 #[iv 0, sv noS, iv 0, iv 0, nS] 36 :: X) ?_ ?_
   ·clear hq42
    refine kcn h (fun h => ?_) fun h => ?_
    ·refine ksr (kx 1 (kcp h (fun _ hr44 => (parse_parser_name.ok (b0 := b0) hr44 R_a0_0)) rfl ⟨(t2 hm_H_a0_0), trivial⟩ (fun _ e => k_then_panic (k_blk_panic (k_then_panic (kpn 2 e rfl)))) fun r44 h => ?_))
     rintro _ _ ⟨h45, A46, k47, o48, rfl, rfl⟩
     refine nx_ret2 (knp #[iv 0, sv noS, iv 0, iv 0, nS] 36 fun b50 => (kst 0 5 #[iv r44.1, sv r44.2.1, iv r44.2.2.1, iv r44.2.2.2.1, .slice A46 r44.2.2.2.2.1.length k47] (kns' (kx 1 (kst 0 1 #[iv 5, sv r44.2.1, iv r44.2.2.1, iv r44.2.2.2.1, .slice A46 r44.2.2.2.2.1.length k47] (kns' (kla 0 0 5 rfl (K.drop (kns #[iv 5, sv r44.2.1, iv r44.2.2.1, iv r44.2.2.2.1, .slice A46 r44.2.2.2.2.1.length k47] 36 1 fun b51 => (kx 1 ?_))))))))))
     refine K.mv3 (kst 4 1 #[iv 14, sv noS, iv 0, iv r2.2.2.2, .slice (some ⟨b51, 0, none⟩) 1 1] (knr (kx 1 (K.mv3 (kcp h (fun _ hr52 => (parse_parser_want.ok (b0 := b0) hr52 R_a0_0)) rfl ⟨(t4 hm_H_a0_0), trivial⟩ (fun _ e => k_blk_panic (k_then_panic (kpn 4 e rfl))) fun r52 h => ?_)))))
     rintro _ _ ⟨rfl, rfl⟩
     exact nx_ret1 (knl (k_blk (k_then (K.mv3 (K.mv3 (k_row (T := 36) (n := 1) (xs := [(Tree.mk 5 r44.2.1 r44.2.2.1 r44.2.2.2.1 r44.2.2.2.2.1)]) (RowI.one (treeO_mk (k := 5) (t := r44.2.1) (n := r44.2.2.1) (a := r44.2.2.2.1) 36 o48)) rfl rfl (Nat.le_of_ble_eq_true rfl) fun h54 o55 => (K.mv3 (K.mv2 (K.mv3 (k_meet (14, [(Tree.mk 5 r44.2.1 r44.2.2.1 r44.2.2.2.1 r44.2.2.2.2.1)], r52, h54, (some ⟨b51, 0, none⟩), 1) ⟨h, o55⟩ sb rfl))))))))))
    ·refine k_region (kx 1 (K.mv1 (kst 0 1 #[iv 13, sv noS, iv 0, iv r2.2.2.2, nS] (knl (k_blk (k_then (k_none (K.mv3 (K.mv3 (K.mv3 ?_))))))))))
     exact k_meet (13, [], r27.2, none_, none, 0) ⟨h, (OwnR.nil (rTree 36) 36 none_)⟩ sb rfl
   ·have h := hq42
    clear hq42
    refine kprs [(0, 0), (1, 3), (2, 0), (3, 0), (4, 0), (5, 0), (6, 0), (7, 3), (8, 0), (9, 0), (10, 0), (11, 3), (12, 0), (13, 0), (14, 0), (15, 3), (16, 0), (17, 0), (18, 0), (19, 0), (20, 0), (21, 0), (22, 3), (23, 0), (24, 0), (25, 0), (26, 3), (27, 0)] [bk b0 #[.slice A_a0_0 a0_0.length c_a0_0, iv r27.2] 73, bk b3 #[iv r2.1, sv r2.2.1, iv r2.2.2.1, iv r2.2.2.2] 76, H_a0_0] (fun w h_ => ⟨h_.sat.on _ (.head _), h_.sat.on _ (.tail _ (.tail _ (.head _))), h_.sat.on _ (t4 hm_H_a0_0), trivial⟩) (kpx 1 (kpd 1 0 rfl (kpx 2 ?_)))
    refine kcs 27 h (fun h => ?_) fun h => ?_
    ·refine kpx 3 (kpd 0 0 rfl (kpx 3 (kpd 0 1 rfl (kpx 1 (bnd h fun x57 hx57 h => (kpelP (T := 76) (kd := .i64) e76_ok rfl hx57 R_a0_0 fun p58 e59 y60 => ?_))))))
     have e59 : Elem _ p58 [iv x57.1, sv x57.2.1, iv x57.2.2.1, iv x57.2.2.2] := e59
     refine kpefP (off := 0) rfl e59 y60 fun p61 e62 y63 => ?_
     have e62 : Elem _ p61 [iv x57.1, sv x57.2.1, iv x57.2.2.1, iv x57.2.2.2] := e62
     refine kp_eload1 rfl (by kernel_rfl) (by kernel_rfl) (by kernel_rfl) (by kernel_rfl) e62 (fun w h_ => h_.mem _ (.tail _ (.tail _ (.head _)))) (kpx 3 ?_)
     refine kcs 42 h (fun h => ?_) fun h => ?_
     ·refine kpx 3 (kpd 0 0 rfl (kpx 3 (kpd 0 1 rfl (kpx 1 (kpz (bnd h fun x65 hx65 h => (kelP (T := 76) (kd := .i64) e76_ok rfl hx65 R_a0_0 fun p66 e67 y68 => ?_)))))))
      have e67 : Elem _ p66 [iv x65.1, sv x65.2.1, iv x65.2.2.1, iv x65.2.2.2] := e67
      refine K.mv2 (K.drop (kefP (off := 1) rfl e67 y68 fun p69 e70 y71 => ?_))
      have e70 : Elem _ p69 [sv x65.2.1, iv x65.2.2.1, iv x65.2.2.2] := e70
      exact kl_eload1 rfl (by kernel_rfl) (by kernel_rfl) (by kernel_rfl) (by kernel_rfl) e70 (t3 hm_H_a0_0) (kx 3 (knt (k_meet1 ⟨gr, gr, gr, gb (Option.some.inj h), trivial⟩)))
     ·exact kpx 3 (kp_skip3 (by kernel_rfl) (by kernel_rfl) (kpx 3 (kp_skip3 (by kernel_rfl) (by kernel_rfl) (kpx 1 (kpz (kx 6 (knt (K.mv2 (K.drop (k_meet1 ⟨gr, gr, gr, gb (Option.some.inj h), trivial⟩))))))))))
    ·refine kpx 3 (kp_skip3 (by kernel_rfl) (by kernel_rfl) (kpx 3 (kp_skip3 (by kernel_rfl) (by kernel_rfl) (kpx 3 (kp_skip3 (by kernel_rfl) (by kernel_rfl) (kpx 6 (kp_skip3 (by kernel_rfl) (by kernel_rfl) (kpx 3 (kp_skip3 (by kernel_rfl) (by kernel_rfl) (kpx 1 ?_))))))))))
     exact kpz (kx 6 (knt (K.mv2 (K.drop (k_meet1 ⟨gr, gr, gr, gb (Option.some.inj h), trivial⟩)))))
def parse_parser_exps.l0 : Nat → (Rc : PE) → (a0_0 : List (Int × ByteArray × Int × Int)) → (J14 : (List Tree) → Int → Option (PR (List Tree × Int))) → (l15 : List Tree) → (x20 : Int) → Option (PR (List Tree × Int))
 | 0, _, _, _, _, _ => none
 | m21 + 1, Rc, a0_0, J14, l15, x20 => (parse_parser_got.f m21 a0_0 x20 (⟨#[44]⟩ : ByteArray)).bind fun r24 => cond r24.1 (PR.bind (Rc.parse_parser_exp a0_0 r24.2 0) fun r26 => (apd 64 l15 [(Tree.mk r26.1 r26.2.1 r26.2.2.1 r26.2.2.2.1 r26.2.2.2.2.1)]).bind fun l35 => parse_parser_exps.l0 m21 Rc a0_0 J14 l35 r26.2.2.2.2.2) (J14 l15 r24.2)
def parse_parser_exps.g (Rc : PE) (k : Nat) (a0_0 : List (Int × ByteArray × Int × Int)) (a0_1 : Int) : Option (PR (List Tree × Int)) := PR.bind (Rc.parse_parser_exp a0_0 a0_1 0) fun r1 => joinF (fun (l8 : List Tree) (x13 : Int) => some (PR.ok (l8, x13))) (fun J14 => parse_parser_exps.l0 k Rc a0_0 J14 ([(Tree.mk r1.1 r1.2.1 r1.2.2.1 r1.2.2.2.1 r1.2.2.2.2.1)]) r1.2.2.2.2.2)
set_option maxRecDepth 100000 in
theorem parse_parser_exps.okg {Rc : PE} (hR : Rc.Good) {k : Nat} {a0_0 : List (Int × ByteArray × Int × Int)} {a0_1 : Int} {b0 : Nat} {H_a0_0 : Frag} {A_a0_0 : Option Addr} {c_a0_0 : Nat} {r : PR (List Tree × Int)} (h : parse_parser_exps.g Rc k a0_0 a0_1 = some r) (R_a0_0 : RdT e76 4 H_a0_0 (.slice A_a0_0 a0_0.length c_a0_0) a0_0) : Ct Tryz.prog 47 #[pt b0] [bk b0 #[.slice A_a0_0 a0_0.length c_a0_0, iv a0_1] 73] [H_a0_0] (PR.Post failV (fun (r : List Tree × Int) e l1 => ∃ (H0_ : Frag) (A0_ : Option Addr) (c0_ : Nat), OwnR (rTree 36) 36 H0_ (.slice A0_ r.1.length c0_) r.1 ∧ e = .returned (.slice A0_ r.1.length c0_) ∧ l1 = [H0_, bk b0 #[.slice A_a0_0 a0_0.length c_a0_0, iv r.2] 73]) r) := by
 refine ct_enter (args := [pt b0]) Tryz.func47 rfl (Nat.le_of_ble_eq_true rfl) ?_
 intro A X hh_
 obtain ⟨hm_H_a0_0, _⟩ := hh_
 unfold parse_parser_exps.g at h
 refine K.eq (env' := [(0, pt b0)]) (l' := bk b0 #[.slice A_a0_0 a0_0.length c_a0_0, iv a0_1] 73 :: X) rfl rfl (ksr (kx 1 (kns' (kx 1 (kcp h (fun _ hr1 => (hR.parse_parser_exp (b0 := b0) hr1 R_a0_0)) rfl ⟨hm_H_a0_0, trivial⟩ (fun _ e => k_then_panic (kpn 0 e rfl)) fun r1 h => ?_)))))
 rintro _ _ ⟨h2, A3, k4, o5, rfl, rfl⟩
 refine nx_ret2 (kns #[iv r1.1, sv r1.2.1, iv r1.2.2.1, iv r1.2.2.2.1, .slice A3 r1.2.2.2.2.1.length k4] 36 1 fun b7 => (kx 1 (knt ?_)))
 obtain ⟨J14, hJ14, h⟩ := joinSplit h
 refine k_cut (τ := (List Tree) × Int × Frag × (Option Addr) × Nat) (fun t => [(3, .slice t.2.2.2.1 t.1.length t.2.2.2.2)]) (fun t => bk b0 #[.slice A_a0_0 a0_0.length c_a0_0, iv t.2.1] 73 :: t.2.2.1 :: X) (fun t => J14 t.1 t.2.1 = some r ∧ OwnR (rTree 36) 36 t.2.2.1 (.slice t.2.2.2.1 t.1.length t.2.2.2.2) t.1) ?_ ?_
 ·rintro ⟨l8, x13, h9, A10, k11⟩ ⟨h, o12⟩
  subst hJ14
  refine ksr (kx 2 (knt (k_ret ?_)))
  obtain rfl := Option.some.inj h
  exact kdv (.slice A10 l8.length k11) [h9, bk b0 #[.slice A_a0_0 a0_0.length c_a0_0, iv x13] 73] (K.mv1 (k_end (PR.okI ⟨h9, A10, k11, o12, rfl, rfl⟩)))
 ·skip
  refine k_block (K.mv1 (K.mv1 (k_row (T := 36) (n := 1) (xs := [(Tree.mk r1.1 r1.2.1 r1.2.2.1 r1.2.2.2.1 r1.2.2.2.2.1)]) (RowI.one (treeO_mk (k := r1.1) (t := r1.2.1) (n := r1.2.2.1) (a := r1.2.2.2.1) 36 o5)) rfl rfl (Nat.le_of_ble_eq_true rfl) fun h22 o23 => (K.mv1 (k_loop (τ := (List Tree) × Int × Frag × (Option Addr) × Nat) (fun t => [(0, pt b0), (3, .slice t.2.2.2.1 t.1.length t.2.2.2.2)]) (fun t => bk b0 #[.slice A_a0_0 a0_0.length c_a0_0, iv t.2.1] 73 :: t.2.2.1 :: X) (fun m t => parse_parser_exps.l0 m Rc a0_0 J14 t.1 t.2.1 = some r ∧ OwnR (rTree 36) 36 t.2.2.1 (.slice t.2.2.2.1 t.1.length t.2.2.2.2) t.1) k ([(Tree.mk r1.1 r1.2.1 r1.2.2.1 r1.2.2.2.1 r1.2.2.2.2.1)], r1.2.2.2.2.2, h22, (some ⟨b7, 0, none⟩), 1) ⟨h, o23⟩ sb rfl ?_)))))
  clear h
  rintro m21 ⟨l15, x20, h16, A17, k18⟩ ⟨h, o19⟩
  cases m21 with
  | zero => simp [parse_parser_exps.l0] at h
  | succ m21 =>
   simp only [parse_parser_exps.l0] at h
   refine k_seq (ksr (kx 1 (bnd h fun r24 hr24 h => (kc1 (parse_parser_got.ok (b0 := b0) hr24 R_a0_0) rfl ⟨(.tail _ hm_H_a0_0), trivial⟩ (knt ?_)))))
   refine kcn h (fun h => ?_) fun h => ?_
   ·refine k_skip (k_then (k_block (k_region (kx 2 (kcp h (fun _ hr26 => (hR.parse_parser_exp (b0 := b0) hr26 R_a0_0)) rfl ⟨(.tail _ hm_H_a0_0), trivial⟩ (fun _ e => k_blk_panic (k_then_panic (k_blk_panic (k_then_panic (kpn 1 e rfl))))) fun r26 h => ?_)))))
    rintro _ _ ⟨h27, A28, k29, o30, rfl, rfl⟩
    refine nx_ret2 (kns #[iv r26.1, sv r26.2.1, iv r26.2.2.1, iv r26.2.2.2.1, .slice A28 r26.2.2.2.2.1.length k29] 36 1 fun b32 => (K.mv1 (K.mv1 (k_row (T := 36) (n := 1) (xs := [(Tree.mk r26.1 r26.2.1 r26.2.2.1 r26.2.2.2.1 r26.2.2.2.2.1)]) (RowI.one (treeO_mk (k := r26.1) (t := r26.2.1) (n := r26.2.2.1) (a := r26.2.2.2.1) 36 o30)) rfl rfl (Nat.le_of_ble_eq_true rfl) fun h33 o34 => (K.mv2 (bnd h fun l35 hl35 h => (kapR rfl ety34 rfl hl35 o19 o34 fun h36 A37 k38 o39 => (kx 1 (knl (k_blk ?_))))))))))
    exact k_then (K.mv1 (k_again m21 (l35, r26.2.2.2.2.2, h36, A37, k38) (Nat.lt_succ_self _) ⟨h, o39⟩ sb rfl))
   ·exact k_exit (k_then_exit (k_then_exit (k_here (k_then (k_meet (l15, r24.2, h16, A17, k18) ⟨h, o19⟩ sb rfl)))))
def PE.at : Nat → PE
 | 0 => ⟨fun _ _ _ => none, fun _ _ => none, fun _ _ => none, fun _ _ => none, fun _ _ => none, fun _ _ => none⟩
 | k + 1 => ⟨fun a0_0 a0_1 a1 => parse_parser_exp.g (PE.at k) k a0_0 a0_1 a1, fun a0_0 a0_1 => parse_parser_operand.g (PE.at k) k a0_0 a0_1, fun a0_0 a0_1 => parse_parser_suffixed.g (PE.at k) k a0_0 a0_1, fun a0_0 a0_1 => parse_parser_fields.g (PE.at k) k a0_0 a0_1, fun a0_0 a0_1 => parse_parser_field.g (PE.at k) k a0_0 a0_1, fun a0_0 a0_1 => parse_parser_exps.g (PE.at k) k a0_0 a0_1⟩
theorem PE.good : ∀ k, (PE.at k).Good
 | 0 => ⟨fun h _ => (by cases (show (none : Option _) = some _ from h)), fun h _ => (by cases (show (none : Option _) = some _ from h)), fun h _ => (by cases (show (none : Option _) = some _ from h)), fun h _ => (by cases (show (none : Option _) = some _ from h)), fun h _ => (by cases (show (none : Option _) = some _ from h)), fun h _ => (by cases (show (none : Option _) = some _ from h))⟩
 | k + 1 => ⟨fun h R_a0_0 => parse_parser_exp.okg (PE.good k) h R_a0_0, fun h R_a0_0 => parse_parser_operand.okg (PE.good k) h R_a0_0, fun h R_a0_0 => parse_parser_suffixed.okg (PE.good k) h R_a0_0, fun h R_a0_0 => parse_parser_fields.okg (PE.good k) h R_a0_0, fun h R_a0_0 => parse_parser_field.okg (PE.good k) h R_a0_0, fun h R_a0_0 => parse_parser_exps.okg (PE.good k) h R_a0_0⟩
def parse_parser_exp.f (k : Nat) (a0_0 : List (Int × ByteArray × Int × Int)) (a0_1 : Int) (a1 : Int) : Option (PR (Int × ByteArray × Int × Int × List Tree × Int)) := parse_parser_exp.g (PE.at k) k a0_0 a0_1 a1
theorem parse_parser_exp.ok {k : Nat} {a0_0 : List (Int × ByteArray × Int × Int)} {a0_1 : Int} {a1 : Int} {b0 : Nat} {H_a0_0 : Frag} {A_a0_0 : Option Addr} {c_a0_0 : Nat} {r : PR (Int × ByteArray × Int × Int × List Tree × Int)} (h : parse_parser_exp.f k a0_0 a0_1 a1 = some r) (R_a0_0 : RdT e76 4 H_a0_0 (.slice A_a0_0 a0_0.length c_a0_0) a0_0) : Ct Tryz.prog 66 #[pt b0, iv a1] [bk b0 #[.slice A_a0_0 a0_0.length c_a0_0, iv a0_1] 73] [H_a0_0] (PR.Post failV (fun (r : Int × ByteArray × Int × Int × List Tree × Int) e l1 => ∃ (H0_ : Frag) (A0_ : Option Addr) (c0_ : Nat), OwnR (rTree 36) 36 H0_ (.slice A0_ r.2.2.2.2.1.length c0_) r.2.2.2.2.1 ∧ e = .returned (.agg #[iv r.1, sv r.2.1, iv r.2.2.1, iv r.2.2.2.1, .slice A0_ r.2.2.2.2.1.length c0_]) ∧ l1 = [H0_, bk b0 #[.slice A_a0_0 a0_0.length c_a0_0, iv r.2.2.2.2.2] 73]) r) := parse_parser_exp.okg (PE.good k) h R_a0_0
def parse_parser_suffixed.f (k : Nat) (a0_0 : List (Int × ByteArray × Int × Int)) (a0_1 : Int) : Option (PR (Int × ByteArray × Int × Int × List Tree × Int)) := parse_parser_suffixed.g (PE.at k) k a0_0 a0_1
theorem parse_parser_suffixed.ok {k : Nat} {a0_0 : List (Int × ByteArray × Int × Int)} {a0_1 : Int} {b0 : Nat} {H_a0_0 : Frag} {A_a0_0 : Option Addr} {c_a0_0 : Nat} {r : PR (Int × ByteArray × Int × Int × List Tree × Int)} (h : parse_parser_suffixed.f k a0_0 a0_1 = some r) (R_a0_0 : RdT e76 4 H_a0_0 (.slice A_a0_0 a0_0.length c_a0_0) a0_0) : Ct Tryz.prog 91 #[pt b0] [bk b0 #[.slice A_a0_0 a0_0.length c_a0_0, iv a0_1] 73] [H_a0_0] (PR.Post failV (fun (r : Int × ByteArray × Int × Int × List Tree × Int) e l1 => ∃ (H0_ : Frag) (A0_ : Option Addr) (c0_ : Nat), OwnR (rTree 36) 36 H0_ (.slice A0_ r.2.2.2.2.1.length c0_) r.2.2.2.2.1 ∧ e = .returned (.agg #[iv r.1, sv r.2.1, iv r.2.2.1, iv r.2.2.2.1, .slice A0_ r.2.2.2.2.1.length c0_]) ∧ l1 = [H0_, bk b0 #[.slice A_a0_0 a0_0.length c_a0_0, iv r.2.2.2.2.2] 73]) r) := parse_parser_suffixed.okg (PE.good k) h R_a0_0
def parse_parser_exps.f (k : Nat) (a0_0 : List (Int × ByteArray × Int × Int)) (a0_1 : Int) : Option (PR (List Tree × Int)) := parse_parser_exps.g (PE.at k) k a0_0 a0_1
theorem parse_parser_exps.ok {k : Nat} {a0_0 : List (Int × ByteArray × Int × Int)} {a0_1 : Int} {b0 : Nat} {H_a0_0 : Frag} {A_a0_0 : Option Addr} {c_a0_0 : Nat} {r : PR (List Tree × Int)} (h : parse_parser_exps.f k a0_0 a0_1 = some r) (R_a0_0 : RdT e76 4 H_a0_0 (.slice A_a0_0 a0_0.length c_a0_0) a0_0) : Ct Tryz.prog 47 #[pt b0] [bk b0 #[.slice A_a0_0 a0_0.length c_a0_0, iv a0_1] 73] [H_a0_0] (PR.Post failV (fun (r : List Tree × Int) e l1 => ∃ (H0_ : Frag) (A0_ : Option Addr) (c0_ : Nat), OwnR (rTree 36) 36 H0_ (.slice A0_ r.1.length c0_) r.1 ∧ e = .returned (.slice A0_ r.1.length c0_) ∧ l1 = [H0_, bk b0 #[.slice A_a0_0 a0_0.length c_a0_0, iv r.2] 73]) r) := parse_parser_exps.okg (PE.good k) h R_a0_0
end Go.Proofs.YtdkgnlaneccioaaGreatDoor
namespace Go.Proofs.YtdkgnlaneccioaaGreatDoor
open Go Go.RowKit
structure PS where
 parse_parser_block : (a0_0 : List (Int × ByteArray × Int × Int)) → (a0_1 : Int) → (a1 : Bool) → Option (PR (Int × ByteArray × Int × Int × List Tree × Int))
 parse_parser_function : (a0_0 : List (Int × ByteArray × Int × Int)) → (a0_1 : Int) → Option (PR (Int × ByteArray × Int × Int × List Tree × Int))
 parse_parser_stat : (a0_0 : List (Int × ByteArray × Int × Int)) → (a0_1 : Int) → Option (PR (Int × ByteArray × Int × Int × List Tree × Int))
 parse_parser_branches : (a0_0 : List (Int × ByteArray × Int × Int)) → (a0_1 : Int) → Option (PR (List Tree × Int))
 parse_parser_loop : (a0_0 : List (Int × ByteArray × Int × Int)) → (a0_1 : Int) → (a1 : Int) → Option (PR (Int × ByteArray × Int × Int × List Tree × Int))
 parse_parser_plain : (a0_0 : List (Int × ByteArray × Int × Int)) → (a0_1 : Int) → Option (PR (Int × ByteArray × Int × Int × List Tree × Int))
structure PS.Good (R : PS) : Prop where
 parse_parser_block : ∀ {a0_0 : List (Int × ByteArray × Int × Int)} {a0_1 : Int} {a1 : Bool} {b0 : Nat} {H_a0_0 : Frag} {A_a0_0 : Option Addr} {c_a0_0 : Nat} {r : PR (Int × ByteArray × Int × Int × List Tree × Int)} (h : R.parse_parser_block a0_0 a0_1 a1 = some r) (R_a0_0 : RdT e76 4 H_a0_0 (.slice A_a0_0 a0_0.length c_a0_0) a0_0), Ct Tryz.prog 30 #[pt b0, bv a1] [bk b0 #[.slice A_a0_0 a0_0.length c_a0_0, iv a0_1] 73] [H_a0_0] (PR.Post failV (fun (r : Int × ByteArray × Int × Int × List Tree × Int) e l1 => ∃ (H0_ : Frag) (A0_ : Option Addr) (c0_ : Nat), OwnR (rTree 36) 36 H0_ (.slice A0_ r.2.2.2.2.1.length c0_) r.2.2.2.2.1 ∧ e = .returned (.agg #[iv r.1, sv r.2.1, iv r.2.2.1, iv r.2.2.2.1, .slice A0_ r.2.2.2.2.1.length c0_]) ∧ l1 = [H0_, bk b0 #[.slice A_a0_0 a0_0.length c_a0_0, iv r.2.2.2.2.2] 73]) r)
 parse_parser_function : ∀ {a0_0 : List (Int × ByteArray × Int × Int)} {a0_1 : Int} {b0 : Nat} {H_a0_0 : Frag} {A_a0_0 : Option Addr} {c_a0_0 : Nat} {r : PR (Int × ByteArray × Int × Int × List Tree × Int)} (h : R.parse_parser_function a0_0 a0_1 = some r) (R_a0_0 : RdT e76 4 H_a0_0 (.slice A_a0_0 a0_0.length c_a0_0) a0_0), Ct Tryz.prog 48 #[pt b0] [bk b0 #[.slice A_a0_0 a0_0.length c_a0_0, iv a0_1] 73] [H_a0_0] (PR.Post failV (fun (r : Int × ByteArray × Int × Int × List Tree × Int) e l1 => ∃ (H0_ : Frag) (A0_ : Option Addr) (c0_ : Nat), OwnR (rTree 36) 36 H0_ (.slice A0_ r.2.2.2.2.1.length c0_) r.2.2.2.2.1 ∧ e = .returned (.agg #[iv r.1, sv r.2.1, iv r.2.2.1, iv r.2.2.2.1, .slice A0_ r.2.2.2.2.1.length c0_]) ∧ l1 = [H0_, bk b0 #[.slice A_a0_0 a0_0.length c_a0_0, iv r.2.2.2.2.2] 73]) r)
 parse_parser_stat : ∀ {a0_0 : List (Int × ByteArray × Int × Int)} {a0_1 : Int} {b0 : Nat} {H_a0_0 : Frag} {A_a0_0 : Option Addr} {c_a0_0 : Nat} {r : PR (Int × ByteArray × Int × Int × List Tree × Int)} (h : R.parse_parser_stat a0_0 a0_1 = some r) (R_a0_0 : RdT e76 4 H_a0_0 (.slice A_a0_0 a0_0.length c_a0_0) a0_0), Ct Tryz.prog 49 #[pt b0] [bk b0 #[.slice A_a0_0 a0_0.length c_a0_0, iv a0_1] 73] [H_a0_0] (PR.Post failV (fun (r : Int × ByteArray × Int × Int × List Tree × Int) e l1 => ∃ (H0_ : Frag) (A0_ : Option Addr) (c0_ : Nat), OwnR (rTree 36) 36 H0_ (.slice A0_ r.2.2.2.2.1.length c0_) r.2.2.2.2.1 ∧ e = .returned (.agg #[iv r.1, sv r.2.1, iv r.2.2.1, iv r.2.2.2.1, .slice A0_ r.2.2.2.2.1.length c0_]) ∧ l1 = [H0_, bk b0 #[.slice A_a0_0 a0_0.length c_a0_0, iv r.2.2.2.2.2] 73]) r)
 parse_parser_branches : ∀ {a0_0 : List (Int × ByteArray × Int × Int)} {a0_1 : Int} {b0 : Nat} {H_a0_0 : Frag} {A_a0_0 : Option Addr} {c_a0_0 : Nat} {r : PR (List Tree × Int)} (h : R.parse_parser_branches a0_0 a0_1 = some r) (R_a0_0 : RdT e76 4 H_a0_0 (.slice A_a0_0 a0_0.length c_a0_0) a0_0), Ct Tryz.prog 70 #[pt b0] [bk b0 #[.slice A_a0_0 a0_0.length c_a0_0, iv a0_1] 73] [H_a0_0] (PR.Post failV (fun (r : List Tree × Int) e l1 => ∃ (H0_ : Frag) (A0_ : Option Addr) (c0_ : Nat), OwnR (rTree 36) 36 H0_ (.slice A0_ r.1.length c0_) r.1 ∧ e = .returned (.slice A0_ r.1.length c0_) ∧ l1 = [H0_, bk b0 #[.slice A_a0_0 a0_0.length c_a0_0, iv r.2] 73]) r)
 parse_parser_loop : ∀ {a0_0 : List (Int × ByteArray × Int × Int)} {a0_1 : Int} {a1 : Int} {b0 : Nat} {H_a0_0 : Frag} {A_a0_0 : Option Addr} {c_a0_0 : Nat} {r : PR (Int × ByteArray × Int × Int × List Tree × Int)} (h : R.parse_parser_loop a0_0 a0_1 a1 = some r) (R_a0_0 : RdT e76 4 H_a0_0 (.slice A_a0_0 a0_0.length c_a0_0) a0_0), Ct Tryz.prog 71 #[pt b0, iv a1] [bk b0 #[.slice A_a0_0 a0_0.length c_a0_0, iv a0_1] 73] [H_a0_0] (PR.Post failV (fun (r : Int × ByteArray × Int × Int × List Tree × Int) e l1 => ∃ (H0_ : Frag) (A0_ : Option Addr) (c0_ : Nat), OwnR (rTree 36) 36 H0_ (.slice A0_ r.2.2.2.2.1.length c0_) r.2.2.2.2.1 ∧ e = .returned (.agg #[iv r.1, sv r.2.1, iv r.2.2.1, iv r.2.2.2.1, .slice A0_ r.2.2.2.2.1.length c0_]) ∧ l1 = [H0_, bk b0 #[.slice A_a0_0 a0_0.length c_a0_0, iv r.2.2.2.2.2] 73]) r)
 parse_parser_plain : ∀ {a0_0 : List (Int × ByteArray × Int × Int)} {a0_1 : Int} {b0 : Nat} {H_a0_0 : Frag} {A_a0_0 : Option Addr} {c_a0_0 : Nat} {r : PR (Int × ByteArray × Int × Int × List Tree × Int)} (h : R.parse_parser_plain a0_0 a0_1 = some r) (R_a0_0 : RdT e76 4 H_a0_0 (.slice A_a0_0 a0_0.length c_a0_0) a0_0), Ct Tryz.prog 72 #[pt b0] [bk b0 #[.slice A_a0_0 a0_0.length c_a0_0, iv a0_1] 73] [H_a0_0] (PR.Post failV (fun (r : Int × ByteArray × Int × Int × List Tree × Int) e l1 => ∃ (H0_ : Frag) (A0_ : Option Addr) (c0_ : Nat), OwnR (rTree 36) 36 H0_ (.slice A0_ r.2.2.2.2.1.length c0_) r.2.2.2.2.1 ∧ e = .returned (.agg #[iv r.1, sv r.2.1, iv r.2.2.1, iv r.2.2.2.1, .slice A0_ r.2.2.2.2.1.length c0_]) ∧ l1 = [H0_, bk b0 #[.slice A_a0_0 a0_0.length c_a0_0, iv r.2.2.2.2.2] 73]) r)
def parse_parser_block.l0 : Nat → (Rc : PS) → (a0_0 : List (Int × ByteArray × Int × Int)) → (a1 : Bool) → (r2 : Int × ByteArray × Int × Int) → (l4 : List Tree) → (x9 : Int) → Option (PR (Int × ByteArray × Int × Int × List Tree × Int))
 | 0, _, _, _, _, _, _ => none
 | m10 + 1, Rc, a0_0, a1, r2, l4, x9 => (parse_parser_now.f m10 a0_0 x9).bind fun r11 => (parse_parser_got.f m10 a0_0 x9 (⟨#[59]⟩ : ByteArray)).bind fun r13 => cond r13.1 (parse_parser_block.l0 m10 Rc a0_0 a1 r2 l4 r13.2) ((parse_parser_got.f m10 a0_0 r13.2 (⟨#[114, 101, 116, 117, 114, 110]⟩ : ByteArray)).bind fun r15 => cond r15.1 (joinF (fun (l18 : List Tree) (x23 : Int) => (parse_parser_got.f m10 a0_0 x23 (⟨#[59]⟩ : ByteArray)).bind fun r25 => (apd 64 l4 [(Tree.mk 30 (⟨#[]⟩ : ByteArray) 0 r11.2.2.2 l18)]).bind fun l29 => some (PR.ok (20, (⟨#[]⟩ : ByteArray), 0, r2.2.2.2, l29, r25.2))) (fun J24 => ((parse_parser_ends.f m10 a0_0 r15.2).bind fun r42 => cond (!r42) ((parse_parser_is.f m10 a0_0 r15.2 (⟨#[59]⟩ : ByteArray)).bind fun r44 => some (!r44)) (some false) : Option Bool).bind fun q34 => cond q34 (PR.bind (parse_parser_exps.f m10 a0_0 r15.2) fun r36 => J24 r36.1 r36.2) (J24 ([]) r15.2))) ((cond a1 ((parse_parser_is.f m10 a0_0 r15.2 (⟨#[102, 117, 110, 99, 116, 105, 111, 110]⟩ : ByteArray)).bind fun r78 => some r78) (some false) : Option Bool).bind fun q45 => cond q45 (PR.bind (Rc.parse_parser_function a0_0 r15.2) fun r47 => (apd 64 l4 [(Tree.mk r47.1 r47.2.1 r47.2.2.1 r47.2.2.2.1 r47.2.2.2.2.1)]).bind fun l56 => parse_parser_block.l0 m10 Rc a0_0 a1 r2 l56 r47.2.2.2.2.2) ((parse_parser_ends.f m10 a0_0 r15.2).bind fun r61 => cond r61 (some (PR.ok (20, (⟨#[]⟩ : ByteArray), 0, r2.2.2.2, l4, r15.2))) (PR.bind (Rc.parse_parser_stat a0_0 r15.2) fun r63 => (apd 64 l4 [(Tree.mk r63.1 r63.2.1 r63.2.2.1 r63.2.2.2.1 r63.2.2.2.2.1)]).bind fun l72 => parse_parser_block.l0 m10 Rc a0_0 a1 r2 l72 r63.2.2.2.2.2))))
def parse_parser_block.g (Rc : PS) (k : Nat) (a0_0 : List (Int × ByteArray × Int × Int)) (a0_1 : Int) (a1 : Bool) : Option (PR (Int × ByteArray × Int × Int × List Tree × Int)) := (parse_parser_now.f k a0_0 a0_1).bind fun r2 => parse_parser_block.l0 k Rc a0_0 a1 r2 ([]) a0_1
set_option maxRecDepth 100000 in
theorem parse_parser_block.okg {Rc : PS} (hR : Rc.Good) {k : Nat} {a0_0 : List (Int × ByteArray × Int × Int)} {a0_1 : Int} {a1 : Bool} {b0 : Nat} {H_a0_0 : Frag} {A_a0_0 : Option Addr} {c_a0_0 : Nat} {r : PR (Int × ByteArray × Int × Int × List Tree × Int)} (h : parse_parser_block.g Rc k a0_0 a0_1 a1 = some r) (R_a0_0 : RdT e76 4 H_a0_0 (.slice A_a0_0 a0_0.length c_a0_0) a0_0) : Ct Tryz.prog 30 #[pt b0, bv a1] [bk b0 #[.slice A_a0_0 a0_0.length c_a0_0, iv a0_1] 73] [H_a0_0] (PR.Post failV (fun (r : Int × ByteArray × Int × Int × List Tree × Int) e l1 => ∃ (H0_ : Frag) (A0_ : Option Addr) (c0_ : Nat), OwnR (rTree 36) 36 H0_ (.slice A0_ r.2.2.2.2.1.length c0_) r.2.2.2.2.1 ∧ e = .returned (.agg #[iv r.1, sv r.2.1, iv r.2.2.1, iv r.2.2.2.1, .slice A0_ r.2.2.2.2.1.length c0_]) ∧ l1 = [H0_, bk b0 #[.slice A_a0_0 a0_0.length c_a0_0, iv r.2.2.2.2.2] 73]) r) := by
 refine ct_enter (args := [pt b0, bv a1]) Tryz.func30 rfl (Nat.le_of_ble_eq_true rfl) ?_
 intro A X hh_
 obtain ⟨hm_H_a0_0, _⟩ := hh_
 unfold parse_parser_block.g at h
 refine K.eq (env' := [(0, pt b0), (1, bv a1)]) (l' := bk b0 #[.slice A_a0_0 a0_0.length c_a0_0, iv a0_1] 73 :: X) rfl rfl (ksr (knp #[iv 0, sv noS, iv 0, iv 0, nS] 36 fun b1 => (kns' (kx 1 (K.mv1 (bnd h fun r2 hr2 h => (kc1 (parse_parser_now.ok (b0 := b0) hr2 R_a0_0) rfl ⟨(.tail _ hm_H_a0_0), trivial⟩ (kx 2 (knp #[iv 0, sv noS, iv 0, iv 0, nS] 36 fun b3 => (kst 0 5 #[iv 20, sv noS, iv 0, iv r2.2.2.2, nS] ?_))))))))))
 refine knt (k_block (k_none (K.mv3 (K.mv3 (K.mv3 (k_loop (τ := (List Tree) × Int × Frag × (Option Addr) × Nat) (fun t => [(0, pt b0), (1, bv a1), (4, pt b1), (5, pt b3)]) (fun t => bk b3 #[iv 20, sv noS, iv 0, iv r2.2.2.2, .slice t.2.2.2.1 t.1.length t.2.2.2.2] 36 :: bk b0 #[.slice A_a0_0 a0_0.length c_a0_0, iv t.2.1] 73 :: bk b1 #[iv 0, sv noS, iv 0, iv 0, nS] 36 :: t.2.2.1 :: X) (fun m t => parse_parser_block.l0 m Rc a0_0 a1 r2 t.1 t.2.1 = some r ∧ OwnR (rTree 36) 36 t.2.2.1 (.slice t.2.2.2.1 t.1.length t.2.2.2.2) t.1) k ([], a0_1, none_, none, 0) ⟨h, (OwnR.nil (rTree 36) 36 none_)⟩ sb rfl ?_))))))
 clear h
 rintro m10 ⟨l4, x9, h5, A6, k7⟩ ⟨h, o8⟩
 cases m10 with
 | zero => simp [parse_parser_block.l0] at h
 | succ m10 =>
  simp only [parse_parser_block.l0] at h
  refine k_block (ksr (kx 1 (K.mv1 (bnd h fun r11 hr11 h => (kc1 (parse_parser_now.ok (b0 := b0) hr11 R_a0_0) rfl ⟨(t3 hm_H_a0_0), trivial⟩ (knp #[iv 0, sv noS, iv 0, iv 0] 76 fun b12 => (kst 0 4 #[iv r11.1, sv r11.2.1, iv r11.2.2.1, iv r11.2.2.2] (knt (k_block (ksr ?_))))))))))
  refine kx 1 (K.mv1 (bnd h fun r13 hr13 h => (kc1 (parse_parser_got.ok (b0 := b0) hr13 R_a0_0) rfl ⟨(t4 hm_H_a0_0), trivial⟩ (kx 1 (knt ?_)))))
  refine kcn h (fun h => ?_) fun h => ?_
  ·exact k_skip (k_blk (k_blk (k_then (K.mv1 (K.drop (K.mv3 (K.mv3 (K.mv2 (K.mv3 (k_again m10 (l4, r13.2, h5, A6, k7) (Nat.lt_succ_self _) ⟨h, o8⟩ sb rfl))))))))))
  ·refine ksr (kx 1 (bnd h fun r15 hr15 h => (kc1 (parse_parser_got.ok (b0 := b0) hr15 R_a0_0) rfl ⟨(t4 hm_H_a0_0), trivial⟩ (kx 1 (knt ?_)))))
   refine kcn h (fun h => ?_) fun h => ?_
   ·refine ksr (kx 1 (kld 1 3 rfl (K.mv1 (K.drop (kx 1 (knp #[iv 0, sv noS, iv 0, iv 0, nS] 36 fun b17 => (kst 0 5 #[iv 30, sv noS, iv 0, iv r11.2.2.2, nS] (knt ?_))))))))
    obtain ⟨J24, hJ24, h⟩ := joinSplit h
    refine k_cut (τ := (List Tree) × Int × Frag × (Option Addr) × Nat) (fun t => [(0, pt b0), (4, pt b1), (5, pt b3), (7, pt b17)]) (fun t => bk b17 #[iv 30, sv noS, iv 0, iv r11.2.2.2, .slice t.2.2.2.1 t.1.length t.2.2.2.2] 36 :: bk b0 #[.slice A_a0_0 a0_0.length c_a0_0, iv t.2.1] 73 :: bk b3 #[iv 20, sv noS, iv 0, iv r2.2.2.2, .slice A6 l4.length k7] 36 :: bk b1 #[iv 0, sv noS, iv 0, iv 0, nS] 36 :: h5 :: t.2.2.1 :: X) (fun t => J24 t.1 t.2.1 = some r ∧ OwnR (rTree 36) 36 t.2.2.1 (.slice t.2.2.2.1 t.1.length t.2.2.2.2) t.1) ?_ ?_
    ·rintro ⟨l18, x23, h19, A20, k21⟩ ⟨h, o22⟩
     subst hJ24
     refine ksr (kx 1 (K.mv1 (bnd h fun r25 hr25 h => (kc1 (parse_parser_got.ok (b0 := b0) hr25 R_a0_0) rfl ⟨(t5 hm_H_a0_0), trivial⟩ (kns' (kx 1 (kld 2 4 rfl (kla 1 0 5 rfl (K.mv1 (K.drop ?_))))))))))
     refine kns #[iv 30, sv noS, iv 0, iv r11.2.2.2, .slice A20 l18.length k21] 36 1 fun b26 => (K.mvN [_, _, _, _, _] _ _ (K.mv1 (k_row (T := 36) (n := 1) (xs := [(Tree.mk 30 (⟨#[]⟩ : ByteArray) 0 r11.2.2.2 l18)]) (RowI.one (treeO_mk (k := 30) (t := (⟨#[]⟩ : ByteArray)) (n := 0) (a := r11.2.2.2) 36 o22)) rfl rfl (Nat.le_of_ble_eq_true rfl) fun h27 o28 => (K.mv4 (bnd h fun l29 hl29 h => (kapR rfl ety34 rfl hl29 o8 o28 fun h30 A31 k32 o33 => (kx 1 (K.mv2 (kst 4 1 #[iv 20, sv noS, iv 0, iv r2.2.2.2, .slice A31 l29.length k32] (kns' ?_))))))))))
     refine kla 0 0 5 rfl (K.drop (K.mv2 (kst 0 5 #[iv 20, sv noS, iv 0, iv r2.2.2.2, .slice A31 l29.length k32] (knt (k_ret (k_blk_ret (k_blk_ret (k_then_ret (k_blk_ret ?_)))))))))
     obtain rfl := Option.some.inj h
     exact kda 0 5 rfl [h30, bk b0 #[.slice A_a0_0 a0_0.length c_a0_0, iv r25.2] 73] (K.drop (k_end (PR.okI ⟨h30, A31, k32, o33, rfl, rfl⟩)))
    ·skip
     refine bnd h fun q34 hq34 h => ?_
     refine k_cut1 [(0, pt b0), (4, pt b1), (5, pt b3), (7, pt b17), (37, bv q34)] (bk b17 #[iv 30, sv noS, iv 0, iv r11.2.2.2, nS] 36 :: bk b0 #[.slice A_a0_0 a0_0.length c_a0_0, iv r15.2] 73 :: bk b3 #[iv 20, sv noS, iv 0, iv r2.2.2.2, .slice A6 l4.length k7] 36 :: bk b1 #[iv 0, sv noS, iv 0, iv 0, nS] 36 :: h5 :: X) ?_ ?_
     ·clear hq34
      refine kcn h (fun h => ?_) fun h => ?_
      ·refine k_region (kx 1 (K.mv1 (kcp h (fun _ hr36 => (parse_parser_exps.ok (b0 := b0) hr36 R_a0_0)) rfl ⟨(t4 hm_H_a0_0), trivial⟩ (fun _ e => k_then_panic (k_blk_panic (k_blk_panic (k_then_panic (k_blk_panic (kpn 4 e rfl)))))) fun r36 h => ?_)))
       rintro _ _ ⟨h37, A38, k39, o40, rfl, rfl⟩
       refine nx_ret2 (kx 1 (K.mv2 (kst 4 1 #[iv 30, sv noS, iv 0, iv r11.2.2.2, .slice A38 r36.1.length k39] (knt (K.mv1 (K.mvN [_, _, _, _, _] _ _ (K.mvN [_, _, _, _, _] _ _ (K.mvN [_, _, _, _, _] _ _ (K.mvN [_, _, _, _, _] _ _ (K.mvN [_, _, _, _, _] _ _ ?_))))))))))
       exact k_meet (r36.1, r36.2, h37, A38, k39) ⟨h, o40⟩ sb rfl
      ·exact k_skip (k_then (k_none (K.mvN [_, _, _, _, _] _ _ (K.mvN [_, _, _, _, _] _ _ (K.mvN [_, _, _, _, _] _ _ (K.mvN [_, _, _, _, _] _ _ (K.mvN [_, _, _, _, _] _ _ (k_meet ([], r15.2, none_, none, 0) ⟨h, (OwnR.nil (rTree 36) 36 none_)⟩ sb rfl))))))))
     ·have h := hq34
      clear hq34
      refine k_region (kx 1 (K.mv1 (bnd h fun r42 hr42 h => (kc1 (parse_parser_ends.ok (b0 := b0) hr42 R_a0_0) rfl ⟨(t4 hm_H_a0_0), trivial⟩ (kx 2 ?_)))))
      refine kcs 33 h (fun h => ?_) fun h => ?_
      ·exact kx 1 (bnd h fun r44 hr44 h => (kc1 (parse_parser_is.ok (b0 := b0) hr44 R_a0_0) rfl ⟨(t4 hm_H_a0_0), trivial⟩ (kx 2 (knt (K.mv4 (K.mv4 (K.mv4 (K.mv3 (K.mv4 (k_meet1 ⟨gr, gr, gr, gr, gb (Option.some.inj h), trivial⟩))))))))))
      ·exact kx 4 (knt (K.mv4 (K.mv4 (K.mv4 (K.mv3 (K.mv4 (k_meet1 ⟨gr, gr, gr, gr, gb (Option.some.inj h), trivial⟩)))))))
   ·refine bnd h fun q45 hq45 h => ?_
    refine k_cut1 [(0, pt b0), (1, bv a1), (4, pt b1), (5, pt b3), (50, bv q45)] (bk b0 #[.slice A_a0_0 a0_0.length c_a0_0, iv r15.2] 73 :: bk b3 #[iv 20, sv noS, iv 0, iv r2.2.2.2, .slice A6 l4.length k7] 36 :: bk b1 #[iv 0, sv noS, iv 0, iv 0, nS] 36 :: h5 :: X) ?_ ?_
    ·clear hq45
     refine kcn h (fun h => ?_) fun h => ?_
     ·refine kpr [(0, 0), (1, 3), (2, 0), (3, 1), (4, 1)] [1] (kpx 1 (kpd 0 4 rfl (kpx 1 (kpt (ocp h (fun _ hr47 => (hR.parse_parser_function (b0 := b0) hr47 R_a0_0)) rfl ⟨(t3 hm_H_a0_0), trivial⟩ (fun _ e => k_blk_panic (k_blk_panic (k_then_panic (k_blk_panic (kpn 3 e rfl))))) fun r47 h => ?_)))))
      rintro _ _ ⟨h48, A49, k50, o51, rfl, rfl⟩
      refine nx_ret2 (kan [2] rfl (kpt (ons #[iv r47.1, sv r47.2.1, iv r47.2.2.1, iv r47.2.2.2.1, .slice A49 r47.2.2.2.2.1.length k50] 36 1 fun b53 => (kan [3] rfl (kpz (K.mv1 (K.mv1 (k_row (T := 36) (n := 1) (xs := [(Tree.mk r47.1 r47.2.1 r47.2.2.1 r47.2.2.2.1 r47.2.2.2.2.1)]) (RowI.one (treeO_mk (k := r47.1) (t := r47.2.1) (n := r47.2.2.1) (a := r47.2.2.2.1) 36 o51)) rfl rfl (Nat.le_of_ble_eq_true rfl) fun h54 o55 => (K.mv4 (bnd h fun l56 hl56 h => ?_))))))))))
      refine kapR rfl ety34 rfl hl56 o8 o55 fun h57 A58 k59 o60 => (kx 1 (K.mv2 (kst 4 1 #[iv 20, sv noS, iv 0, iv r2.2.2.2, .slice A58 l56.length k59] (knl (k_blk (k_blk (k_then (K.mv1 (K.mv3 (K.mv3 ?_))))))))))
      exact K.mv3 (k_again m10 (l56, r47.2.2.2.2.2, h57, A58, k59) (Nat.lt_succ_self _) ⟨h, o60⟩ sb rfl)
     ·refine ksr (kx 1 (bnd h fun r61 hr61 h => (kc1 (parse_parser_ends.ok (b0 := b0) hr61 R_a0_0) rfl ⟨(t3 hm_H_a0_0), trivial⟩ (kx 1 (knt ?_)))))
      refine kcn h (fun h => ?_) fun h => ?_
      ·refine ksr (kla 1 0 5 rfl (K.mv1 (K.drop (K.mv1 (kst 0 5 #[iv 20, sv noS, iv 0, iv r2.2.2.2, .slice A6 l4.length k7] (knt (k_ret (k_blk_ret (k_blk_ret (k_then_ret ?_))))))))))
       refine k_blk_ret ?_
       obtain rfl := Option.some.inj h
       exact kda 0 5 rfl [h5, bk b0 #[.slice A_a0_0 a0_0.length c_a0_0, iv r15.2] 73] (K.drop (K.mv1 (k_end (PR.okI ⟨h5, A6, k7, o8, rfl, rfl⟩))))
      ·refine kpr [(0, 0), (1, 3), (2, 0), (3, 1), (4, 1)] [1] (kpx 1 (kpd 0 4 rfl (kpx 1 (kpt (ocp h (fun _ hr63 => (hR.parse_parser_stat (b0 := b0) hr63 R_a0_0)) rfl ⟨(t3 hm_H_a0_0), trivial⟩ (fun _ e => k_blk_panic (k_blk_panic (k_then_panic (k_blk_panic (kpn 3 e rfl))))) fun r63 h => ?_)))))
       rintro _ _ ⟨h64, A65, k66, o67, rfl, rfl⟩
       refine nx_ret2 (kan [2] rfl (kpt (ons #[iv r63.1, sv r63.2.1, iv r63.2.2.1, iv r63.2.2.2.1, .slice A65 r63.2.2.2.2.1.length k66] 36 1 fun b69 => (kan [3] rfl (kpz (K.mv1 (K.mv1 (k_row (T := 36) (n := 1) (xs := [(Tree.mk r63.1 r63.2.1 r63.2.2.1 r63.2.2.2.1 r63.2.2.2.2.1)]) (RowI.one (treeO_mk (k := r63.1) (t := r63.2.1) (n := r63.2.2.1) (a := r63.2.2.2.1) 36 o67)) rfl rfl (Nat.le_of_ble_eq_true rfl) fun h70 o71 => (K.mv4 (bnd h fun l72 hl72 h => ?_))))))))))
       refine kapR rfl ety34 rfl hl72 o8 o71 fun h73 A74 k75 o76 => (kx 1 (K.mv2 (kst 4 1 #[iv 20, sv noS, iv 0, iv r2.2.2.2, .slice A74 l72.length k75] (knl (k_blk (k_blk (k_then (K.mv1 (K.mv3 (K.mv3 ?_))))))))))
       exact K.mv3 (k_again m10 (l72, r63.2.2.2.2.2, h73, A74, k75) (Nat.lt_succ_self _) ⟨h, o76⟩ sb rfl)
    ·have h := hq45
     clear hq45
     refine k_region (kx 2 ?_)
     refine kcs 52 h (fun h => ?_) fun h => ?_
     ·exact kx 1 (bnd h fun r78 hr78 h => (kc1 (parse_parser_is.ok (b0 := b0) hr78 R_a0_0) rfl ⟨(t4 hm_H_a0_0), trivial⟩ (K.mv1 (K.drop (kx 2 (knt (k_meet1 ⟨gr, gr, gr, gr, gb (Option.some.inj h), trivial⟩)))))))
     ·exact kx 4 (knt (K.mv1 (K.drop (k_meet1 ⟨gr, gr, gr, gr, gb (Option.some.inj h), trivial⟩))))
def parse_parser_function.g (Rc : PS) (k : Nat) (a0_0 : List (Int × ByteArray × Int × Int)) (a0_1 : Int) : Option (PR (Int × ByteArray × Int × Int × List Tree × Int)) := (parse_parser_now.f k a0_0 a0_1).bind fun r2 => PR.bind (parse_parser_want.f k a0_0 a0_1 (⟨#[102, 117, 110, 99, 116, 105, 111, 110]⟩ : ByteArray)) fun r4 => PR.bind (parse_parser_name.f k a0_0 r4) fun r6 => PR.bind (parse_parser_want.f k a0_0 r6.2.2.2.2.2 (⟨#[40]⟩ : ByteArray)) fun r12 => joinF (fun (x14 : Int) (l15 : List Tree) => PR.bind (parse_parser_want.f k a0_0 x14 (⟨#[41]⟩ : ByteArray)) fun r21 => PR.bind (Rc.parse_parser_block a0_0 r21 false) fun r23 => (apd 64 l15 [(Tree.mk r23.1 r23.2.1 r23.2.2.1 r23.2.2.2.1 r23.2.2.2.2.1)]).bind fun l32 => PR.bind (parse_parser_want.f k a0_0 r23.2.2.2.2.2 (⟨#[101, 110, 100]⟩ : ByteArray)) fun r37 => some (PR.ok (31, r6.2.1, ((l15.length : Nat) : Int), r2.2.2.2, l32, r37))) (fun J20 => (parse_parser_is.f k a0_0 r12 (⟨#[41]⟩ : ByteArray)).bind fun r39 => cond (!r39) (PR.bind (parse_parser_names.f k a0_0 r12) fun r41 => J20 r41.2 r41.1) (J20 r12 ([])))
set_option maxRecDepth 100000 in
theorem parse_parser_function.okg {Rc : PS} (hR : Rc.Good) {k : Nat} {a0_0 : List (Int × ByteArray × Int × Int)} {a0_1 : Int} {b0 : Nat} {H_a0_0 : Frag} {A_a0_0 : Option Addr} {c_a0_0 : Nat} {r : PR (Int × ByteArray × Int × Int × List Tree × Int)} (h : parse_parser_function.g Rc k a0_0 a0_1 = some r) (R_a0_0 : RdT e76 4 H_a0_0 (.slice A_a0_0 a0_0.length c_a0_0) a0_0) : Ct Tryz.prog 48 #[pt b0] [bk b0 #[.slice A_a0_0 a0_0.length c_a0_0, iv a0_1] 73] [H_a0_0] (PR.Post failV (fun (r : Int × ByteArray × Int × Int × List Tree × Int) e l1 => ∃ (H0_ : Frag) (A0_ : Option Addr) (c0_ : Nat), OwnR (rTree 36) 36 H0_ (.slice A0_ r.2.2.2.2.1.length c0_) r.2.2.2.2.1 ∧ e = .returned (.agg #[iv r.1, sv r.2.1, iv r.2.2.1, iv r.2.2.2.1, .slice A0_ r.2.2.2.2.1.length c0_]) ∧ l1 = [H0_, bk b0 #[.slice A_a0_0 a0_0.length c_a0_0, iv r.2.2.2.2.2] 73]) r) := by
 refine ct_enter (args := [pt b0]) Tryz.func48 rfl (Nat.le_of_ble_eq_true rfl) ?_
 intro A X hh_
 obtain ⟨hm_H_a0_0, _⟩ := hh_
 unfold parse_parser_function.g at h
 refine K.eq (env' := [(0, pt b0)]) (l' := bk b0 #[.slice A_a0_0 a0_0.length c_a0_0, iv a0_1] 73 :: X) rfl rfl (ksr (knp #[iv 0, sv noS, iv 0, iv 0, nS] 36 fun b1 => (kns' (kx 1 (K.mv1 (bnd h fun r2 hr2 h => (kc1 (parse_parser_now.ok (b0 := b0) hr2 R_a0_0) rfl ⟨(.tail _ hm_H_a0_0), trivial⟩ (kx 2 (knp #[iv 0, sv noS, iv 0, iv 0, nS] 36 fun b3 => (kst 0 5 #[iv 31, sv noS, iv 0, iv r2.2.2.2, nS] ?_))))))))))
 refine kns' (kx 1 (K.mv1 (kcp h (fun _ hr4 => (parse_parser_want.ok (b0 := b0) hr4 R_a0_0)) rfl ⟨(t2 hm_H_a0_0), trivial⟩ (fun _ e => k_then_panic (kpn 2 e rfl)) fun r4 h => ?_)))
 rintro _ _ ⟨rfl, rfl⟩
 refine nx_ret1 (kns' (kx 1 (kcp h (fun _ hr6 => (parse_parser_name.ok (b0 := b0) hr6 R_a0_0)) rfl ⟨(t2 hm_H_a0_0), trivial⟩ (fun _ e => k_then_panic (kpn 2 e rfl)) fun r6 h => ?_)))
 rintro _ _ ⟨h7, A8, k9, o10, rfl, rfl⟩
 refine nx_ret2 (kx 2 (K.mv2 (kst 1 1 #[iv 31, sv r6.2.1, iv 0, iv r2.2.2.2, nS] (K.mv1 (K.drop (kns' (kx 1 (K.mv1 (kcp h (fun _ hr12 => (parse_parser_want.ok (b0 := b0) hr12 R_a0_0)) rfl ⟨(t2 hm_H_a0_0), trivial⟩ (fun _ e => k_then_panic (kpn 2 e rfl)) fun r12 h => ?_)))))))))
 rintro _ _ ⟨rfl, rfl⟩
 refine nx_ret1 (knt ?_)
 obtain ⟨J20, hJ20, h⟩ := joinSplit h
 refine k_cut (τ := Int × (List Tree) × Frag × (Option Addr) × Nat) (fun t => [(0, pt b0), (2, pt b1), (3, pt b3)]) (fun t => bk b0 #[.slice A_a0_0 a0_0.length c_a0_0, iv t.1] 73 :: bk b3 #[iv 31, sv r6.2.1, iv 0, iv r2.2.2.2, .slice t.2.2.2.1 t.2.1.length t.2.2.2.2] 36 :: bk b1 #[iv 0, sv noS, iv 0, iv 0, nS] 36 :: t.2.2.1 :: X) (fun t => J20 t.1 t.2.1 = some r ∧ OwnR (rTree 36) 36 t.2.2.1 (.slice t.2.2.2.1 t.2.1.length t.2.2.2.2) t.2.1) ?_ ?_
 ·rintro ⟨x14, l15, h16, A17, k18⟩ ⟨h, o19⟩
  subst hJ20
  refine ksr (kx 1 (kld 1 4 rfl (kx 2 (K.mv1 (kst 2 1 #[iv 31, sv r6.2.1, iv ((l15.length : Nat) : Int), iv r2.2.2.2, .slice A17 l15.length k18] (kns' (kx 1 (K.mv1 (kcp h (fun _ hr21 => (parse_parser_want.ok (b0 := b0) hr21 R_a0_0)) rfl ⟨(t3 hm_H_a0_0), trivial⟩ (fun _ e => k_then_panic (kpn 3 e rfl)) fun r21 h => ?_)))))))))
  rintro _ _ ⟨rfl, rfl⟩
  refine nx_ret1 (knt (k_seq (kpr [(0, 0), (1, 3), (2, 0), (3, 1), (4, 1)] [1] (kpx 1 (kpd 0 4 rfl (kpx 1 (kpt (ocp h (fun _ hr23 => (hR.parse_parser_block (b0 := b0) hr23 R_a0_0)) rfl ⟨(t3 hm_H_a0_0), trivial⟩ (fun _ e => k_then_panic (kpn 3 e rfl)) fun r23 h => ?_))))))))
  rintro _ _ ⟨h24, A25, k26, o27, rfl, rfl⟩
  refine nx_ret2 (kan [2] rfl (kpt (ons #[iv r23.1, sv r23.2.1, iv r23.2.2.1, iv r23.2.2.2.1, .slice A25 r23.2.2.2.2.1.length k26] 36 1 fun b29 => (kan [3] rfl (kpz (K.mv1 (K.mv1 (k_row (T := 36) (n := 1) (xs := [(Tree.mk r23.1 r23.2.1 r23.2.2.1 r23.2.2.2.1 r23.2.2.2.2.1)]) (RowI.one (treeO_mk (k := r23.1) (t := r23.2.1) (n := r23.2.2.1) (a := r23.2.2.2.1) 36 o27)) rfl rfl (Nat.le_of_ble_eq_true rfl) fun h30 o31 => (K.mv4 (bnd h fun l32 hl32 h => ?_))))))))))
  refine kapR rfl ety34 rfl hl32 o19 o31 fun h33 A34 k35 o36 => (kx 1 (K.mv2 (kst 4 1 #[iv 31, sv r6.2.1, iv ((l15.length : Nat) : Int), iv r2.2.2.2, .slice A34 l32.length k35] (kns' (kx 1 (K.mv2 (kcp h (fun _ hr37 => (parse_parser_want.ok (b0 := b0) hr37 R_a0_0)) rfl ⟨(t3 hm_H_a0_0), trivial⟩ (fun _ e => k_then_panic (kpn 3 e rfl)) fun r37 h => ?_)))))))
  rintro _ _ ⟨rfl, rfl⟩
  refine nx_ret1 (kns' (kla 1 0 5 rfl (K.mv1 (K.drop (K.mv2 (kst 0 5 #[iv 31, sv r6.2.1, iv ((l15.length : Nat) : Int), iv r2.2.2.2, .slice A34 l32.length k35] (knt (k_ret ?_))))))))
  obtain rfl := Option.some.inj h
  exact kda 0 5 rfl [h33, bk b0 #[.slice A_a0_0 a0_0.length c_a0_0, iv r37] 73] (K.drop (K.mv1 (k_end (PR.okI ⟨h33, A34, k35, o36, rfl, rfl⟩))))
 ·skip
  refine ksr (kx 1 (bnd h fun r39 hr39 h => (kc1 (parse_parser_is.ok (b0 := b0) hr39 R_a0_0) rfl ⟨(t2 hm_H_a0_0), trivial⟩ (kx 1 (knt ?_)))))
  refine kcn h (fun h => ?_) fun h => ?_
  ·refine k_region (kx 1 (kcp h (fun _ hr41 => (parse_parser_names.ok (b0 := b0) hr41 R_a0_0)) rfl ⟨(t2 hm_H_a0_0), trivial⟩ (fun _ e => k_then_panic (kpn 2 e rfl)) fun r41 h => ?_))
   rintro _ _ ⟨h42, A43, k44, o45, rfl, rfl⟩
   exact nx_ret2 (kx 1 (K.mv2 (kst 4 1 #[iv 31, sv r6.2.1, iv 0, iv r2.2.2.2, .slice A43 r41.1.length k44] (knt (K.mv1 (K.mv3 (K.mv2 (K.mv3 (k_meet (r41.2, r41.1, h42, A43, k44) ⟨h, o45⟩ sb rfl)))))))))
  ·exact k_skip (k_then (k_none (K.mv3 (K.mv3 (K.mv3 (k_meet (r12, [], none_, none, 0) ⟨h, (OwnR.nil (rTree 36) 36 none_)⟩ sb rfl))))))
def parse_parser_stat.g (Rc : PS) (k : Nat) (a0_0 : List (Int × ByteArray × Int × Int)) (a0_1 : Int) : Option (PR (Int × ByteArray × Int × Int × List Tree × Int)) := (parse_parser_now.f k a0_0 a0_1).bind fun r2 => joinF (fun (x5 : Int) (x6 : Int) (l7 : List Tree) (x12 : Int) => some (PR.ok (x5, (⟨#[]⟩ : ByteArray), x6, r2.2.2.2, l7, x12))) (fun J13 => (parse_parser_got.f k a0_0 a0_1 (⟨#[100, 111]⟩ : ByteArray)).bind fun r14 => cond r14.1 (PR.bind (Rc.parse_parser_block a0_0 r14.2 false) fun r16 => PR.bind (parse_parser_want.f k a0_0 r16.2.2.2.2.2 (⟨#[101, 110, 100]⟩ : ByteArray)) fun r23 => J13 28 0 ([(Tree.mk r16.1 r16.2.1 r16.2.2.1 r16.2.2.2.1 r16.2.2.2.2.1)]) r23) ((parse_parser_got.f k a0_0 r14.2 (⟨#[119, 104, 105, 108, 101]⟩ : ByteArray)).bind fun r27 => cond r27.1 (PR.bind (parse_parser_exp.f k a0_0 r27.2 0) fun r29 => PR.bind (parse_parser_want.f k a0_0 r29.2.2.2.2.2 (⟨#[100, 111]⟩ : ByteArray)) fun r36 => PR.bind (Rc.parse_parser_block a0_0 r36 false) fun r38 => (apd 64 [(Tree.mk r29.1 r29.2.1 r29.2.2.1 r29.2.2.2.1 r29.2.2.2.2.1)] [(Tree.mk r38.1 r38.2.1 r38.2.2.1 r38.2.2.2.1 r38.2.2.2.2.1)]).bind fun l49 => PR.bind (parse_parser_want.f k a0_0 r38.2.2.2.2.2 (⟨#[101, 110, 100]⟩ : ByteArray)) fun r54 => J13 25 0 l49 r54) ((parse_parser_got.f k a0_0 r27.2 (⟨#[105, 102]⟩ : ByteArray)).bind fun r56 => cond r56.1 (PR.bind (Rc.parse_parser_branches a0_0 r56.2) fun r58 => J13 24 0 r58.1 r58.2) ((parse_parser_got.f k a0_0 r56.2 (⟨#[102, 111, 114]⟩ : ByteArray)).bind fun r64 => cond r64.1 (PR.bind (Rc.parse_parser_loop a0_0 r64.2 r2.2.2.2) fun r66 => some (PR.ok (r66.1, r66.2.1, r66.2.2.1, r66.2.2.2.1, r66.2.2.2.2.1, r66.2.2.2.2.2))) ((parse_parser_got.f k a0_0 r64.2 (⟨#[108, 111, 99, 97, 108]⟩ : ByteArray)).bind fun r72 => cond r72.1 (PR.bind (parse_parser_names.f k a0_0 r72.2) fun r74 => (parse_parser_got.f k a0_0 r74.2 (⟨#[61]⟩ : ByteArray)).bind fun r80 => cond r80.1 (PR.bind (parse_parser_exps.f k a0_0 r80.2) fun r82 => (apd 64 r74.1 r82.1).bind fun l88 => J13 21 ((r74.1.length : Nat) : Int) l88 r82.2) (J13 21 ((r74.1.length : Nat) : Int) r74.1 r80.2)) ((parse_parser_got.f k a0_0 r72.2 (⟨#[98, 114, 101, 97, 107]⟩ : ByteArray)).bind fun r93 => cond r93.1 (J13 29 0 ([]) r93.2) (PR.bind (Rc.parse_parser_plain a0_0 r93.2) fun r95 => some (PR.ok (r95.1, r95.2.1, r95.2.2.1, r95.2.2.2.1, r95.2.2.2.2.1, r95.2.2.2.2.2)))))))))
set_option maxRecDepth 100000 in
theorem parse_parser_stat.okg {Rc : PS} (hR : Rc.Good) {k : Nat} {a0_0 : List (Int × ByteArray × Int × Int)} {a0_1 : Int} {b0 : Nat} {H_a0_0 : Frag} {A_a0_0 : Option Addr} {c_a0_0 : Nat} {r : PR (Int × ByteArray × Int × Int × List Tree × Int)} (h : parse_parser_stat.g Rc k a0_0 a0_1 = some r) (R_a0_0 : RdT e76 4 H_a0_0 (.slice A_a0_0 a0_0.length c_a0_0) a0_0) : Ct Tryz.prog 49 #[pt b0] [bk b0 #[.slice A_a0_0 a0_0.length c_a0_0, iv a0_1] 73] [H_a0_0] (PR.Post failV (fun (r : Int × ByteArray × Int × Int × List Tree × Int) e l1 => ∃ (H0_ : Frag) (A0_ : Option Addr) (c0_ : Nat), OwnR (rTree 36) 36 H0_ (.slice A0_ r.2.2.2.2.1.length c0_) r.2.2.2.2.1 ∧ e = .returned (.agg #[iv r.1, sv r.2.1, iv r.2.2.1, iv r.2.2.2.1, .slice A0_ r.2.2.2.2.1.length c0_]) ∧ l1 = [H0_, bk b0 #[.slice A_a0_0 a0_0.length c_a0_0, iv r.2.2.2.2.2] 73]) r) := by
 refine ct_enter (args := [pt b0]) Tryz.func49 rfl (Nat.le_of_ble_eq_true rfl) ?_
 intro A X hh_
 obtain ⟨hm_H_a0_0, _⟩ := hh_
 unfold parse_parser_stat.g at h
 refine K.eq (env' := [(0, pt b0)]) (l' := bk b0 #[.slice A_a0_0 a0_0.length c_a0_0, iv a0_1] 73 :: X) rfl rfl (ksr (knp #[iv 0, sv noS, iv 0, iv 0, nS] 36 fun b1 => (kns' (kx 1 (K.mv1 (bnd h fun r2 hr2 h => (kc1 (parse_parser_now.ok (b0 := b0) hr2 R_a0_0) rfl ⟨(.tail _ hm_H_a0_0), trivial⟩ (knp #[iv 0, sv noS, iv 0, iv 0] 76 fun b3 => (kst 0 4 #[iv r2.1, sv r2.2.1, iv r2.2.2.1, iv r2.2.2.2] (kns' ?_))))))))))
 refine kx 1 (kld 0 3 rfl (kx 1 (knp #[iv 0, sv noS, iv 0, iv 0, nS] 36 fun b4 => (kst 0 5 #[iv 0, sv noS, iv 0, iv r2.2.2.2, nS] (knt ?_)))))
 obtain ⟨J13, hJ13, h⟩ := joinSplit h
 refine k_cut (τ := Int × Int × (List Tree) × Int × Frag × (Option Addr) × Nat) (fun t => [(2, pt b1), (4, pt b4)]) (fun t => bk b4 #[iv t.1, sv noS, iv t.2.1, iv r2.2.2.2, .slice t.2.2.2.2.2.1 t.2.2.1.length t.2.2.2.2.2.2] 36 :: bk b0 #[.slice A_a0_0 a0_0.length c_a0_0, iv t.2.2.2.1] 73 :: bk b1 #[iv 0, sv noS, iv 0, iv 0, nS] 36 :: t.2.2.2.2.1 :: X) (fun t => J13 t.1 t.2.1 t.2.2.1 t.2.2.2.1 = some r ∧ OwnR (rTree 36) 36 t.2.2.2.2.1 (.slice t.2.2.2.2.2.1 t.2.2.1.length t.2.2.2.2.2.2) t.2.2.1) ?_ ?_
 ·rintro ⟨x5, x6, l7, x12, h8, A9, k10⟩ ⟨h, o11⟩
  subst hJ13
  refine ksr (kla 0 0 5 rfl (K.drop (K.mv1 (kst 0 5 #[iv x5, sv noS, iv x6, iv r2.2.2.2, .slice A9 l7.length k10] (knt (k_ret ?_))))))
  obtain rfl := Option.some.inj h
  exact kda 0 5 rfl [h8, bk b0 #[.slice A_a0_0 a0_0.length c_a0_0, iv x12] 73] (K.drop (K.mv1 (k_end (PR.okI ⟨h8, A9, k10, o11, rfl, rfl⟩))))
 ·skip
  refine k_block (ksr (kx 1 (K.mv2 (bnd h fun r14 hr14 h => (kc1 (parse_parser_got.ok (b0 := b0) hr14 R_a0_0) rfl ⟨(t3 hm_H_a0_0), trivial⟩ (kx 1 (knt ?_)))))))
  refine kcn h (fun h => ?_) fun h => ?_
  ·refine ksr (kx 1 (kcp h (fun _ hr16 => (hR.parse_parser_block (b0 := b0) hr16 R_a0_0)) rfl ⟨(t3 hm_H_a0_0), trivial⟩ (fun _ e => k_then_panic (k_blk_panic (k_then_panic (kpn 3 e rfl)))) fun r16 h => ?_))
   rintro _ _ ⟨h17, A18, k19, o20, rfl, rfl⟩
   refine nx_ret2 (K.mv3 (K.drop (kns #[iv r16.1, sv r16.2.1, iv r16.2.2.1, iv r16.2.2.2.1, .slice A18 r16.2.2.2.2.1.length k19] 36 1 fun b22 => (kx 1 (K.mv3 (kst 0 1 #[iv 28, sv noS, iv 0, iv r2.2.2.2, nS] (kx 1 (kst 4 1 #[iv 28, sv noS, iv 0, iv r2.2.2.2, .slice (some ⟨b22, 0, none⟩) 1 1] (knr (kx 1 ?_))))))))))
   refine K.mv3 (kcp h (fun _ hr23 => (parse_parser_want.ok (b0 := b0) hr23 R_a0_0)) rfl ⟨(t4 hm_H_a0_0), trivial⟩ (fun _ e => k_blk_panic (k_then_panic (kpn 4 e rfl))) fun r23 h => ?_)
   rintro _ _ ⟨rfl, rfl⟩
   exact nx_ret1 (knl (k_blk (k_then (K.mv3 (K.mv3 (k_row (T := 36) (n := 1) (xs := [(Tree.mk r16.1 r16.2.1 r16.2.2.1 r16.2.2.2.1 r16.2.2.2.2.1)]) (RowI.one (treeO_mk (k := r16.1) (t := r16.2.1) (n := r16.2.2.1) (a := r16.2.2.2.1) 36 o20)) rfl rfl (Nat.le_of_ble_eq_true rfl) fun h25 o26 => (K.mv3 (K.mv2 (K.mv3 (k_meet (28, 0, [(Tree.mk r16.1 r16.2.1 r16.2.2.1 r16.2.2.2.1 r16.2.2.2.2.1)], r23, h25, (some ⟨b22, 0, none⟩), 1) ⟨h, o26⟩ sb rfl))))))))))
  ·refine ksr (kx 1 (bnd h fun r27 hr27 h => (kc1 (parse_parser_got.ok (b0 := b0) hr27 R_a0_0) rfl ⟨(t3 hm_H_a0_0), trivial⟩ (kx 1 (knt ?_)))))
   refine kcn h (fun h => ?_) fun h => ?_
   ·refine ksr (kx 1 (kcp h (fun _ hr29 => (parse_parser_exp.ok (b0 := b0) hr29 R_a0_0)) rfl ⟨(t3 hm_H_a0_0), trivial⟩ (fun _ e => k_then_panic (k_blk_panic (k_then_panic (kpn 3 e rfl)))) fun r29 h => ?_))
    rintro _ _ ⟨h30, A31, k32, o33, rfl, rfl⟩
    refine nx_ret2 (K.mv3 (K.drop (kns #[iv r29.1, sv r29.2.1, iv r29.2.2.1, iv r29.2.2.2.1, .slice A31 r29.2.2.2.2.1.length k32] 36 1 fun b35 => (kx 1 (K.mv3 (kst 0 1 #[iv 25, sv noS, iv 0, iv r2.2.2.2, nS] (kx 1 (kst 4 1 #[iv 25, sv noS, iv 0, iv r2.2.2.2, .slice (some ⟨b35, 0, none⟩) 1 1] (kns' (kx 1 ?_))))))))))
    refine K.mv3 (kcp h (fun _ hr36 => (parse_parser_want.ok (b0 := b0) hr36 R_a0_0)) rfl ⟨(t4 hm_H_a0_0), trivial⟩ (fun _ e => k_then_panic (k_blk_panic (k_then_panic (kpn 4 e rfl)))) fun r36 h => ?_)
    rintro _ _ ⟨rfl, rfl⟩
    refine nx_ret1 (knt (k_seq (kpr [(0, 0), (1, 3), (2, 0), (3, 1), (4, 1)] [1] (kpx 1 (kpd 0 4 rfl (kpx 1 (kpt (ocp h (fun _ hr38 => (hR.parse_parser_block (b0 := b0) hr38 R_a0_0)) rfl ⟨(t4 hm_H_a0_0), trivial⟩ (fun _ e => k_then_panic (k_blk_panic (k_then_panic (kpn 4 e rfl)))) fun r38 h => ?_))))))))
    rintro _ _ ⟨h39, A40, k41, o42, rfl, rfl⟩
    refine nx_ret2 (kan [2] rfl (kpt (ons #[iv r38.1, sv r38.2.1, iv r38.2.2.1, iv r38.2.2.2.1, .slice A40 r38.2.2.2.2.1.length k41] 36 1 fun b44 => (kan [3] rfl (kpz (K.mv1 (K.mv1 (k_row (T := 36) (n := 1) (xs := [(Tree.mk r38.1 r38.2.1 r38.2.2.1 r38.2.2.2.1 r38.2.2.2.2.1)]) (RowI.one (treeO_mk (k := r38.1) (t := r38.2.1) (n := r38.2.2.1) (a := r38.2.2.2.1) 36 o42)) rfl rfl (Nat.le_of_ble_eq_true rfl) fun h45 o46 => (K.mv4 (K.mv4 ?_))))))))))
    refine k_row (T := 36) (n := 1) (xs := [(Tree.mk r29.1 r29.2.1 r29.2.2.1 r29.2.2.2.1 r29.2.2.2.2.1)]) (RowI.one (treeO_mk (k := r29.1) (t := r29.2.1) (n := r29.2.2.1) (a := r29.2.2.2.1) 36 o33)) rfl rfl (Nat.le_of_ble_eq_true rfl) fun h47 o48 => (K.mv1 (K.mv1 (bnd h fun l49 hl49 h => (kapR rfl ety34 rfl hl49 o48 o46 fun h50 A51 k52 o53 => (kx 1 (K.mv2 (kst 4 1 #[iv 25, sv noS, iv 0, iv r2.2.2.2, .slice A51 l49.length k52] (knr (kx 1 (K.mv2 ?_))))))))))
    refine kcp h (fun _ hr54 => (parse_parser_want.ok (b0 := b0) hr54 R_a0_0)) rfl ⟨(t3 hm_H_a0_0), trivial⟩ (fun _ e => k_blk_panic (k_then_panic (kpn 3 e rfl))) fun r54 h => ?_
    rintro _ _ ⟨rfl, rfl⟩
    exact nx_ret1 (knl (k_blk (k_then (K.mv2 (K.mv3 (K.mv2 (K.mv3 (k_meet (25, 0, l49, r54, h50, A51, k52) ⟨h, o53⟩ sb rfl))))))))
   ·refine ksr (kx 1 (bnd h fun r56 hr56 h => (kc1 (parse_parser_got.ok (b0 := b0) hr56 R_a0_0) rfl ⟨(t3 hm_H_a0_0), trivial⟩ (kx 1 (knt ?_)))))
    refine kcn h (fun h => ?_) fun h => ?_
    ·refine k_region (kx 1 (kcp h (fun _ hr58 => (hR.parse_parser_branches (b0 := b0) hr58 R_a0_0)) rfl ⟨(t3 hm_H_a0_0), trivial⟩ (fun _ e => k_blk_panic (k_then_panic (kpn 3 e rfl))) fun r58 h => ?_))
     rintro _ _ ⟨h59, A60, k61, o62, rfl, rfl⟩
     refine nx_ret2 (K.mv3 (K.drop (kx 1 (K.mv2 (kst 0 1 #[iv 24, sv noS, iv 0, iv r2.2.2.2, nS] (kx 1 (kst 4 1 #[iv 24, sv noS, iv 0, iv r2.2.2.2, .slice A60 r58.1.length k61] (knl (k_blk (k_then ?_))))))))))
     exact K.mv1 (K.mv3 (K.mv3 (K.mv3 (k_meet (24, 0, r58.1, r58.2, h59, A60, k61) ⟨h, o62⟩ sb rfl))))
    ·refine ksr (kx 1 (bnd h fun r64 hr64 h => (kc1 (parse_parser_got.ok (b0 := b0) hr64 R_a0_0) rfl ⟨(t3 hm_H_a0_0), trivial⟩ (kx 1 (knt ?_)))))
     refine kcn h (fun h => ?_) fun h => ?_
     ·refine ksr (kx 2 (kld 2 3 rfl (K.mv1 (K.drop (K.mv1 (K.drop (kcp h (fun _ hr66 => (hR.parse_parser_loop (b0 := b0) hr66 R_a0_0)) rfl ⟨(.tail _ hm_H_a0_0), trivial⟩ (fun _ e => k_then_panic (k_blk_panic (k_then_panic (kpn 1 e rfl)))) fun r66 h => ?_)))))))
      rintro _ _ ⟨h67, A68, k69, o70, rfl, rfl⟩
      refine nx_ret2 (K.mv2 (kst 0 5 #[iv r66.1, sv r66.2.1, iv r66.2.2.1, iv r66.2.2.2.1, .slice A68 r66.2.2.2.2.1.length k69] (knt (k_ret (k_blk_ret (k_then_ret ?_))))))
      obtain rfl := Option.some.inj h
      exact kda 0 5 rfl [h67, bk b0 #[.slice A_a0_0 a0_0.length c_a0_0, iv r66.2.2.2.2.2] 73] (K.drop (k_end (PR.okI ⟨h67, A68, k69, o70, rfl, rfl⟩)))
     ·refine ksr (kx 1 (bnd h fun r72 hr72 h => (kc1 (parse_parser_got.ok (b0 := b0) hr72 R_a0_0) rfl ⟨(t3 hm_H_a0_0), trivial⟩ (K.mv2 (K.drop (kx 1 (knt ?_)))))))
      refine kcn h (fun h => ?_) fun h => ?_
      ·refine ksr (kx 1 (kcp h (fun _ hr74 => (parse_parser_names.ok (b0 := b0) hr74 R_a0_0)) rfl ⟨(t2 hm_H_a0_0), trivial⟩ (fun _ e => k_then_panic (k_blk_panic (k_then_panic (kpn 2 e rfl)))) fun r74 h => ?_))
       rintro _ _ ⟨h75, A76, k77, o78, rfl, rfl⟩
       refine nx_ret2 (kx 1 (K.mv2 (kst 0 1 #[iv 21, sv noS, iv 0, iv r2.2.2.2, nS] (kx 1 (kst 4 1 #[iv 21, sv noS, iv 0, iv r2.2.2.2, .slice A76 r74.1.length k77] (kns' (kx 1 (kld 0 4 rfl (kx 2 (kst 2 1 #[iv 21, sv noS, iv ((r74.1.length : Nat) : Int), iv r2.2.2.2, .slice A76 r74.1.length k77] ?_))))))))))
       refine kns' (kx 1 (K.mv2 (bnd h fun r80 hr80 h => (kc1 (parse_parser_got.ok (b0 := b0) hr80 R_a0_0) rfl ⟨(t3 hm_H_a0_0), trivial⟩ (knt ?_)))))
       refine kcn h (fun h => ?_) fun h => ?_
       ·refine kpr [(0, 0), (1, 3), (2, 0), (3, 1)] [1] (kpx 1 (kpd 0 4 rfl (kpx 1 (kpt (ocp h (fun _ hr82 => (parse_parser_exps.ok (b0 := b0) hr82 R_a0_0)) rfl ⟨(t3 hm_H_a0_0), trivial⟩ (fun _ e => k_blk_panic (k_then_panic (kpn 3 e rfl))) fun r82 h => ?_)))))
        rintro _ _ ⟨h83, A84, k85, o86, rfl, rfl⟩
        refine nx_ret2 (kan [2] rfl (kpz (K.mv3 (bnd h fun l88 hl88 h => (kapR rfl ety34 rfl hl88 o78 o86 fun h89 A90 k91 o92 => (kx 1 (K.mv2 (kst 4 1 #[iv 21, sv noS, iv ((r74.1.length : Nat) : Int), iv r2.2.2.2, .slice A90 l88.length k91] (knl (k_blk ?_))))))))))
        exact k_then (K.mv1 (K.mv3 (K.mv3 (K.mv3 (k_meet (21, ((r74.1.length : Nat) : Int), l88, r82.2, h89, A90, k91) ⟨h, o92⟩ sb rfl)))))
       ·exact k_skip (k_blk (k_then (K.mv2 (K.mv3 (K.mv2 (K.mv3 (k_meet (21, ((r74.1.length : Nat) : Int), r74.1, r80.2, h75, A76, k77) ⟨h, o78⟩ sb rfl)))))))
      ·refine ksr (kx 1 (bnd h fun r93 hr93 h => (kc1 (parse_parser_got.ok (b0 := b0) hr93 R_a0_0) rfl ⟨(t2 hm_H_a0_0), trivial⟩ (kx 1 (knt ?_)))))
       refine kcn h (fun h => ?_) fun h => ?_
       ·refine k_region (kx 1 (K.mv1 (kst 0 1 #[iv 29, sv noS, iv 0, iv r2.2.2.2, nS] (knl (k_blk (k_then (k_none (K.mv3 (K.mv3 (K.mv3 ?_))))))))))
        exact k_meet (29, 0, [], r93.2, none_, none, 0) ⟨h, (OwnR.nil (rTree 36) 36 none_)⟩ sb rfl
       ·refine ksr (kx 1 (kcp h (fun _ hr95 => (hR.parse_parser_plain (b0 := b0) hr95 R_a0_0)) rfl ⟨(t2 hm_H_a0_0), trivial⟩ (fun _ e => k_then_panic (k_blk_panic (k_then_panic (kpn 2 e rfl)))) fun r95 h => ?_))
        rintro _ _ ⟨h96, A97, k98, o99, rfl, rfl⟩
        refine nx_ret2 (K.mv2 (K.drop (K.mv2 (kst 0 5 #[iv r95.1, sv r95.2.1, iv r95.2.2.1, iv r95.2.2.2.1, .slice A97 r95.2.2.2.2.1.length k98] (knt (k_ret (k_blk_ret (k_then_ret ?_))))))))
        obtain rfl := Option.some.inj h
        exact kda 0 5 rfl [h96, bk b0 #[.slice A_a0_0 a0_0.length c_a0_0, iv r95.2.2.2.2.2] 73] (K.drop (k_end (PR.okI ⟨h96, A97, k98, o99, rfl, rfl⟩)))
def parse_parser_branches.l0 : Nat → (Rc : PS) → (a0_0 : List (Int × ByteArray × Int × Int)) → (J7 : (List Tree) → Int → Option (PR (List Tree × Int))) → (l33 : List Tree) → (x38 : Int) → Option (PR (List Tree × Int))
 | 0, _, _, _, _, _ => none
 | m39 + 1, Rc, a0_0, J7, l33, x38 => PR.bind (parse_parser_exp.f m39 a0_0 x38 0) fun r40 => (apd 64 l33 [(Tree.mk r40.1 r40.2.1 r40.2.2.1 r40.2.2.2.1 r40.2.2.2.2.1)]).bind fun l49 => PR.bind (parse_parser_want.f m39 a0_0 r40.2.2.2.2.2 (⟨#[116, 104, 101, 110]⟩ : ByteArray)) fun r54 => PR.bind (Rc.parse_parser_block a0_0 r54 false) fun r56 => (apd 64 l49 [(Tree.mk r56.1 r56.2.1 r56.2.2.1 r56.2.2.2.1 r56.2.2.2.2.1)]).bind fun l65 => (parse_parser_got.f m39 a0_0 r56.2.2.2.2.2 (⟨#[101, 108, 115, 101, 105, 102]⟩ : ByteArray)).bind fun r70 => cond (!r70.1) (J7 l65 r70.2) (parse_parser_branches.l0 m39 Rc a0_0 J7 l65 r70.2)
def parse_parser_branches.g (Rc : PS) (k : Nat) (a0_0 : List (Int × ByteArray × Int × Int)) (a0_1 : Int) : Option (PR (List Tree × Int)) := joinF (fun (l1 : List Tree) (x6 : Int) => joinF (fun (l8 : List Tree) (x13 : Int) => PR.bind (parse_parser_want.f k a0_0 x13 (⟨#[101, 110, 100]⟩ : ByteArray)) fun r15 => some (PR.ok (l8, r15))) (fun J14 => (parse_parser_got.f k a0_0 x6 (⟨#[101, 108, 115, 101]⟩ : ByteArray)).bind fun r17 => cond r17.1 (PR.bind (Rc.parse_parser_block a0_0 r17.2 false) fun r19 => (apd 64 l1 [(Tree.mk r19.1 r19.2.1 r19.2.2.1 r19.2.2.2.1 r19.2.2.2.2.1)]).bind fun l28 => J14 l28 r19.2.2.2.2.2) (J14 l1 r17.2))) (fun J7 => parse_parser_branches.l0 k Rc a0_0 J7 ([]) a0_1)
set_option maxRecDepth 100000 in
theorem parse_parser_branches.okg {Rc : PS} (hR : Rc.Good) {k : Nat} {a0_0 : List (Int × ByteArray × Int × Int)} {a0_1 : Int} {b0 : Nat} {H_a0_0 : Frag} {A_a0_0 : Option Addr} {c_a0_0 : Nat} {r : PR (List Tree × Int)} (h : parse_parser_branches.g Rc k a0_0 a0_1 = some r) (R_a0_0 : RdT e76 4 H_a0_0 (.slice A_a0_0 a0_0.length c_a0_0) a0_0) : Ct Tryz.prog 70 #[pt b0] [bk b0 #[.slice A_a0_0 a0_0.length c_a0_0, iv a0_1] 73] [H_a0_0] (PR.Post failV (fun (r : List Tree × Int) e l1 => ∃ (H0_ : Frag) (A0_ : Option Addr) (c0_ : Nat), OwnR (rTree 36) 36 H0_ (.slice A0_ r.1.length c0_) r.1 ∧ e = .returned (.slice A0_ r.1.length c0_) ∧ l1 = [H0_, bk b0 #[.slice A_a0_0 a0_0.length c_a0_0, iv r.2] 73]) r) := by
 refine ct_enter (args := [pt b0]) Tryz.func70 rfl (Nat.le_of_ble_eq_true rfl) ?_
 intro A X hh_
 obtain ⟨hm_H_a0_0, _⟩ := hh_
 unfold parse_parser_branches.g at h
 refine K.eq (env' := [(0, pt b0)]) (l' := bk b0 #[.slice A_a0_0 a0_0.length c_a0_0, iv a0_1] 73 :: X) rfl rfl (ksr (kx 1 (kns' (kx 1 (knt ?_)))))
 obtain ⟨J7, hJ7, h⟩ := joinSplit h
 refine k_cut (τ := (List Tree) × Int × Frag × (Option Addr) × Nat) (fun t => [(0, pt b0), (3, .slice t.2.2.2.1 t.1.length t.2.2.2.2)]) (fun t => bk b0 #[.slice A_a0_0 a0_0.length c_a0_0, iv t.2.1] 73 :: t.2.2.1 :: X) (fun t => J7 t.1 t.2.1 = some r ∧ OwnR (rTree 36) 36 t.2.2.1 (.slice t.2.2.2.1 t.1.length t.2.2.2.2) t.1) ?_ ?_
 ·rintro ⟨l1, x6, h2, A3, k4⟩ ⟨h, o5⟩
  subst hJ7
  obtain ⟨J14, hJ14, h⟩ := joinSplit h
  refine k_cut (τ := (List Tree) × Int × Frag × (Option Addr) × Nat) (fun t => [(0, pt b0), (3, .slice t.2.2.2.1 t.1.length t.2.2.2.2)]) (fun t => bk b0 #[.slice A_a0_0 a0_0.length c_a0_0, iv t.2.1] 73 :: t.2.2.1 :: X) (fun t => J14 t.1 t.2.1 = some r ∧ OwnR (rTree 36) 36 t.2.2.1 (.slice t.2.2.2.1 t.1.length t.2.2.2.2) t.1) ?_ ?_
  ·rintro ⟨l8, x13, h9, A10, k11⟩ ⟨h, o12⟩
   subst hJ14
   refine ksr (kx 1 (kcp h (fun _ hr15 => (parse_parser_want.ok (b0 := b0) hr15 R_a0_0)) rfl ⟨(.tail _ hm_H_a0_0), trivial⟩ (fun _ e => k_then_panic (kpn 1 e rfl)) fun r15 h => ?_))
   rintro _ _ ⟨rfl, rfl⟩
   refine nx_ret1 (kns' (kx 2 (knt (k_ret ?_))))
   obtain rfl := Option.some.inj h
   exact kdv (.slice A10 l8.length k11) [h9, bk b0 #[.slice A_a0_0 a0_0.length c_a0_0, iv r15] 73] (K.mv1 (k_end (PR.okI ⟨h9, A10, k11, o12, rfl, rfl⟩)))
  ·skip
   refine ksr (kx 1 (bnd h fun r17 hr17 h => (kc1 (parse_parser_got.ok (b0 := b0) hr17 R_a0_0) rfl ⟨(.tail _ hm_H_a0_0), trivial⟩ (knt ?_))))
   refine kcn h (fun h => ?_) fun h => ?_
   ·refine k_region (kx 2 (kcp h (fun _ hr19 => (hR.parse_parser_block (b0 := b0) hr19 R_a0_0)) rfl ⟨(.tail _ hm_H_a0_0), trivial⟩ (fun _ e => k_then_panic (kpn 1 e rfl)) fun r19 h => ?_))
    rintro _ _ ⟨h20, A21, k22, o23, rfl, rfl⟩
    refine nx_ret2 (kns #[iv r19.1, sv r19.2.1, iv r19.2.2.1, iv r19.2.2.2.1, .slice A21 r19.2.2.2.2.1.length k22] 36 1 fun b25 => (K.mv1 (K.mv1 (k_row (T := 36) (n := 1) (xs := [(Tree.mk r19.1 r19.2.1 r19.2.2.1 r19.2.2.2.1 r19.2.2.2.2.1)]) (RowI.one (treeO_mk (k := r19.1) (t := r19.2.1) (n := r19.2.2.1) (a := r19.2.2.2.1) 36 o23)) rfl rfl (Nat.le_of_ble_eq_true rfl) fun h26 o27 => (K.mv2 (bnd h fun l28 hl28 h => (kapR rfl ety34 rfl hl28 o5 o27 fun h29 A30 k31 o32 => (kx 1 (knt (K.mv1 ?_))))))))))
    exact k_meet (l28, r19.2.2.2.2.2, h29, A30, k31) ⟨h, o32⟩ sb rfl
   ·exact k_skip (k_then (k_meet (l1, r17.2, h2, A3, k4) ⟨h, o5⟩ sb rfl))
 ·skip
  refine k_block (k_none (K.mv1 (k_loop (τ := (List Tree) × Int × Frag × (Option Addr) × Nat) (fun t => [(0, pt b0), (3, .slice t.2.2.2.1 t.1.length t.2.2.2.2)]) (fun t => bk b0 #[.slice A_a0_0 a0_0.length c_a0_0, iv t.2.1] 73 :: t.2.2.1 :: X) (fun m t => parse_parser_branches.l0 m Rc a0_0 J7 t.1 t.2.1 = some r ∧ OwnR (rTree 36) 36 t.2.2.1 (.slice t.2.2.2.1 t.1.length t.2.2.2.2) t.1) k ([], a0_1, none_, none, 0) ⟨h, (OwnR.nil (rTree 36) 36 none_)⟩ sb rfl ?_)))
  clear h
  rintro m39 ⟨l33, x38, h34, A35, k36⟩ ⟨h, o37⟩
  cases m39 with
  | zero => simp [parse_parser_branches.l0] at h
  | succ m39 =>
   simp only [parse_parser_branches.l0] at h
   refine k_block (ksr (kx 2 (kcp h (fun _ hr40 => (parse_parser_exp.ok (b0 := b0) hr40 R_a0_0)) rfl ⟨(.tail _ hm_H_a0_0), trivial⟩ (fun _ e => k_then_panic (k_blk_panic (k_then_panic (k_blk_panic (k_then_panic (kpn 1 e rfl)))))) fun r40 h => ?_)))
   rintro _ _ ⟨h41, A42, k43, o44, rfl, rfl⟩
   refine nx_ret2 (kns #[iv r40.1, sv r40.2.1, iv r40.2.2.1, iv r40.2.2.2.1, .slice A42 r40.2.2.2.2.1.length k43] 36 1 fun b46 => (K.mv1 (K.mv1 (k_row (T := 36) (n := 1) (xs := [(Tree.mk r40.1 r40.2.1 r40.2.2.1 r40.2.2.2.1 r40.2.2.2.2.1)]) (RowI.one (treeO_mk (k := r40.1) (t := r40.2.1) (n := r40.2.2.1) (a := r40.2.2.2.1) 36 o44)) rfl rfl (Nat.le_of_ble_eq_true rfl) fun h47 o48 => (K.mv2 (bnd h fun l49 hl49 h => (kapR rfl ety34 rfl hl49 o37 o48 fun h50 A51 k52 o53 => (kx 1 (kns' (kx 1 ?_))))))))))
   refine K.mv1 (kcp h (fun _ hr54 => (parse_parser_want.ok (b0 := b0) hr54 R_a0_0)) rfl ⟨(.tail _ hm_H_a0_0), trivial⟩ (fun _ e => k_then_panic (k_blk_panic (k_then_panic (k_blk_panic (k_then_panic (kpn 1 e rfl)))))) fun r54 h => ?_)
   rintro _ _ ⟨rfl, rfl⟩
   refine nx_ret1 (kns' (kx 2 (kcp h (fun _ hr56 => (hR.parse_parser_block (b0 := b0) hr56 R_a0_0)) rfl ⟨(.tail _ hm_H_a0_0), trivial⟩ (fun _ e => k_then_panic (k_blk_panic (k_then_panic (k_blk_panic (k_then_panic (kpn 1 e rfl)))))) fun r56 h => ?_)))
   rintro _ _ ⟨h57, A58, k59, o60, rfl, rfl⟩
   refine nx_ret2 (kns #[iv r56.1, sv r56.2.1, iv r56.2.2.1, iv r56.2.2.2.1, .slice A58 r56.2.2.2.2.1.length k59] 36 1 fun b62 => (K.mv1 (K.mv1 (k_row (T := 36) (n := 1) (xs := [(Tree.mk r56.1 r56.2.1 r56.2.2.1 r56.2.2.2.1 r56.2.2.2.2.1)]) (RowI.one (treeO_mk (k := r56.1) (t := r56.2.1) (n := r56.2.2.1) (a := r56.2.2.2.1) 36 o60)) rfl rfl (Nat.le_of_ble_eq_true rfl) fun h63 o64 => (K.mv2 (bnd h fun l65 hl65 h => (kapR rfl ety34 rfl hl65 o53 o64 fun h66 A67 k68 o69 => (kx 1 (kns' (kx 1 ?_))))))))))
   refine K.mv1 (bnd h fun r70 hr70 h => (kc1 (parse_parser_got.ok (b0 := b0) hr70 R_a0_0) rfl ⟨(.tail _ hm_H_a0_0), trivial⟩ (kx 1 (knt ?_))))
   refine kcn h (fun h => ?_) fun h => ?_
   ·exact k_exit (k_there rfl (k_then_exit (k_here (k_then (k_meet (l65, r70.2, h66, A67, k68) ⟨h, o69⟩ sb rfl)))))
   ·exact k_skip (k_blk (k_then (k_again m39 (l65, r70.2, h66, A67, k68) (Nat.lt_succ_self _) ⟨h, o69⟩ sb rfl)))
def parse_parser_loop.g (Rc : PS) (k : Nat) (a0_0 : List (Int × ByteArray × Int × Int)) (a0_1 : Int) (a1 : Int) : Option (PR (Int × ByteArray × Int × Int × List Tree × Int)) := PR.bind (parse_parser_name.f k a0_0 a0_1) fun r2 => joinF (fun (x10 : Int) (x11 : Int) (l12 : List Tree) (x17 : Int) => PR.bind (parse_parser_want.f k a0_0 x17 (⟨#[100, 111]⟩ : ByteArray)) fun r19 => PR.bind (Rc.parse_parser_block a0_0 r19 false) fun r21 => (apd 64 l12 [(Tree.mk r21.1 r21.2.1 r21.2.2.1 r21.2.2.2.1 r21.2.2.2.2.1)]).bind fun l30 => PR.bind (parse_parser_want.f k a0_0 r21.2.2.2.2.2 (⟨#[101, 110, 100]⟩ : ByteArray)) fun r35 => some (PR.ok (x10, (⟨#[]⟩ : ByteArray), x11, a1, l30, r35))) (fun J18 => (parse_parser_got.f k a0_0 r2.2.2.2.2.2 (⟨#[61]⟩ : ByteArray)).bind fun r37 => cond r37.1 (PR.bind (parse_parser_exp.f k a0_0 r37.2 0) fun r39 => (apd 64 [(Tree.mk r2.1 r2.2.1 r2.2.2.1 r2.2.2.2.1 r2.2.2.2.2.1)] [(Tree.mk r39.1 r39.2.1 r39.2.2.1 r39.2.2.2.1 r39.2.2.2.2.1)]).bind fun l50 => PR.bind (parse_parser_want.f k a0_0 r39.2.2.2.2.2 (⟨#[44]⟩ : ByteArray)) fun r55 => PR.bind (parse_parser_exp.f k a0_0 r55 0) fun r57 => (apd 64 l50 [(Tree.mk r57.1 r57.2.1 r57.2.2.1 r57.2.2.2.1 r57.2.2.2.2.1)]).bind fun l66 => (parse_parser_got.f k a0_0 r57.2.2.2.2.2 (⟨#[44]⟩ : ByteArray)).bind fun r71 => cond r71.1 (PR.bind (parse_parser_exp.f k a0_0 r71.2 0) fun r73 => (apd 64 l66 [(Tree.mk r73.1 r73.2.1 r73.2.2.1 r73.2.2.2.1 r73.2.2.2.2.1)]).bind fun l82 => J18 26 0 l82 r73.2.2.2.2.2) (J18 26 0 l66 r71.2)) (joinF (fun (x87 : Int) (l88 : List Tree) => PR.bind (parse_parser_want.f k a0_0 x87 (⟨#[105, 110]⟩ : ByteArray)) fun r94 => PR.bind (parse_parser_exps.f k a0_0 r94) fun r96 => (apd 64 l88 r96.1).bind fun l102 => J18 27 ((l88.length : Nat) : Int) l102 r96.2) (fun J93 => (parse_parser_got.f k a0_0 r37.2 (⟨#[44]⟩ : ByteArray)).bind fun r107 => cond r107.1 (PR.bind (parse_parser_names.f k a0_0 r107.2) fun r109 => (apd 64 [(Tree.mk r2.1 r2.2.1 r2.2.2.1 r2.2.2.2.1 r2.2.2.2.2.1)] r109.1).bind fun l117 => J93 r109.2 l117) (J93 r107.2 ([(Tree.mk r2.1 r2.2.1 r2.2.2.1 r2.2.2.2.1 r2.2.2.2.2.1)])))))
set_option maxRecDepth 100000 in
theorem parse_parser_loop.okg {Rc : PS} (hR : Rc.Good) {k : Nat} {a0_0 : List (Int × ByteArray × Int × Int)} {a0_1 : Int} {a1 : Int} {b0 : Nat} {H_a0_0 : Frag} {A_a0_0 : Option Addr} {c_a0_0 : Nat} {r : PR (Int × ByteArray × Int × Int × List Tree × Int)} (h : parse_parser_loop.g Rc k a0_0 a0_1 a1 = some r) (R_a0_0 : RdT e76 4 H_a0_0 (.slice A_a0_0 a0_0.length c_a0_0) a0_0) : Ct Tryz.prog 71 #[pt b0, iv a1] [bk b0 #[.slice A_a0_0 a0_0.length c_a0_0, iv a0_1] 73] [H_a0_0] (PR.Post failV (fun (r : Int × ByteArray × Int × Int × List Tree × Int) e l1 => ∃ (H0_ : Frag) (A0_ : Option Addr) (c0_ : Nat), OwnR (rTree 36) 36 H0_ (.slice A0_ r.2.2.2.2.1.length c0_) r.2.2.2.2.1 ∧ e = .returned (.agg #[iv r.1, sv r.2.1, iv r.2.2.1, iv r.2.2.2.1, .slice A0_ r.2.2.2.2.1.length c0_]) ∧ l1 = [H0_, bk b0 #[.slice A_a0_0 a0_0.length c_a0_0, iv r.2.2.2.2.2] 73]) r) := by
 refine ct_enter (args := [pt b0, iv a1]) Tryz.func71 rfl (Nat.le_of_ble_eq_true rfl) ?_
 intro A X hh_
 obtain ⟨hm_H_a0_0, _⟩ := hh_
 unfold parse_parser_loop.g at h
 refine K.eq (env' := [(0, pt b0), (1, iv a1)]) (l' := bk b0 #[.slice A_a0_0 a0_0.length c_a0_0, iv a0_1] 73 :: X) rfl rfl (ksr (knp #[iv 0, sv noS, iv 0, iv 0, nS] 36 fun b1 => (kns' (kx 2 (K.mv1 (kcp h (fun _ hr2 => (parse_parser_name.ok (b0 := b0) hr2 R_a0_0)) rfl ⟨(.tail _ hm_H_a0_0), trivial⟩ (fun _ e => k_then_panic (kpn 1 e rfl)) fun r2 h => ?_))))))
 rintro _ _ ⟨h3, A4, k5, o6, rfl, rfl⟩
 refine nx_ret2 (kns #[iv r2.1, sv r2.2.1, iv r2.2.2.1, iv r2.2.2.2.1, .slice A4 r2.2.2.2.2.1.length k5] 36 1 fun b8 => (kx 1 (knp #[iv 0, sv noS, iv 0, iv 0, nS] 36 fun b9 => (kst 0 5 #[iv 27, sv noS, iv 0, iv a1, .slice (some ⟨b8, 0, none⟩) 1 1] (knt ?_)))))
 obtain ⟨J18, hJ18, h⟩ := joinSplit h
 refine k_cut (τ := Int × Int × (List Tree) × Int × Frag × (Option Addr) × Nat) (fun t => [(0, pt b0), (4, pt b1), (5, pt b9)]) (fun t => bk b9 #[iv t.1, sv noS, iv t.2.1, iv a1, .slice t.2.2.2.2.2.1 t.2.2.1.length t.2.2.2.2.2.2] 36 :: bk b0 #[.slice A_a0_0 a0_0.length c_a0_0, iv t.2.2.2.1] 73 :: bk b1 #[iv 0, sv noS, iv 0, iv 0, nS] 36 :: t.2.2.2.2.1 :: X) (fun t => J18 t.1 t.2.1 t.2.2.1 t.2.2.2.1 = some r ∧ OwnR (rTree 36) 36 t.2.2.2.2.1 (.slice t.2.2.2.2.2.1 t.2.2.1.length t.2.2.2.2.2.2) t.2.2.1) ?_ ?_
 ·rintro ⟨x10, x11, l12, x17, h13, A14, k15⟩ ⟨h, o16⟩
  subst hJ18
  refine ksr (kx 1 (K.mv1 (kcp h (fun _ hr19 => (parse_parser_want.ok (b0 := b0) hr19 R_a0_0)) rfl ⟨(t3 hm_H_a0_0), trivial⟩ (fun _ e => k_then_panic (kpn 3 e rfl)) fun r19 h => ?_)))
  rintro _ _ ⟨rfl, rfl⟩
  refine nx_ret1 (knt (k_seq (kpr [(0, 0), (1, 3), (2, 0), (3, 1), (4, 1)] [1] (kpx 1 (kpd 0 4 rfl (kpx 1 (kpt (ocp h (fun _ hr21 => (hR.parse_parser_block (b0 := b0) hr21 R_a0_0)) rfl ⟨(t3 hm_H_a0_0), trivial⟩ (fun _ e => k_then_panic (kpn 3 e rfl)) fun r21 h => ?_))))))))
  rintro _ _ ⟨h22, A23, k24, o25, rfl, rfl⟩
  refine nx_ret2 (kan [2] rfl (kpt (ons #[iv r21.1, sv r21.2.1, iv r21.2.2.1, iv r21.2.2.2.1, .slice A23 r21.2.2.2.2.1.length k24] 36 1 fun b27 => (kan [3] rfl (kpz (K.mv1 (K.mv1 (k_row (T := 36) (n := 1) (xs := [(Tree.mk r21.1 r21.2.1 r21.2.2.1 r21.2.2.2.1 r21.2.2.2.2.1)]) (RowI.one (treeO_mk (k := r21.1) (t := r21.2.1) (n := r21.2.2.1) (a := r21.2.2.2.1) 36 o25)) rfl rfl (Nat.le_of_ble_eq_true rfl) fun h28 o29 => (K.mv4 (bnd h fun l30 hl30 h => ?_))))))))))
  refine kapR rfl ety34 rfl hl30 o16 o29 fun h31 A32 k33 o34 => (kx 1 (K.mv2 (kst 4 1 #[iv x10, sv noS, iv x11, iv a1, .slice A32 l30.length k33] (kns' (kx 1 (K.mv2 (kcp h (fun _ hr35 => (parse_parser_want.ok (b0 := b0) hr35 R_a0_0)) rfl ⟨(t3 hm_H_a0_0), trivial⟩ (fun _ e => k_then_panic (kpn 3 e rfl)) fun r35 h => ?_)))))))
  rintro _ _ ⟨rfl, rfl⟩
  refine nx_ret1 (kns' (kla 1 0 5 rfl (K.mv1 (K.drop (K.mv2 (kst 0 5 #[iv x10, sv noS, iv x11, iv a1, .slice A32 l30.length k33] (knt (k_ret ?_))))))))
  obtain rfl := Option.some.inj h
  exact kda 0 5 rfl [h31, bk b0 #[.slice A_a0_0 a0_0.length c_a0_0, iv r35] 73] (K.drop (K.mv1 (k_end (PR.okI ⟨h31, A32, k33, o34, rfl, rfl⟩))))
 ·skip
  refine ksr (kx 1 (K.mv3 (bnd h fun r37 hr37 h => (kc1 (parse_parser_got.ok (b0 := b0) hr37 R_a0_0) rfl ⟨(t4 hm_H_a0_0), trivial⟩ (knt ?_)))))
  refine kcn h (fun h => ?_) fun h => ?_
  ·refine ksr (kx 1 (K.mv1 (kst 0 1 #[iv 26, sv noS, iv 0, iv a1, .slice (some ⟨b8, 0, none⟩) 1 1] (knt (k_seq (kpr [(0, 0), (1, 3), (2, 0), (3, 1), (4, 1)] [0] (kpx 1 (kpd 0 4 rfl (kpx 1 (kpt ?_))))))))))
   refine K.mv1 (ocp h (fun _ hr39 => (parse_parser_exp.ok (b0 := b0) hr39 R_a0_0)) rfl ⟨(t4 hm_H_a0_0), trivial⟩ (fun _ e => k_then_panic (k_then_panic (kpn 4 e rfl))) fun r39 h => ?_)
   rintro _ _ ⟨h40, A41, k42, o43, rfl, rfl⟩
   refine nx_ret2 (kan [2] rfl (kpt (ons #[iv r39.1, sv r39.2.1, iv r39.2.2.1, iv r39.2.2.2.1, .slice A41 r39.2.2.2.2.1.length k42] 36 1 fun b45 => (kan [3] rfl (kpz (K.mv1 (K.mv1 (k_row (T := 36) (n := 1) (xs := [(Tree.mk r39.1 r39.2.1 r39.2.2.1 r39.2.2.2.1 r39.2.2.2.2.1)]) (RowI.one (treeO_mk (k := r39.1) (t := r39.2.1) (n := r39.2.2.1) (a := r39.2.2.2.1) 36 o43)) rfl rfl (Nat.le_of_ble_eq_true rfl) fun h46 o47 => (K.mv4 (K.mv4 ?_))))))))))
   refine k_row (T := 36) (n := 1) (xs := [(Tree.mk r2.1 r2.2.1 r2.2.2.1 r2.2.2.2.1 r2.2.2.2.2.1)]) (RowI.one (treeO_mk (k := r2.1) (t := r2.2.1) (n := r2.2.2.1) (a := r2.2.2.2.1) 36 o6)) rfl rfl (Nat.le_of_ble_eq_true rfl) fun h48 o49 => (K.mv1 (K.mv1 (bnd h fun l50 hl50 h => (kapR rfl ety34 rfl hl50 o49 o47 fun h51 A52 k53 o54 => (kx 1 (K.mv2 (kst 4 1 #[iv 26, sv noS, iv 0, iv a1, .slice A52 l50.length k53] (kns' (kx 1 (K.mv2 ?_))))))))))
   refine kcp h (fun _ hr55 => (parse_parser_want.ok (b0 := b0) hr55 R_a0_0)) rfl ⟨(t3 hm_H_a0_0), trivial⟩ (fun _ e => k_then_panic (k_then_panic (kpn 3 e rfl))) fun r55 h => ?_
   rintro _ _ ⟨rfl, rfl⟩
   refine nx_ret1 (knt (k_seq (kpr [(0, 0), (1, 3), (2, 0), (3, 1), (4, 1)] [1] (kpx 1 (kpd 0 4 rfl (kpx 1 (kpt (ocp h (fun _ hr57 => (parse_parser_exp.ok (b0 := b0) hr57 R_a0_0)) rfl ⟨(t3 hm_H_a0_0), trivial⟩ (fun _ e => k_then_panic (k_then_panic (kpn 3 e rfl))) fun r57 h => ?_))))))))
   rintro _ _ ⟨h58, A59, k60, o61, rfl, rfl⟩
   refine nx_ret2 (kan [2] rfl (kpt (ons #[iv r57.1, sv r57.2.1, iv r57.2.2.1, iv r57.2.2.2.1, .slice A59 r57.2.2.2.2.1.length k60] 36 1 fun b63 => (kan [3] rfl (kpz (K.mv1 (K.mv1 (k_row (T := 36) (n := 1) (xs := [(Tree.mk r57.1 r57.2.1 r57.2.2.1 r57.2.2.2.1 r57.2.2.2.2.1)]) (RowI.one (treeO_mk (k := r57.1) (t := r57.2.1) (n := r57.2.2.1) (a := r57.2.2.2.1) 36 o61)) rfl rfl (Nat.le_of_ble_eq_true rfl) fun h64 o65 => (K.mv3 (bnd h fun l66 hl66 h => ?_))))))))))
   refine kapR rfl ety34 rfl hl66 o54 o65 fun h67 A68 k69 o70 => (kx 1 (K.mv2 (kst 4 1 #[iv 26, sv noS, iv 0, iv a1, .slice A68 l66.length k69] (kns' (kx 1 (K.mv2 (bnd h fun r71 hr71 h => (kc1 (parse_parser_got.ok (b0 := b0) hr71 R_a0_0) rfl ⟨(t3 hm_H_a0_0), trivial⟩ (knt ?_)))))))))
   refine kcn h (fun h => ?_) fun h => ?_
   ·refine kpr [(0, 0), (1, 3), (2, 0), (3, 1), (4, 1)] [1] (kpx 1 (kpd 0 4 rfl (kpx 1 (kpt (ocp h (fun _ hr73 => (parse_parser_exp.ok (b0 := b0) hr73 R_a0_0)) rfl ⟨(t3 hm_H_a0_0), trivial⟩ (fun _ e => k_then_panic (kpn 3 e rfl)) fun r73 h => ?_)))))
    rintro _ _ ⟨h74, A75, k76, o77, rfl, rfl⟩
    refine nx_ret2 (kan [2] rfl (kpt (ons #[iv r73.1, sv r73.2.1, iv r73.2.2.1, iv r73.2.2.2.1, .slice A75 r73.2.2.2.2.1.length k76] 36 1 fun b79 => (kan [3] rfl (kpz (K.mv1 (K.mv1 (k_row (T := 36) (n := 1) (xs := [(Tree.mk r73.1 r73.2.1 r73.2.2.1 r73.2.2.2.1 r73.2.2.2.2.1)]) (RowI.one (treeO_mk (k := r73.1) (t := r73.2.1) (n := r73.2.2.1) (a := r73.2.2.2.1) 36 o77)) rfl rfl (Nat.le_of_ble_eq_true rfl) fun h80 o81 => (K.mv3 (bnd h fun l82 hl82 h => ?_))))))))))
    exact kapR rfl ety34 rfl hl82 o70 o81 fun h83 A84 k85 o86 => (kx 1 (K.mv2 (kst 4 1 #[iv 26, sv noS, iv 0, iv a1, .slice A84 l82.length k85] (knt (K.mv1 (K.mv3 (K.mv3 (K.mv3 (k_meet (26, 0, l82, r73.2.2.2.2.2, h83, A84, k85) ⟨h, o86⟩ sb rfl)))))))))
   ·exact k_skip (k_then (K.mv2 (K.mv3 (K.mv2 (K.mv3 (k_meet (26, 0, l66, r71.2, h67, A68, k69) ⟨h, o70⟩ sb rfl))))))
  ·obtain ⟨J93, hJ93, h⟩ := joinSplit h
   refine k_cut (τ := Int × (List Tree) × Frag × (Option Addr) × Nat) (fun t => [(0, pt b0), (4, pt b1), (5, pt b9)]) (fun t => bk b0 #[.slice A_a0_0 a0_0.length c_a0_0, iv t.1] 73 :: bk b9 #[iv 27, sv noS, iv 0, iv a1, .slice t.2.2.2.1 t.2.1.length t.2.2.2.2] 36 :: bk b1 #[iv 0, sv noS, iv 0, iv 0, nS] 36 :: t.2.2.1 :: X) (fun t => J93 t.1 t.2.1 = some r ∧ OwnR (rTree 36) 36 t.2.2.1 (.slice t.2.2.2.1 t.2.1.length t.2.2.2.2) t.2.1) ?_ ?_
   ·rintro ⟨x87, l88, h89, A90, k91⟩ ⟨h, o92⟩
    subst hJ93
    refine ksr (kx 1 (kld 1 4 rfl (kx 2 (K.mv1 (kst 2 1 #[iv 27, sv noS, iv ((l88.length : Nat) : Int), iv a1, .slice A90 l88.length k91] (kns' (kx 1 (K.mv1 (kcp h (fun _ hr94 => (parse_parser_want.ok (b0 := b0) hr94 R_a0_0)) rfl ⟨(t3 hm_H_a0_0), trivial⟩ (fun _ e => k_then_panic (k_then_panic (kpn 3 e rfl))) fun r94 h => ?_)))))))))
    rintro _ _ ⟨rfl, rfl⟩
    refine nx_ret1 (knt (kpr [(0, 0), (1, 3), (2, 0), (3, 1)] [1] (kpx 1 (kpd 0 4 rfl (kpx 1 (kpt (ocp h (fun _ hr96 => (parse_parser_exps.ok (b0 := b0) hr96 R_a0_0)) rfl ⟨(t3 hm_H_a0_0), trivial⟩ (fun _ e => k_then_panic (kpn 3 e rfl)) fun r96 h => ?_)))))))
    rintro _ _ ⟨h97, A98, k99, o100, rfl, rfl⟩
    refine nx_ret2 (kan [2] rfl (kpz (K.mv4 (bnd h fun l102 hl102 h => (kapR rfl ety34 rfl hl102 o92 o100 fun h103 A104 k105 o106 => (kx 1 (K.mv2 (kst 4 1 #[iv 27, sv noS, iv ((l88.length : Nat) : Int), iv a1, .slice A104 l102.length k105] (knt (K.mv1 ?_))))))))))
    exact K.mv3 (K.mv3 (K.mv3 (k_meet (27, ((l88.length : Nat) : Int), l102, r96.2, h103, A104, k105) ⟨h, o106⟩ sb rfl)))
   ·skip
    refine ksr (kx 1 (bnd h fun r107 hr107 h => (kc1 (parse_parser_got.ok (b0 := b0) hr107 R_a0_0) rfl ⟨(t4 hm_H_a0_0), trivial⟩ (knt ?_))))
    refine kcn h (fun h => ?_) fun h => ?_
    ·refine kpr [(0, 0), (1, 3), (2, 0), (3, 1)] [1] (kpx 1 (kpd 0 4 rfl (kpx 1 (kpt (ocp h (fun _ hr109 => (parse_parser_names.ok (b0 := b0) hr109 R_a0_0)) rfl ⟨(t4 hm_H_a0_0), trivial⟩ (fun _ e => k_then_panic (k_then_panic (kpn 4 e rfl))) fun r109 h => ?_)))))
     rintro _ _ ⟨h110, A111, k112, o113, rfl, rfl⟩
     refine nx_ret2 (kan [2] rfl (kpz (K.mv4 (K.mv4 (k_row (T := 36) (n := 1) (xs := [(Tree.mk r2.1 r2.2.1 r2.2.2.1 r2.2.2.2.1 r2.2.2.2.2.1)]) (RowI.one (treeO_mk (k := r2.1) (t := r2.2.1) (n := r2.2.2.1) (a := r2.2.2.2.1) 36 o6)) rfl rfl (Nat.le_of_ble_eq_true rfl) fun h115 o116 => (K.mv1 (K.mv1 (bnd h fun l117 hl117 h => (kapR rfl ety34 rfl hl117 o116 o113 fun h118 A119 k120 o121 => (kx 1 ?_))))))))))
     exact K.mv2 (kst 4 1 #[iv 27, sv noS, iv 0, iv a1, .slice A119 l117.length k120] (knt (K.mv1 (K.mv3 (K.mv2 (K.mv3 (k_meet (r109.2, l117, h118, A119, k120) ⟨h, o121⟩ sb rfl)))))))
    ·exact k_skip (k_then (K.mv3 (K.mv3 (k_row (T := 36) (n := 1) (xs := [(Tree.mk r2.1 r2.2.1 r2.2.2.1 r2.2.2.2.1 r2.2.2.2.2.1)]) (RowI.one (treeO_mk (k := r2.1) (t := r2.2.1) (n := r2.2.2.1) (a := r2.2.2.2.1) 36 o6)) rfl rfl (Nat.le_of_ble_eq_true rfl) fun h122 o123 => (K.mv3 (K.mv3 (K.mv3 (k_meet (r107.2, [(Tree.mk r2.1 r2.2.1 r2.2.2.1 r2.2.2.2.1 r2.2.2.2.2.1)], h122, (some ⟨b8, 0, none⟩), 1) ⟨h, o123⟩ sb rfl))))))))
def parse_parser_plain.l0 : Nat → (a0_0 : List (Int × ByteArray × Int × Int)) → (J26 : (List Tree) → Int → Option (PR (Int × ByteArray × Int × Int × List Tree × Int))) → (x42 : Int) → (x43 : ByteArray) → (x44 : Int) → (x45 : Int) → (l46 : List Tree) → (l51 : List Tree) → (x56 : Int) → Option (PR (Int × ByteArray × Int × Int × List Tree × Int))
 | 0, _, _, _, _, _, _, _, _, _ => none
 | m57 + 1, a0_0, J26, x42, x43, x44, x45, l46, l51, x56 => joinF (fun (_ : Unit) => (apd 64 l51 [(Tree.mk x42 x43 x44 x45 l46)]).bind fun l62 => (parse_parser_got.f m57 a0_0 x56 (⟨#[44]⟩ : ByteArray)).bind fun r67 => cond (!r67.1) (J26 l62 r67.2) (PR.bind (parse_parser_suffixed.f m57 a0_0 r67.2) fun r70 => parse_parser_plain.l0 m57 a0_0 J26 r70.1 r70.2.1 r70.2.2.1 r70.2.2.2.1 r70.2.2.2.2.1 l62 r70.2.2.2.2.2)) (fun J58 => (parse_target.f m57 x42 x43 x44 x45 l46).bind fun r76 => cond (!r76) (PR.bind (parse_parser_fail.f m57 a0_0 x56 x45) fun r78 => J58 ()) (J58 ()))
def parse_parser_plain.g (Rc : PS) (k : Nat) (a0_0 : List (Int × ByteArray × Int × Int)) (a0_1 : Int) : Option (PR (Int × ByteArray × Int × Int × List Tree × Int)) := PR.bind (parse_parser_suffixed.f k a0_0 a0_1) fun r2 => ((parse_parser_is.f k a0_0 r2.2.2.2.2.2 (⟨#[61]⟩ : ByteArray)).bind fun r80 => cond (!r80) ((parse_parser_is.f k a0_0 r2.2.2.2.2.2 (⟨#[44]⟩ : ByteArray)).bind fun r82 => some (!r82)) (some false) : Option Bool).bind fun q9 => cond q9 (joinF (fun (_ : Unit) => some (PR.ok (23, (⟨#[]⟩ : ByteArray), 0, r2.2.2.2.1, [(Tree.mk r2.1 r2.2.1 r2.2.2.1 r2.2.2.2.1 r2.2.2.2.2.1)], r2.2.2.2.2.2))) (fun J11 => cond (r2.1 != 8) ((parse_parser_now.f k a0_0 r2.2.2.2.2.2).bind fun r16 => PR.bind (parse_parser_fail.f k a0_0 r2.2.2.2.2.2 r16.2.2.2) fun r17 => J11 ()) (J11 ()))) (joinF (fun (l20 : List Tree) (x25 : Int) => PR.bind (parse_parser_want.f k a0_0 x25 (⟨#[61]⟩ : ByteArray)) fun r27 => PR.bind (parse_parser_exps.f k a0_0 r27) fun r29 => (apd 64 l20 r29.1).bind fun l35 => some (PR.ok (22, (⟨#[]⟩ : ByteArray), ((l20.length : Nat) : Int), r2.2.2.2.1, l35, r29.2))) (fun J26 => parse_parser_plain.l0 k a0_0 J26 r2.1 r2.2.1 r2.2.2.1 r2.2.2.2.1 r2.2.2.2.2.1 ([]) r2.2.2.2.2.2))
set_option maxRecDepth 100000 in
theorem parse_parser_plain.okg {Rc : PS} (hR : Rc.Good) {k : Nat} {a0_0 : List (Int × ByteArray × Int × Int)} {a0_1 : Int} {b0 : Nat} {H_a0_0 : Frag} {A_a0_0 : Option Addr} {c_a0_0 : Nat} {r : PR (Int × ByteArray × Int × Int × List Tree × Int)} (h : parse_parser_plain.g Rc k a0_0 a0_1 = some r) (R_a0_0 : RdT e76 4 H_a0_0 (.slice A_a0_0 a0_0.length c_a0_0) a0_0) : Ct Tryz.prog 72 #[pt b0] [bk b0 #[.slice A_a0_0 a0_0.length c_a0_0, iv a0_1] 73] [H_a0_0] (PR.Post failV (fun (r : Int × ByteArray × Int × Int × List Tree × Int) e l1 => ∃ (H0_ : Frag) (A0_ : Option Addr) (c0_ : Nat), OwnR (rTree 36) 36 H0_ (.slice A0_ r.2.2.2.2.1.length c0_) r.2.2.2.2.1 ∧ e = .returned (.agg #[iv r.1, sv r.2.1, iv r.2.2.1, iv r.2.2.2.1, .slice A0_ r.2.2.2.2.1.length c0_]) ∧ l1 = [H0_, bk b0 #[.slice A_a0_0 a0_0.length c_a0_0, iv r.2.2.2.2.2] 73]) r) := by
 refine ct_enter (args := [pt b0]) Tryz.func72 rfl (Nat.le_of_ble_eq_true rfl) ?_
 intro A X hh_
 obtain ⟨hm_H_a0_0, _⟩ := hh_
 unfold parse_parser_plain.g at h
 refine K.eq (env' := [(0, pt b0)]) (l' := bk b0 #[.slice A_a0_0 a0_0.length c_a0_0, iv a0_1] 73 :: X) rfl rfl (ksr (knp #[iv 0, sv noS, iv 0, iv 0, nS] 36 fun b1 => (kns' (kx 1 (K.mv1 (kcp h (fun _ hr2 => (parse_parser_suffixed.ok (b0 := b0) hr2 R_a0_0)) rfl ⟨(.tail _ hm_H_a0_0), trivial⟩ (fun _ e => k_then_panic (kpn 1 e rfl)) fun r2 h => ?_))))))
 rintro _ _ ⟨h3, A4, k5, o6, rfl, rfl⟩
 refine nx_ret2 (knp #[iv 0, sv noS, iv 0, iv 0, nS] 36 fun b8 => (kst 0 5 #[iv r2.1, sv r2.2.1, iv r2.2.2.1, iv r2.2.2.2.1, .slice A4 r2.2.2.2.2.1.length k5] (knt (k_seq (bnd h fun q9 hq9 h => ?_)))))
 refine k_cut1 [(0, pt b0), (2, pt b1), (3, pt b8), (15, bv q9)] (bk b8 #[iv r2.1, sv r2.2.1, iv r2.2.2.1, iv r2.2.2.2.1, .slice A4 r2.2.2.2.2.1.length k5] 36 :: h3 :: bk b0 #[.slice A_a0_0 a0_0.length c_a0_0, iv r2.2.2.2.2.2] 73 :: bk b1 #[iv 0, sv noS, iv 0, iv 0, nS] 36 :: X) ?_ ?_
 ·clear hq9
  refine kcn h (fun h => ?_) fun h => ?_
  ·obtain ⟨J11, hJ11, h⟩ := joinSplit h
   refine k_cut (τ := Unit) (fun t => [(2, pt b1), (3, pt b8)]) (fun t => bk b8 #[iv r2.1, sv r2.2.1, iv r2.2.2.1, iv r2.2.2.2.1, .slice A4 r2.2.2.2.2.1.length k5] 36 :: h3 :: bk b0 #[.slice A_a0_0 a0_0.length c_a0_0, iv r2.2.2.2.2.2] 73 :: bk b1 #[iv 0, sv noS, iv 0, iv 0, nS] 36 :: X) (fun t => J11 () = some r) ?_ ?_
   ·rintro ⟨⟩ h
    subst hJ11
    refine ksr (kx 1 (kld 0 3 rfl (kla 0 0 5 rfl (K.drop (kns #[iv r2.1, sv r2.2.1, iv r2.2.2.1, iv r2.2.2.2.1, .slice A4 r2.2.2.2.2.1.length k5] 36 1 fun b12 => (kx 1 (K.mv3 (kst 0 5 #[iv 23, sv noS, iv 0, iv r2.2.2.2.1, .slice (some ⟨b12, 0, none⟩) 1 1] (knt (k_ret ?_))))))))))
    refine k_then_ret (K.mv2 (K.mv2 (k_row (T := 36) (n := 1) (xs := [(Tree.mk r2.1 r2.2.1 r2.2.2.1 r2.2.2.2.1 r2.2.2.2.2.1)]) (RowI.one (treeO_mk (k := r2.1) (t := r2.2.1) (n := r2.2.2.1) (a := r2.2.2.2.1) 36 o6)) rfl rfl (Nat.le_of_ble_eq_true rfl) fun h13 o14 => ?_)))
    obtain rfl := Option.some.inj h
    exact kda 1 5 rfl [h13, bk b0 #[.slice A_a0_0 a0_0.length c_a0_0, iv r2.2.2.2.2.2] 73] (K.mv1 (K.drop (k_end (PR.okI ⟨h13, (some ⟨b12, 0, none⟩), 1, o14, rfl, rfl⟩))))
   ·skip
    refine ksr (kx 1 (kld 0 0 rfl (kx 1 (knt ?_))))
    refine kcn h (fun h => ?_) fun h => ?_
    ·refine k_region (kx 2 (K.mv2 (bnd h fun r16 hr16 h => (kc1 (parse_parser_now.ok (b0 := b0) hr16 R_a0_0) rfl ⟨(t3 hm_H_a0_0), trivial⟩ (kx 1 (kcp h (fun _ hr17 => (parse_parser_fail.ok (b0 := b0) hr17 R_a0_0)) rfl ⟨(t3 hm_H_a0_0), trivial⟩ (fun _ e => k_then_panic (k_then_panic (kpn 3 e rfl))) fun r17 h => ?_))))))
     rintro _ _ ⟨rfl, rfl⟩
     exact nx_ret1 (knt (K.mv3 (K.mv1 (K.mv3 (K.mv3 (k_meet () h sb rfl))))))
    ·exact k_skip (k_then (k_meet () h sb rfl))
  ·refine k_skip (k_then (ksr (kx 1 (kld 0 3 rfl (kx 1 (knp #[iv 0, sv noS, iv 0, iv 0, nS] 36 fun b19 => (kst 0 5 #[iv 22, sv noS, iv 0, iv r2.2.2.2.1, nS] (knt ?_))))))))
   obtain ⟨J26, hJ26, h⟩ := joinSplit h
   refine k_cut (τ := (List Tree) × Int × Frag × (Option Addr) × Nat) (fun t => [(0, pt b0), (2, pt b1), (4, pt b19)]) (fun t => bk b19 #[iv 22, sv noS, iv 0, iv r2.2.2.2.1, .slice t.2.2.2.1 t.1.length t.2.2.2.2] 36 :: bk b0 #[.slice A_a0_0 a0_0.length c_a0_0, iv t.2.1] 73 :: bk b1 #[iv 0, sv noS, iv 0, iv 0, nS] 36 :: t.2.2.1 :: X) (fun t => J26 t.1 t.2.1 = some r ∧ OwnR (rTree 36) 36 t.2.2.1 (.slice t.2.2.2.1 t.1.length t.2.2.2.2) t.1) ?_ ?_
   ·rintro ⟨l20, x25, h21, A22, k23⟩ ⟨h, o24⟩
    subst hJ26
    refine ksr (kx 1 (kld 0 4 rfl (kx 2 (kst 2 1 #[iv 22, sv noS, iv ((l20.length : Nat) : Int), iv r2.2.2.2.1, .slice A22 l20.length k23] (kns' (kx 1 (K.mv1 (kcp h (fun _ hr27 => (parse_parser_want.ok (b0 := b0) hr27 R_a0_0)) rfl ⟨(t3 hm_H_a0_0), trivial⟩ (fun _ e => k_then_panic (kpn 3 e rfl)) fun r27 h => ?_))))))))
    rintro _ _ ⟨rfl, rfl⟩
    refine nx_ret1 (knt (k_seq (kpr [(0, 0), (1, 3), (2, 0), (3, 1)] [1] (kpx 1 (kpd 0 4 rfl (kpx 1 (kpt (ocp h (fun _ hr29 => (parse_parser_exps.ok (b0 := b0) hr29 R_a0_0)) rfl ⟨(t3 hm_H_a0_0), trivial⟩ (fun _ e => k_then_panic (kpn 3 e rfl)) fun r29 h => ?_))))))))
    rintro _ _ ⟨h30, A31, k32, o33, rfl, rfl⟩
    refine nx_ret2 (kan [2] rfl (kpz (K.mv4 (bnd h fun l35 hl35 h => (kapR rfl ety34 rfl hl35 o24 o33 fun h36 A37 k38 o39 => (kx 1 (K.mv2 (kst 4 1 #[iv 22, sv noS, iv ((l20.length : Nat) : Int), iv r2.2.2.2.1, .slice A37 l35.length k38] (kns' (kla 0 0 5 rfl ?_))))))))))
    refine K.drop (K.mv2 (kst 0 5 #[iv 22, sv noS, iv ((l20.length : Nat) : Int), iv r2.2.2.2.1, .slice A37 l35.length k38] (knt (k_ret ?_))))
    obtain rfl := Option.some.inj h
    exact kda 0 5 rfl [h36, bk b0 #[.slice A_a0_0 a0_0.length c_a0_0, iv r29.2] 73] (K.drop (k_end (PR.okI ⟨h36, A37, k38, o39, rfl, rfl⟩)))
   ·skip
    refine ksr (kla 1 0 5 rfl (K.mv1 (K.drop (knp #[iv 0, sv noS, iv 0, iv 0, nS] 36 fun b40 => (kst 0 5 #[iv r2.1, sv r2.2.1, iv r2.2.2.1, iv r2.2.2.2.1, .slice A4 r2.2.2.2.2.1.length k5] (knt (k_block (k_none (K.mv3 (K.mvN [_, _, _, _, _] _ _ ?_))))))))))
    refine K.mvN [_, _, _, _, _] _ _ (K.mvN [_, _, _, _, _] _ _ (K.mvN [_, _, _, _, _] _ _ (k_loop (τ := Int × ByteArray × Int × Int × (List Tree) × (List Tree) × Int × Nat × Frag × (Option Addr) × Nat × Frag × (Option Addr) × Nat) (fun t => [(0, pt b0), (2, pt b1), (4, pt b19), (5, pt t.2.2.2.2.2.2.2.1)]) (fun t => bk t.2.2.2.2.2.2.2.1 #[iv t.1, sv t.2.1, iv t.2.2.1, iv t.2.2.2.1, .slice t.2.2.2.2.2.2.2.2.2.1 t.2.2.2.2.1.length t.2.2.2.2.2.2.2.2.2.2.1] 36 :: bk b19 #[iv 22, sv noS, iv 0, iv r2.2.2.2.1, .slice t.2.2.2.2.2.2.2.2.2.2.2.2.1 t.2.2.2.2.2.1.length t.2.2.2.2.2.2.2.2.2.2.2.2.2] 36 :: bk b0 #[.slice A_a0_0 a0_0.length c_a0_0, iv t.2.2.2.2.2.2.1] 73 :: bk b1 #[iv 0, sv noS, iv 0, iv 0, nS] 36 :: t.2.2.2.2.2.2.2.2.1 :: t.2.2.2.2.2.2.2.2.2.2.2.1 :: X) (fun m t => parse_parser_plain.l0 m a0_0 J26 t.1 t.2.1 t.2.2.1 t.2.2.2.1 t.2.2.2.2.1 t.2.2.2.2.2.1 t.2.2.2.2.2.2.1 = some r ∧ OwnR (rTree 36) 36 t.2.2.2.2.2.2.2.2.1 (.slice t.2.2.2.2.2.2.2.2.2.1 t.2.2.2.2.1.length t.2.2.2.2.2.2.2.2.2.2.1) t.2.2.2.2.1 ∧ OwnR (rTree 36) 36 t.2.2.2.2.2.2.2.2.2.2.2.1 (.slice t.2.2.2.2.2.2.2.2.2.2.2.2.1 t.2.2.2.2.2.1.length t.2.2.2.2.2.2.2.2.2.2.2.2.2) t.2.2.2.2.2.1) k (r2.1, r2.2.1, r2.2.2.1, r2.2.2.2.1, r2.2.2.2.2.1, [], r2.2.2.2.2.2, b40, h3, A4, k5, none_, none, 0) ⟨h, o6, (OwnR.nil (rTree 36) 36 none_)⟩ sb rfl ?_)))
    clear h
    rintro m57 ⟨x42, x43, x44, x45, l46, l51, x56, b41, h47, A48, k49, h52, A53, k54⟩ ⟨h, o50, o55⟩
    cases m57 with
    | zero => simp [parse_parser_plain.l0] at h
    | succ m57 =>
     simp only [parse_parser_plain.l0] at h
     refine k_seq (k_block ?_)
     obtain ⟨J58, hJ58, h⟩ := joinSplit h
     refine k_cut (τ := Unit) (fun t => [(0, pt b0), (2, pt b1), (4, pt b19), (5, pt b41)]) (fun t => bk b41 #[iv x42, sv x43, iv x44, iv x45, .slice A48 l46.length k49] 36 :: bk b19 #[iv 22, sv noS, iv 0, iv r2.2.2.2.1, .slice A53 l51.length k54] 36 :: bk b0 #[.slice A_a0_0 a0_0.length c_a0_0, iv x56] 73 :: bk b1 #[iv 0, sv noS, iv 0, iv 0, nS] 36 :: h47 :: h52 :: X) (fun t => J58 () = some r) ?_ ?_
     ·rintro ⟨⟩ h
      subst hJ58
      refine ksr (kx 1 (kld 1 4 rfl (kla 0 0 5 rfl (kns #[iv x42, sv x43, iv x44, iv x45, .slice A48 l46.length k49] 36 1 fun b59 => (K.mvN [_, _, _, _, _] _ _ (K.mv1 (k_row (T := 36) (n := 1) (xs := [(Tree.mk x42 x43 x44 x45 l46)]) (RowI.one (treeO_mk (k := x42) (t := x43) (n := x44) (a := x45) 36 o50)) rfl rfl (Nat.le_of_ble_eq_true rfl) fun h60 o61 => (K.mvN [_, _, _, _, _] _ _ (bnd h fun l62 hl62 h => (kapR rfl ety34 rfl hl62 o55 o61 fun h63 A64 k65 o66 => ?_))))))))))
      refine kx 1 (K.mv2 (kst 4 1 #[iv 22, sv noS, iv 0, iv r2.2.2.2.1, .slice A64 l62.length k65] (kns' (kx 1 (K.mv3 (bnd h fun r67 hr67 h => (kc1 (parse_parser_got.ok (b0 := b0) hr67 R_a0_0) rfl ⟨(t4 hm_H_a0_0), trivial⟩ (kx 1 (knt ?_)))))))))
      refine kcn h (fun h => ?_) fun h => ?_
      ·refine k_exit (k_there rfl (k_then_exit (k_then_exit (k_here (k_then (K.mv3 (K.drop (K.mv2 (K.mv3 (K.mv2 ?_))))))))))
       exact K.mv3 (k_meet (l62, r67.2, h63, A64, k65) ⟨h, o66⟩ sb rfl)
      ·refine k_skip (k_blk (k_then (k_seq (ksr (kla 3 0 5 rfl (K.mv3 (K.drop (knr (knp #[iv 0, sv noS, iv 0, iv 0, nS] 36 fun b69 => (kst 0 5 #[iv x42, sv x43, iv x44, iv x45, .slice A48 l46.length k49] ?_))))))))))
       refine knr (kx 1 (K.mv1 (kcp h (fun _ hr70 => (parse_parser_suffixed.ok (b0 := b0) hr70 R_a0_0)) rfl ⟨(t4 hm_H_a0_0), trivial⟩ (fun _ e => k_then_panic (k_blk_panic (k_then_panic (kpn 4 e rfl)))) fun r70 h => ?_)))
       rintro _ _ ⟨h71, A72, k73, o74, rfl, rfl⟩
       exact nx_ret2 (K.mv2 (kst 0 5 #[iv r70.1, sv r70.2.1, iv r70.2.2.1, iv r70.2.2.2.1, .slice A72 r70.2.2.2.2.1.length k73] (knt (K.mv4 (K.mv2 (K.mvN [_, _, _, _, _] _ _ (K.mv4 (K.mvN [_, _, _, _, _] _ _ (K.mvN [_, _, _, _, _] _ _ (k_again m57 (r70.1, r70.2.1, r70.2.2.1, r70.2.2.2.1, r70.2.2.2.2.1, l62, r70.2.2.2.2.2, b69, h71, A72, k73, h63, A64, k65) (Nat.lt_succ_self _) ⟨h, o74, o66⟩ sb rfl))))))))))
     ·skip
      refine ksr (kla 0 0 5 rfl (bnd h fun r76 hr76 h => (kcv (parse_target.ok hr76 (OwnR.rd o50)) ⟨(.tail _ (.tail _ (.tail _ (.tail _ (.head _))))), trivial⟩ (kx 1 (knt ?_)))))
      refine kcn h (fun h => ?_) fun h => ?_
      ·refine k_region (kx 2 (kld 0 3 rfl (K.mv2 (kcp h (fun _ hr78 => (parse_parser_fail.ok (b0 := b0) hr78 R_a0_0)) rfl ⟨(t5 hm_H_a0_0), trivial⟩ (fun _ e => k_then_panic (k_blk_panic (k_then_panic (k_then_panic (k_blk_panic (k_then_panic (kpn 5 e rfl))))))) fun r78 h => ?_))))
       rintro _ _ ⟨rfl, rfl⟩
       exact nx_ret1 (knt (K.mvN [_, _, _, _, _] _ _ (K.mvN [_, _, _, _, _] _ _ (K.mvN [_, _, _, _, _] _ _ (K.mv3 (K.mvN [_, _, _, _, _] _ _ (K.mvN [_, _, _, _, _] _ _ (k_meet () h sb rfl))))))))
      ·exact k_skip (k_then (k_meet () h sb rfl))
 ·have h := hq9
  clear hq9
  refine k_region (kx 1 (K.mv2 (bnd h fun r80 hr80 h => (kc1 (parse_parser_is.ok (b0 := b0) hr80 R_a0_0) rfl ⟨(t3 hm_H_a0_0), trivial⟩ (kx 2 ?_)))))
  refine kcs 11 h (fun h => ?_) fun h => ?_
  ·exact kx 1 (bnd h fun r82 hr82 h => (kc1 (parse_parser_is.ok (b0 := b0) hr82 R_a0_0) rfl ⟨(t3 hm_H_a0_0), trivial⟩ (kx 2 (knt (K.mv3 (K.mv1 (K.mv3 (K.mv3 (k_meet1 ⟨gr, gr, gr, gb (Option.some.inj h), trivial⟩)))))))))
  ·exact kx 4 (knt (K.mv3 (K.mv1 (K.mv3 (K.mv3 (k_meet1 ⟨gr, gr, gr, gb (Option.some.inj h), trivial⟩))))))
def PS.at : Nat → PS
 | 0 => ⟨fun _ _ _ => none, fun _ _ => none, fun _ _ => none, fun _ _ => none, fun _ _ _ => none, fun _ _ => none⟩
 | k + 1 => ⟨fun a0_0 a0_1 a1 => parse_parser_block.g (PS.at k) k a0_0 a0_1 a1, fun a0_0 a0_1 => parse_parser_function.g (PS.at k) k a0_0 a0_1, fun a0_0 a0_1 => parse_parser_stat.g (PS.at k) k a0_0 a0_1, fun a0_0 a0_1 => parse_parser_branches.g (PS.at k) k a0_0 a0_1, fun a0_0 a0_1 a1 => parse_parser_loop.g (PS.at k) k a0_0 a0_1 a1, fun a0_0 a0_1 => parse_parser_plain.g (PS.at k) k a0_0 a0_1⟩
theorem PS.good : ∀ k, (PS.at k).Good
 | 0 => ⟨fun h _ => (by cases (show (none : Option _) = some _ from h)), fun h _ => (by cases (show (none : Option _) = some _ from h)), fun h _ => (by cases (show (none : Option _) = some _ from h)), fun h _ => (by cases (show (none : Option _) = some _ from h)), fun h _ => (by cases (show (none : Option _) = some _ from h)), fun h _ => (by cases (show (none : Option _) = some _ from h))⟩
 | k + 1 => ⟨fun h R_a0_0 => parse_parser_block.okg (PS.good k) h R_a0_0, fun h R_a0_0 => parse_parser_function.okg (PS.good k) h R_a0_0, fun h R_a0_0 => parse_parser_stat.okg (PS.good k) h R_a0_0, fun h R_a0_0 => parse_parser_branches.okg (PS.good k) h R_a0_0, fun h R_a0_0 => parse_parser_loop.okg (PS.good k) h R_a0_0, fun h R_a0_0 => parse_parser_plain.okg (PS.good k) h R_a0_0⟩
def parse_parser_block.f (k : Nat) (a0_0 : List (Int × ByteArray × Int × Int)) (a0_1 : Int) (a1 : Bool) : Option (PR (Int × ByteArray × Int × Int × List Tree × Int)) := parse_parser_block.g (PS.at k) k a0_0 a0_1 a1
theorem parse_parser_block.ok {k : Nat} {a0_0 : List (Int × ByteArray × Int × Int)} {a0_1 : Int} {a1 : Bool} {b0 : Nat} {H_a0_0 : Frag} {A_a0_0 : Option Addr} {c_a0_0 : Nat} {r : PR (Int × ByteArray × Int × Int × List Tree × Int)} (h : parse_parser_block.f k a0_0 a0_1 a1 = some r) (R_a0_0 : RdT e76 4 H_a0_0 (.slice A_a0_0 a0_0.length c_a0_0) a0_0) : Ct Tryz.prog 30 #[pt b0, bv a1] [bk b0 #[.slice A_a0_0 a0_0.length c_a0_0, iv a0_1] 73] [H_a0_0] (PR.Post failV (fun (r : Int × ByteArray × Int × Int × List Tree × Int) e l1 => ∃ (H0_ : Frag) (A0_ : Option Addr) (c0_ : Nat), OwnR (rTree 36) 36 H0_ (.slice A0_ r.2.2.2.2.1.length c0_) r.2.2.2.2.1 ∧ e = .returned (.agg #[iv r.1, sv r.2.1, iv r.2.2.1, iv r.2.2.2.1, .slice A0_ r.2.2.2.2.1.length c0_]) ∧ l1 = [H0_, bk b0 #[.slice A_a0_0 a0_0.length c_a0_0, iv r.2.2.2.2.2] 73]) r) := parse_parser_block.okg (PS.good k) h R_a0_0
end Go.Proofs.YtdkgnlaneccioaaGreatDoor
namespace Go.Proofs.YtdkgnlaneccioaaGreatDoor
open Go Go.RowKit
structure H1 where
 parse_Height : (a0_0 : Int) → (a0_1 : ByteArray) → (a0_2 : Int) → (a0_3 : Int) → (a0_4 : List Tree) → Option (Int)
structure H1.Good (R : H1) : Prop where
 parse_Height : ∀ {a0_0 : Int} {a0_1 : ByteArray} {a0_2 : Int} {a0_3 : Int} {a0_4 : List Tree} {H_a0_4 : Frag} {A_a0_4 : Option Addr} {c_a0_4 : Nat} {r : Int} (h : R.parse_Height a0_0 a0_1 a0_2 a0_3 a0_4 = some r) (R_a0_4 : RdR (rTree 36) H_a0_4 (.slice A_a0_4 a0_4.length c_a0_4) a0_4), Ct Tryz.prog 14 #[.agg #[iv a0_0, sv a0_1, iv a0_2, iv a0_3, .slice A_a0_4 a0_4.length c_a0_4]] [] [H_a0_4] (fun e l1 => e = .returned (iv r) ∧ l1 = [])
def parse_Height.l0 : Nat → (Rc : H1) → (a0_4 : List Tree) → (J3 : Int → Option (Int)) → (x4 : Int) → (x5 : Int) → Option (Int)
 | 0, _, _, _, _, _ => none
 | m6 + 1, Rc, a0_4, J3, x4, x5 => cond (decide (x5 < ((a0_4.length : Nat) : Int))) ((lIdx a0_4 x5).bind fun x8 => (Rc.parse_Height x8.kind x8.text x8.n x8.at_ x8.kids).bind fun r18 => parse_Height.l0 m6 Rc a0_4 J3 (if r18 > x4 then r18 else x4) (IntKind.i64.wrap (x5 + 1))) (J3 x4)
def parse_Height.g (Rc : H1) (k : Nat) (a0_0 : Int) (a0_1 : ByteArray) (a0_2 : Int) (a0_3 : Int) (a0_4 : List Tree) : Option (Int) := joinF (fun (x2 : Int) => some (IntKind.i64.wrap (x2 + 1))) (fun J3 => parse_Height.l0 k Rc a0_4 J3 0 0)
set_option maxRecDepth 100000 in
theorem parse_Height.okg {Rc : H1} (hR : Rc.Good) {k : Nat} {a0_0 : Int} {a0_1 : ByteArray} {a0_2 : Int} {a0_3 : Int} {a0_4 : List Tree} {H_a0_4 : Frag} {A_a0_4 : Option Addr} {c_a0_4 : Nat} {r : Int} (h : parse_Height.g Rc k a0_0 a0_1 a0_2 a0_3 a0_4 = some r) (R_a0_4 : RdR (rTree 36) H_a0_4 (.slice A_a0_4 a0_4.length c_a0_4) a0_4) : Ct Tryz.prog 14 #[.agg #[iv a0_0, sv a0_1, iv a0_2, iv a0_3, .slice A_a0_4 a0_4.length c_a0_4]] [] [H_a0_4] (fun e l1 => e = .returned (iv r) ∧ l1 = []) := by
 refine ct_enter (args := [.agg #[iv a0_0, sv a0_1, iv a0_2, iv a0_3, .slice A_a0_4 a0_4.length c_a0_4]]) Tryz.func14 rfl (Nat.le_of_ble_eq_true rfl) ?_
 intro A X hh_
 obtain ⟨hm_H_a0_4, _⟩ := hh_
 unfold parse_Height.g at h
 refine ksr (knp #[iv a0_0, sv a0_1, iv a0_2, iv a0_3, .slice A_a0_4 a0_4.length c_a0_4] 36 fun b1 => (kx 1 (kns' (kx 1 (knt ?_)))))
 obtain ⟨J3, hJ3, h⟩ := joinSplit h
 refine k_cut (τ := Int) (fun t => [(3, iv t)]) (fun t => X) (fun t => J3 t = some r) ?_ ?_
 ·rintro x2 h
  subst hJ3
  refine ksr (kx 3 (knt (k_ret ?_)))
  obtain rfl := Option.some.inj h
  exact kdn rfl
 ·skip
  refine ksr (kx 1 (kld 0 4 rfl (K.drop (kx 2 (knt (k_block (k_loop (τ := Int × Int) (fun t => [(3, iv t.1), (7, .slice A_a0_4 a0_4.length c_a0_4), (8, iv ((a0_4.length : Nat) : Int)), (9, iv t.2)]) (fun t => X) (fun m t => parse_Height.l0 m Rc a0_4 J3 t.1 t.2 = some r) k (0, 0) h sb rfl ?_)))))))
  clear h
  rintro m6 ⟨x4, x5⟩ h
  cases m6 with
  | zero => simp [parse_Height.l0] at h
  | succ m6 =>
   simp only [parse_Height.l0] at h
   refine ksr (kx 1 (knt (k_seq ?_)))
   refine kcn h (fun h => ?_) fun h => ?_
   ·refine k_skip (k_then (k_seq (k_block (ksr (bnd h fun x8 hx8 h => (kelR (T := 36) (kd := .i64) (R := (rTree 36)) rfl hx8 R_a0_4 fun p9 u12 q13 e10 y11 => ?_))))))
    obtain ⟨A14, k15, rfl, o16⟩ := treeR_mk 36 q13
    refine keN rfl e10 hm_H_a0_4 (knp #[iv 0, sv noS, iv 0, iv 0, nS] 36 fun b17 => (kst 0 5 #[iv x8.kind, sv x8.text, iv x8.n, iv x8.at_, .slice A14 x8.kids.length k15] (knr (kx 1 (kla 0 0 5 rfl (K.drop (bnd h fun r18 hr18 h => (kcv (hR.parse_Height hr18 o16) ⟨hm_H_a0_4, trivial⟩ (kx 2 (knl ?_))))))))))
    exact k_blk (k_then (k_region (kx 2 (knt (k_again m6 ((if r18 > x4 then r18 else x4), IntKind.i64.wrap (x5 + 1)) (Nat.lt_succ_self _) h sb rfl)))))
   ·exact k_exit (k_then_exit (k_then_exit (k_here (k_then (k_meet x4 h sb rfl)))))
def H1.at : Nat → H1
 | 0 => ⟨fun _ _ _ _ _ => none⟩
 | k + 1 => ⟨fun a0_0 a0_1 a0_2 a0_3 a0_4 => parse_Height.g (H1.at k) k a0_0 a0_1 a0_2 a0_3 a0_4⟩
theorem H1.good : ∀ k, (H1.at k).Good
 | 0 => ⟨fun h _ => (by cases (show (none : Option _) = some _ from h))⟩
 | k + 1 => ⟨fun h R_a0_4 => parse_Height.okg (H1.good k) h R_a0_4⟩
def parse_Height.f (k : Nat) (a0_0 : Int) (a0_1 : ByteArray) (a0_2 : Int) (a0_3 : Int) (a0_4 : List Tree) : Option (Int) := parse_Height.g (H1.at k) k a0_0 a0_1 a0_2 a0_3 a0_4
theorem parse_Height.ok {k : Nat} {a0_0 : Int} {a0_1 : ByteArray} {a0_2 : Int} {a0_3 : Int} {a0_4 : List Tree} {H_a0_4 : Frag} {A_a0_4 : Option Addr} {c_a0_4 : Nat} {r : Int} (h : parse_Height.f k a0_0 a0_1 a0_2 a0_3 a0_4 = some r) (R_a0_4 : RdR (rTree 36) H_a0_4 (.slice A_a0_4 a0_4.length c_a0_4) a0_4) : Ct Tryz.prog 14 #[.agg #[iv a0_0, sv a0_1, iv a0_2, iv a0_3, .slice A_a0_4 a0_4.length c_a0_4]] [] [H_a0_4] (fun e l1 => e = .returned (iv r) ∧ l1 = []) := parse_Height.okg (H1.good k) h R_a0_4
def parse_Parse.f (k : Nat) (a0 : ByteArray) : Option (Int × ByteArray × Int × Int × List Tree × Int × Int) := (lex_Scan.f k a0).bind fun r3 => cond (r3.2.1 != 0) (some (0, (⟨#[]⟩ : ByteArray), 0, 0, [], r3.2.1, r3.2.2)) (PR.elim (parse_parser_block.f k r3.1 0 true) (fun i15 => some (0, (⟨#[]⟩ : ByteArray), 0, 0, [], 4, i15)) fun r10 => joinF (fun (_ : Unit) => some (r10.1, r10.2.1, r10.2.2.1, r10.2.2.2.1, r10.2.2.2.2.1, 0, 0)) (fun J16 => (parse_parser_now.f k r3.1 r10.2.2.2.2.2).bind fun r17 => cond (r17.1 != 6) ((parse_parser_now.f k r3.1 r10.2.2.2.2.2).bind fun r19 => PR.elim (parse_parser_fail.f k r3.1 r10.2.2.2.2.2 r19.2.2.2) (fun i21 => some (0, (⟨#[]⟩ : ByteArray), 0, 0, [], 4, i21)) fun r20 => J16 ()) (J16 ())))
set_option maxRecDepth 100000 in
theorem parse_Parse.ok {k : Nat} {a0 : ByteArray} {G : Frag} {r : Int × ByteArray × Int × Int × List Tree × Int × Int} (h : parse_Parse.f k a0 = some r) (hG : GlP G) : Ct Tryz.prog 12 #[sv a0] [] [G] (fun e l1 => ∃ (H0_ : Frag) (A0_ : Option Addr) (c0_ : Nat), OwnR (rTree 36) 36 H0_ (.slice A0_ r.2.2.2.2.1.length c0_) r.2.2.2.2.1 ∧ e = .returned (.tuple #[.agg #[iv r.1, sv r.2.1, iv r.2.2.1, iv r.2.2.2.1, .slice A0_ r.2.2.2.2.1.length c0_], .agg #[iv r.2.2.2.2.2.1, iv r.2.2.2.2.2.2]]) ∧ l1 = [H0_]) := by
 refine ct_enterD (args := [sv a0]) Tryz.func12 rfl (Nat.le_of_ble_eq_true rfl) ?_
 intro A X hh_
 obtain ⟨hm_G, _⟩ := hh_
 unfold parse_Parse.f at h
 refine ksr (knp #[iv 0, sv noS, iv 0, iv 0, nS] 36 fun b1 => (knp #[iv 0, iv 0] 31 fun b2 => (kns' (kx 1 (bnd h fun r3 hr3 h => (kcl (lex_Scan.ok hr3 hG) rfl ⟨(t2 hm_G), trivial⟩ ?_))))))
 rintro _ _ ⟨h4, A5, k6, o7, rfl, rfl⟩
 refine nx_ret1 (kx 4 (K.mv1 (kst 0 2 #[iv r3.2.1, iv r3.2.2] (knt (k_seq (ksr (kx 1 (kld 0 0 rfl (kx 1 (knt ?_))))))))))
 refine kcn h (fun h => ?_) fun h => ?_
 ·refine k_seq (k_nopan (kpr [(0, 0), (1, 3), (2, 1)] [0] (kpx 1 (kpa 0 0 2 rfl (kpt (K.mv2 (ost 0 5 #[iv 0, sv noS, iv 0, iv 0, nS] (kan [1] rfl (kpz (K.mv1 ?_))))))))))
  refine kst 0 2 #[iv r3.2.1, iv r3.2.2] (K.mv2 (K.drop (knl (k_np (k_then (k_ret (k_then_ret ?_)))))))
  obtain rfl := Option.some.inj h
  exact k_doneD0 (v := .tuple #[.agg #[iv 0, sv noS, iv 0, iv 0, nS], .agg #[iv r3.2.1, iv r3.2.2]]) [.val (iv 0), .val (sv noS), .val (iv 0), .val (iv 0), .val (nS), .val (iv r3.2.1), .val (iv r3.2.2)] [.ld ⟨b1, 0, none⟩ (iv 0), .ld ⟨b1, 1, none⟩ (sv noS), .ld ⟨b1, 2, none⟩ (iv 0), .ld ⟨b1, 3, none⟩ (iv 0), .ld ⟨b1, 4, none⟩ (nS), .ld ⟨b2, 0, none⟩ (iv r3.2.1), .ld ⟨b2, 1, none⟩ (iv r3.2.2)] [none_] (by kernel_rfl) (by kernel_rfl) ⟨⟨1, _, _, _, rfl, rfl, rfl⟩, ⟨1, _, _, _, rfl, rfl, rfl⟩, ⟨1, _, _, _, rfl, rfl, rfl⟩, ⟨1, _, _, _, rfl, rfl, rfl⟩, ⟨1, _, _, _, rfl, rfl, rfl⟩, ⟨0, _, _, _, rfl, rfl, rfl⟩, ⟨0, _, _, _, rfl, rfl, rfl⟩, trivial⟩ (k_none (K.mv1 (K.drop (K.mv1 (K.drop (k_end ⟨none_, none, 0, (OwnR.nil (rTree 36) 36 none_), rfl, rfl⟩))))))
 ·refine k_skip (k_then (ksr (kx 1 (kl_defer { target := .fn (.func 29) #[pt b1, pt b2], args := #[] } (by kernel_rfl) (by kernel_rfl) (by kernel_rfl) (kns' (kx 2 (knp #[.slice A5 r3.1.length k6, iv 0] 73 fun b9 => (kx 1 (kns' (kx 1 ?_))))))))))
  rcases prElim h with ⟨i15, hr10, h⟩ | ⟨r10, hr10, h⟩
  ·refine kcl (parse_parser_block.ok (b0 := b9) hr10 (OwnT.rd o7)) rfl ⟨(.tail _ (.head _)), trivial⟩ ?_
   rintro _ _ ⟨rfl, rfl⟩
   refine nx_pan (k_then_panic (K.mv1 (K.drop (K.mv1 ?_))))
   obtain rfl := Option.some.inj h
   exact k_panD (v := .tuple #[.agg #[iv 0, sv noS, iv 0, iv 0, nS], .agg #[iv 4, iv i15]]) (bk b1 #[iv 0, sv noS, iv 0, iv 0, nS] 36 :: bk b2 #[iv 4, iv i15] 31 :: X) (fun _ => by kernel_rfl) (fun w_ hw_ => parse_Parse_1_pan hw_) [.val (iv 0), .val (sv noS), .val (iv 0), .val (iv 0), .val (nS), .val (iv 4), .val (iv i15)] [.ld ⟨b1, 0, none⟩ (iv 0), .ld ⟨b1, 1, none⟩ (sv noS), .ld ⟨b1, 2, none⟩ (iv 0), .ld ⟨b1, 3, none⟩ (iv 0), .ld ⟨b1, 4, none⟩ (nS), .ld ⟨b2, 0, none⟩ (iv 4), .ld ⟨b2, 1, none⟩ (iv i15)] [none_] (by kernel_rfl) (by kernel_rfl) ⟨⟨0, _, _, _, rfl, rfl, rfl⟩, ⟨0, _, _, _, rfl, rfl, rfl⟩, ⟨0, _, _, _, rfl, rfl, rfl⟩, ⟨0, _, _, _, rfl, rfl, rfl⟩, ⟨0, _, _, _, rfl, rfl, rfl⟩, ⟨1, _, _, _, rfl, rfl, rfl⟩, ⟨1, _, _, _, rfl, rfl, rfl⟩, trivial⟩ fun w_ hw_ => (⟨⟨none_, none, 0, (OwnR.nil (rTree 36) 36 none_), rfl, rfl⟩, St.nones 1 hw_.tail.tail⟩)
  refine kcl (parse_parser_block.ok (b0 := b9) hr10 (OwnT.rd o7)) rfl ⟨(.tail _ (.head _)), trivial⟩ ?_
  rintro _ _ ⟨h11, A12, k13, o14, rfl, rfl⟩
  refine nx_ret2 (K.mv4 (kst 0 5 #[iv r10.1, sv r10.2.1, iv r10.2.2.1, iv r10.2.2.2.1, .slice A12 r10.2.2.2.2.1.length k13] (knt ?_)))
  obtain ⟨J16, hJ16, h⟩ := joinSplit h
  refine k_cut (τ := Unit) (fun t => [(2, pt b1), (3, pt b2)]) (fun t => bk b1 #[iv r10.1, sv r10.2.1, iv r10.2.2.1, iv r10.2.2.2.1, .slice A12 r10.2.2.2.2.1.length k13] 36 :: h11 :: bk b2 #[iv r3.2.1, iv r3.2.2] 31 :: X) (fun t => J16 () = some r) ?_ ?_
  ·rintro ⟨⟩ h
   subst hJ16
   refine ksr (kla 0 0 5 rfl (kx 1 (kst 0 5 #[iv r10.1, sv r10.2.1, iv r10.2.2.1, iv r10.2.2.2.1, .slice A12 r10.2.2.2.2.1.length k13] (K.mv2 (kst 0 2 #[iv 0, iv 0] (knt (k_ret ?_)))))))
   obtain rfl := Option.some.inj h
   exact k_doneD (fun _ => by kernel_rfl) (parse_Parse_1_idle (pt b1) (pt b2)) (v := .tuple #[.agg #[iv r10.1, sv r10.2.1, iv r10.2.2.1, iv r10.2.2.2.1, .slice A12 r10.2.2.2.2.1.length k13], .agg #[iv 0, iv 0]]) [.val (iv r10.1), .val (sv r10.2.1), .val (iv r10.2.2.1), .val (iv r10.2.2.2.1), .val (.slice A12 r10.2.2.2.2.1.length k13), .val (iv 0), .val (iv 0)] [.ld ⟨b1, 0, none⟩ (iv r10.1), .ld ⟨b1, 1, none⟩ (sv r10.2.1), .ld ⟨b1, 2, none⟩ (iv r10.2.2.1), .ld ⟨b1, 3, none⟩ (iv r10.2.2.2.1), .ld ⟨b1, 4, none⟩ (.slice A12 r10.2.2.2.2.1.length k13), .ld ⟨b2, 0, none⟩ (iv 0), .ld ⟨b2, 1, none⟩ (iv 0)] [h11] (by kernel_rfl) (by kernel_rfl) ⟨⟨1, _, _, _, rfl, rfl, rfl⟩, ⟨1, _, _, _, rfl, rfl, rfl⟩, ⟨1, _, _, _, rfl, rfl, rfl⟩, ⟨1, _, _, _, rfl, rfl, rfl⟩, ⟨1, _, _, _, rfl, rfl, rfl⟩, ⟨0, _, _, _, rfl, rfl, rfl⟩, ⟨0, _, _, _, rfl, rfl, rfl⟩, trivial⟩ (K.drop (K.drop (k_endD ⟨h11, A12, k13, o14, rfl, rfl⟩)))
  ·skip
   refine ksr (kx 1 (K.mv2 (bnd h fun r17 hr17 h => (kc1 (parse_parser_now.ok (b0 := b9) hr17 (OwnT.rd o7)) rfl ⟨(.tail _ (.tail _ (.tail _ (.head _)))), trivial⟩ (kx 2 (knt ?_))))))
   refine kcn h (fun h => ?_) fun h => ?_
   ·refine k_region (kx 2 (bnd h fun r19 hr19 h => (kc1 (parse_parser_now.ok (b0 := b9) hr19 (OwnT.rd o7)) rfl ⟨(.tail _ (.tail _ (.tail _ (.head _)))), trivial⟩ (kx 1 ?_))))
    rcases prElim h with ⟨i21, hr20, h⟩ | ⟨r20, hr20, h⟩
    ·refine kcl (parse_parser_fail.ok (b0 := b9) hr20 (OwnT.rd o7)) rfl ⟨(.tail _ (.tail _ (.tail _ (.head _)))), trivial⟩ ?_
     rintro _ _ ⟨rfl, rfl⟩
     refine nx_pan (k_then_panic (K.mv1 (K.drop (K.mv2 (K.drop ?_)))))
     obtain rfl := Option.some.inj h
     exact k_panD (v := .tuple #[.agg #[iv 0, sv noS, iv 0, iv 0, nS], .agg #[iv 4, iv i21]]) (bk b1 #[iv 0, sv noS, iv 0, iv 0, nS] 36 :: bk b2 #[iv 4, iv i21] 31 :: X) (fun _ => by kernel_rfl) (fun w_ hw_ => parse_Parse_1_pan hw_) [.val (iv 0), .val (sv noS), .val (iv 0), .val (iv 0), .val (nS), .val (iv 4), .val (iv i21)] [.ld ⟨b1, 0, none⟩ (iv 0), .ld ⟨b1, 1, none⟩ (sv noS), .ld ⟨b1, 2, none⟩ (iv 0), .ld ⟨b1, 3, none⟩ (iv 0), .ld ⟨b1, 4, none⟩ (nS), .ld ⟨b2, 0, none⟩ (iv 4), .ld ⟨b2, 1, none⟩ (iv i21)] [none_] (by kernel_rfl) (by kernel_rfl) ⟨⟨0, _, _, _, rfl, rfl, rfl⟩, ⟨0, _, _, _, rfl, rfl, rfl⟩, ⟨0, _, _, _, rfl, rfl, rfl⟩, ⟨0, _, _, _, rfl, rfl, rfl⟩, ⟨0, _, _, _, rfl, rfl, rfl⟩, ⟨1, _, _, _, rfl, rfl, rfl⟩, ⟨1, _, _, _, rfl, rfl, rfl⟩, trivial⟩ fun w_ hw_ => (⟨⟨none_, none, 0, (OwnR.nil (rTree 36) 36 none_), rfl, rfl⟩, St.nones 1 hw_.tail.tail⟩)
    exact kc1 (parse_parser_fail.ok (b0 := b9) hr20 (OwnT.rd o7)) rfl ⟨(.tail _ (.tail _ (.tail _ (.head _)))), trivial⟩ (K.drop (K.mv3 (K.drop (knt (k_meet () h sb rfl)))))
   ·exact k_skip (k_then (K.drop (K.mv3 (K.drop (k_meet () h sb rfl)))))
end Go.Proofs.YtdkgnlaneccioaaGreatDoor
namespace Go.Proofs.YtdkgnlaneccioaaGreatDoor
open Go Go.RowKit
abbrev Tk := Int × ByteArray × Int × Int
inductive PV (α : Type) where
 | ok (a : α) (r : List Tk)
 | bad (at_ : Int)
def PV.bind {α β : Type} (x : Option (PV α)) (f : α → List Tk → Option (PV β)) : Option (PV β) :=
 match x with
 | none => none
 | some (.ok a r) => f a r
 | some (.bad i) => some (.bad i)
def hd (ts : List Tk) : Tk := ts.headD (6, ⟨#[]⟩, 0, 0)
def isT (w : ByteArray) (t : Tk) : Bool := (t.1 == 2 || t.1 == 5) && t.2.1.toList == w.toList
def isH (w : ByteArray) (ts : List Tk) : Bool := isT w (hd ts)
def pWant (w : ByteArray) (ts : List Tk) : Option (PV Unit) := if isH w ts then some (.ok () ts.tail) else some (.bad (hd ts).2.2.2)
abbrev kSemi : ByteArray := ⟨#[59]⟩
abbrev kComma : ByteArray := ⟨#[44]⟩
abbrev kEq : ByteArray := ⟨#[61]⟩
abbrev kLp : ByteArray := ⟨#[40]⟩
abbrev kRp : ByteArray := ⟨#[41]⟩
abbrev kLb : ByteArray := ⟨#[91]⟩
abbrev kRb : ByteArray := ⟨#[93]⟩
abbrev kLc : ByteArray := ⟨#[123]⟩
abbrev kRc : ByteArray := ⟨#[125]⟩
abbrev kDot : ByteArray := ⟨#[46]⟩
abbrev kHash : ByteArray := ⟨#[35]⟩
abbrev kMinus : ByteArray := ⟨#[45]⟩
abbrev kReturn : ByteArray := ⟨#[114, 101, 116, 117, 114, 110]⟩
abbrev kFunction : ByteArray := ⟨#[102, 117, 110, 99, 116, 105, 111, 110]⟩
abbrev kEnd : ByteArray := ⟨#[101, 110, 100]⟩
abbrev kElse : ByteArray := ⟨#[101, 108, 115, 101]⟩
abbrev kElseif : ByteArray := ⟨#[101, 108, 115, 101, 105, 102]⟩
abbrev kDo : ByteArray := ⟨#[100, 111]⟩
abbrev kWhile : ByteArray := ⟨#[119, 104, 105, 108, 101]⟩
abbrev kIf : ByteArray := ⟨#[105, 102]⟩
abbrev kThen : ByteArray := ⟨#[116, 104, 101, 110]⟩
abbrev kFor : ByteArray := ⟨#[102, 111, 114]⟩
abbrev kIn : ByteArray := ⟨#[105, 110]⟩
abbrev kLocal : ByteArray := ⟨#[108, 111, 99, 97, 108]⟩
abbrev kBreak : ByteArray := ⟨#[98, 114, 101, 97, 107]⟩
abbrev kNil : ByteArray := ⟨#[110, 105, 108]⟩
abbrev kTrue : ByteArray := ⟨#[116, 114, 117, 101]⟩
abbrev kFalse : ByteArray := ⟨#[102, 97, 108, 115, 101]⟩
abbrev kNot : ByteArray := ⟨#[110, 111, 116]⟩
abbrev kOr : ByteArray := ⟨#[111, 114]⟩
abbrev kAnd : ByteArray := ⟨#[97, 110, 100]⟩
abbrev kLt : ByteArray := ⟨#[60]⟩
abbrev kGt : ByteArray := ⟨#[62]⟩
abbrev kLe : ByteArray := ⟨#[60, 61]⟩
abbrev kGe : ByteArray := ⟨#[62, 61]⟩
abbrev kNe : ByteArray := ⟨#[126, 61]⟩
abbrev kEqq : ByteArray := ⟨#[61, 61]⟩
abbrev kCat : ByteArray := ⟨#[46, 46]⟩
abbrev kPlus : ByteArray := ⟨#[43]⟩
abbrev kStar : ByteArray := ⟨#[42]⟩
abbrev kSlash : ByteArray := ⟨#[47, 47]⟩
abbrev kPct : ByteArray := ⟨#[37]⟩
abbrev noB : ByteArray := ⟨#[]⟩
def pName (kind : Int) (ts : List Tk) : Option (PV Tree) :=
 if (hd ts).1 = 1 then some (.ok (.mk kind (hd ts).2.1 0 (hd ts).2.2.2 []) ts.tail) else some (.bad (hd ts).2.2.2)
def pNamesL : Nat → List Tree → List Tk → Option (PV (List Tree))
 | 0, _, _ => none
 | f + 1, acc, ts => if isH kComma ts then PV.bind (pName 6 ts.tail) fun n r => pNamesL f (acc ++ [n]) r else some (.ok acc ts)
def pNames (f : Nat) (ts : List Tk) : Option (PV (List Tree)) := PV.bind (pName 6 ts) fun n r => pNamesL f [n] r
def bindsH (ts : List Tk) : Int :=
 if isH kOr ts then 1 else if isH kAnd ts then 2
 else if isH kLt ts || isH kGt ts || isH kLe ts || isH kGe ts || isH kNe ts || isH kEqq ts then 3
 else if isH kCat ts then 4 else if isH kPlus ts || isH kMinus ts then 5 else if isH kStar ts || isH kSlash ts || isH kPct ts then 6 else 0
def endsH (ts : List Tk) : Bool := (hd ts).1 == 6 || isH kEnd ts || isH kElse ts || isH kElseif ts
mutual
def pExp : Nat → Int → List Tk → Option (PV Tree)
 | 0, _, _ => none
 | f + 1, least, ts => PV.bind (pOperand f ts) fun n r => pLoop f least n r
def pLoop : Nat → Int → Tree → List Tk → Option (PV Tree)
 | 0, _, _, _ => none
 | f + 1, least, n, ts =>
  if bindsH ts ≤ least then some (.ok n ts)
  else PV.bind (pExp f (if bindsH ts = 4 then 3 else bindsH ts) ts.tail) fun m r => pLoop f least (.mk 11 (hd ts).2.1 0 n.at_ [n, m]) r
def pOperand : Nat → List Tk → Option (PV Tree)
 | 0, _ => none
 | f + 1, ts =>
  if (hd ts).1 = 3 then some (.ok (.mk 4 noB (hd ts).2.2.1 (hd ts).2.2.2 []) ts.tail)
  else if (hd ts).1 = 4 then some (.ok (.mk 5 (hd ts).2.1 0 (hd ts).2.2.2 []) ts.tail)
  else if isH kNil ts then some (.ok (.mk 1 noB 0 (hd ts).2.2.2 []) ts.tail)
  else if isH kTrue ts then some (.ok (.mk 2 noB 0 (hd ts).2.2.2 []) ts.tail)
  else if isH kFalse ts then some (.ok (.mk 3 noB 0 (hd ts).2.2.2 []) ts.tail)
  else if isH kNot ts || isH kHash ts || isH kMinus ts then PV.bind (pExp f 7 ts.tail) fun m r => some (.ok (.mk 10 (hd ts).2.1 0 (hd ts).2.2.2 [m]) r)
  else if isH kLc ts then PV.bind (pFields f [] ts.tail) fun l r => some (.ok (.mk 12 noB 0 (hd ts).2.2.2 l) r)
  else pSuffixed f ts
def pFields : Nat → List Tree → List Tk → Option (PV (List Tree))
 | 0, _, _ => none
 | f + 1, acc, ts =>
  if isH kRc ts then some (.ok acc ts.tail)
  else PV.bind (pField f ts) fun x r =>
   if isH kComma r then pFields f (acc ++ [x]) r.tail
   else if isH kSemi r then pFields f (acc ++ [x]) r.tail
   else PV.bind (pWant kRc r) fun _ r => some (.ok (acc ++ [x]) r)
def pField : Nat → List Tk → Option (PV Tree)
 | 0, _ => none
 | f + 1, ts =>
  if isH kLb ts then
   PV.bind (pExp f 0 ts.tail) fun k r => PV.bind (pWant kRb r) fun _ r => PV.bind (pWant kEq r) fun _ r => PV.bind (pExp f 0 r) fun v r => some (.ok (.mk 14 noB 0 (hd ts).2.2.2 [k, v]) r)
  else if (hd ts).1 = 1 ∧ (hd ts.tail).1 = 5 ∧ (hd ts.tail).2.1.toList = kEq.toList then
   PV.bind (pExp f 0 ts.tail.tail) fun v r => some (.ok (.mk 14 noB 0 (hd ts).2.2.2 [.mk 5 (hd ts).2.1 0 (hd ts).2.2.2 [], v]) r)
  else PV.bind (pExp f 0 ts) fun v r => some (.ok (.mk 13 noB 0 (hd ts).2.2.2 [v]) r)
def pSuffixed : Nat → List Tk → Option (PV Tree)
 | 0, _ => none
 | f + 1, ts =>
  if isH kLp ts then PV.bind (pExp f 0 ts.tail) fun e r => PV.bind (pWant kRp r) fun _ r => pSufL f (hd ts).2.2.2 (.mk 9 noB 0 (hd ts).2.2.2 [e]) r
  else PV.bind (pName 6 ts) fun n r => pSufL f (hd ts).2.2.2 n r
def pSufL : Nat → Int → Tree → List Tk → Option (PV Tree)
 | 0, _, _, _ => none
 | f + 1, at_, n, ts =>
  if isH kLb ts then PV.bind (pExp f 0 ts.tail) fun e r => PV.bind (pWant kRb r) fun _ r => pSufL f at_ (.mk 7 noB 0 at_ [n, e]) r
  else if isH kDot ts then PV.bind (pName 5 ts.tail) fun e r => pSufL f at_ (.mk 7 noB 0 at_ [n, e]) r
  else if isH kLp ts then
   PV.bind (if isH kRp ts.tail then some (.ok [] ts.tail) else pExps f ts.tail) fun l r => PV.bind (pWant kRp r) fun _ r => pSufL f at_ (.mk 8 noB 0 at_ (n :: l)) r
  else some (.ok n ts)
def pExps : Nat → List Tk → Option (PV (List Tree))
 | 0, _ => none
 | f + 1, ts => PV.bind (pExp f 0 ts) fun e r => pExpsL f [e] r
def pExpsL : Nat → List Tree → List Tk → Option (PV (List Tree))
 | 0, _, _ => none
 | f + 1, acc, ts => if isH kComma ts then PV.bind (pExp f 0 ts.tail) fun e r => pExpsL f (acc ++ [e]) r else some (.ok acc ts)
end
mutual
def pBlock : Nat → Bool → List Tk → Option (PV Tree)
 | 0, _, _ => none
 | f + 1, chunk, ts => pBlockL f chunk (hd ts).2.2.2 [] ts
def pBlockL : Nat → Bool → Int → List Tree → List Tk → Option (PV Tree)
 | 0, _, _, _, _ => none
 | f + 1, chunk, at_, acc, ts =>
  if isH kSemi ts then pBlockL f chunk at_ acc ts.tail
  else if isH kReturn ts then
   PV.bind (if endsH ts.tail || isH kSemi ts.tail then some (.ok [] ts.tail) else pExps f ts.tail) fun l r =>
    some (.ok (.mk 20 noB 0 at_ (acc ++ [.mk 30 noB 0 (hd ts).2.2.2 l])) (if isH kSemi r then r.tail else r))
  else if chunk && isH kFunction ts then PV.bind (pFunction f ts) fun x r => pBlockL f chunk at_ (acc ++ [x]) r
  else if endsH ts then some (.ok (.mk 20 noB 0 at_ acc) ts)
  else PV.bind (pStat f ts) fun x r => pBlockL f chunk at_ (acc ++ [x]) r
def pFunction : Nat → List Tk → Option (PV Tree)
 | 0, _ => none
 | f + 1, ts =>
  PV.bind (pName 6 ts.tail) fun nm r => PV.bind (pWant kLp r) fun _ r =>
   PV.bind (if isH kRp r then some (.ok [] r) else pNames f r) fun ps r => PV.bind (pWant kRp r) fun _ r =>
    PV.bind (pBlock f false r) fun b r => PV.bind (pWant kEnd r) fun _ r => some (.ok (.mk 31 nm.text ps.length (hd ts).2.2.2 (ps ++ [b])) r)
/-- do, a block, end. -/
def pBody : Nat → List Tk → Option (PV Tree)
 | 0, _ => none
 | f + 1, ts => PV.bind (pWant kDo ts) fun _ r => PV.bind (pBlock f false r) fun b r => PV.bind (pWant kEnd r) fun _ r => some (.ok b r)
def pStat : Nat → List Tk → Option (PV Tree)
 | 0, _ => none
 | f + 1, ts =>
  if isH kDo ts then PV.bind (pBody f ts) fun b r => some (.ok (.mk 28 noB 0 (hd ts).2.2.2 [b]) r)
  else if isH kWhile ts then PV.bind (pExp f 0 ts.tail) fun e r => PV.bind (pBody f r) fun b r => some (.ok (.mk 25 noB 0 (hd ts).2.2.2 [e, b]) r)
  else if isH kIf ts then PV.bind (pBranches f [] ts.tail) fun l r => some (.ok (.mk 24 noB 0 (hd ts).2.2.2 l) r)
  else if isH kFor ts then pFor f (hd ts).2.2.2 ts.tail
  else if isH kLocal ts then
   PV.bind (pNames f ts.tail) fun l r => PV.bind (if isH kEq r then pExps f r.tail else some (.ok [] r)) fun es r => some (.ok (.mk 21 noB l.length (hd ts).2.2.2 (l ++ es)) r)
  else if isH kBreak ts then some (.ok (.mk 29 noB 0 (hd ts).2.2.2 []) ts.tail)
  else pPlain f ts
def pBranches : Nat → List Tree → List Tk → Option (PV (List Tree))
 | 0, _, _ => none
 | f + 1, acc, ts =>
  PV.bind (pExp f 0 ts) fun e r => PV.bind (pWant kThen r) fun _ r => PV.bind (pBlock f false r) fun b r =>
   if isH kElseif r then pBranches f (acc ++ [e] ++ [b]) r.tail
   else if isH kElse r then PV.bind (pBlock f false r.tail) fun c r => PV.bind (pWant kEnd r) fun _ r => some (.ok (acc ++ [e] ++ [b] ++ [c]) r)
   else PV.bind (pWant kEnd r) fun _ r => some (.ok (acc ++ [e] ++ [b]) r)
def pFor : Nat → Int → List Tk → Option (PV Tree)
 | 0, _, _ => none
 | f + 1, at_, ts =>
  PV.bind (pName 6 ts) fun n r =>
   if isH kEq r then
    PV.bind (pExp f 0 r.tail) fun a r => PV.bind (pWant kComma r) fun _ r => PV.bind (pExp f 0 r) fun b r =>
     PV.bind (if isH kComma r then PV.bind (pExp f 0 r.tail) fun c r => some (.ok [c] r) else some (.ok [] r)) fun cs r => PV.bind (pBody f r) fun bd r =>
      some (.ok (.mk 26 noB 0 at_ ([n] ++ [a] ++ [b] ++ cs ++ [bd])) r)
   else
    PV.bind (pNamesL f [n] r) fun l r => PV.bind (pWant kIn r) fun _ r => PV.bind (pExps f r) fun es r => PV.bind (pBody f r) fun bd r =>
     some (.ok (.mk 27 noB l.length at_ (l ++ es ++ [bd])) r)
def pPlain : Nat → List Tk → Option (PV Tree)
 | 0, _ => none
 | f + 1, ts =>
  PV.bind (pSuffixed f ts) fun e r =>
   if isH kEq r || isH kComma r then
    PV.bind (pTargets f [] e r) fun l r => PV.bind (pWant kEq r) fun _ r => PV.bind (pExps f r) fun es r => some (.ok (.mk 22 noB l.length e.at_ (l ++ es)) r)
   else if e.kind = 8 then some (.ok (.mk 23 noB 0 e.at_ [e]) r) else some (.bad (hd r).2.2.2)
/-- The targets of an assignment, from e on. -/
def pTargets : Nat → List Tree → Tree → List Tk → Option (PV (List Tree))
 | 0, _, _, _ => none
 | f + 1, acc, e, ts =>
  if e.kind = 6 ∨ e.kind = 7 then
   if isH kComma ts then PV.bind (pSuffixed f ts.tail) fun e' r => pTargets f (acc ++ [e]) e' r else some (.ok (acc ++ [e]) ts)
  else some (.bad e.at_)
end
end Go.Proofs.YtdkgnlaneccioaaGreatDoor
namespace Go.Proofs.YtdkgnlaneccioaaGreatDoor
open Go Go.RowKit
def Good : List Tk → Prop
 | [] => False
 | [t] => t.1 = 6
 | t :: u :: ts => t.1 ≠ 6 ∧ Good (u :: ts)
theorem Good.tail {ts : List Tk} (h : Good ts) (h6 : (hd ts).1 ≠ 6) : Good ts.tail ∧ ts.tail.length + 1 = ts.length ∧ ts.tail <:+ ts := by
 cases ts with
 | nil => exact h.elim
 | cons t ts =>
  cases ts with
  | nil => exact absurd h h6
  | cons u ts => exact ⟨h.2, rfl, List.suffix_cons t _⟩
theorem isH_ne {w : ByteArray} {ts : List Tk} (h : isH w ts = true) : (hd ts).1 ≠ 6 := by
 unfold isH isT at h
 intro h6
 rw [h6] at h
 simp at h
def Fwd {α : Type} (n : Nat) (ts : List Tk) : PV α → Prop
 | .ok _ r => Good r ∧ r.length + n ≤ ts.length ∧ r <:+ ts
 | .bad _ => True
def Step {α : Type} (n : Nat) (ts : List Tk) (x : Option (PV α)) : Prop := Good ts → ∀ v, x = some v → Fwd n ts v
section
variable {α β : Type} {n m : Nat} {ts : List Tk} {x : Option (PV α)} {f : α → List Tk → Option (PV β)}
theorem bind_some {v : PV β} (h : PV.bind x f = some v) : (∃ i, x = some (.bad i) ∧ v = .bad i) ∨ ∃ a r, x = some (.ok a r) ∧ f a r = some v := by
 unfold PV.bind at h
 split at h
 ·cases h
 ·exact .inr ⟨_, _, rfl, h⟩
 ·exact .inl ⟨_, rfl, (Option.some.inj h).symm⟩
theorem step_bind (h1 : Step n ts x) (h2 : ∀ a r, Step m r (f a r)) : Step (n + m) ts (PV.bind x f) := fun hg v hv => by
 rcases bind_some hv with ⟨i, _, rfl⟩ | ⟨a, r, hx, hf⟩
 ·trivial
 ·obtain ⟨g1, g2, g3⟩ := h1 hg _ hx
  have := h2 a r g1 v hf
  cases v with
  | bad => trivial
  | ok b s =>
   obtain ⟨g4, g5, g6⟩ := this
   exact ⟨g4, by omega, g6.trans g3⟩
theorem step_weak (h : Step n ts x) (hm : m ≤ n) : Step m ts x := fun hg v hv => by
 have := h hg v hv
 cases v with
 | bad => trivial
 | ok b s => exact ⟨this.1, by have := this.2.1; omega, this.2.2⟩
theorem step_none : Step n ts (none : Option (PV α)) := fun _ _ h => by cases h
theorem step_bad {i : Int} : Step n ts (some (.bad i) : Option (PV α)) := fun _ _ h => by cases h; trivial
theorem step_ok {a : α} : Step 0 ts (some (.ok a ts)) := fun hg _ h => by cases h; exact ⟨hg, Nat.le_refl _, List.suffix_refl _⟩
theorem step_tail (h6 : (hd ts).1 ≠ 6) (h : Step m ts.tail x) : Step (m + 1) ts x := fun hg v hv => by
 obtain ⟨g1, g2, g3⟩ := hg.tail h6
 have := h g1 v hv
 cases v with
 | bad => trivial
 | ok b s => exact ⟨this.1, by have := this.2.1; omega, this.2.2.trans g3⟩
theorem step_if {c : Prop} [Decidable c] {y z : Option (PV α)} (h1 : c → Step n ts y) (h2 : ¬ c → Step n ts z) : Step n ts (if c then y else z) := by
 by_cases h : c
 ·rw [if_pos h]; exact h1 h
 ·rw [if_neg h]; exact h2 h
theorem step_want (w : ByteArray) (ts : List Tk) : Step 1 ts (pWant w ts) := step_if (fun h => step_tail (isH_ne h) step_ok) fun _ => step_bad
theorem step_name (k : Int) (ts : List Tk) : Step 1 ts (pName k ts) := step_if (fun h => step_tail (by omega) step_ok) fun _ => step_bad
theorem step_namesL : ∀ (f : Nat) (acc : List Tree) (ts : List Tk), Step 0 ts (pNamesL f acc ts)
 | 0, _, _ => step_none
 | f + 1, acc, ts => by
  unfold pNamesL
  exact step_if (fun h => step_weak (step_tail (isH_ne h) (step_bind (step_name 6 _) fun _ _ => step_namesL f _ _)) (Nat.zero_le _)) fun _ => step_ok
theorem step_names (f : Nat) (ts : List Tk) : Step 1 ts (pNames f ts) := step_bind (step_name 6 ts) fun _ _ => step_namesL f _ _
end
structure StepE (f : Nat) : Prop where
 exp : ∀ least ts, Step 1 ts (pExp f least ts)
 loop : ∀ least n ts, Step 0 ts (pLoop f least n ts)
 operand : ∀ ts, Step 1 ts (pOperand f ts)
 fields : ∀ acc ts, Step 1 ts (pFields f acc ts)
 field : ∀ ts, Step 1 ts (pField f ts)
 suffixed : ∀ ts, Step 1 ts (pSuffixed f ts)
 sufL : ∀ at_ n ts, Step 0 ts (pSufL f at_ n ts)
 exps : ∀ ts, Step 1 ts (pExps f ts)
 expsL : ∀ acc ts, Step 0 ts (pExpsL f acc ts)
theorem bindsH_ne {ts : List Tk} (h : bindsH ts ≠ 0) : (hd ts).1 ≠ 6 := by
 intro h6
 have hf : ∀ w, isH w ts = false := fun w => by
  cases hw : isH w ts with
  | false => rfl
  | true => exact absurd h6 (isH_ne hw)
 exact h (by simp [bindsH, hf])
theorem bindsH_range (ts : List Tk) : 0 ≤ bindsH ts ∧ bindsH ts ≤ 6 := by
 unfold bindsH
 repeat' split
 all_goals omega
theorem stepE : ∀ f, StepE f
 | 0 => by constructor <;> intros <;> (first | unfold pExp | unfold pLoop | unfold pOperand | unfold pFields | unfold pField | unfold pSuffixed | unfold pSufL | unfold pExps | unfold pExpsL) <;> exact step_none
 | f + 1 => by
  have ih := stepE f
  constructor
  ·intro least ts; unfold pExp
   exact step_bind (ih.operand ts) fun _ _ => ih.loop _ _ _
  ·intro least n ts; unfold pLoop
   refine step_if (fun _ => step_ok) fun h => ?_
   by_cases h0 : bindsH ts = 0
   ·-- a least below 0 is never asked for; then nothing is eaten
    intro hg v hv
    by_cases h6 : (hd ts).1 = 6
    ·rcases bind_some hv with ⟨i, _, rfl⟩ | ⟨a, r, hx, hf⟩
     ·trivial
     ·exfalso
      cases ts with
      | nil => exact hg
      | cons t ts =>
       cases ts with
       | nil =>
        have hx' : pExp f (if bindsH [t] = 4 then 3 else bindsH [t]) [] = some (.ok a r) := hx
        clear hx hf hv
        cases f with
        | zero => unfold pExp at hx'; cases hx'
        | succ f =>
         unfold pExp at hx'
         rcases bind_some hx' with ⟨i, _, he⟩ | ⟨a', r', hx, hf⟩
         ·cases he
         ·cases f with
          | zero => unfold pOperand at hx; cases hx
          | succ f =>
           unfold pOperand at hx
           simp only [hd, List.headD_nil, isH, isT] at hx
           cases f with
           | zero => unfold pSuffixed at hx; simp at hx
           | succ f => unfold pSuffixed at hx; simp [isH, isT, hd, pName, PV.bind] at hx
       | cons u ts => exact hg.1 h6
    ·exact (step_weak (step_tail h6 (step_bind (ih.exp _ _) fun _ _ => ih.loop _ _ _)) (Nat.zero_le _)) hg v hv
   ·exact step_weak (step_tail (bindsH_ne h0) (step_bind (ih.exp _ _) fun _ _ => ih.loop _ _ _)) (Nat.zero_le _)
  ·intro ts; unfold pOperand
   refine step_if (fun h => step_tail (by omega) step_ok) fun _ => ?_
   refine step_if (fun h => step_tail (by omega) step_ok) fun _ => ?_
   refine step_if (fun h => step_tail (isH_ne h) step_ok) fun _ => ?_
   refine step_if (fun h => step_tail (isH_ne h) step_ok) fun _ => ?_
   refine step_if (fun h => step_tail (isH_ne h) step_ok) fun _ => ?_
   refine step_if (fun h => ?_) fun _ => ?_
   ·have h6 : (hd ts).1 ≠ 6 := by
     simp only [Bool.or_eq_true] at h
     rcases h with (h | h) | h <;> exact isH_ne h
    exact step_weak (step_tail h6 (step_bind (ih.exp _ _) fun _ _ => step_ok)) (by omega)
   refine step_if (fun h => ?_) fun _ => ?_
   ·exact step_weak (step_tail (isH_ne h) (step_bind (ih.fields _ _) fun _ _ => step_ok)) (by omega)
   ·exact ih.suffixed ts
  ·intro acc ts; unfold pFields
   refine step_if (fun h => step_tail (isH_ne h) step_ok) fun _ => ?_
   refine step_weak (step_bind (m := 0) (ih.field ts) fun x r => ?_) (by omega)
   refine step_if (fun h => step_weak (step_tail (isH_ne h) (ih.fields _ _)) (by omega)) fun _ => ?_
   refine step_if (fun h => step_weak (step_tail (isH_ne h) (ih.fields _ _)) (by omega)) fun _ => ?_
   exact step_weak (step_bind (step_want _ _) fun _ _ => step_ok) (by omega)
  ·intro ts; unfold pField
   refine step_if (fun h => ?_) fun _ => ?_
   ·exact step_weak (step_tail (isH_ne h) (step_bind (ih.exp _ _) fun _ _ => step_bind (step_want _ _) fun _ _ => step_bind (step_want _ _) fun _ _ => step_bind (ih.exp _ _) fun _ _ => step_ok)) (by omega)
   refine step_if (fun h => ?_) fun _ => ?_
   ·obtain ⟨h1, h2, _⟩ := h
    exact step_weak (step_tail (by omega) (step_tail (by omega) (step_bind (ih.exp _ _) fun _ _ => step_ok))) (by omega)
   ·exact step_bind (ih.exp _ _) fun _ _ => step_ok
  ·intro ts; unfold pSuffixed
   refine step_if (fun h => ?_) fun _ => ?_
   ·exact step_weak (step_tail (isH_ne h) (step_bind (ih.exp _ _) fun _ _ => step_bind (step_want _ _) fun _ _ => ih.sufL _ _ _)) (by omega)
   ·exact step_bind (step_name _ _) fun _ _ => ih.sufL _ _ _
  ·intro at_ n ts; unfold pSufL
   refine step_if (fun h => ?_) fun _ => ?_
   ·exact step_weak (step_tail (isH_ne h) (step_bind (ih.exp _ _) fun _ _ => step_bind (step_want _ _) fun _ _ => ih.sufL _ _ _)) (by omega)
   refine step_if (fun h => ?_) fun _ => ?_
   ·exact step_weak (step_tail (isH_ne h) (step_bind (step_name _ _) fun _ _ => ih.sufL _ _ _)) (by omega)
   refine step_if (fun h => ?_) fun _ => step_ok
   ·refine step_weak (step_tail (isH_ne h) (step_bind (n := 0) ?_ fun _ _ => step_bind (step_want _ _) fun _ _ => ih.sufL _ _ _)) (by omega)
    exact step_if (fun _ => step_ok) fun _ => step_weak (ih.exps _) (by omega)
  ·intro ts; unfold pExps
   exact step_bind (ih.exp _ _) fun _ _ => ih.expsL _ _
  ·intro acc ts; unfold pExpsL
   exact step_if (fun h => step_weak (step_tail (isH_ne h) (step_bind (ih.exp _ _) fun _ _ => ih.expsL _ _)) (by omega)) fun _ => step_ok
structure StepS (f : Nat) : Prop where
 block : ∀ c ts, Step 0 ts (pBlock f c ts)
 blockL : ∀ c at_ acc ts, Step 0 ts (pBlockL f c at_ acc ts)
 function : ∀ ts, (hd ts).1 ≠ 6 → Step 1 ts (pFunction f ts)
 body : ∀ ts, Step 1 ts (pBody f ts)
 stat : ∀ ts, Step 1 ts (pStat f ts)
 branches : ∀ acc ts, Step 1 ts (pBranches f acc ts)
 for_ : ∀ at_ ts, Step 1 ts (pFor f at_ ts)
 plain : ∀ ts, Step 1 ts (pPlain f ts)
 targets : ∀ acc e ts, Step 0 ts (pTargets f acc e ts)
theorem stepS : ∀ f, StepS f
 | 0 => by constructor <;> intros <;> (first | unfold pBlock | unfold pBlockL | unfold pFunction | unfold pBody | unfold pStat | unfold pBranches | unfold pFor | unfold pPlain | unfold pTargets) <;> exact step_none
 | f + 1 => by
  have ih := stepS f
  have ie := stepE f
  constructor
  ·intro c ts; unfold pBlock
   exact ih.blockL _ _ _ _
  ·intro c at_ acc ts; unfold pBlockL
   refine step_if (fun h => step_weak (step_tail (isH_ne h) (ih.blockL _ _ _ _)) (by omega)) fun _ => ?_
   refine step_if (fun h => ?_) fun _ => ?_
   ·refine step_weak (step_tail (isH_ne h) (step_bind (n := 0) (m := 0) ?_ fun l r => ?_)) (by omega)
    ·exact step_if (fun _ => step_ok) fun _ => step_weak (ie.exps _) (by omega)
    ·by_cases h : isH kSemi r = true
     ·rw [if_pos h]; exact step_weak (step_tail (isH_ne h) step_ok) (by omega)
     ·rw [if_neg h]; exact step_ok
   refine step_if (fun h => ?_) fun _ => ?_
   ·simp only [Bool.and_eq_true] at h
    exact step_weak (step_bind (ih.function _ (isH_ne h.2)) fun _ _ => ih.blockL _ _ _ _) (by omega)
   refine step_if (fun _ => step_ok) fun _ => ?_
   exact step_weak (step_bind (ih.stat _) fun _ _ => ih.blockL _ _ _ _) (by omega)
  ·intro ts h6; unfold pFunction
   refine step_weak (step_tail h6 (step_bind (step_name _ _) fun _ _ => step_bind (step_want _ _) fun _ r => step_bind (n := 0) ?_ fun _ _ => step_bind (step_want _ _) fun _ _ => step_bind (ih.block _ _) fun _ _ => step_bind (step_want _ _) fun _ _ => step_ok)) (by omega)
   exact step_if (fun _ => step_ok) fun _ => step_weak (step_names f r) (by omega)
  ·intro ts; unfold pBody
   exact step_weak (step_bind (step_want _ _) fun _ _ => step_bind (ih.block _ _) fun _ _ => step_bind (step_want _ _) fun _ _ => step_ok) (by omega)
  ·intro ts; unfold pStat
   refine step_if (fun h => step_bind (ih.body _) fun _ _ => step_ok) fun _ => ?_
   refine step_if (fun h => step_weak (step_tail (isH_ne h) (step_bind (ie.exp _ _) fun _ _ => step_bind (ih.body _) fun _ _ => step_ok)) (by omega)) fun _ => ?_
   refine step_if (fun h => step_weak (step_tail (isH_ne h) (step_bind (ih.branches _ _) fun _ _ => step_ok)) (by omega)) fun _ => ?_
   refine step_if (fun h => step_weak (step_tail (isH_ne h) (ih.for_ _ _)) (by omega)) fun _ => ?_
   refine step_if (fun h => ?_) fun _ => ?_
   ·refine step_weak (step_tail (isH_ne h) (step_bind (step_names f _) fun _ r => step_bind (n := 0) ?_ fun _ _ => step_ok)) (by omega)
    exact step_if (fun h => step_weak (step_tail (isH_ne h) (ie.exps _)) (by omega)) fun _ => step_ok
   refine step_if (fun h => step_tail (isH_ne h) step_ok) fun _ => ih.plain _
  ·intro acc ts; unfold pBranches
   refine step_weak (step_bind (ie.exp _ _) fun _ _ => step_bind (step_want _ _) fun _ _ => step_bind (m := 0) (ih.block _ _) fun _ r => ?_) (by omega)
   refine step_if (fun h => step_weak (step_tail (isH_ne h) (ih.branches _ _)) (by omega)) fun _ => ?_
   refine step_if (fun h => step_weak (step_tail (isH_ne h) (step_bind (ih.block _ _) fun _ _ => step_bind (step_want _ _) fun _ _ => step_ok)) (by omega)) fun _ => ?_
   exact step_weak (step_bind (step_want _ _) fun _ _ => step_ok) (by omega)
  ·intro at_ ts; unfold pFor
   refine step_weak (step_bind (m := 0) (step_name _ _) fun n r => ?_) (by omega)
   refine step_if (fun h => ?_) fun _ => ?_
   ·refine step_weak (step_tail (isH_ne h) (step_bind (ie.exp _ _) fun _ _ => step_bind (step_want _ _) fun _ _ => step_bind (ie.exp _ _) fun _ r => step_bind (n := 0) ?_ fun _ _ => step_bind (ih.body _) fun _ _ => step_ok)) (by omega)
    exact step_if (fun h => step_weak (step_tail (isH_ne h) (step_bind (ie.exp _ _) fun _ _ => step_ok)) (by omega)) fun _ => step_ok
   ·exact step_weak (step_bind (step_namesL _ _ _) fun _ _ => step_bind (step_want _ _) fun _ _ => step_bind (ie.exps _) fun _ _ => step_bind (ih.body _) fun _ _ => step_ok) (by omega)
  ·intro ts; unfold pPlain
   refine step_weak (step_bind (m := 0) (ie.suffixed _) fun e r => ?_) (by omega)
   refine step_if (fun h => ?_) fun _ => ?_
   ·exact step_weak (step_bind (ih.targets _ _ _) fun _ _ => step_bind (step_want _ _) fun _ _ => step_bind (ie.exps _) fun _ _ => step_ok) (by omega)
   ·exact step_if (fun _ => step_ok) fun _ => step_bad
  ·intro acc e ts; unfold pTargets
   refine step_if (fun _ => ?_) fun _ => step_bad
   exact step_if (fun h => step_weak (step_tail (isH_ne h) (step_bind (ie.suffixed _) fun _ _ => ih.targets _ _ _)) (by omega)) fun _ => step_ok
theorem tot_bind {α β : Type} {n : Nat} {ts : List Tk} {x : Option (PV α)} {f : α → List Tk → Option (PV β)} (hg : Good ts) (h1 : ∃ v, x = some v) (hs : Step n ts x) (h2 : ∀ a r, Good r → r.length + n ≤ ts.length → ∃ v, f a r = some v) : ∃ v, PV.bind x f = some v := by
 obtain ⟨v, rfl⟩ := h1
 cases v with
 | bad i => exact ⟨_, rfl⟩
 | ok a r =>
  obtain ⟨g1, g2, _⟩ := hs hg _ rfl
  exact h2 a r g1 g2
theorem tot_if {α : Type} {c : Prop} [Decidable c] {y z : Option (PV α)} (h1 : c → ∃ v, y = some v) (h2 : ¬ c → ∃ v, z = some v) : ∃ v, (if c then y else z) = some v := by
 by_cases h : c
 ·rw [if_pos h]; exact h1 h
 ·rw [if_neg h]; exact h2 h
theorem tot_want (w : ByteArray) (ts : List Tk) : ∃ v, pWant w ts = some v := tot_if (fun _ => ⟨_, rfl⟩) fun _ => ⟨_, rfl⟩
theorem tot_name (k : Int) (ts : List Tk) : ∃ v, pName k ts = some v := tot_if (fun _ => ⟨_, rfl⟩) fun _ => ⟨_, rfl⟩
theorem tot_namesL : ∀ (f : Nat) (acc : List Tree) (ts : List Tk), Good ts → 16 * ts.length + 1 ≤ f → ∃ v, pNamesL f acc ts = some v
 | 0, _, _, _, h => by omega
 | f + 1, acc, ts, hg, h => by
  unfold pNamesL
  refine tot_if (fun hc => ?_) fun _ => ⟨_, rfl⟩
  obtain ⟨g1, g2, _⟩ := hg.tail (isH_ne hc)
  exact tot_bind g1 (tot_name _ _) (step_name _ _) fun a r hr hl => tot_namesL f _ r hr (by omega)
structure TotE (f : Nat) : Prop where
 exp : ∀ least ts, 0 ≤ least → Good ts → 16 * ts.length + 5 ≤ f → ∃ v, pExp f least ts = some v
 loop : ∀ least n ts, 0 ≤ least → Good ts → 16 * ts.length + 1 ≤ f → ∃ v, pLoop f least n ts = some v
 operand : ∀ ts, Good ts → 16 * ts.length + 4 ≤ f → ∃ v, pOperand f ts = some v
 fields : ∀ acc ts, Good ts → 16 * ts.length + 7 ≤ f → ∃ v, pFields f acc ts = some v
 field : ∀ ts, Good ts → 16 * ts.length + 6 ≤ f → ∃ v, pField f ts = some v
 suffixed : ∀ ts, Good ts → 16 * ts.length + 3 ≤ f → ∃ v, pSuffixed f ts = some v
 sufL : ∀ at_ n ts, Good ts → 16 * ts.length + 1 ≤ f → ∃ v, pSufL f at_ n ts = some v
 exps : ∀ ts, Good ts → 16 * ts.length + 6 ≤ f → ∃ v, pExps f ts = some v
 expsL : ∀ acc ts, Good ts → 16 * ts.length + 1 ≤ f → ∃ v, pExpsL f acc ts = some v
theorem totE : ∀ f, TotE f
 | 0 => by constructor <;> intros <;> omega
 | f + 1 => by
  have ih := totE f
  have st := stepE f
  constructor
  ·intro least ts hl hg h; unfold pExp
   exact tot_bind hg (ih.operand _ hg (by omega)) (st.operand _) fun a r hr hn => ih.loop _ _ _ hl hr (by omega)
  ·intro least n ts hl hg h; unfold pLoop
   refine tot_if (fun _ => ⟨_, rfl⟩) fun hb => ?_
   obtain ⟨g1, g2, _⟩ := hg.tail (bindsH_ne (by omega))
   exact tot_bind g1 (ih.exp _ _ (by split <;> omega) g1 (by omega)) (st.exp _ _) fun a r hr hn => ih.loop _ _ _ hl hr (by omega)
  ·intro ts hg h; unfold pOperand
   refine tot_if (fun _ => ⟨_, rfl⟩) fun _ => tot_if (fun _ => ⟨_, rfl⟩) fun _ => tot_if (fun _ => ⟨_, rfl⟩) fun _ => tot_if (fun _ => ⟨_, rfl⟩) fun _ => tot_if (fun _ => ⟨_, rfl⟩) fun _ => tot_if (fun hc => ?_) fun _ => tot_if (fun hc => ?_) fun _ => ih.suffixed _ hg (by omega)
   ·have h6 : (hd ts).1 ≠ 6 := by
     simp only [Bool.or_eq_true] at hc
     rcases hc with (h | h) | h <;> exact isH_ne h
    obtain ⟨g1, g2, _⟩ := hg.tail h6
    exact tot_bind g1 (ih.exp _ _ (by omega) g1 (by omega)) (st.exp _ _) fun a r _ _ => ⟨_, rfl⟩
   ·obtain ⟨g1, g2, _⟩ := hg.tail (isH_ne hc)
    exact tot_bind g1 (ih.fields _ _ g1 (by omega)) (st.fields _ _) fun a r _ _ => ⟨_, rfl⟩
  ·intro acc ts hg h; unfold pFields
   refine tot_if (fun _ => ⟨_, rfl⟩) fun _ => tot_bind hg (ih.field _ hg (by omega)) (st.field _) fun x r hr hn => ?_
   refine tot_if (fun hc => ?_) fun _ => tot_if (fun hc => ?_) fun _ => tot_bind hr (tot_want _ _) (step_want _ _) fun _ _ _ _ => ⟨_, rfl⟩
   ·obtain ⟨g1, g2, _⟩ := hr.tail (isH_ne hc)
    exact ih.fields _ _ g1 (by omega)
   ·obtain ⟨g1, g2, _⟩ := hr.tail (isH_ne hc)
    exact ih.fields _ _ g1 (by omega)
  ·intro ts hg h; unfold pField
   refine tot_if (fun hc => ?_) fun _ => tot_if (fun hc => ?_) fun _ => tot_bind hg (ih.exp _ _ (by omega) hg (by omega)) (st.exp _ _) fun _ _ _ _ => ⟨_, rfl⟩
   ·obtain ⟨g1, g2, _⟩ := hg.tail (isH_ne hc)
    exact tot_bind g1 (ih.exp _ _ (by omega) g1 (by omega)) (st.exp _ _) fun _ r hr hn => tot_bind hr (tot_want _ _) (step_want _ _) fun _ r2 hr2 hn2 => tot_bind hr2 (tot_want _ _) (step_want _ _) fun _ r3 hr3 hn3 => tot_bind hr3 (ih.exp _ _ (by omega) hr3 (by omega)) (st.exp _ _) fun _ _ _ _ => ⟨_, rfl⟩
   ·obtain ⟨h1, h2, _⟩ := hc
    obtain ⟨g1, g2, _⟩ := hg.tail (by omega)
    obtain ⟨g3, g4, _⟩ := g1.tail (by omega)
    exact tot_bind g3 (ih.exp _ _ (by omega) g3 (by omega)) (st.exp _ _) fun _ _ _ _ => ⟨_, rfl⟩
  ·intro ts hg h; unfold pSuffixed
   refine tot_if (fun hc => ?_) fun _ => tot_bind hg (tot_name _ _) (step_name _ _) fun _ r hr hn => ih.sufL _ _ _ hr (by omega)
   obtain ⟨g1, g2, _⟩ := hg.tail (isH_ne hc)
   exact tot_bind g1 (ih.exp _ _ (by omega) g1 (by omega)) (st.exp _ _) fun _ r hr hn => tot_bind hr (tot_want _ _) (step_want _ _) fun _ r2 hr2 hn2 => ih.sufL _ _ _ hr2 (by omega)
  ·intro at_ n ts hg h; unfold pSufL
   refine tot_if (fun hc => ?_) fun _ => tot_if (fun hc => ?_) fun _ => tot_if (fun hc => ?_) fun _ => ⟨_, rfl⟩
   ·obtain ⟨g1, g2, _⟩ := hg.tail (isH_ne hc)
    exact tot_bind g1 (ih.exp _ _ (by omega) g1 (by omega)) (st.exp _ _) fun _ r hr hn => tot_bind hr (tot_want _ _) (step_want _ _) fun _ r2 hr2 hn2 => ih.sufL _ _ _ hr2 (by omega)
   ·obtain ⟨g1, g2, _⟩ := hg.tail (isH_ne hc)
    exact tot_bind g1 (tot_name _ _) (step_name _ _) fun _ r hr hn => ih.sufL _ _ _ hr (by omega)
   ·obtain ⟨g1, g2, _⟩ := hg.tail (isH_ne hc)
    exact tot_bind (n := 0) g1 (tot_if (fun _ => ⟨_, rfl⟩) fun _ => ih.exps _ g1 (by omega)) (step_if (fun _ => step_ok) fun _ => step_weak (st.exps _) (by omega)) fun _ r hr hn => tot_bind hr (tot_want _ _) (step_want _ _) fun _ r2 hr2 hn2 => ih.sufL _ _ _ hr2 (by omega)
  ·intro ts hg h; unfold pExps
   exact tot_bind hg (ih.exp _ _ (by omega) hg (by omega)) (st.exp _ _) fun _ r hr hn => ih.expsL _ _ hr (by omega)
  ·intro acc ts hg h; unfold pExpsL
   refine tot_if (fun hc => ?_) fun _ => ⟨_, rfl⟩
   obtain ⟨g1, g2, _⟩ := hg.tail (isH_ne hc)
   exact tot_bind g1 (ih.exp _ _ (by omega) g1 (by omega)) (st.exp _ _) fun _ r hr hn => ih.expsL _ _ hr (by omega)
structure TotS (f : Nat) : Prop where
 block : ∀ c ts, Good ts → 16 * ts.length + 9 ≤ f → ∃ v, pBlock f c ts = some v
 blockL : ∀ c at_ acc ts, Good ts → 16 * ts.length + 8 ≤ f → ∃ v, pBlockL f c at_ acc ts = some v
 function : ∀ ts, (hd ts).1 ≠ 6 → Good ts → 16 * ts.length + 7 ≤ f → ∃ v, pFunction f ts = some v
 body : ∀ ts, Good ts → 16 * ts.length + 6 ≤ f → ∃ v, pBody f ts = some v
 stat : ∀ ts, Good ts → 16 * ts.length + 7 ≤ f → ∃ v, pStat f ts = some v
 branches : ∀ acc ts, Good ts → 16 * ts.length + 6 ≤ f → ∃ v, pBranches f acc ts = some v
 for_ : ∀ at_ ts, Good ts → 16 * ts.length + 1 ≤ f → ∃ v, pFor f at_ ts = some v
 plain : ∀ ts, Good ts → 16 * ts.length + 6 ≤ f → ∃ v, pPlain f ts = some v
 targets : ∀ acc e ts, Good ts → 16 * ts.length + 1 ≤ f → ∃ v, pTargets f acc e ts = some v
theorem totS : ∀ f, TotS f
 | 0 => by constructor <;> intros <;> omega
 | f + 1 => by
  have ih := totS f
  have ie := totE f
  have se := stepE f
  have ss := stepS f
  constructor
  ·intro c ts hg h; unfold pBlock
   exact ih.blockL _ _ _ _ hg (by omega)
  ·intro c at_ acc ts hg h; unfold pBlockL
   refine tot_if (fun hc => ?_) fun _ => tot_if (fun hc => ?_) fun _ => tot_if (fun hc => ?_) fun _ => tot_if (fun _ => ⟨_, rfl⟩) fun _ => ?_
   ·obtain ⟨g1, g2, _⟩ := hg.tail (isH_ne hc)
    exact ih.blockL _ _ _ _ g1 (by omega)
   ·obtain ⟨g1, g2, _⟩ := hg.tail (isH_ne hc)
    exact tot_bind (n := 0) g1 (tot_if (fun _ => ⟨_, rfl⟩) fun _ => ie.exps _ g1 (by omega)) (step_if (fun _ => step_ok) fun _ => step_weak (se.exps _) (by omega)) fun _ r hr hn => ⟨_, rfl⟩
   ·simp only [Bool.and_eq_true] at hc
    exact tot_bind hg (ih.function _ (isH_ne hc.2) hg (by omega)) (ss.function _ (isH_ne hc.2)) fun _ r hr hn => ih.blockL _ _ _ _ hr (by omega)
   ·exact tot_bind hg (ih.stat _ hg (by omega)) (ss.stat _) fun _ r hr hn => ih.blockL _ _ _ _ hr (by omega)
  ·intro ts h6 hg h; unfold pFunction
   obtain ⟨g1, g2, _⟩ := hg.tail h6
   exact tot_bind g1 (tot_name _ _) (step_name _ _) fun _ r hr hn => tot_bind hr (tot_want _ _) (step_want _ _) fun _ r2 hr2 hn2 =>
    tot_bind (n := 0) hr2 (tot_if (fun _ => ⟨_, rfl⟩) fun _ => tot_bind hr2 (tot_name _ _) (step_name _ _) fun _ r hr hn => tot_namesL _ _ _ hr (by omega)) (step_if (fun _ => step_ok) fun _ => step_weak (step_names f r2) (by omega)) fun _ r3 hr3 hn3 =>
     tot_bind hr3 (tot_want _ _) (step_want _ _) fun _ r4 hr4 hn4 => tot_bind hr4 (ih.block _ _ hr4 (by omega)) (ss.block _ _) fun _ r5 hr5 hn5 => tot_bind hr5 (tot_want _ _) (step_want _ _) fun _ _ _ _ => ⟨_, rfl⟩
  ·intro ts hg h; unfold pBody
   exact tot_bind hg (tot_want _ _) (step_want _ _) fun _ r hr hn => tot_bind hr (ih.block _ _ hr (by omega)) (ss.block _ _) fun _ r5 hr5 hn5 => tot_bind hr5 (tot_want _ _) (step_want _ _) fun _ _ _ _ => ⟨_, rfl⟩
  ·intro ts hg h; unfold pStat
   refine tot_if (fun hc => ?_) fun _ => tot_if (fun hc => ?_) fun _ => tot_if (fun hc => ?_) fun _ => tot_if (fun hc => ?_) fun _ => tot_if (fun hc => ?_) fun _ => tot_if (fun hc => ⟨_, rfl⟩) fun _ => ih.plain _ hg (by omega)
   ·exact tot_bind hg (ih.body _ hg (by omega)) (ss.body _) fun _ _ _ _ => ⟨_, rfl⟩
   ·obtain ⟨g1, g2, _⟩ := hg.tail (isH_ne hc)
    exact tot_bind g1 (ie.exp _ _ (by omega) g1 (by omega)) (se.exp _ _) fun _ r hr hn => tot_bind hr (ih.body _ hr (by omega)) (ss.body _) fun _ _ _ _ => ⟨_, rfl⟩
   ·obtain ⟨g1, g2, _⟩ := hg.tail (isH_ne hc)
    exact tot_bind g1 (ih.branches _ _ g1 (by omega)) (ss.branches _ _) fun _ _ _ _ => ⟨_, rfl⟩
   ·obtain ⟨g1, g2, _⟩ := hg.tail (isH_ne hc)
    exact ih.for_ _ _ g1 (by omega)
   ·obtain ⟨g1, g2, _⟩ := hg.tail (isH_ne hc)
    refine tot_bind g1 (tot_bind g1 (tot_name _ _) (step_name _ _) fun _ r hr hn => tot_namesL _ _ _ hr (by omega)) (step_names f _) fun _ r hr hn => ?_
    refine tot_bind (n := 0) hr (tot_if (fun hc => ?_) fun _ => ⟨_, rfl⟩) (step_if (fun h => step_weak (step_tail (isH_ne h) (se.exps _)) (by omega)) fun _ => step_ok) fun _ _ _ _ => ⟨_, rfl⟩
    obtain ⟨g3, g4, _⟩ := hr.tail (isH_ne hc)
    exact ie.exps _ g3 (by omega)
  ·intro acc ts hg h; unfold pBranches
   refine tot_bind hg (ie.exp _ _ (by omega) hg (by omega)) (se.exp _ _) fun _ r hr hn => tot_bind hr (tot_want _ _) (step_want _ _) fun _ r2 hr2 hn2 => tot_bind hr2 (ih.block _ _ hr2 (by omega)) (ss.block _ _) fun _ r3 hr3 hn3 => ?_
   refine tot_if (fun hc => ?_) fun _ => tot_if (fun hc => ?_) fun _ => tot_bind hr3 (tot_want _ _) (step_want _ _) fun _ _ _ _ => ⟨_, rfl⟩
   ·obtain ⟨g1, g2, _⟩ := hr3.tail (isH_ne hc)
    exact ih.branches _ _ g1 (by omega)
   ·obtain ⟨g1, g2, _⟩ := hr3.tail (isH_ne hc)
    exact tot_bind g1 (ih.block _ _ g1 (by omega)) (ss.block _ _) fun _ r4 hr4 hn4 => tot_bind hr4 (tot_want _ _) (step_want _ _) fun _ _ _ _ => ⟨_, rfl⟩
  ·intro at_ ts hg h; unfold pFor
   refine tot_bind hg (tot_name _ _) (step_name _ _) fun n r hr hn => tot_if (fun hc => ?_) fun _ => ?_
   ·obtain ⟨g1, g2, _⟩ := hr.tail (isH_ne hc)
    refine tot_bind g1 (ie.exp _ _ (by omega) g1 (by omega)) (se.exp _ _) fun _ r2 hr2 hn2 => tot_bind hr2 (tot_want _ _) (step_want _ _) fun _ r3 hr3 hn3 => tot_bind hr3 (ie.exp _ _ (by omega) hr3 (by omega)) (se.exp _ _) fun _ r4 hr4 hn4 => ?_
    refine tot_bind (n := 0) hr4 (tot_if (fun hc => ?_) fun _ => ⟨_, rfl⟩) (step_if (fun h => step_weak (step_tail (isH_ne h) (step_bind (se.exp _ _) fun _ _ => step_ok)) (by omega)) fun _ => step_ok) fun _ r5 hr5 hn5 => tot_bind hr5 (ih.body _ hr5 (by omega)) (ss.body _) fun _ _ _ _ => ⟨_, rfl⟩
    obtain ⟨g3, g4, _⟩ := hr4.tail (isH_ne hc)
    exact tot_bind g3 (ie.exp _ _ (by omega) g3 (by omega)) (se.exp _ _) fun _ _ _ _ => ⟨_, rfl⟩
   ·exact tot_bind hr (tot_namesL _ _ _ hr (by omega)) (step_namesL _ _ _) fun _ r2 hr2 hn2 => tot_bind hr2 (tot_want _ _) (step_want _ _) fun _ r3 hr3 hn3 => tot_bind hr3 (ie.exps _ hr3 (by omega)) (se.exps _) fun _ r4 hr4 hn4 => tot_bind hr4 (ih.body _ hr4 (by omega)) (ss.body _) fun _ _ _ _ => ⟨_, rfl⟩
  ·intro ts hg h; unfold pPlain
   refine tot_bind hg (ie.suffixed _ hg (by omega)) (se.suffixed _) fun e r hr hn => tot_if (fun hc => ?_) fun _ => tot_if (fun _ => ⟨_, rfl⟩) fun _ => ⟨_, rfl⟩
   exact tot_bind hr (ih.targets _ _ _ hr (by omega)) (ss.targets _ _ _) fun _ r2 hr2 hn2 => tot_bind hr2 (tot_want _ _) (step_want _ _) fun _ r3 hr3 hn3 => tot_bind hr3 (ie.exps _ hr3 (by omega)) (se.exps _) fun _ _ _ _ => ⟨_, rfl⟩
  ·intro acc e ts hg h; unfold pTargets
   refine tot_if (fun _ => tot_if (fun hc => ?_) fun _ => ⟨_, rfl⟩) fun _ => ⟨_, rfl⟩
   obtain ⟨g1, g2, _⟩ := hg.tail (isH_ne hc)
   exact tot_bind g1 (ie.suffixed _ g1 (by omega)) (se.suffixed _) fun _ r hr hn => ih.targets _ _ _ hr (by omega)
end Go.Proofs.YtdkgnlaneccioaaGreatDoor
