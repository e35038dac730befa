/- Texts of mine for checkNames_card, part 3. -/
import Derived.Test.YtdkgnlaneccioaaGreatDoorCnB
set_option linter.unusedSimpArgs false
set_option linter.unusedVariables false
set_option linter.unusedSectionVars false
namespace Go.Proofs.YtdkgnlaneccioaaGreatDoor
open Go Go.RowKit
def parse_parser_now.f (_k : Nat) (a0_0 : List (Int × ByteArray × Int × Int)) (a0_1 : Int) : Option (Int × ByteArray × Int × Int) := (lIdx a0_0 a0_1).bind fun x2 => some (x2.1, x2.2.1, x2.2.2.1, x2.2.2.2)
set_option maxRecDepth 100000 in
theorem parse_parser_now.ok {k : Nat} {a0_0 : List (Int × ByteArray × Int × Int)} {a0_1 : Int} {b0 : Nat} {H_a0_0 : Frag} {A_a0_0 : Option Addr} {c_a0_0 : Nat} {r : Int × ByteArray × Int × Int} (h : parse_parser_now.f k a0_0 a0_1 = some r) (R_a0_0 : RdT e76 4 H_a0_0 (.slice A_a0_0 a0_0.length c_a0_0) a0_0) : Ct Tryz.prog 31 #[pt b0] [bk b0 #[.slice A_a0_0 a0_0.length c_a0_0, iv a0_1] 73] [H_a0_0] (fun e l1 => e = .returned (.agg #[iv r.1, sv r.2.1, iv r.2.2.1, iv r.2.2.2]) ∧ l1 = [bk b0 #[.slice A_a0_0 a0_0.length c_a0_0, iv a0_1] 73]) := by
 refine ct_enter (args := [pt b0]) Tryz.func31 rfl (Nat.le_of_ble_eq_true rfl) ?_
 intro A X hh_
 obtain ⟨hm_H_a0_0, _⟩ := hh_
 unfold parse_parser_now.f at h
 refine K.eq (env' := [(0, pt b0)]) (l' := bk b0 #[.slice A_a0_0 a0_0.length c_a0_0, iv a0_1] 73 :: X) rfl rfl (ksr (knp #[iv 0, sv noS, iv 0, iv 0] 76 fun b1 => (knt (k_seq (kpr [(0, 0), (1, 0), (2, 0), (3, 3), (4, 0), (5, 0), (6, 0), (7, 3)] [1] (kpx 3 (kpd 0 0 rfl (kpx 3 (kpd 0 1 rfl (kpz ?_))))))))))
 refine bnd h fun x2 hx2 h => (kelP (T := 76) (kd := .i64) e76_ok rfl hx2 R_a0_0 fun p3 e4 y5 => ?_)
 have e4 : Elem _ p3 [iv x2.1, sv x2.2.1, iv x2.2.2.1, iv x2.2.2.2] := e4
 refine keN rfl e4 (t2 hm_H_a0_0) (kst 0 4 #[iv x2.1, sv x2.2.1, iv x2.2.2.1, iv x2.2.2.2] (knt (k_ret ?_)))
 obtain rfl := Option.some.inj h
 exact kda 0 4 rfl [bk b0 #[.slice A_a0_0 a0_0.length c_a0_0, iv a0_1] 73] (K.drop (k_end ⟨rfl, rfl⟩))
def parse_parser_is.f (k : Nat) (a0_0 : List (Int × ByteArray × Int × Int)) (a0_1 : Int) (a1 : ByteArray) : Option (Bool) := (parse_parser_now.f k a0_0 a0_1).bind fun r1 => (cond (r1.1 == 2) (some (r1.2.1.toList == a1.toList)) (cond (r1.1 == 5) (some (r1.2.1.toList == a1.toList)) (some false)) : Option Bool).bind fun q3 => some (q3)
set_option maxRecDepth 100000 in
theorem parse_parser_is.ok {k : Nat} {a0_0 : List (Int × ByteArray × Int × Int)} {a0_1 : Int} {a1 : ByteArray} {b0 : Nat} {H_a0_0 : Frag} {A_a0_0 : Option Addr} {c_a0_0 : Nat} {r : Bool} (h : parse_parser_is.f k a0_0 a0_1 a1 = some r) (R_a0_0 : RdT e76 4 H_a0_0 (.slice A_a0_0 a0_0.length c_a0_0) a0_0) : Ct Tryz.prog 46 #[pt b0, sv a1] [bk b0 #[.slice A_a0_0 a0_0.length c_a0_0, iv a0_1] 73] [H_a0_0] (fun e l1 => e = .returned (bv r) ∧ l1 = [bk b0 #[.slice A_a0_0 a0_0.length c_a0_0, iv a0_1] 73]) := by
 refine ct_enter (args := [pt b0, sv a1]) Tryz.func46 rfl (Nat.le_of_ble_eq_true rfl) ?_
 intro A X hh_
 obtain ⟨hm_H_a0_0, _⟩ := hh_
 unfold parse_parser_is.f at h
 refine K.eq (env' := [(0, pt b0), (1, sv a1)]) (l' := bk b0 #[.slice A_a0_0 a0_0.length c_a0_0, iv a0_1] 73 :: X) rfl rfl (ksr (kx 1 (kns' (kx 1 (bnd h fun r1 hr1 h => (kc1 (parse_parser_now.ok (b0 := b0) hr1 R_a0_0) rfl ⟨hm_H_a0_0, trivial⟩ (knp #[iv 0, sv noS, iv 0, iv 0] 76 fun b2 => (kst 0 4 #[iv r1.1, sv r1.2.1, iv r1.2.2.1, iv r1.2.2.2] (knt (bnd h fun q3 hq3 h => ?_))))))))))
 refine k_cut1 [(4, bv q3)] (bk b0 #[.slice A_a0_0 a0_0.length c_a0_0, iv a0_1] 73 :: X) ?_ ?_
 ·clear hq3
  refine k_ret ?_
  obtain rfl := Option.some.inj h
  exact kdn rfl
 ·have h := hq3
  clear hq3
  refine k_region (kx 1 (kld 0 0 rfl (kx 2 ?_)))
  refine kcs 11 h (fun h => ?_) fun h => ?_
  ·exact kx 6 (kld 0 1 rfl (K.drop (kx 4 (knt (k_meet1 ⟨gb (Option.some.inj h), trivial⟩)))))
  ·refine kx 1 (kld 0 0 rfl (kx 3 ?_))
   refine kcs 16 h (fun h => ?_) fun h => ?_
   ·exact kx 1 (kld 0 1 rfl (K.drop (kx 4 (knt (k_meet1 ⟨gb (Option.some.inj h), trivial⟩)))))
   ·exact kx 6 (knt (K.drop (k_meet1 ⟨gb (Option.some.inj h), trivial⟩)))
def parse_parser_got.f (k : Nat) (a0_0 : List (Int × ByteArray × Int × Int)) (a0_1 : Int) (a1 : ByteArray) : Option (Bool × Int) := (parse_parser_is.f k a0_0 a0_1 a1).bind fun r1 => cond r1 (some (true, IntKind.i64.wrap (a0_1 + 1))) (some (false, a0_1))
set_option maxRecDepth 100000 in
theorem parse_parser_got.ok {k : Nat} {a0_0 : List (Int × ByteArray × Int × Int)} {a0_1 : Int} {a1 : ByteArray} {b0 : Nat} {H_a0_0 : Frag} {A_a0_0 : Option Addr} {c_a0_0 : Nat} {r : Bool × Int} (h : parse_parser_got.f k a0_0 a0_1 a1 = some r) (R_a0_0 : RdT e76 4 H_a0_0 (.slice A_a0_0 a0_0.length c_a0_0) a0_0) : Ct Tryz.prog 44 #[pt b0, sv a1] [bk b0 #[.slice A_a0_0 a0_0.length c_a0_0, iv a0_1] 73] [H_a0_0] (fun e l1 => e = .returned (bv r.1) ∧ l1 = [bk b0 #[.slice A_a0_0 a0_0.length c_a0_0, iv r.2] 73]) := by
 refine ct_enter (args := [pt b0, sv a1]) Tryz.func44 rfl (Nat.le_of_ble_eq_true rfl) ?_
 intro A X hh_
 obtain ⟨hm_H_a0_0, _⟩ := hh_
 unfold parse_parser_got.f at h
 refine K.eq (env' := [(0, pt b0), (1, sv a1)]) (l' := bk b0 #[.slice A_a0_0 a0_0.length c_a0_0, iv a0_1] 73 :: X) rfl rfl (ksr (kx 1 (knt (k_seq (ksr (kx 2 (bnd h fun r1 hr1 h => (kc1 (parse_parser_is.ok (b0 := b0) hr1 R_a0_0) rfl ⟨hm_H_a0_0, trivial⟩ (knt ?_)))))))))
 refine kcn h (fun h => ?_) fun h => ?_
 ·refine ksr (kx 3 (kld 0 1 rfl (kx 3 (kst 1 1 #[.slice A_a0_0 a0_0.length c_a0_0, iv (IntKind.i64.wrap (a0_1 + 1))] (kns' (kx 1 (knt (k_ret (k_then_ret ?_)))))))))
  obtain rfl := Option.some.inj h
  exact kdn rfl
 ·refine k_skip (k_then (ksr (kx 1 (knt (k_ret ?_)))))
  obtain rfl := Option.some.inj h
  exact kdn rfl
def failV (i : Int) : Value := .iface 70 (.agg #[.int .i64 4, .int .i64 i])
def parse_parser_fail.f (_k : Nat) (a0_0 : List (Int × ByteArray × Int × Int)) (a0_1 : Int) (a1 : Int) : Option (PR (Unit)) := some (PR.bad a1)
set_option maxRecDepth 100000 in
theorem parse_parser_fail.ok {k : Nat} {a0_0 : List (Int × ByteArray × Int × Int)} {a0_1 : Int} {a1 : Int} {b0 : Nat} {H_a0_0 : Frag} {A_a0_0 : Option Addr} {c_a0_0 : Nat} {r : PR (Unit)} (h : parse_parser_fail.f k a0_0 a0_1 a1 = some r) (R_a0_0 : RdT e76 4 H_a0_0 (.slice A_a0_0 a0_0.length c_a0_0) a0_0) : Ct Tryz.prog 32 #[pt b0, iv a1] [bk b0 #[.slice A_a0_0 a0_0.length c_a0_0, iv a0_1] 73] [H_a0_0] (PR.Post failV (fun (r : Unit) e l1 => e = .returned (.tuple #[]) ∧ l1 = [bk b0 #[.slice A_a0_0 a0_0.length c_a0_0, iv a0_1] 73]) r) := by
 refine ct_enter (args := [pt b0, iv a1]) Tryz.func32 rfl (Nat.le_of_ble_eq_true rfl) ?_
 intro A X hh_
 obtain ⟨hm_H_a0_0, _⟩ := hh_
 unfold parse_parser_fail.f at h
 refine K.eq (env' := [(0, pt b0), (1, iv a1)]) (l' := bk b0 #[.slice A_a0_0 a0_0.length c_a0_0, iv a0_1] 73 :: X) rfl rfl (k_region (kx 3 ?_))
 obtain rfl := Option.some.inj h
 exact kl_panic (v := failV a1) (by kernel_rfl) (by kernel_rfl) (by kernel_rfl) (k_panicked [] (K.drop (k_end PR.badI)))
def parse_parser_want.f (k : Nat) (a0_0 : List (Int × ByteArray × Int × Int)) (a0_1 : Int) (a1 : ByteArray) : Option (PR (Int)) := (parse_parser_got.f k a0_0 a0_1 a1).bind fun r1 => cond (!r1.1) ((parse_parser_now.f k a0_0 r1.2).bind fun r3 => PR.bind (parse_parser_fail.f k a0_0 r1.2 r3.2.2.2) fun r4 => some (PR.ok (r1.2))) (some (PR.ok (r1.2)))
set_option maxRecDepth 100000 in
theorem parse_parser_want.ok {k : Nat} {a0_0 : List (Int × ByteArray × Int × Int)} {a0_1 : Int} {a1 : ByteArray} {b0 : Nat} {H_a0_0 : Frag} {A_a0_0 : Option Addr} {c_a0_0 : Nat} {r : PR (Int)} (h : parse_parser_want.f k a0_0 a0_1 a1 = some r) (R_a0_0 : RdT e76 4 H_a0_0 (.slice A_a0_0 a0_0.length c_a0_0) a0_0) : Ct Tryz.prog 67 #[pt b0, sv a1] [bk b0 #[.slice A_a0_0 a0_0.length c_a0_0, iv a0_1] 73] [H_a0_0] (PR.Post failV (fun (r : Int) e l1 => e = .returned (.tuple #[]) ∧ l1 = [bk b0 #[.slice A_a0_0 a0_0.length c_a0_0, iv r] 73]) r) := by
 refine ct_enter (args := [pt b0, sv a1]) Tryz.func67 rfl (Nat.le_of_ble_eq_true rfl) ?_
 intro A X hh_
 obtain ⟨hm_H_a0_0, _⟩ := hh_
 unfold parse_parser_want.f at h
 refine K.eq (env' := [(0, pt b0), (1, sv a1)]) (l' := bk b0 #[.slice A_a0_0 a0_0.length c_a0_0, iv a0_1] 73 :: X) rfl rfl (ksr (kx 2 (bnd h fun r1 hr1 h => (kc1 (parse_parser_got.ok (b0 := b0) hr1 R_a0_0) rfl ⟨hm_H_a0_0, trivial⟩ (kx 1 (knt ?_))))))
 refine kcn h (fun h => ?_) fun h => ?_
 ·refine k_region (kx 2 (bnd h fun r3 hr3 h => (kc1 (parse_parser_now.ok (b0 := b0) hr3 R_a0_0) rfl ⟨hm_H_a0_0, trivial⟩ (kx 1 (kcp h (fun _ hr4 => (parse_parser_fail.ok (b0 := b0) hr4 R_a0_0)) rfl ⟨hm_H_a0_0, trivial⟩ (fun _ e => kpn 0 e rfl) fun r4 h => ?_)))))
  rintro _ _ ⟨rfl, rfl⟩
  refine nx_ret1 (knl (k_fall ?_))
  obtain rfl := Option.some.inj h
  exact kdnp ⟨rfl, rfl⟩ rfl
 ·refine k_skip (k_fall ?_)
  obtain rfl := Option.some.inj h
  exact kdnp ⟨rfl, rfl⟩ rfl
def parse_parser_name.f (k : Nat) (a0_0 : List (Int × ByteArray × Int × Int)) (a0_1 : Int) : Option (PR (Int × ByteArray × Int × Int × List Tree × Int)) := (parse_parser_now.f k a0_0 a0_1).bind fun r2 => joinF (fun (_ : Unit) => some (PR.ok (6, r2.2.1, 0, r2.2.2.2, [], IntKind.i64.wrap (a0_1 + 1)))) (fun J4 => cond (r2.1 != 1) (PR.bind (parse_parser_fail.f k a0_0 a0_1 r2.2.2.2) fun r6 => J4 ()) (J4 ()))
set_option maxRecDepth 100000 in
theorem parse_parser_name.ok {k : Nat} {a0_0 : List (Int × ByteArray × Int × Int)} {a0_1 : Int} {b0 : Nat} {H_a0_0 : Frag} {A_a0_0 : Option Addr} {c_a0_0 : Nat} {r : PR (Int × ByteArray × Int × Int × List Tree × Int)} (h : parse_parser_name.f k a0_0 a0_1 = some r) (R_a0_0 : RdT e76 4 H_a0_0 (.slice A_a0_0 a0_0.length c_a0_0) a0_0) : Ct Tryz.prog 68 #[pt b0] [bk b0 #[.slice A_a0_0 a0_0.length c_a0_0, iv a0_1] 73] [H_a0_0] (PR.Post failV (fun (r : Int × ByteArray × Int × Int × List Tree × Int) e l1 => ∃ (H0_ : Frag) (A0_ : Option Addr) (c0_ : Nat), OwnR (rTree 36) 36 H0_ (.slice A0_ r.2.2.2.2.1.length c0_) r.2.2.2.2.1 ∧ e = .returned (.agg #[iv r.1, sv r.2.1, iv r.2.2.1, iv r.2.2.2.1, .slice A0_ r.2.2.2.2.1.length c0_]) ∧ l1 = [H0_, bk b0 #[.slice A_a0_0 a0_0.length c_a0_0, iv r.2.2.2.2.2] 73]) r) := by
 refine ct_enter (args := [pt b0]) Tryz.func68 rfl (Nat.le_of_ble_eq_true rfl) ?_
 intro A X hh_
 obtain ⟨hm_H_a0_0, _⟩ := hh_
 unfold parse_parser_name.f at h
 refine K.eq (env' := [(0, pt b0)]) (l' := bk b0 #[.slice A_a0_0 a0_0.length c_a0_0, iv a0_1] 73 :: X) rfl rfl (ksr (knp #[iv 0, sv noS, iv 0, iv 0, nS] 36 fun b1 => (kns' (kx 1 (K.mv1 (bnd h fun r2 hr2 h => (kc1 (parse_parser_now.ok (b0 := b0) hr2 R_a0_0) rfl ⟨(.tail _ hm_H_a0_0), trivial⟩ (knp #[iv 0, sv noS, iv 0, iv 0] 76 fun b3 => (kst 0 4 #[iv r2.1, sv r2.2.1, iv r2.2.2.1, iv r2.2.2.2] (knt ?_))))))))))
 obtain ⟨J4, hJ4, h⟩ := joinSplit h
 refine k_cut (τ := Unit) (fun t => [(0, pt b0), (2, pt b1), (3, pt b3)]) (fun t => bk b3 #[iv r2.1, sv r2.2.1, iv r2.2.2.1, iv r2.2.2.2] 76 :: bk b0 #[.slice A_a0_0 a0_0.length c_a0_0, iv a0_1] 73 :: bk b1 #[iv 0, sv noS, iv 0, iv 0, nS] 36 :: X) (fun t => J4 () = some r) ?_ ?_
 ·rintro ⟨⟩ h
  subst hJ4
  refine ksr (kx 3 (kld 1 1 rfl (kx 3 (K.mv1 (kst 1 1 #[.slice A_a0_0 a0_0.length c_a0_0, iv (IntKind.i64.wrap (a0_1 + 1))] (kns' (kx 1 (kld 1 1 rfl (kx 1 (kld 1 3 rfl ?_))))))))))
  refine K.mv1 (K.drop (kx 1 (K.mv1 (kst 0 5 #[iv 6, sv r2.2.1, iv 0, iv r2.2.2.2, nS] (knt (k_ret ?_))))))
  obtain rfl := Option.some.inj h
  exact kda 0 5 rfl [none_, bk b0 #[.slice A_a0_0 a0_0.length c_a0_0, iv (IntKind.i64.wrap (a0_1 + 1))] 73] (k_none (K.mv1 (K.drop (k_end (PR.okI ⟨none_, none, 0, (OwnR.nil (rTree 36) 36 none_), rfl, rfl⟩)))))
 ·skip
  refine ksr (kx 1 (kld 0 0 rfl (kx 1 (knt ?_))))
  refine kcn h (fun h => ?_) fun h => ?_
  ·refine k_region (kx 2 (kld 0 3 rfl (K.mv1 (kcp h (fun _ hr6 => (parse_parser_fail.ok (b0 := b0) hr6 R_a0_0)) rfl ⟨(t2 hm_H_a0_0), trivial⟩ (fun _ e => k_then_panic (kpn 2 e rfl)) fun r6 h => ?_))))
   rintro _ _ ⟨rfl, rfl⟩
   exact nx_ret1 (knt (K.mv2 (K.mv1 (K.mv2 (k_meet () h sb rfl)))))
  ·exact k_skip (k_then (k_meet () h sb rfl))
theorem ety34 : ElemTy Tryz.prog 34 36 5 64 Tryz.t36 (.agg #[iv 0, sv noS, iv 0, iv 0, nS]) := ⟨by kernel_rfl, by kernel_rfl, by kernel_rfl, by kernel_rfl, by kernel_rfl, by kernel_rfl, by decide⟩
def parse_parser_names.l0 : Nat → (a0_0 : List (Int × ByteArray × Int × Int)) → (J14 : (List Tree) → Int → Option (PR (List Tree × Int))) → (l15 : List Tree) → (x20 : Int) → Option (PR (List Tree × Int))
 | 0, _, _, _, _ => none
 | m21 + 1, a0_0, J14, l15, x20 => (parse_parser_got.f m21 a0_0 x20 (⟨#[44]⟩ : ByteArray)).bind fun r24 => cond r24.1 (PR.bind (parse_parser_name.f m21 a0_0 r24.2) fun r26 => (apd 64 l15 [(Tree.mk r26.1 r26.2.1 r26.2.2.1 r26.2.2.2.1 r26.2.2.2.2.1)]).bind fun l35 => parse_parser_names.l0 m21 a0_0 J14 l35 r26.2.2.2.2.2) (J14 l15 r24.2)
def parse_parser_names.f (k : Nat) (a0_0 : List (Int × ByteArray × Int × Int)) (a0_1 : Int) : Option (PR (List Tree × Int)) := PR.bind (parse_parser_name.f k a0_0 a0_1) fun r1 => joinF (fun (l8 : List Tree) (x13 : Int) => some (PR.ok (l8, x13))) (fun J14 => parse_parser_names.l0 k a0_0 J14 ([(Tree.mk r1.1 r1.2.1 r1.2.2.1 r1.2.2.2.1 r1.2.2.2.2.1)]) r1.2.2.2.2.2)
set_option maxRecDepth 100000 in
theorem parse_parser_names.ok {k : Nat} {a0_0 : List (Int × ByteArray × Int × Int)} {a0_1 : Int} {b0 : Nat} {H_a0_0 : Frag} {A_a0_0 : Option Addr} {c_a0_0 : Nat} {r : PR (List Tree × Int)} (h : parse_parser_names.f k a0_0 a0_1 = some r) (R_a0_0 : RdT e76 4 H_a0_0 (.slice A_a0_0 a0_0.length c_a0_0) a0_0) : Ct Tryz.prog 69 #[pt b0] [bk b0 #[.slice A_a0_0 a0_0.length c_a0_0, iv a0_1] 73] [H_a0_0] (PR.Post failV (fun (r : List Tree × Int) e l1 => ∃ (H0_ : Frag) (A0_ : Option Addr) (c0_ : Nat), OwnR (rTree 36) 36 H0_ (.slice A0_ r.1.length c0_) r.1 ∧ e = .returned (.slice A0_ r.1.length c0_) ∧ l1 = [H0_, bk b0 #[.slice A_a0_0 a0_0.length c_a0_0, iv r.2] 73]) r) := by
 refine ct_enter (args := [pt b0]) Tryz.func69 rfl (Nat.le_of_ble_eq_true rfl) ?_
 intro A X hh_
 obtain ⟨hm_H_a0_0, _⟩ := hh_
 unfold parse_parser_names.f at h
 refine K.eq (env' := [(0, pt b0)]) (l' := bk b0 #[.slice A_a0_0 a0_0.length c_a0_0, iv a0_1] 73 :: X) rfl rfl (ksr (kx 1 (kns' (kx 1 (kcp h (fun _ hr1 => (parse_parser_name.ok (b0 := b0) hr1 R_a0_0)) rfl ⟨hm_H_a0_0, trivial⟩ (fun _ e => k_then_panic (kpn 0 e rfl)) fun r1 h => ?_)))))
 rintro _ _ ⟨h2, A3, k4, o5, rfl, rfl⟩
 refine nx_ret2 (kns #[iv r1.1, sv r1.2.1, iv r1.2.2.1, iv r1.2.2.2.1, .slice A3 r1.2.2.2.2.1.length k4] 36 1 fun b7 => (kx 1 (knt ?_)))
 obtain ⟨J14, hJ14, h⟩ := joinSplit h
 refine k_cut (τ := (List Tree) × Int × Frag × (Option Addr) × Nat) (fun t => [(3, .slice t.2.2.2.1 t.1.length t.2.2.2.2)]) (fun t => bk b0 #[.slice A_a0_0 a0_0.length c_a0_0, iv t.2.1] 73 :: t.2.2.1 :: X) (fun t => J14 t.1 t.2.1 = some r ∧ OwnR (rTree 36) 36 t.2.2.1 (.slice t.2.2.2.1 t.1.length t.2.2.2.2) t.1) ?_ ?_
 ·rintro ⟨l8, x13, h9, A10, k11⟩ ⟨h, o12⟩
  subst hJ14
  refine ksr (kx 2 (knt (k_ret ?_)))
  obtain rfl := Option.some.inj h
  exact kdv (.slice A10 l8.length k11) [h9, bk b0 #[.slice A_a0_0 a0_0.length c_a0_0, iv x13] 73] (K.mv1 (k_end (PR.okI ⟨h9, A10, k11, o12, rfl, rfl⟩)))
 ·skip
  refine k_block (K.mv1 (K.mv1 (k_row (T := 36) (n := 1) (xs := [(Tree.mk r1.1 r1.2.1 r1.2.2.1 r1.2.2.2.1 r1.2.2.2.2.1)]) (RowI.one (treeO_mk (k := r1.1) (t := r1.2.1) (n := r1.2.2.1) (a := r1.2.2.2.1) 36 o5)) rfl rfl (Nat.le_of_ble_eq_true rfl) fun h22 o23 => (K.mv1 (k_loop (τ := (List Tree) × Int × Frag × (Option Addr) × Nat) (fun t => [(0, pt b0), (3, .slice t.2.2.2.1 t.1.length t.2.2.2.2)]) (fun t => bk b0 #[.slice A_a0_0 a0_0.length c_a0_0, iv t.2.1] 73 :: t.2.2.1 :: X) (fun m t => parse_parser_names.l0 m a0_0 J14 t.1 t.2.1 = some r ∧ OwnR (rTree 36) 36 t.2.2.1 (.slice t.2.2.2.1 t.1.length t.2.2.2.2) t.1) k ([(Tree.mk r1.1 r1.2.1 r1.2.2.1 r1.2.2.2.1 r1.2.2.2.2.1)], r1.2.2.2.2.2, h22, (some ⟨b7, 0, none⟩), 1) ⟨h, o23⟩ sb rfl ?_)))))
  clear h
  rintro m21 ⟨l15, x20, h16, A17, k18⟩ ⟨h, o19⟩
  cases m21 with
  | zero => simp [parse_parser_names.l0] at h
  | succ m21 =>
   simp only [parse_parser_names.l0] at h
   refine k_seq (ksr (kx 1 (bnd h fun r24 hr24 h => (kc1 (parse_parser_got.ok (b0 := b0) hr24 R_a0_0) rfl ⟨(.tail _ hm_H_a0_0), trivial⟩ (knt ?_)))))
   refine kcn h (fun h => ?_) fun h => ?_
   ·refine k_skip (k_then (k_block (k_region (kx 2 (kcp h (fun _ hr26 => (parse_parser_name.ok (b0 := b0) hr26 R_a0_0)) rfl ⟨(.tail _ hm_H_a0_0), trivial⟩ (fun _ e => k_blk_panic (k_then_panic (k_blk_panic (k_then_panic (kpn 1 e rfl))))) fun r26 h => ?_)))))
    rintro _ _ ⟨h27, A28, k29, o30, rfl, rfl⟩
    refine nx_ret2 (kns #[iv r26.1, sv r26.2.1, iv r26.2.2.1, iv r26.2.2.2.1, .slice A28 r26.2.2.2.2.1.length k29] 36 1 fun b32 => (K.mv1 (K.mv1 (k_row (T := 36) (n := 1) (xs := [(Tree.mk r26.1 r26.2.1 r26.2.2.1 r26.2.2.2.1 r26.2.2.2.2.1)]) (RowI.one (treeO_mk (k := r26.1) (t := r26.2.1) (n := r26.2.2.1) (a := r26.2.2.2.1) 36 o30)) rfl rfl (Nat.le_of_ble_eq_true rfl) fun h33 o34 => (K.mv2 (bnd h fun l35 hl35 h => (kapR rfl ety34 rfl hl35 o19 o34 fun h36 A37 k38 o39 => (kx 1 (knl (k_blk ?_))))))))))
    exact k_then (K.mv1 (k_again m21 (l35, r26.2.2.2.2.2, h36, A37, k38) (Nat.lt_succ_self _) ⟨h, o39⟩ sb rfl))
   ·exact k_exit (k_then_exit (k_then_exit (k_here (k_then (k_meet (l15, r24.2, h16, A17, k18) ⟨h, o19⟩ sb rfl)))))
def parse_parser_ends.f (k : Nat) (a0_0 : List (Int × ByteArray × Int × Int)) (a0_1 : Int) : Option (Bool) := ((parse_parser_now.f k a0_0 a0_1).bind fun r2 => cond (r2.1 == 6) (some true) ((parse_parser_is.f k a0_0 a0_1 (⟨#[101, 110, 100]⟩ : ByteArray)).bind fun r4 => cond r4 (some true) ((parse_parser_is.f k a0_0 a0_1 (⟨#[101, 108, 115, 101]⟩ : ByteArray)).bind fun r6 => cond r6 (some true) ((parse_parser_is.f k a0_0 a0_1 (⟨#[101, 108, 115, 101, 105, 102]⟩ : ByteArray)).bind fun r8 => some r8))) : Option Bool).bind fun q1 => some (q1)
set_option maxRecDepth 100000 in
theorem parse_parser_ends.ok {k : Nat} {a0_0 : List (Int × ByteArray × Int × Int)} {a0_1 : Int} {b0 : Nat} {H_a0_0 : Frag} {A_a0_0 : Option Addr} {c_a0_0 : Nat} {r : Bool} (h : parse_parser_ends.f k a0_0 a0_1 = some r) (R_a0_0 : RdT e76 4 H_a0_0 (.slice A_a0_0 a0_0.length c_a0_0) a0_0) : Ct Tryz.prog 45 #[pt b0] [bk b0 #[.slice A_a0_0 a0_0.length c_a0_0, iv a0_1] 73] [H_a0_0] (fun e l1 => e = .returned (bv r) ∧ l1 = [bk b0 #[.slice A_a0_0 a0_0.length c_a0_0, iv a0_1] 73]) := by
 refine ct_enter (args := [pt b0]) Tryz.func45 rfl (Nat.le_of_ble_eq_true rfl) ?_
 intro A X hh_
 obtain ⟨hm_H_a0_0, _⟩ := hh_
 unfold parse_parser_ends.f at h
 refine K.eq (env' := [(0, pt b0)]) (l' := bk b0 #[.slice A_a0_0 a0_0.length c_a0_0, iv a0_1] 73 :: X) rfl rfl (ksr (kx 1 (knt (bnd h fun q1 hq1 h => ?_))))
 refine k_cut1 [(2, bv q1)] (bk b0 #[.slice A_a0_0 a0_0.length c_a0_0, iv a0_1] 73 :: X) ?_ ?_
 ·clear hq1
  refine k_ret ?_
  obtain rfl := Option.some.inj h
  exact kdn rfl
 ·have h := hq1
  clear hq1
  refine k_region (kx 1 (bnd h fun r2 hr2 h => (kc1 (parse_parser_now.ok (b0 := b0) hr2 R_a0_0) rfl ⟨hm_H_a0_0, trivial⟩ (kx 3 ?_))))
  refine kcs 7 h (fun h => ?_) fun h => ?_
  ·exact kx 12 (knt (k_meet1 ⟨gb (Option.some.inj h), trivial⟩))
  ·refine kx 1 (bnd h fun r4 hr4 h => (kc1 (parse_parser_is.ok (b0 := b0) hr4 R_a0_0) rfl ⟨hm_H_a0_0, trivial⟩ (kx 2 ?_)))
   refine kcs 11 h (fun h => ?_) fun h => ?_
   ·exact kx 8 (knt (k_meet1 ⟨gb (Option.some.inj h), trivial⟩))
   ·refine kx 1 (bnd h fun r6 hr6 h => (kc1 (parse_parser_is.ok (b0 := b0) hr6 R_a0_0) rfl ⟨hm_H_a0_0, trivial⟩ (kx 2 ?_)))
    refine kcs 15 h (fun h => ?_) fun h => ?_
    ·exact kx 4 (knt (k_meet1 ⟨gb (Option.some.inj h), trivial⟩))
    ·exact kx 1 (bnd h fun r8 hr8 h => (kc1 (parse_parser_is.ok (b0 := b0) hr8 R_a0_0) rfl ⟨hm_H_a0_0, trivial⟩ (kx 2 (knt (k_meet1 ⟨gb (Option.some.inj h), trivial⟩)))))
def parse_binds.f (_k : Nat) (a0_0 : Int) (a0_1 : ByteArray) (a0_2 : Int) (a0_3 : Int) : Option (Int) := (cond (a0_0 != 5) (some (a0_0 != 2)) (some false) : Option Bool).bind fun q2 => cond q2 (some (0)) (cond (a0_1.toList == (⟨#[111, 114]⟩ : ByteArray).toList) (some (1)) (cond (a0_1.toList == (⟨#[97, 110, 100]⟩ : ByteArray).toList) (some (2)) (joinF (fun (x6 : Bool) => cond x6 (some (3)) (cond (a0_1.toList == (⟨#[46, 46]⟩ : ByteArray).toList) (some (4)) (joinF (fun (x10 : Bool) => cond x10 (some (5)) (joinF (fun (x13 : Bool) => cond x13 (some (6)) (some (0))) (fun J14 => cond (a0_1.toList == (⟨#[42]⟩ : ByteArray).toList) (J14 (a0_1.toList == (⟨#[42]⟩ : ByteArray).toList)) (cond (a0_1.toList == (⟨#[47, 47]⟩ : ByteArray).toList) (J14 (a0_1.toList == (⟨#[47, 47]⟩ : ByteArray).toList)) (J14 (a0_1.toList == (⟨#[37]⟩ : ByteArray).toList)))))) (fun J11 => cond (a0_1.toList == (⟨#[43]⟩ : ByteArray).toList) (J11 (a0_1.toList == (⟨#[43]⟩ : ByteArray).toList)) (J11 (a0_1.toList == (⟨#[45]⟩ : ByteArray).toList)))))) (fun J7 => cond (a0_1.toList == (⟨#[60]⟩ : ByteArray).toList) (J7 (a0_1.toList == (⟨#[60]⟩ : ByteArray).toList)) (cond (a0_1.toList == (⟨#[62]⟩ : ByteArray).toList) (J7 (a0_1.toList == (⟨#[62]⟩ : ByteArray).toList)) (cond (a0_1.toList == (⟨#[60, 61]⟩ : ByteArray).toList) (J7 (a0_1.toList == (⟨#[60, 61]⟩ : ByteArray).toList)) (cond (a0_1.toList == (⟨#[62, 61]⟩ : ByteArray).toList) (J7 (a0_1.toList == (⟨#[62, 61]⟩ : ByteArray).toList)) (cond (a0_1.toList == (⟨#[126, 61]⟩ : ByteArray).toList) (J7 (a0_1.toList == (⟨#[126, 61]⟩ : ByteArray).toList)) (J7 (a0_1.toList == (⟨#[61, 61]⟩ : ByteArray).toList))))))))))
set_option maxRecDepth 100000 in
theorem parse_binds.ok {k : Nat} {a0_0 : Int} {a0_1 : ByteArray} {a0_2 : Int} {a0_3 : Int} {r : Int} (h : parse_binds.f k a0_0 a0_1 a0_2 a0_3 = some r) : Ct Tryz.prog 90 #[.agg #[iv a0_0, sv a0_1, iv a0_2, iv a0_3]] [] [] (fun e l1 => e = .returned (iv r) ∧ l1 = []) := by
 refine ct_enter (args := [.agg #[iv a0_0, sv a0_1, iv a0_2, iv a0_3]]) Tryz.func90 rfl (Nat.le_of_ble_eq_true rfl) ?_
 intro A X hh_
 unfold parse_binds.f at h
 refine ksr (knp #[iv a0_0, sv a0_1, iv a0_2, iv a0_3] 76 fun b1 => (kx 1 (knt (k_seq (bnd h fun q2 hq2 h => ?_)))))
 refine k_cut1 [(1, pt b1), (10, bv q2)] (bk b1 #[iv a0_0, sv a0_1, iv a0_2, iv a0_3] 76 :: X) ?_ ?_
 ·clear hq2
  refine kcn h (fun h => ?_) fun h => ?_
  ·refine ksr (kx 1 (knt (k_ret (k_then_ret ?_))))
   obtain rfl := Option.some.inj h
   exact K.drop (kdn rfl)
  ·refine k_skip (k_then (k_seq (ksr (kx 1 (kld 0 1 rfl (K.drop (knt (k_block (ksr (kx 2 ?_))))))))))
   refine knt ?_
   refine kcn h (fun h => ?_) fun h => ?_
   ·refine ksr (kx 1 (knt (k_ret (k_blk_ret (k_then_ret ?_)))))
    obtain rfl := Option.some.inj h
    exact kdn rfl
   ·refine ksr (kx 2 (knt ?_))
    refine kcn h (fun h => ?_) fun h => ?_
    ·refine ksr (kx 1 (knt (k_ret (k_blk_ret (k_then_ret ?_)))))
     obtain rfl := Option.some.inj h
     exact kdn rfl
    ·obtain ⟨J7, hJ7, h⟩ := joinSplit h
     refine k_cut (τ := Bool) (fun t => [(12, sv a0_1), (17, bv t)]) (fun t => X) (fun t => J7 t = some r) ?_ ?_
     ·rintro x6 h
      subst hJ7
      refine kcn h (fun h => ?_) fun h => ?_
      ·refine ksr (kx 1 (knt (k_ret (k_blk_ret (k_then_ret ?_)))))
       obtain rfl := Option.some.inj h
       exact kdn rfl
      ·refine ksr (kx 2 (knt ?_))
       refine kcn h (fun h => ?_) fun h => ?_
       ·refine ksr (kx 1 (knt (k_ret (k_blk_ret (k_then_ret ?_)))))
        obtain rfl := Option.some.inj h
        exact kdn rfl
       ·obtain ⟨J11, hJ11, h⟩ := joinSplit h
        refine k_cut (τ := Bool) (fun t => [(12, sv a0_1), (26, bv t)]) (fun t => X) (fun t => J11 t = some r) ?_ ?_
        ·rintro x10 h
         subst hJ11
         refine kcn h (fun h => ?_) fun h => ?_
         ·refine ksr (kx 1 (knt (k_ret (k_blk_ret (k_then_ret ?_)))))
          obtain rfl := Option.some.inj h
          exact kdn rfl
         ·obtain ⟨J14, hJ14, h⟩ := joinSplit h
          refine k_cut (τ := Bool) (fun t => [(29, bv t)]) (fun t => X) (fun t => J14 t = some r) ?_ ?_
          ·rintro x13 h
           subst hJ14
           refine kcn h (fun h => ?_) fun h => ?_
           ·refine ksr (kx 1 (knt (k_ret (k_blk_ret (k_then_ret ?_)))))
            obtain rfl := Option.some.inj h
            exact kdn rfl
           ·refine k_skip (k_blk (k_then (ksr (kx 1 (knt (k_ret ?_))))))
            obtain rfl := Option.some.inj h
            exact kdn rfl
          ·skip
           refine ksr (kx 2 (knt ?_))
           refine kcn h (fun h => ?_) fun h => ?_
           ·exact k_skip (k_then (k_meet (a0_1.toList == (⟨#[42]⟩ : ByteArray).toList) h sb rfl))
           ·refine ksr (kx 2 (knt ?_))
            refine kcn h (fun h => ?_) fun h => ?_
            ·exact k_skip (k_then (k_meet (a0_1.toList == (⟨#[47, 47]⟩ : ByteArray).toList) h sb rfl))
            ·exact k_region (kx 2 (knt (k_meet (a0_1.toList == (⟨#[37]⟩ : ByteArray).toList) h sb rfl)))
        ·skip
         refine ksr (kx 2 (knt ?_))
         refine kcn h (fun h => ?_) fun h => ?_
         ·exact k_skip (k_then (k_meet (a0_1.toList == (⟨#[43]⟩ : ByteArray).toList) h sb rfl))
         ·exact k_region (kx 2 (knt (k_meet (a0_1.toList == (⟨#[45]⟩ : ByteArray).toList) h sb rfl)))
     ·skip
      refine ksr (kx 2 (knt ?_))
      refine kcn h (fun h => ?_) fun h => ?_
      ·exact k_skip (k_then (k_meet (a0_1.toList == (⟨#[60]⟩ : ByteArray).toList) h sb rfl))
      ·refine ksr (kx 2 (knt ?_))
       refine kcn h (fun h => ?_) fun h => ?_
       ·exact k_skip (k_then (k_meet (a0_1.toList == (⟨#[62]⟩ : ByteArray).toList) h sb rfl))
       ·refine ksr (kx 2 (knt ?_))
        refine kcn h (fun h => ?_) fun h => ?_
        ·exact k_skip (k_then (k_meet (a0_1.toList == (⟨#[60, 61]⟩ : ByteArray).toList) h sb rfl))
        ·refine ksr (kx 2 (knt ?_))
         refine kcn h (fun h => ?_) fun h => ?_
         ·exact k_skip (k_then (k_meet (a0_1.toList == (⟨#[62, 61]⟩ : ByteArray).toList) h sb rfl))
         ·refine ksr (kx 2 (knt ?_))
          refine kcn h (fun h => ?_) fun h => ?_
          ·exact k_skip (k_then (k_meet (a0_1.toList == (⟨#[126, 61]⟩ : ByteArray).toList) h sb rfl))
          ·exact k_region (kx 2 (knt (k_meet (a0_1.toList == (⟨#[61, 61]⟩ : ByteArray).toList) h sb rfl)))
 ·have h := hq2
  clear hq2
  refine k_region (kx 1 (kld 0 0 rfl (kx 2 ?_)))
  refine kcs 6 h (fun h => ?_) fun h => ?_
  ·exact kx 1 (kld 0 0 rfl (kx 2 (knt (k_meet1 ⟨gr, gb (Option.some.inj h), trivial⟩))))
  ·exact kx 4 (knt (k_meet1 ⟨gr, gb (Option.some.inj h), trivial⟩))
def parse_target.f (_k : Nat) (a0_0 : Int) (a0_1 : ByteArray) (a0_2 : Int) (a0_3 : Int) (a0_4 : List Tree) : Option (Bool) := (cond (a0_0 == 6) (some true) (some (a0_0 == 7)) : Option Bool).bind fun q2 => some (q2)
set_option maxRecDepth 100000 in
theorem parse_target.ok {k : Nat} {a0_0 : Int} {a0_1 : ByteArray} {a0_2 : Int} {a0_3 : Int} {a0_4 : List Tree} {H_a0_4 : Frag} {A_a0_4 : Option Addr} {c_a0_4 : Nat} {r : Bool} (h : parse_target.f k a0_0 a0_1 a0_2 a0_3 a0_4 = some r) (R_a0_4 : RdR (rTree 36) H_a0_4 (.slice A_a0_4 a0_4.length c_a0_4) a0_4) : Ct Tryz.prog 92 #[.agg #[iv a0_0, sv a0_1, iv a0_2, iv a0_3, .slice A_a0_4 a0_4.length c_a0_4]] [] [H_a0_4] (fun e l1 => e = .returned (bv r) ∧ l1 = []) := by
 refine ct_enter (args := [.agg #[iv a0_0, sv a0_1, iv a0_2, iv a0_3, .slice A_a0_4 a0_4.length c_a0_4]]) Tryz.func92 rfl (Nat.le_of_ble_eq_true rfl) ?_
 intro A X hh_
 obtain ⟨hm_H_a0_4, _⟩ := hh_
 unfold parse_target.f at h
 refine ksr (knp #[iv a0_0, sv a0_1, iv a0_2, iv a0_3, .slice A_a0_4 a0_4.length c_a0_4] 36 fun b1 => (kx 1 (knt (bnd h fun q2 hq2 h => ?_))))
 refine k_cut1 [(2, bv q2)] (X) ?_ ?_
 ·clear hq2
  refine k_ret ?_
  obtain rfl := Option.some.inj h
  exact kdn rfl
 ·have h := hq2
  clear hq2
  refine k_region (kx 1 (kld 0 0 rfl (kx 2 ?_)))
  refine kcs 6 h (fun h => ?_) fun h => ?_
  ·exact kx 5 (knt (K.drop (k_meet1 ⟨gb (Option.some.inj h), trivial⟩)))
  ·exact kx 1 (kld 0 0 rfl (K.drop (kx 3 (knt (k_meet1 ⟨gb (Option.some.inj h), trivial⟩)))))
end Go.Proofs.YtdkgnlaneccioaaGreatDoor
namespace Go.Proofs.YtdkgnlaneccioaaGreatDoor
open Go Go.RowKit
theorem St.nones {A : World} {X : List Frag} {w : World} : ∀ (n : Nat), St A X w → St A (List.replicate n none_ ++ X) w
 | 0, h => h
 | n + 1, h => by
  have := St.nones n h
  exact ⟨⟨fun _ _ h => (by cases h), fun _ _ _ => .inl rfl, this.sat⟩, this.os, this.tape, this.output, this.size⟩
theorem parse_Parse_1_idle (p q : Value) (w : World) :
  CallsD Tryz.prog 29 #[p, q] .returning w fun e u' w' => e = .returned (.tuple #[]) ∧ u' = .returning ∧ w = w' := by
 refine callsD_of_wpS Tryz.func29 rfl fun c₀ cs hu => ?_
 apply wpS_seq
 apply wpS_region
 simp [wpOpsS, go_sem, recoverD, hu, Tryz.ntmps29, Exit.thenS, Array.replicate_succ]
 refine wpS_of_wp ?_
 go_wp2
 cases c₀
 simp_all [bodyPostS, results, Tryz.results29]
set_option maxRecDepth 100000 in
theorem parse_Parse_1_pan {A w : World} {X : List Frag} {p q : Nat} {x0 x1 x2 x3 x4 y0 y1 : Value} {i : Int} (hw : St A (blk p (.cells #[x0, x1, x2, x3, x4] 36 (0, 0)) :: blk q (.cells #[y0, y1] 31 (0, 0)) :: X) w) :
  CallsD Tryz.prog 29 #[.pointer (some ⟨p, 0, none⟩), .pointer (some ⟨q, 0, none⟩)] (.panicking [{ v := failV i, recovered := false }]) w fun e u' w' => e = .returned (.tuple #[]) ∧ settle u' = .returning ∧ St A (blk p (.cells #[.int .i64 (0 : Int), .string (⟨#[]⟩ : ByteArray), .int .i64 (0 : Int), .int .i64 (0 : Int), .slice none 0 0] 36 (0, 0)) :: blk q (.cells #[.int .i64 (4 : Int), .int .i64 i] 31 (0, 0)) :: X) w' := by
 refine callsD_of_wpS Tryz.func29 rfl fun c₀ cs hu => ?_
 apply wpS_seq
 apply wpS_region
 simp [wpOpsS, go_sem, recoverD, hu, Tryz.ntmps29, Exit.thenS, Array.replicate_succ]
 refine wpS_of_wp ?_
 refine (?_ : K [] A Tryz.f29.ntmps [(0, .pointer (some ⟨p, 0, none⟩)), (1, .pointer (some ⟨q, 0, none⟩)), (5, .iface 70 (.agg #[.int .i64 (4 : Int), .int .i64 i]))] (blk p (.cells #[x0, x1, x2, x3, x4] 36 (0, 0)) :: blk q (.cells #[y0, y1] 31 (0, 0)) :: X) _) _ w ⟨rfl, rfl, ?_⟩ hw
 rotate_left
 ·intro j v hj
  simp only [Env.get] at hj
  match j with
  | 0 => cases hj; rfl
  | 1 => cases hj; rfl
  | 2 => cases hj
  | 3 => cases hj
  | 4 => cases hj
  | 5 => cases hj; rfl
  | j + 6 => cases hj
 refine k_block ?_
 refine k_seq ?_
 refine k_region ?_
 refine kl_steps 1 [(0, .pointer (some ⟨p, 0, none⟩)), (1, .pointer (some ⟨q, 0, none⟩)), (5, .iface 70 (.agg #[.int .i64 (4 : Int), .int .i64 i])), (7, .bool false)] (by kernel_rfl) ?_
 refine k_nil ?_
 refine k_then ?_
 refine k_cond_false (by kernel_rfl) ?_
 refine k_seq ?_
 refine k_region ?_
 refine kl_steps 3 [(0, .pointer (some ⟨p, 0, none⟩)), (1, .pointer (some ⟨q, 0, none⟩)), (5, .iface 70 (.agg #[.int .i64 (4 : Int), .int .i64 i])), (9, .bool true), (10, .agg #[.int .i64 (4 : Int), .int .i64 i])] (by kernel_rfl) ?_
 refine k_nil ?_
 refine k_then ?_
 refine k_cond_true (by kernel_rfl) ?_
 refine k_seq ?_
 refine k_region ?_
 refine kl_new (.cells #[.int .i64 (0 : Int), .int .i64 (0 : Int)] 70 (0, 0)) (fun b => .pointer (some ⟨b, 0, none⟩)) (by kernel_rfl) (by kernel_rfl) (fun _ => by kernel_rfl) fun b1 => ?_
 refine kl_store (cs' := #[.int .i64 (4 : Int), .int .i64 i]) [.st ⟨b1, 0, none⟩ (.int .i64 (4 : Int)), .st ⟨b1, 1, none⟩ (.int .i64 i)] (by kernel_rfl) (by kernel_rfl) (by kernel_rfl) ⟨rfl, rfl, trivial⟩ (by kernel_rfl) ?_
 refine k_nil ?_
 refine k_then ?_
 refine k_region_plan [(0, 0), (1, 3), (2, 1)] (fun w => OnAll [blk b1 (.cells #[.int .i64 (4 : Int), .int .i64 i] 70 (0, 0))] w) (by kernel_rfl) (by kernel_rfl) (fun _ _ d _ _ h => by cases d <;> exact h) (fun w h_ => ⟨h_.sat.on _ (.head _), trivial⟩) ?_
 simp only [planOps, List.filterMap_cons, List.filterMap_nil, List.getElem?_toArray, List.getElem?_cons_zero, List.getElem?_cons_succ, Option.map_some, List.drop_succ_cons, List.drop_zero, List.length_cons, List.length_nil]
 refine kp_steps 1 [(0, .pointer (some ⟨p, 0, none⟩)), (1, .pointer (some ⟨q, 0, none⟩)), (3, .pointer (some ⟨b1, 0, none⟩)), (11, .agg #[.int .i64 (0 : Int), .string (⟨#[]⟩ : ByteArray), .int .i64 (0 : Int), .int .i64 (0 : Int), .slice none 0 0])] (by kernel_rfl) (by kernel_rfl) ?_
 refine kp_loadS (v := .agg #[.int .i64 (4 : Int), .int .i64 i]) [blk b1 (.cells #[.int .i64 (4 : Int), .int .i64 i] 70 (0, 0))] [.val (.int .i64 (4 : Int)), .val (.int .i64 i)] [.ld ⟨b1, 0, none⟩ (.int .i64 (4 : Int)), .ld ⟨b1, 1, none⟩ (.int .i64 i)] (by kernel_rfl) (by kernel_rfl) (by kernel_rfl) (fun _ h => h) ⟨⟨0, _, _, _, rfl, rfl, rfl⟩, ⟨0, _, _, _, rfl, rfl, rfl⟩, trivial⟩ ?_
 refine kp_turn (by kernel_rfl) ?_
 refine K.mv1 ?_
 refine op_store (cs' := #[.int .i64 (0 : Int), .string (⟨#[]⟩ : ByteArray), .int .i64 (0 : Int), .int .i64 (0 : Int), .slice none 0 0]) [.st ⟨p, 0, none⟩ (.int .i64 (0 : Int)), .st ⟨p, 1, none⟩ (.string (⟨#[]⟩ : ByteArray)), .st ⟨p, 2, none⟩ (.int .i64 (0 : Int)), .st ⟨p, 3, none⟩ (.int .i64 (0 : Int)), .st ⟨p, 4, none⟩ (.slice none 0 0)] (by kernel_rfl) (by kernel_rfl) ⟨rfl, rfl, rfl, rfl, rfl, trivial⟩ (by kernel_rfl) ?_
 refine k_and (fun w h_ => ⟨h_.sat.on _ (.tail _ (.head _)), trivial⟩) ?_
 refine kp_done ?_
 refine K.mv2 ?_
 refine kl_store (cs' := #[.int .i64 (4 : Int), .int .i64 i]) [.st ⟨q, 0, none⟩ (.int .i64 (4 : Int)), .st ⟨q, 1, none⟩ (.int .i64 i)] (by kernel_rfl) (by kernel_rfl) (by kernel_rfl) ⟨rfl, rfl, trivial⟩ (by kernel_rfl) ?_
 refine K.mv2 ?_
 refine K.drop ?_
 refine k_nil ?_
 refine k_blk ?_
 refine K.mv1 ?_
 intro a' w' ha' hw'
 have hd := ha'.defers
 simp [bodyPostS, results, Tryz.results29, hd, settle]
 exact hw'
end Go.Proofs.YtdkgnlaneccioaaGreatDoor
namespace Go.Proofs.YtdkgnlaneccioaaGreatDoor
open Go Go.RowKit
structure PE where
 parse_parser_exp : (a0_0 : List (Int × ByteArray × Int × Int)) → (a0_1 : Int) → (a1 : Int) → Option (PR (Int × ByteArray × Int × Int × List Tree × Int))
 parse_parser_operand : (a0_0 : List (Int × ByteArray × Int × Int)) → (a0_1 : Int) → Option (PR (Int × ByteArray × Int × Int × List Tree × Int))
 parse_parser_suffixed : (a0_0 : List (Int × ByteArray × Int × Int)) → (a0_1 : Int) → Option (PR (Int × ByteArray × Int × Int × List Tree × Int))
 parse_parser_fields : (a0_0 : List (Int × ByteArray × Int × Int)) → (a0_1 : Int) → Option (PR (List Tree × Int))
 parse_parser_field : (a0_0 : List (Int × ByteArray × Int × Int)) → (a0_1 : Int) → Option (PR (Int × ByteArray × Int × Int × List Tree × Int))
 parse_parser_exps : (a0_0 : List (Int × ByteArray × Int × Int)) → (a0_1 : Int) → Option (PR (List Tree × Int))
structure PE.Good (R : PE) : Prop where
 parse_parser_exp : ∀ {a0_0 : List (Int × ByteArray × Int × Int)} {a0_1 : Int} {a1 : Int} {b0 : Nat} {H_a0_0 : Frag} {A_a0_0 : Option Addr} {c_a0_0 : Nat} {r : PR (Int × ByteArray × Int × Int × List Tree × Int)} (h : R.parse_parser_exp a0_0 a0_1 a1 = some r) (R_a0_0 : RdT e76 4 H_a0_0 (.slice A_a0_0 a0_0.length c_a0_0) a0_0), Ct Tryz.prog 66 #[pt b0, iv a1] [bk b0 #[.slice A_a0_0 a0_0.length c_a0_0, iv a0_1] 73] [H_a0_0] (PR.Post failV (fun (r : Int × ByteArray × Int × Int × List Tree × Int) e l1 => ∃ (H0_ : Frag) (A0_ : Option Addr) (c0_ : Nat), OwnR (rTree 36) 36 H0_ (.slice A0_ r.2.2.2.2.1.length c0_) r.2.2.2.2.1 ∧ e = .returned (.agg #[iv r.1, sv r.2.1, iv r.2.2.1, iv r.2.2.2.1, .slice A0_ r.2.2.2.2.1.length c0_]) ∧ l1 = [H0_, bk b0 #[.slice A_a0_0 a0_0.length c_a0_0, iv r.2.2.2.2.2] 73]) r)
 parse_parser_operand : ∀ {a0_0 : List (Int × ByteArray × Int × Int)} {a0_1 : Int} {b0 : Nat} {H_a0_0 : Frag} {A_a0_0 : Option Addr} {c_a0_0 : Nat} {r : PR (Int × ByteArray × Int × Int × List Tree × Int)} (h : R.parse_parser_operand a0_0 a0_1 = some r) (R_a0_0 : RdT e76 4 H_a0_0 (.slice A_a0_0 a0_0.length c_a0_0) a0_0), Ct Tryz.prog 89 #[pt b0] [bk b0 #[.slice A_a0_0 a0_0.length c_a0_0, iv a0_1] 73] [H_a0_0] (PR.Post failV (fun (r : Int × ByteArray × Int × Int × List Tree × Int) e l1 => ∃ (H0_ : Frag) (A0_ : Option Addr) (c0_ : Nat), OwnR (rTree 36) 36 H0_ (.slice A0_ r.2.2.2.2.1.length c0_) r.2.2.2.2.1 ∧ e = .returned (.agg #[iv r.1, sv r.2.1, iv r.2.2.1, iv r.2.2.2.1, .slice A0_ r.2.2.2.2.1.length c0_]) ∧ l1 = [H0_, bk b0 #[.slice A_a0_0 a0_0.length c_a0_0, iv r.2.2.2.2.2] 73]) r)
 parse_parser_suffixed : ∀ {a0_0 : List (Int × ByteArray × Int × Int)} {a0_1 : Int} {b0 : Nat} {H_a0_0 : Frag} {A_a0_0 : Option Addr} {c_a0_0 : Nat} {r : PR (Int × ByteArray × Int × Int × List Tree × Int)} (h : R.parse_parser_suffixed a0_0 a0_1 = some r) (R_a0_0 : RdT e76 4 H_a0_0 (.slice A_a0_0 a0_0.length c_a0_0) a0_0), Ct Tryz.prog 91 #[pt b0] [bk b0 #[.slice A_a0_0 a0_0.length c_a0_0, iv a0_1] 73] [H_a0_0] (PR.Post failV (fun (r : Int × ByteArray × Int × Int × List Tree × Int) e l1 => ∃ (H0_ : Frag) (A0_ : Option Addr) (c0_ : Nat), OwnR (rTree 36) 36 H0_ (.slice A0_ r.2.2.2.2.1.length c0_) r.2.2.2.2.1 ∧ e = .returned (.agg #[iv r.1, sv r.2.1, iv r.2.2.1, iv r.2.2.2.1, .slice A0_ r.2.2.2.2.1.length c0_]) ∧ l1 = [H0_, bk b0 #[.slice A_a0_0 a0_0.length c_a0_0, iv r.2.2.2.2.2] 73]) r)
 parse_parser_fields : ∀ {a0_0 : List (Int × ByteArray × Int × Int)} {a0_1 : Int} {b0 : Nat} {H_a0_0 : Frag} {A_a0_0 : Option Addr} {c_a0_0 : Nat} {r : PR (List Tree × Int)} (h : R.parse_parser_fields a0_0 a0_1 = some r) (R_a0_0 : RdT e76 4 H_a0_0 (.slice A_a0_0 a0_0.length c_a0_0) a0_0), Ct Tryz.prog 103 #[pt b0] [bk b0 #[.slice A_a0_0 a0_0.length c_a0_0, iv a0_1] 73] [H_a0_0] (PR.Post failV (fun (r : List Tree × Int) e l1 => ∃ (H0_ : Frag) (A0_ : Option Addr) (c0_ : Nat), OwnR (rTree 36) 36 H0_ (.slice A0_ r.1.length c0_) r.1 ∧ e = .returned (.slice A0_ r.1.length c0_) ∧ l1 = [H0_, bk b0 #[.slice A_a0_0 a0_0.length c_a0_0, iv r.2] 73]) r)
 parse_parser_field : ∀ {a0_0 : List (Int × ByteArray × Int × Int)} {a0_1 : Int} {b0 : Nat} {H_a0_0 : Frag} {A_a0_0 : Option Addr} {c_a0_0 : Nat} {r : PR (Int × ByteArray × Int × Int × List Tree × Int)} (h : R.parse_parser_field a0_0 a0_1 = some r) (R_a0_0 : RdT e76 4 H_a0_0 (.slice A_a0_0 a0_0.length c_a0_0) a0_0), Ct Tryz.prog 109 #[pt b0] [bk b0 #[.slice A_a0_0 a0_0.length c_a0_0, iv a0_1] 73] [H_a0_0] (PR.Post failV (fun (r : Int × ByteArray × Int × Int × List Tree × Int) e l1 => ∃ (H0_ : Frag) (A0_ : Option Addr) (c0_ : Nat), OwnR (rTree 36) 36 H0_ (.slice A0_ r.2.2.2.2.1.length c0_) r.2.2.2.2.1 ∧ e = .returned (.agg #[iv r.1, sv r.2.1, iv r.2.2.1, iv r.2.2.2.1, .slice A0_ r.2.2.2.2.1.length c0_]) ∧ l1 = [H0_, bk b0 #[.slice A_a0_0 a0_0.length c_a0_0, iv r.2.2.2.2.2] 73]) r)
 parse_parser_exps : ∀ {a0_0 : List (Int × ByteArray × Int × Int)} {a0_1 : Int} {b0 : Nat} {H_a0_0 : Frag} {A_a0_0 : Option Addr} {c_a0_0 : Nat} {r : PR (List Tree × Int)} (h : R.parse_parser_exps a0_0 a0_1 = some r) (R_a0_0 : RdT e76 4 H_a0_0 (.slice A_a0_0 a0_0.length c_a0_0) a0_0), Ct Tryz.prog 47 #[pt b0] [bk b0 #[.slice A_a0_0 a0_0.length c_a0_0, iv a0_1] 73] [H_a0_0] (PR.Post failV (fun (r : List Tree × Int) e l1 => ∃ (H0_ : Frag) (A0_ : Option Addr) (c0_ : Nat), OwnR (rTree 36) 36 H0_ (.slice A0_ r.1.length c0_) r.1 ∧ e = .returned (.slice A0_ r.1.length c0_) ∧ l1 = [H0_, bk b0 #[.slice A_a0_0 a0_0.length c_a0_0, iv r.2] 73]) r)
def parse_parser_exp.l0 : Nat → (Rc : PE) → (a0_0 : List (Int × ByteArray × Int × Int)) → (a1 : Int) → (r2 : Int × ByteArray × Int × Int × List Tree × Int) → (x9 : Int) → (x10 : ByteArray) → (x11 : Int) → (l12 : List Tree) → (x17 : Int) → Option (PR (Int × ByteArray × Int × Int × List Tree × Int))
 | 0, _, _, _, _, _, _, _, _, _ => none
 | m18 + 1, Rc, a0_0, a1, r2, x9, x10, x11, l12, x17 => (parse_parser_now.f m18 a0_0 x17).bind fun r19 => (parse_binds.f m18 r19.1 r19.2.1 r19.2.2.1 r19.2.2.2).bind fun r21 => cond (decide (r21 ≤ a1)) (some (PR.ok (x9, x10, x11, r2.2.2.2.1, l12, x17))) (joinF (fun (x23 : Int) => PR.bind (Rc.parse_parser_exp a0_0 (IntKind.i64.wrap (x17 + 1)) x23) fun r25 => parse_parser_exp.l0 m18 Rc a0_0 a1 r2 11 r19.2.1 0 ([(Tree.mk x9 x10 x11 r2.2.2.2.1 l12), (Tree.mk r25.1 r25.2.1 r25.2.2.1 r25.2.2.2.1 r25.2.2.2.2.1)]) r25.2.2.2.2.2) (fun J24 => cond (r21 == 4) (J24 (IntKind.i64.wrap (r21 - 1))) (J24 r21)))
def parse_parser_exp.g (Rc : PE) (k : Nat) (a0_0 : List (Int × ByteArray × Int × Int)) (a0_1 : Int) (a1 : Int) : Option (PR (Int × ByteArray × Int × Int × List Tree × Int)) := PR.bind (Rc.parse_parser_operand a0_0 a0_1) fun r2 => parse_parser_exp.l0 k Rc a0_0 a1 r2 r2.1 r2.2.1 r2.2.2.1 r2.2.2.2.2.1 r2.2.2.2.2.2
set_option maxRecDepth 100000 in
theorem parse_parser_exp.okg {Rc : PE} (hR : Rc.Good) {k : Nat} {a0_0 : List (Int × ByteArray × Int × Int)} {a0_1 : Int} {a1 : Int} {b0 : Nat} {H_a0_0 : Frag} {A_a0_0 : Option Addr} {c_a0_0 : Nat} {r : PR (Int × ByteArray × Int × Int × List Tree × Int)} (h : parse_parser_exp.g Rc k a0_0 a0_1 a1 = some r) (R_a0_0 : RdT e76 4 H_a0_0 (.slice A_a0_0 a0_0.length c_a0_0) a0_0) : Ct Tryz.prog 66 #[pt b0, iv a1] [bk b0 #[.slice A_a0_0 a0_0.length c_a0_0, iv a0_1] 73] [H_a0_0] (PR.Post failV (fun (r : Int × ByteArray × Int × Int × List Tree × Int) e l1 => ∃ (H0_ : Frag) (A0_ : Option Addr) (c0_ : Nat), OwnR (rTree 36) 36 H0_ (.slice A0_ r.2.2.2.2.1.length c0_) r.2.2.2.2.1 ∧ e = .returned (.agg #[iv r.1, sv r.2.1, iv r.2.2.1, iv r.2.2.2.1, .slice A0_ r.2.2.2.2.1.length c0_]) ∧ l1 = [H0_, bk b0 #[.slice A_a0_0 a0_0.length c_a0_0, iv r.2.2.2.2.2] 73]) r) := by
 refine ct_enter (args := [pt b0, iv a1]) Tryz.func66 rfl (Nat.le_of_ble_eq_true rfl) ?_
 intro A X hh_
 obtain ⟨hm_H_a0_0, _⟩ := hh_
 unfold parse_parser_exp.g at h
 refine K.eq (env' := [(0, pt b0), (1, iv a1)]) (l' := bk b0 #[.slice A_a0_0 a0_0.length c_a0_0, iv a0_1] 73 :: X) rfl rfl (ksr (knp #[iv 0, sv noS, iv 0, iv 0, nS] 36 fun b1 => (kns' (kx 1 (K.mv1 (kcp h (fun _ hr2 => (hR.parse_parser_operand (b0 := b0) hr2 R_a0_0)) rfl ⟨(.tail _ hm_H_a0_0), trivial⟩ (fun _ e => k_then_panic (kpn 1 e rfl)) fun r2 h => ?_))))))
 rintro _ _ ⟨h3, A4, k5, o6, rfl, rfl⟩
 refine nx_ret2 (knp #[iv 0, sv noS, iv 0, iv 0, nS] 36 fun b8 => (kst 0 5 #[iv r2.1, sv r2.2.1, iv r2.2.2.1, iv r2.2.2.2.1, .slice A4 r2.2.2.2.2.1.length k5] (knt (k_block (K.mv1 (K.mv3 (K.mv3 (K.mv3 (k_loop (τ := Int × ByteArray × Int × (List Tree) × Int × Frag × (Option Addr) × Nat) (fun t => [(0, pt b0), (1, iv a1), (4, pt b1), (5, pt b8)]) (fun t => bk b8 #[iv t.1, sv t.2.1, iv t.2.2.1, iv r2.2.2.2.1, .slice t.2.2.2.2.2.2.1 t.2.2.2.1.length t.2.2.2.2.2.2.2] 36 :: bk b0 #[.slice A_a0_0 a0_0.length c_a0_0, iv t.2.2.2.2.1] 73 :: bk b1 #[iv 0, sv noS, iv 0, iv 0, nS] 36 :: t.2.2.2.2.2.1 :: X) (fun m t => parse_parser_exp.l0 m Rc a0_0 a1 r2 t.1 t.2.1 t.2.2.1 t.2.2.2.1 t.2.2.2.2.1 = some r ∧ OwnR (rTree 36) 36 t.2.2.2.2.2.1 (.slice t.2.2.2.2.2.2.1 t.2.2.2.1.length t.2.2.2.2.2.2.2) t.2.2.2.1) k (r2.1, r2.2.1, r2.2.2.1, r2.2.2.2.2.1, r2.2.2.2.2.2, h3, A4, k5) ⟨h, o6⟩ sb rfl ?_)))))))))
 clear h
 rintro m18 ⟨x9, x10, x11, l12, x17, h13, A14, k15⟩ ⟨h, o16⟩
 cases m18 with
 | zero => simp [parse_parser_exp.l0] at h
 | succ m18 =>
  simp only [parse_parser_exp.l0] at h
  refine k_block (ksr (kx 1 (K.mv1 (bnd h fun r19 hr19 h => (kc1 (parse_parser_now.ok (b0 := b0) hr19 R_a0_0) rfl ⟨(t3 hm_H_a0_0), trivial⟩ (knp #[iv 0, sv noS, iv 0, iv 0] 76 fun b20 => (kst 0 4 #[iv r19.1, sv r19.2.1, iv r19.2.2.1, iv r19.2.2.2] (kns' (kla 0 0 4 rfl (bnd h fun r21 hr21 h => ?_))))))))))
  refine kcv (parse_binds.ok hr21) trivial (kx 1 (knt (k_seq (ksr (kx 3 (knt ?_))))))
  refine kcn h (fun h => ?_) fun h => ?_
  ·refine ksr (kla 2 0 5 rfl (K.drop (K.mv1 (K.drop (K.mv1 (kst 0 5 #[iv x9, sv x10, iv x11, iv r2.2.2.2.1, .slice A14 l12.length k15] (knt (k_ret (k_then_ret (k_blk_ret ?_))))))))))
   refine k_then_ret (k_blk_ret ?_)
   obtain rfl := Option.some.inj h
   exact kda 0 5 rfl [h13, bk b0 #[.slice A_a0_0 a0_0.length c_a0_0, iv x17] 73] (K.drop (K.mv1 (k_end (PR.okI ⟨h13, A14, k15, o16, rfl, rfl⟩))))
  ·refine k_skip (k_then (ksr (kx 3 (kld 1 1 rfl (kx 3 (K.mv1 (kst 1 1 #[.slice A_a0_0 a0_0.length c_a0_0, iv (IntKind.i64.wrap (x17 + 1))] (kns' (kx 2 (knt ?_))))))))))
   obtain ⟨J24, hJ24, h⟩ := joinSplit h
   refine k_cut (τ := Int) (fun t => [(0, pt b0), (1, iv a1), (4, pt b1), (5, pt b8), (6, pt b20), (8, iv t)]) (fun t => bk b0 #[.slice A_a0_0 a0_0.length c_a0_0, iv (IntKind.i64.wrap (x17 + 1))] 73 :: bk b20 #[iv r19.1, sv r19.2.1, iv r19.2.2.1, iv r19.2.2.2] 76 :: bk b8 #[iv x9, sv x10, iv x11, iv r2.2.2.2.1, .slice A14 l12.length k15] 36 :: bk b1 #[iv 0, sv noS, iv 0, iv 0, nS] 36 :: h13 :: X) (fun t => J24 t = some r) ?_ ?_
   ·rintro x23 h
    subst hJ24
    refine kpr [(0, 0), (1, 3), (2, 0), (3, 3), (4, 3), (5, 0), (6, 0), (7, 1), (8, 1)] [1, 2] (kpx 1 (kpd 0 1 rfl (kpx 1 (kpd 1 3 rfl (kpa 1 0 5 rfl (kpx 2 (kpt (ocp h (fun _ hr25 => (hR.parse_parser_exp (b0 := b0) hr25 R_a0_0)) rfl ⟨(t4 hm_H_a0_0), trivial⟩ (fun _ e => k_blk_panic (k_then_panic (k_blk_panic (kpn 4 e rfl)))) fun r25 h => ?_))))))))
    rintro _ _ ⟨h26, A27, k28, o29, rfl, rfl⟩
    refine nx_ret2 (kan [2, 3] rfl (kpt (ons #[iv x9, sv x10, iv x11, iv r2.2.2.2.1, .slice A14 l12.length k15, iv r25.1, sv r25.2.1, iv r25.2.2.1, iv r25.2.2.2.1, .slice A27 r25.2.2.2.2.1.length k28] 36 2 fun b31 => (kan [3, 4] rfl (kpz (kx 1 (K.mv4 (kst 0 5 #[iv 11, sv r19.2.1, iv 0, iv r2.2.2.2.1, .slice (some ⟨b31, 0, none⟩) 2 2] (K.mv4 (K.drop ?_))))))))))
    refine knl (k_blk (k_then (K.mv2 (K.mvN [_, _, _, _, _] _ _ (k_or fun p32 => (K.mv2 (k_row (T := 36) (n := 2) (xs := [(Tree.mk x9 x10 x11 r2.2.2.2.1 l12), (Tree.mk r25.1 r25.2.1 r25.2.2.1 r25.2.2.2.1 r25.2.2.2.2.1)]) (RowI.cons (treeO_mk (k := x9) (t := x10) (n := x11) (a := r2.2.2.2.1) 36 o16) p32 (RowI.one (treeO_mk (k := r25.1) (t := r25.2.1) (n := r25.2.2.1) (a := r25.2.2.2.1) 36 o29))) rfl rfl (Nat.le_of_ble_eq_true rfl) fun h33 o34 => (K.mv3 (K.mv3 (K.mv3 ?_))))))))))
    exact k_again m18 (11, r19.2.1, 0, [(Tree.mk x9 x10 x11 r2.2.2.2.1 l12), (Tree.mk r25.1 r25.2.1 r25.2.2.1 r25.2.2.2.1 r25.2.2.2.2.1)], r25.2.2.2.2.2, h33, (some ⟨b31, 0, none⟩), 2) (Nat.lt_succ_self _) ⟨h, o34⟩ sb rfl
   ·skip
    refine ksr (kx 2 (knt ?_))
    refine kcn h (fun h => ?_) fun h => ?_
    ·exact k_region (kx 3 (knt (k_meet (IntKind.i64.wrap (r21 - 1)) h sb rfl)))
    ·exact k_skip (k_then (k_meet r21 h sb rfl))
def parse_parser_operand.g (Rc : PE) (k : Nat) (a0_0 : List (Int × ByteArray × Int × Int)) (a0_1 : Int) : Option (PR (Int × ByteArray × Int × Int × List Tree × Int)) := (parse_parser_now.f k a0_0 a0_1).bind fun r2 => joinF (fun (x5 : Int) (x6 : ByteArray) (x7 : Int) => some (PR.ok (x5, x6, x7, r2.2.2.2, [], IntKind.i64.wrap (a0_1 + 1)))) (fun J8 => cond (r2.1 == 3) (J8 4 (⟨#[]⟩ : ByteArray) r2.2.2.1) (cond (r2.1 == 4) (J8 5 r2.2.1 0) ((parse_parser_is.f k a0_0 a0_1 (⟨#[110, 105, 108]⟩ : ByteArray)).bind fun r11 => cond r11 (J8 1 (⟨#[]⟩ : ByteArray) 0) ((parse_parser_is.f k a0_0 a0_1 (⟨#[116, 114, 117, 101]⟩ : ByteArray)).bind fun r13 => cond r13 (J8 2 (⟨#[]⟩ : ByteArray) 0) ((parse_parser_is.f k a0_0 a0_1 (⟨#[102, 97, 108, 115, 101]⟩ : ByteArray)).bind fun r15 => cond r15 (J8 3 (⟨#[]⟩ : ByteArray) 0) (joinF (fun (x17 : Bool) (x18 : Int) => cond x17 (PR.bind (Rc.parse_parser_exp a0_0 x18 7) fun r21 => some (PR.ok (10, r2.2.1, 0, r2.2.2.2, [(Tree.mk r21.1 r21.2.1 r21.2.2.1 r21.2.2.2.1 r21.2.2.2.2.1)], r21.2.2.2.2.2))) ((parse_parser_got.f k a0_0 x18 (⟨#[123]⟩ : ByteArray)).bind fun r30 => cond r30.1 (PR.bind (Rc.parse_parser_fields a0_0 r30.2) fun r32 => some (PR.ok (12, (⟨#[]⟩ : ByteArray), 0, r2.2.2.2, r32.1, r32.2))) (PR.bind (Rc.parse_parser_suffixed a0_0 r30.2) fun r38 => some (PR.ok (r38.1, r38.2.1, r38.2.2.1, r38.2.2.2.1, r38.2.2.2.2.1, r38.2.2.2.2.2))))) (fun J19 => (parse_parser_got.f k a0_0 a0_1 (⟨#[110, 111, 116]⟩ : ByteArray)).bind fun r44 => cond r44.1 (J19 r44.1 r44.2) ((parse_parser_got.f k a0_0 r44.2 (⟨#[35]⟩ : ByteArray)).bind fun r46 => cond r46.1 (J19 r46.1 r46.2) ((parse_parser_got.f k a0_0 r46.2 (⟨#[45]⟩ : ByteArray)).bind fun r48 => J19 r48.1 r48.2)))))))))
set_option maxRecDepth 100000 in
theorem parse_parser_operand.okg {Rc : PE} (hR : Rc.Good) {k : Nat} {a0_0 : List (Int × ByteArray × Int × Int)} {a0_1 : Int} {b0 : Nat} {H_a0_0 : Frag} {A_a0_0 : Option Addr} {c_a0_0 : Nat} {r : PR (Int × ByteArray × Int × Int × List Tree × Int)} (h : parse_parser_operand.g Rc k a0_0 a0_1 = some r) (R_a0_0 : RdT e76 4 H_a0_0 (.slice A_a0_0 a0_0.length c_a0_0) a0_0) : Ct Tryz.prog 89 #[pt b0] [bk b0 #[.slice A_a0_0 a0_0.length c_a0_0, iv a0_1] 73] [H_a0_0] (PR.Post failV (fun (r : Int × ByteArray × Int × Int × List Tree × Int) e l1 => ∃ (H0_ : Frag) (A0_ : Option Addr) (c0_ : Nat), OwnR (rTree 36) 36 H0_ (.slice A0_ r.2.2.2.2.1.length c0_) r.2.2.2.2.1 ∧ e = .returned (.agg #[iv r.1, sv r.2.1, iv r.2.2.1, iv r.2.2.2.1, .slice A0_ r.2.2.2.2.1.length c0_]) ∧ l1 = [H0_, bk b0 #[.slice A_a0_0 a0_0.length c_a0_0, iv r.2.2.2.2.2] 73]) r) := by
 refine ct_enter (args := [pt b0]) Tryz.func89 rfl (Nat.le_of_ble_eq_true rfl) ?_
 intro A X hh_
 obtain ⟨hm_H_a0_0, _⟩ := hh_
 unfold parse_parser_operand.g at h
 refine K.eq (env' := [(0, pt b0)]) (l' := bk b0 #[.slice A_a0_0 a0_0.length c_a0_0, iv a0_1] 73 :: X) rfl rfl (ksr (knp #[iv 0, sv noS, iv 0, iv 0, nS] 36 fun b1 => (kns' (kx 1 (K.mv1 (bnd h fun r2 hr2 h => (kc1 (parse_parser_now.ok (b0 := b0) hr2 R_a0_0) rfl ⟨(.tail _ hm_H_a0_0), trivial⟩ (knp #[iv 0, sv noS, iv 0, iv 0] 76 fun b3 => (kst 0 4 #[iv r2.1, sv r2.2.1, iv r2.2.2.1, iv r2.2.2.2] (kns' ?_))))))))))
 refine kx 1 (kld 0 3 rfl (kx 1 (knp #[iv 0, sv noS, iv 0, iv 0, nS] 36 fun b4 => (kst 0 5 #[iv 0, sv noS, iv 0, iv r2.2.2.2, nS] (knt ?_)))))
 obtain ⟨J8, hJ8, h⟩ := joinSplit h
 refine k_cut (τ := Int × ByteArray × Int) (fun t => [(0, pt b0), (2, pt b1), (4, pt b4)]) (fun t => bk b4 #[iv t.1, sv t.2.1, iv t.2.2, iv r2.2.2.2, nS] 36 :: bk b0 #[.slice A_a0_0 a0_0.length c_a0_0, iv a0_1] 73 :: bk b1 #[iv 0, sv noS, iv 0, iv 0, nS] 36 :: X) (fun t => J8 t.1 t.2.1 t.2.2 = some r) ?_ ?_
 ·rintro ⟨x5, x6, x7⟩ h
  subst hJ8
  refine ksr (kx 3 (kld 1 1 rfl (kx 3 (K.mv1 (kst 1 1 #[.slice A_a0_0 a0_0.length c_a0_0, iv (IntKind.i64.wrap (a0_1 + 1))] (kns' (kla 1 0 5 rfl (K.mv1 (K.drop (K.mv1 ?_))))))))))
  refine kst 0 5 #[iv x5, sv x6, iv x7, iv r2.2.2.2, nS] (knt (k_ret ?_))
  obtain rfl := Option.some.inj h
  exact kda 0 5 rfl [none_, bk b0 #[.slice A_a0_0 a0_0.length c_a0_0, iv (IntKind.i64.wrap (a0_1 + 1))] 73] (k_none (K.mv1 (K.drop (k_end (PR.okI ⟨none_, none, 0, (OwnR.nil (rTree 36) 36 none_), rfl, rfl⟩)))))
 ·skip
  refine k_block (ksr (kx 1 (kld 1 0 rfl (kx 2 (knt ?_)))))
  refine kcn h (fun h => ?_) fun h => ?_
  ·refine kpr [(0, 0), (1, 3), (2, 0), (3, 1)] [1] (kpx 1 (kpd 0 2 rfl (kpx 1 (kpt (ost 0 1 #[iv 4, sv noS, iv 0, iv r2.2.2.2, nS] (kan [1] rfl (kpz (kx 1 (kst 2 1 #[iv 4, sv noS, iv r2.2.2.1, iv r2.2.2.2, nS] (K.mv1 ?_))))))))))
   exact K.drop (knl (k_blk (k_then (k_meet (4, (⟨#[]⟩ : ByteArray), r2.2.2.1) h sb rfl))))
  ·refine ksr (kx 1 (kld 1 0 rfl (kx 2 (knt ?_))))
   refine kcn h (fun h => ?_) fun h => ?_
   ·refine kpr [(0, 0), (1, 3), (2, 0), (3, 1)] [1] (kpx 1 (kpd 0 1 rfl (kpx 1 (kpt (ost 0 1 #[iv 5, sv noS, iv 0, iv r2.2.2.2, nS] (kan [1] rfl (kpz (kx 1 (kst 1 1 #[iv 5, sv r2.2.1, iv 0, iv r2.2.2.2, nS] (K.mv1 ?_))))))))))
    exact K.drop (knl (k_blk (k_then (k_meet (5, r2.2.1, 0) h sb rfl))))
   ·refine ksr (kx 1 (K.mv2 (bnd h fun r11 hr11 h => (kc1 (parse_parser_is.ok (b0 := b0) hr11 R_a0_0) rfl ⟨(t3 hm_H_a0_0), trivial⟩ (kx 1 (knt ?_))))))
    refine kcn h (fun h => ?_) fun h => ?_
    ·exact k_region (kx 1 (K.mv1 (kst 0 1 #[iv 1, sv noS, iv 0, iv r2.2.2.2, nS] (K.mv2 (K.drop (knl (k_blk (k_then (k_meet (1, (⟨#[]⟩ : ByteArray), 0) h sb rfl)))))))))
    ·refine ksr (kx 1 (bnd h fun r13 hr13 h => (kc1 (parse_parser_is.ok (b0 := b0) hr13 R_a0_0) rfl ⟨(t3 hm_H_a0_0), trivial⟩ (kx 1 (knt ?_)))))
     refine kcn h (fun h => ?_) fun h => ?_
     ·exact k_region (kx 1 (K.mv1 (kst 0 1 #[iv 2, sv noS, iv 0, iv r2.2.2.2, nS] (K.mv2 (K.drop (knl (k_blk (k_then (k_meet (2, (⟨#[]⟩ : ByteArray), 0) h sb rfl)))))))))
     ·refine ksr (kx 1 (bnd h fun r15 hr15 h => (kc1 (parse_parser_is.ok (b0 := b0) hr15 R_a0_0) rfl ⟨(t3 hm_H_a0_0), trivial⟩ (kx 1 (knt ?_)))))
      refine kcn h (fun h => ?_) fun h => ?_
      ·exact k_region (kx 1 (K.mv1 (kst 0 1 #[iv 3, sv noS, iv 0, iv r2.2.2.2, nS] (K.mv2 (K.drop (knl (k_blk (k_then (k_meet (3, (⟨#[]⟩ : ByteArray), 0) h sb rfl)))))))))
      ·obtain ⟨J19, hJ19, h⟩ := joinSplit h
       refine k_cut (τ := Bool × Int) (fun t => [(0, pt b0), (2, pt b1), (3, pt b3), (40, bv t.1)]) (fun t => bk b0 #[.slice A_a0_0 a0_0.length c_a0_0, iv t.2] 73 :: bk b3 #[iv r2.1, sv r2.2.1, iv r2.2.2.1, iv r2.2.2.2] 76 :: bk b1 #[iv 0, sv noS, iv 0, iv 0, nS] 36 :: X) (fun t => J19 t.1 t.2 = some r) ?_ ?_
       ·rintro ⟨x17, x18⟩ h
        subst hJ19
        refine kcn h (fun h => ?_) fun h => ?_
        ·refine k_seq (kpr [(0, 0), (1, 3), (2, 0), (3, 3), (4, 0), (5, 1), (6, 1)] [1] (kpx 1 (kpd 0 1 rfl (kpx 1 (kpd 0 3 rfl (kpx 1 (kpt (ocp h (fun _ hr21 => (hR.parse_parser_exp (b0 := b0) hr21 R_a0_0)) rfl ⟨(t2 hm_H_a0_0), trivial⟩ (fun _ e => k_then_panic (k_blk_panic (k_then_panic (kpn 2 e rfl)))) fun r21 h => ?_))))))))
         rintro _ _ ⟨h22, A23, k24, o25, rfl, rfl⟩
         refine nx_ret2 (kan [2] rfl (kpt (ons #[iv r21.1, sv r21.2.1, iv r21.2.2.1, iv r21.2.2.2.1, .slice A23 r21.2.2.2.2.1.length k24] 36 1 fun b27 => (kan [3] rfl (kpz (kx 1 (K.mv4 (kst 0 5 #[iv 10, sv r2.2.1, iv 0, iv r2.2.2.2, .slice (some ⟨b27, 0, none⟩) 1 1] (K.mv4 (K.drop ?_))))))))))
         refine knt (k_ret (k_blk_ret (k_then_ret (K.mv2 (K.mv2 (k_row (T := 36) (n := 1) (xs := [(Tree.mk r21.1 r21.2.1 r21.2.2.1 r21.2.2.2.1 r21.2.2.2.2.1)]) (RowI.one (treeO_mk (k := r21.1) (t := r21.2.1) (n := r21.2.2.1) (a := r21.2.2.2.1) 36 o25)) rfl rfl (Nat.le_of_ble_eq_true rfl) fun h28 o29 => ?_))))))
         obtain rfl := Option.some.inj h
         exact kda 1 5 rfl [h28, bk b0 #[.slice A_a0_0 a0_0.length c_a0_0, iv r21.2.2.2.2.2] 73] (K.mv1 (K.drop (k_end (PR.okI ⟨h28, (some ⟨b27, 0, none⟩), 1, o29, rfl, rfl⟩))))
        ·refine ksr (kx 1 (bnd h fun r30 hr30 h => (kc1 (parse_parser_got.ok (b0 := b0) hr30 R_a0_0) rfl ⟨(t2 hm_H_a0_0), trivial⟩ (kx 1 (knt ?_)))))
         refine kcn h (fun h => ?_) fun h => ?_
         ·refine k_seq (kpr [(0, 0), (1, 3), (2, 0), (3, 1)] [1] (kpx 1 (kpd 0 3 rfl (kpx 1 (kpt (ocp h (fun _ hr32 => (hR.parse_parser_fields (b0 := b0) hr32 R_a0_0)) rfl ⟨(t2 hm_H_a0_0), trivial⟩ (fun _ e => k_then_panic (k_blk_panic (k_then_panic (kpn 2 e rfl)))) fun r32 h => ?_))))))
          rintro _ _ ⟨h33, A34, k35, o36, rfl, rfl⟩
          refine nx_ret2 (kan [2] rfl (kpz (kx 1 (K.mv3 (kst 0 5 #[iv 12, sv noS, iv 0, iv r2.2.2.2, .slice A34 r32.1.length k35] (K.mv3 (K.drop (knt (k_ret (k_blk_ret ?_))))))))))
          refine k_then_ret ?_
          obtain rfl := Option.some.inj h
          exact kda 0 5 rfl [h33, bk b0 #[.slice A_a0_0 a0_0.length c_a0_0, iv r32.2] 73] (K.drop (k_end (PR.okI ⟨h33, A34, k35, o36, rfl, rfl⟩)))
         ·refine ksr (kx 1 (kcp h (fun _ hr38 => (hR.parse_parser_suffixed (b0 := b0) hr38 R_a0_0)) rfl ⟨(t2 hm_H_a0_0), trivial⟩ (fun _ e => k_then_panic (k_blk_panic (k_then_panic (kpn 2 e rfl)))) fun r38 h => ?_))
          rintro _ _ ⟨h39, A40, k41, o42, rfl, rfl⟩
          refine nx_ret2 (K.mv2 (K.drop (K.mv2 (kst 0 5 #[iv r38.1, sv r38.2.1, iv r38.2.2.1, iv r38.2.2.2.1, .slice A40 r38.2.2.2.2.1.length k41] (knt (k_ret (k_blk_ret (k_then_ret ?_))))))))
          obtain rfl := Option.some.inj h
          exact kda 0 5 rfl [h39, bk b0 #[.slice A_a0_0 a0_0.length c_a0_0, iv r38.2.2.2.2.2] 73] (K.drop (k_end (PR.okI ⟨h39, A40, k41, o42, rfl, rfl⟩)))
       ·skip
        refine ksr (kx 1 (bnd h fun r44 hr44 h => (kc1 (parse_parser_got.ok (b0 := b0) hr44 R_a0_0) rfl ⟨(t3 hm_H_a0_0), trivial⟩ (K.mv1 (K.drop (kx 1 (knt ?_)))))))
        refine kcn h (fun h => ?_) fun h => ?_
        ·exact k_skip (k_then (k_meet (r44.1, r44.2) h sb rfl))
        ·refine ksr (kx 1 (bnd h fun r46 hr46 h => (kc1 (parse_parser_got.ok (b0 := b0) hr46 R_a0_0) rfl ⟨(t2 hm_H_a0_0), trivial⟩ (kx 1 (knt ?_)))))
         refine kcn h (fun h => ?_) fun h => ?_
         ·exact k_skip (k_then (k_meet (r46.1, r46.2) h sb rfl))
         ·exact k_region (kx 1 (bnd h fun r48 hr48 h => (kc1 (parse_parser_got.ok (b0 := b0) hr48 R_a0_0) rfl ⟨(t2 hm_H_a0_0), trivial⟩ (kx 1 (knt (k_meet (r48.1, r48.2) h sb rfl))))))
def parse_parser_suffixed.l0 : Nat → (Rc : PE) → (a0_0 : List (Int × ByteArray × Int × Int)) → (r2 : Int × ByteArray × Int × Int) → (x15 : Int) → (x16 : ByteArray) → (x17 : Int) → (x18 : Int) → (l19 : List Tree) → (x24 : Int) → Option (PR (Int × ByteArray × Int × Int × List Tree × Int))
 | 0, _, _, _, _, _, _, _, _, _ => none
 | m25 + 1, Rc, a0_0, r2, x15, x16, x17, x18, l19, x24 => (parse_parser_got.f m25 a0_0 x24 (⟨#[91]⟩ : ByteArray)).bind fun r26 => cond r26.1 (PR.bind (Rc.parse_parser_exp a0_0 r26.2 0) fun r28 => PR.bind (parse_parser_want.f m25 a0_0 r28.2.2.2.2.2 (⟨#[93]⟩ : ByteArray)) fun r35 => parse_parser_suffixed.l0 m25 Rc a0_0 r2 7 (⟨#[]⟩ : ByteArray) 0 r2.2.2.2 ([(Tree.mk x15 x16 x17 x18 l19), (Tree.mk r28.1 r28.2.1 r28.2.2.1 r28.2.2.2.1 r28.2.2.2.2.1)]) r35) ((parse_parser_got.f m25 a0_0 r26.2 (⟨#[46]⟩ : ByteArray)).bind fun r40 => cond r40.1 (PR.bind (parse_parser_name.f m25 a0_0 r40.2) fun r42 => parse_parser_suffixed.l0 m25 Rc a0_0 r2 7 (⟨#[]⟩ : ByteArray) 0 r2.2.2.2 ([(Tree.mk x15 x16 x17 x18 l19), (Tree.mk 5 r42.2.1 r42.2.2.1 r42.2.2.2.1 r42.2.2.2.2.1)]) r42.2.2.2.2.2) ((parse_parser_got.f m25 a0_0 r40.2 (⟨#[40]⟩ : ByteArray)).bind fun r53 => cond r53.1 (joinF (fun (l56 : List Tree) (x61 : Int) => PR.bind (parse_parser_want.f m25 a0_0 x61 (⟨#[41]⟩ : ByteArray)) fun r63 => parse_parser_suffixed.l0 m25 Rc a0_0 r2 8 (⟨#[]⟩ : ByteArray) 0 r2.2.2.2 l56 r63) (fun J62 => (parse_parser_is.f m25 a0_0 r53.2 (⟨#[41]⟩ : ByteArray)).bind fun r65 => cond (!r65) (PR.bind (Rc.parse_parser_exps a0_0 r53.2) fun r67 => (apd 64 [(Tree.mk x15 x16 x17 x18 l19)] r67.1).bind fun l75 => J62 l75 r67.2) (J62 ([(Tree.mk x15 x16 x17 x18 l19)]) r53.2))) (some (PR.ok (x15, x16, x17, x18, l19, r53.2)))))
def parse_parser_suffixed.g (Rc : PE) (k : Nat) (a0_0 : List (Int × ByteArray × Int × Int)) (a0_1 : Int) : Option (PR (Int × ByteArray × Int × Int × List Tree × Int)) := (parse_parser_now.f k a0_0 a0_1).bind fun r2 => joinF (fun (x4 : Int) (x5 : ByteArray) (x6 : Int) (x7 : Int) (l8 : List Tree) (x13 : Int) => parse_parser_suffixed.l0 k Rc a0_0 r2 x4 x5 x6 x7 l8 x13) (fun J14 => (parse_parser_got.f k a0_0 a0_1 (⟨#[40]⟩ : ByteArray)).bind fun r82 => cond r82.1 (PR.bind (Rc.parse_parser_exp a0_0 r82.2 0) fun r84 => PR.bind (parse_parser_want.f k a0_0 r84.2.2.2.2.2 (⟨#[41]⟩ : ByteArray)) fun r91 => J14 9 (⟨#[]⟩ : ByteArray) 0 r2.2.2.2 ([(Tree.mk r84.1 r84.2.1 r84.2.2.1 r84.2.2.2.1 r84.2.2.2.2.1)]) r91) (PR.bind (parse_parser_name.f k a0_0 r82.2) fun r95 => J14 r95.1 r95.2.1 r95.2.2.1 r95.2.2.2.1 r95.2.2.2.2.1 r95.2.2.2.2.2))
set_option maxRecDepth 100000 in
theorem parse_parser_suffixed.okg {Rc : PE} (hR : Rc.Good) {k : Nat} {a0_0 : List (Int × ByteArray × Int × Int)} {a0_1 : Int} {b0 : Nat} {H_a0_0 : Frag} {A_a0_0 : Option Addr} {c_a0_0 : Nat} {r : PR (Int × ByteArray × Int × Int × List Tree × Int)} (h : parse_parser_suffixed.g Rc k a0_0 a0_1 = some r) (R_a0_0 : RdT e76 4 H_a0_0 (.slice A_a0_0 a0_0.length c_a0_0) a0_0) : Ct Tryz.prog 91 #[pt b0] [bk b0 #[.slice A_a0_0 a0_0.length c_a0_0, iv a0_1] 73] [H_a0_0] (PR.Post failV (fun (r : Int × ByteArray × Int × Int × List Tree × Int) e l1 => ∃ (H0_ : Frag) (A0_ : Option Addr) (c0_ : Nat), OwnR (rTree 36) 36 H0_ (.slice A0_ r.2.2.2.2.1.length c0_) r.2.2.2.2.1 ∧ e = .returned (.agg #[iv r.1, sv r.2.1, iv r.2.2.1, iv r.2.2.2.1, .slice A0_ r.2.2.2.2.1.length c0_]) ∧ l1 = [H0_, bk b0 #[.slice A_a0_0 a0_0.length c_a0_0, iv r.2.2.2.2.2] 73]) r) := by
 refine ct_enter (args := [pt b0]) Tryz.func91 rfl (Nat.le_of_ble_eq_true rfl) ?_
 intro A X hh_
 obtain ⟨hm_H_a0_0, _⟩ := hh_
 unfold parse_parser_suffixed.g at h
 refine K.eq (env' := [(0, pt b0)]) (l' := bk b0 #[.slice A_a0_0 a0_0.length c_a0_0, iv a0_1] 73 :: X) rfl rfl (ksr (knp #[iv 0, sv noS, iv 0, iv 0, nS] 36 fun b1 => (kns' (kx 1 (K.mv1 (bnd h fun r2 hr2 h => (kc1 (parse_parser_now.ok (b0 := b0) hr2 R_a0_0) rfl ⟨(.tail _ hm_H_a0_0), trivial⟩ (kx 2 (kns' (knp #[iv 0, sv noS, iv 0, iv 0, nS] 36 fun b3 => ?_))))))))))
 refine knt ?_
 obtain ⟨J14, hJ14, h⟩ := joinSplit h
 refine k_cut (τ := Int × ByteArray × Int × Int × (List Tree) × Int × Frag × (Option Addr) × Nat) (fun t => [(0, pt b0), (2, pt b1), (3, iv r2.2.2.2), (4, pt b3)]) (fun t => bk b3 #[iv t.1, sv t.2.1, iv t.2.2.1, iv t.2.2.2.1, .slice t.2.2.2.2.2.2.2.1 t.2.2.2.2.1.length t.2.2.2.2.2.2.2.2] 36 :: bk b0 #[.slice A_a0_0 a0_0.length c_a0_0, iv t.2.2.2.2.2.1] 73 :: bk b1 #[iv 0, sv noS, iv 0, iv 0, nS] 36 :: t.2.2.2.2.2.2.1 :: X) (fun t => J14 t.1 t.2.1 t.2.2.1 t.2.2.2.1 t.2.2.2.2.1 t.2.2.2.2.2.1 = some r ∧ OwnR (rTree 36) 36 t.2.2.2.2.2.2.1 (.slice t.2.2.2.2.2.2.2.1 t.2.2.2.2.1.length t.2.2.2.2.2.2.2.2) t.2.2.2.2.1) ?_ ?_
 ·rintro ⟨x4, x5, x6, x7, l8, x13, h9, A10, k11⟩ ⟨h, o12⟩
  subst hJ14
  refine k_block (k_loop (τ := Int × ByteArray × Int × Int × (List Tree) × Int × Frag × (Option Addr) × Nat) (fun t => [(0, pt b0), (2, pt b1), (3, iv r2.2.2.2), (4, pt b3)]) (fun t => bk b3 #[iv t.1, sv t.2.1, iv t.2.2.1, iv t.2.2.2.1, .slice t.2.2.2.2.2.2.2.1 t.2.2.2.2.1.length t.2.2.2.2.2.2.2.2] 36 :: bk b0 #[.slice A_a0_0 a0_0.length c_a0_0, iv t.2.2.2.2.2.1] 73 :: bk b1 #[iv 0, sv noS, iv 0, iv 0, nS] 36 :: t.2.2.2.2.2.2.1 :: X) (fun m t => parse_parser_suffixed.l0 m Rc a0_0 r2 t.1 t.2.1 t.2.2.1 t.2.2.2.1 t.2.2.2.2.1 t.2.2.2.2.2.1 = some r ∧ OwnR (rTree 36) 36 t.2.2.2.2.2.2.1 (.slice t.2.2.2.2.2.2.2.1 t.2.2.2.2.1.length t.2.2.2.2.2.2.2.2) t.2.2.2.2.1) k (x4, x5, x6, x7, l8, x13, h9, A10, k11) ⟨h, o12⟩ sb rfl ?_)
  clear h
  rintro m25 ⟨x15, x16, x17, x18, l19, x24, h20, A21, k22⟩ ⟨h, o23⟩
  cases m25 with
  | zero => simp [parse_parser_suffixed.l0] at h
  | succ m25 =>
   simp only [parse_parser_suffixed.l0] at h
   refine k_block (k_block (ksr (kx 1 (K.mv1 (bnd h fun r26 hr26 h => (kc1 (parse_parser_got.ok (b0 := b0) hr26 R_a0_0) rfl ⟨(t3 hm_H_a0_0), trivial⟩ (kx 1 (knt ?_))))))))
   refine kcn h (fun h => ?_) fun h => ?_
   ·refine k_seq (kpr [(0, 0), (1, 3), (2, 0), (3, 1)] [1] (kpx 1 (kpa 0 0 5 rfl (kpx 1 (kpt (ocp h (fun _ hr28 => (hR.parse_parser_exp (b0 := b0) hr28 R_a0_0)) rfl ⟨(t3 hm_H_a0_0), trivial⟩ (fun _ e => k_then_panic (k_blk_panic (k_blk_panic (k_then_panic (k_blk_panic (kpn 3 e rfl)))))) fun r28 h => ?_))))))
    rintro _ _ ⟨h29, A30, k31, o32, rfl, rfl⟩
    refine nx_ret2 (kan [2] rfl (kpz (kns #[iv x15, sv x16, iv x17, iv x18, .slice A21 l19.length k22, iv r28.1, sv r28.2.1, iv r28.2.2.1, iv r28.2.2.2.1, .slice A30 r28.2.2.2.2.1.length k31] 36 2 fun b34 => (kx 1 (K.mv3 (kst 0 5 #[iv 7, sv noS, iv 0, iv r2.2.2.2, .slice (some ⟨b34, 0, none⟩) 2 2] (knr (kx 1 (K.mv3 (kcp h (fun _ hr35 => (parse_parser_want.ok (b0 := b0) hr35 R_a0_0)) rfl ⟨(t5 hm_H_a0_0), trivial⟩ (fun _ e => k_blk_panic (k_blk_panic (k_then_panic (k_blk_panic (kpn 5 e rfl))))) fun r35 h => ?_))))))))))
    rintro _ _ ⟨rfl, rfl⟩
    refine nx_ret1 (knl (k_blk (k_blk (k_then (K.mv3 (K.mvN [_, _, _, _, _] _ _ (k_or fun p37 => (K.mv3 (k_row (T := 36) (n := 2) (xs := [(Tree.mk x15 x16 x17 x18 l19), (Tree.mk r28.1 r28.2.1 r28.2.2.1 r28.2.2.2.1 r28.2.2.2.2.1)]) (RowI.cons (treeO_mk (k := x15) (t := x16) (n := x17) (a := x18) 36 o23) p37 (RowI.one (treeO_mk (k := r28.1) (t := r28.2.1) (n := r28.2.2.1) (a := r28.2.2.2.1) 36 o32))) rfl rfl (Nat.le_of_ble_eq_true rfl) fun h38 o39 => (K.mv3 ?_))))))))))
    exact K.mv2 (K.mv3 (k_again m25 (7, (⟨#[]⟩ : ByteArray), 0, r2.2.2.2, [(Tree.mk x15 x16 x17 x18 l19), (Tree.mk r28.1 r28.2.1 r28.2.2.1 r28.2.2.2.1 r28.2.2.2.2.1)], r35, h38, (some ⟨b34, 0, none⟩), 2) (Nat.lt_succ_self _) ⟨h, o39⟩ sb rfl))
   ·refine ksr (kx 1 (bnd h fun r40 hr40 h => (kc1 (parse_parser_got.ok (b0 := b0) hr40 R_a0_0) rfl ⟨(t3 hm_H_a0_0), trivial⟩ (kx 1 (knt ?_)))))
    refine kcn h (fun h => ?_) fun h => ?_
    ·refine ksr (kx 1 (kcp h (fun _ hr42 => (parse_parser_name.ok (b0 := b0) hr42 R_a0_0)) rfl ⟨(t3 hm_H_a0_0), trivial⟩ (fun _ e => k_then_panic (k_blk_panic (k_blk_panic (k_then_panic (k_blk_panic (kpn 3 e rfl)))))) fun r42 h => ?_))
     rintro _ _ ⟨h43, A44, k45, o46, rfl, rfl⟩
     refine nx_ret2 (knp #[iv 0, sv noS, iv 0, iv 0, nS] 36 fun b48 => (kst 0 5 #[iv r42.1, sv r42.2.1, iv r42.2.2.1, iv r42.2.2.2.1, .slice A44 r42.2.2.2.2.1.length k45] (kns' (kx 1 (kst 0 1 #[iv 5, sv r42.2.1, iv r42.2.2.1, iv r42.2.2.2.1, .slice A44 r42.2.2.2.2.1.length k45] (knr (kx 1 (kla 3 0 5 rfl (kla 0 0 5 rfl (K.drop ?_))))))))))
     refine kns #[iv x15, sv x16, iv x17, iv x18, .slice A21 l19.length k22, iv 5, sv r42.2.1, iv r42.2.2.1, iv r42.2.2.2.1, .slice A44 r42.2.2.2.2.1.length k45] 36 2 fun b49 => (kx 1 (K.mv3 (kst 0 5 #[iv 7, sv noS, iv 0, iv r2.2.2.2, .slice (some ⟨b49, 0, none⟩) 2 2] (knl (k_blk (k_blk (k_then (K.mv2 (K.mvN [_, _, _, _, _] _ _ (k_or fun p50 => ?_))))))))))
     exact K.mv2 (k_row (T := 36) (n := 2) (xs := [(Tree.mk x15 x16 x17 x18 l19), (Tree.mk 5 r42.2.1 r42.2.2.1 r42.2.2.2.1 r42.2.2.2.2.1)]) (RowI.cons (treeO_mk (k := x15) (t := x16) (n := x17) (a := x18) 36 o23) p50 (RowI.one (treeO_mk (k := 5) (t := r42.2.1) (n := r42.2.2.1) (a := r42.2.2.2.1) 36 o46))) rfl rfl (Nat.le_of_ble_eq_true rfl) fun h51 o52 => (K.mv3 (K.mv3 (K.mv3 (k_again m25 (7, (⟨#[]⟩ : ByteArray), 0, r2.2.2.2, [(Tree.mk x15 x16 x17 x18 l19), (Tree.mk 5 r42.2.1 r42.2.2.1 r42.2.2.2.1 r42.2.2.2.2.1)], r42.2.2.2.2.2, h51, (some ⟨b49, 0, none⟩), 2) (Nat.lt_succ_self _) ⟨h, o52⟩ sb rfl)))))
    ·refine ksr (kx 1 (bnd h fun r53 hr53 h => (kc1 (parse_parser_got.ok (b0 := b0) hr53 R_a0_0) rfl ⟨(t3 hm_H_a0_0), trivial⟩ (kx 1 (knt ?_)))))
     refine kcn h (fun h => ?_) fun h => ?_
     ·refine ksr (kx 1 (kla 1 0 5 rfl (kns #[iv x15, sv x16, iv x17, iv x18, .slice A21 l19.length k22] 36 1 fun b55 => (kx 1 (K.mv2 (kst 0 5 #[iv 8, sv noS, iv 0, iv r2.2.2.2, .slice (some ⟨b55, 0, none⟩) 1 1] (knt ?_)))))))
      obtain ⟨J62, hJ62, h⟩ := joinSplit h
      refine k_cut (τ := (List Tree) × Int × Frag × (Option Addr) × Nat) (fun t => [(0, pt b0), (2, pt b1), (3, iv r2.2.2.2), (4, pt b3)]) (fun t => bk b3 #[iv 8, sv noS, iv 0, iv r2.2.2.2, .slice t.2.2.2.1 t.1.length t.2.2.2.2] 36 :: bk b0 #[.slice A_a0_0 a0_0.length c_a0_0, iv t.2.1] 73 :: bk b1 #[iv 0, sv noS, iv 0, iv 0, nS] 36 :: t.2.2.1 :: X) (fun t => J62 t.1 t.2.1 = some r ∧ OwnR (rTree 36) 36 t.2.2.1 (.slice t.2.2.2.1 t.1.length t.2.2.2.2) t.1) ?_ ?_
      ·rintro ⟨l56, x61, h57, A58, k59⟩ ⟨h, o60⟩
       subst hJ62
       refine k_region (kx 1 (K.mv1 (kcp h (fun _ hr63 => (parse_parser_want.ok (b0 := b0) hr63 R_a0_0)) rfl ⟨(t3 hm_H_a0_0), trivial⟩ (fun _ e => k_blk_panic (k_blk_panic (k_then_panic (k_blk_panic (kpn 3 e rfl))))) fun r63 h => ?_)))
       rintro _ _ ⟨rfl, rfl⟩
       exact nx_ret1 (knl (k_blk (k_blk (k_then (K.mv3 (K.mv3 (K.mv2 (K.mv3 (k_again m25 (8, (⟨#[]⟩ : ByteArray), 0, r2.2.2.2, l56, r63, h57, A58, k59) (Nat.lt_succ_self _) ⟨h, o60⟩ sb rfl)))))))))
      ·skip
       refine ksr (kx 1 (K.mv2 (bnd h fun r65 hr65 h => (kc1 (parse_parser_is.ok (b0 := b0) hr65 R_a0_0) rfl ⟨(t4 hm_H_a0_0), trivial⟩ (kx 1 (knt ?_))))))
       refine kcn h (fun h => ?_) fun h => ?_
       ·refine kpr [(0, 0), (1, 3), (2, 0), (3, 1)] [1] (kpx 1 (kpd 0 4 rfl (kpx 1 (kpt (ocp h (fun _ hr67 => (hR.parse_parser_exps (b0 := b0) hr67 R_a0_0)) rfl ⟨(t4 hm_H_a0_0), trivial⟩ (fun _ e => k_then_panic (k_blk_panic (k_blk_panic (k_then_panic (k_blk_panic (kpn 4 e rfl)))))) fun r67 h => ?_)))))
        rintro _ _ ⟨h68, A69, k70, o71, rfl, rfl⟩
        refine nx_ret2 (kan [2] rfl (kpz (K.mvN [_, _, _, _, _] _ _ (K.mv4 (k_row (T := 36) (n := 1) (xs := [(Tree.mk x15 x16 x17 x18 l19)]) (RowI.one (treeO_mk (k := x15) (t := x16) (n := x17) (a := x18) 36 o23)) rfl rfl (Nat.le_of_ble_eq_true rfl) fun h73 o74 => (K.mv1 (K.mv1 (bnd h fun l75 hl75 h => (kapR rfl ety34 rfl hl75 o74 o71 fun h76 A77 k78 o79 => (kx 1 ?_))))))))))
        exact K.mv2 (kst 4 1 #[iv 8, sv noS, iv 0, iv r2.2.2.2, .slice A77 l75.length k78] (knt (K.mv1 (K.mv3 (K.mv3 (K.mv3 (k_meet (l75, r67.2, h76, A77, k78) ⟨h, o79⟩ sb rfl)))))))
       ·exact k_skip (k_then (K.mv4 (K.mv3 (k_row (T := 36) (n := 1) (xs := [(Tree.mk x15 x16 x17 x18 l19)]) (RowI.one (treeO_mk (k := x15) (t := x16) (n := x17) (a := x18) 36 o23)) rfl rfl (Nat.le_of_ble_eq_true rfl) fun h80 o81 => (K.mv3 (K.mv2 (K.mv3 (k_meet ([(Tree.mk x15 x16 x17 x18 l19)], r53.2, h80, (some ⟨b55, 0, none⟩), 1) ⟨h, o81⟩ sb rfl))))))))
     ·refine ksr (kla 1 0 5 rfl (K.mv1 (K.drop (K.mv1 (kst 0 5 #[iv x15, sv x16, iv x17, iv x18, .slice A21 l19.length k22] (knt (k_ret (k_blk_ret (k_blk_ret (k_then_ret ?_))))))))))
      refine k_blk_ret ?_
      obtain rfl := Option.some.inj h
      exact kda 0 5 rfl [h20, bk b0 #[.slice A_a0_0 a0_0.length c_a0_0, iv r53.2] 73] (K.drop (K.mv1 (k_end (PR.okI ⟨h20, A21, k22, o23, rfl, rfl⟩))))
 ·skip
  refine ksr (kx 1 (K.mv1 (bnd h fun r82 hr82 h => (kc1 (parse_parser_got.ok (b0 := b0) hr82 R_a0_0) rfl ⟨(t2 hm_H_a0_0), trivial⟩ (knt ?_)))))
  refine kcn h (fun h => ?_) fun h => ?_
  ·refine ksr (kx 2 (kcp h (fun _ hr84 => (hR.parse_parser_exp (b0 := b0) hr84 R_a0_0)) rfl ⟨(t2 hm_H_a0_0), trivial⟩ (fun _ e => k_then_panic (k_then_panic (kpn 2 e rfl))) fun r84 h => ?_))
   rintro _ _ ⟨h85, A86, k87, o88, rfl, rfl⟩
   refine nx_ret2 (kns #[iv r84.1, sv r84.2.1, iv r84.2.2.1, iv r84.2.2.2.1, .slice A86 r84.2.2.2.2.1.length k87] 36 1 fun b90 => (kx 1 (K.mv3 (kst 0 5 #[iv 9, sv noS, iv 0, iv r2.2.2.2, .slice (some ⟨b90, 0, none⟩) 1 1] (knr (kx 1 (K.mv3 (kcp h (fun _ hr91 => (parse_parser_want.ok (b0 := b0) hr91 R_a0_0)) rfl ⟨(t4 hm_H_a0_0), trivial⟩ (fun _ e => k_then_panic (kpn 4 e rfl)) fun r91 h => ?_))))))))
   rintro _ _ ⟨rfl, rfl⟩
   exact nx_ret1 (knt (K.mv3 (K.mv3 (k_row (T := 36) (n := 1) (xs := [(Tree.mk r84.1 r84.2.1 r84.2.2.1 r84.2.2.2.1 r84.2.2.2.2.1)]) (RowI.one (treeO_mk (k := r84.1) (t := r84.2.1) (n := r84.2.2.1) (a := r84.2.2.2.1) 36 o88)) rfl rfl (Nat.le_of_ble_eq_true rfl) fun h93 o94 => (K.mv3 (K.mv2 (K.mv3 (k_meet (9, (⟨#[]⟩ : ByteArray), 0, r2.2.2.2, [(Tree.mk r84.1 r84.2.1 r84.2.2.1 r84.2.2.2.1 r84.2.2.2.2.1)], r91, h93, (some ⟨b90, 0, none⟩), 1) ⟨h, o94⟩ sb rfl))))))))
  ·refine k_region (kx 1 (kcp h (fun _ hr95 => (parse_parser_name.ok (b0 := b0) hr95 R_a0_0)) rfl ⟨(t2 hm_H_a0_0), trivial⟩ (fun _ e => k_then_panic (kpn 2 e rfl)) fun r95 h => ?_))
   rintro _ _ ⟨h96, A97, k98, o99, rfl, rfl⟩
   exact nx_ret2 (K.mv2 (kst 0 5 #[iv r95.1, sv r95.2.1, iv r95.2.2.1, iv r95.2.2.2.1, .slice A97 r95.2.2.2.2.1.length k98] (knt (K.mv1 (K.mv3 (K.mv3 (K.mv3 (k_meet (r95.1, r95.2.1, r95.2.2.1, r95.2.2.2.1, r95.2.2.2.2.1, r95.2.2.2.2.2, h96, A97, k98) ⟨h, o99⟩ sb rfl))))))))
def parse_parser_fields.l0 : Nat → (Rc : PE) → (a0_0 : List (Int × ByteArray × Int × Int)) → (J7 : (List Tree) → Int → Option (PR (List Tree × Int))) → (l10 : List Tree) → (x15 : Int) → Option (PR (List Tree × Int))
 | 0, _, _, _, _, _ => none
 | m16 + 1, Rc, a0_0, J7, l10, x15 => (parse_parser_is.f m16 a0_0 x15 (⟨#[125]⟩ : ByteArray)).bind fun r17 => cond (!r17) (PR.bind (Rc.parse_parser_field a0_0 x15) fun r19 => (apd 64 l10 [(Tree.mk r19.1 r19.2.1 r19.2.2.1 r19.2.2.2.1 r19.2.2.2.2.1)]).bind fun l28 => joinF (fun (x33 : Bool) (x34 : Int) => cond x33 (J7 l28 x34) (parse_parser_fields.l0 m16 Rc a0_0 J7 l28 x34)) (fun J35 => (parse_parser_got.f m16 a0_0 r19.2.2.2.2.2 (⟨#[44]⟩ : ByteArray)).bind fun r37 => cond (!r37.1) ((parse_parser_got.f m16 a0_0 r37.2 (⟨#[59]⟩ : ByteArray)).bind fun r39 => J35 (!r39.1) r39.2) (J35 false r37.2))) (J7 l10 x15)
def parse_parser_fields.g (Rc : PE) (k : Nat) (a0_0 : List (Int × ByteArray × Int × Int)) (a0_1 : Int) : Option (PR (List Tree × Int)) := joinF (fun (l1 : List Tree) (x6 : Int) => PR.bind (parse_parser_want.f k a0_0 x6 (⟨#[125]⟩ : ByteArray)) fun r8 => some (PR.ok (l1, r8))) (fun J7 => parse_parser_fields.l0 k Rc a0_0 J7 ([]) a0_1)
set_option maxRecDepth 100000 in
theorem parse_parser_fields.okg {Rc : PE} (hR : Rc.Good) {k : Nat} {a0_0 : List (Int × ByteArray × Int × Int)} {a0_1 : Int} {b0 : Nat} {H_a0_0 : Frag} {A_a0_0 : Option Addr} {c_a0_0 : Nat} {r : PR (List Tree × Int)} (h : parse_parser_fields.g Rc k a0_0 a0_1 = some r) (R_a0_0 : RdT e76 4 H_a0_0 (.slice A_a0_0 a0_0.length c_a0_0) a0_0) : Ct Tryz.prog 103 #[pt b0] [bk b0 #[.slice A_a0_0 a0_0.length c_a0_0, iv a0_1] 73] [H_a0_0] (PR.Post failV (fun (r : List Tree × Int) e l1 => ∃ (H0_ : Frag) (A0_ : Option Addr) (c0_ : Nat), OwnR (rTree 36) 36 H0_ (.slice A0_ r.1.length c0_) r.1 ∧ e = .returned (.slice A0_ r.1.length c0_) ∧ l1 = [H0_, bk b0 #[.slice A_a0_0 a0_0.length c_a0_0, iv r.2] 73]) r) := by
 refine ct_enter (args := [pt b0]) Tryz.func103 rfl (Nat.le_of_ble_eq_true rfl) ?_
 intro A X hh_
 obtain ⟨hm_H_a0_0, _⟩ := hh_
 unfold parse_parser_fields.g at h
 refine K.eq (env' := [(0, pt b0)]) (l' := bk b0 #[.slice A_a0_0 a0_0.length c_a0_0, iv a0_1] 73 :: X) rfl rfl (ksr (kx 1 (kns' (kx 1 (knt ?_)))))
 obtain ⟨J7, hJ7, h⟩ := joinSplit h
 refine k_cut (τ := (List Tree) × Int × Frag × (Option Addr) × Nat) (fun t => [(0, pt b0), (3, .slice t.2.2.2.1 t.1.length t.2.2.2.2)]) (fun t => bk b0 #[.slice A_a0_0 a0_0.length c_a0_0, iv t.2.1] 73 :: t.2.2.1 :: X) (fun t => J7 t.1 t.2.1 = some r ∧ OwnR (rTree 36) 36 t.2.2.1 (.slice t.2.2.2.1 t.1.length t.2.2.2.2) t.1) ?_ ?_
 ·rintro ⟨l1, x6, h2, A3, k4⟩ ⟨h, o5⟩
  subst hJ7
  refine ksr (kx 1 (kcp h (fun _ hr8 => (parse_parser_want.ok (b0 := b0) hr8 R_a0_0)) rfl ⟨(.tail _ hm_H_a0_0), trivial⟩ (fun _ e => k_then_panic (kpn 1 e rfl)) fun r8 h => ?_))
  rintro _ _ ⟨rfl, rfl⟩
  refine nx_ret1 (kns' (kx 2 (knt (k_ret ?_))))
  obtain rfl := Option.some.inj h
  exact kdv (.slice A3 l1.length k4) [h2, bk b0 #[.slice A_a0_0 a0_0.length c_a0_0, iv r8] 73] (K.mv1 (k_end (PR.okI ⟨h2, A3, k4, o5, rfl, rfl⟩)))
 ·skip
  refine k_block (k_none (K.mv1 (k_loop (τ := (List Tree) × Int × Frag × (Option Addr) × Nat) (fun t => [(0, pt b0), (3, .slice t.2.2.2.1 t.1.length t.2.2.2.2)]) (fun t => bk b0 #[.slice A_a0_0 a0_0.length c_a0_0, iv t.2.1] 73 :: t.2.2.1 :: X) (fun m t => parse_parser_fields.l0 m Rc a0_0 J7 t.1 t.2.1 = some r ∧ OwnR (rTree 36) 36 t.2.2.1 (.slice t.2.2.2.1 t.1.length t.2.2.2.2) t.1) k ([], a0_1, none_, none, 0) ⟨h, (OwnR.nil (rTree 36) 36 none_)⟩ sb rfl ?_)))
  clear h
  rintro m16 ⟨l10, x15, h11, A12, k13⟩ ⟨h, o14⟩
  cases m16 with
  | zero => simp [parse_parser_fields.l0] at h
  | succ m16 =>
   simp only [parse_parser_fields.l0] at h
   refine k_seq (ksr (kx 1 (bnd h fun r17 hr17 h => (kc1 (parse_parser_is.ok (b0 := b0) hr17 R_a0_0) rfl ⟨(.tail _ hm_H_a0_0), trivial⟩ (kx 1 (knt ?_))))))
   refine kcn h (fun h => ?_) fun h => ?_
   ·refine k_skip (k_then (k_block (ksr (kx 2 (kcp h (fun _ hr19 => (hR.parse_parser_field (b0 := b0) hr19 R_a0_0)) rfl ⟨(.tail _ hm_H_a0_0), trivial⟩ (fun _ e => k_then_panic (k_blk_panic (k_then_panic (k_blk_panic (k_then_panic (kpn 1 e rfl)))))) fun r19 h => ?_)))))
    rintro _ _ ⟨h20, A21, k22, o23, rfl, rfl⟩
    refine nx_ret2 (kns #[iv r19.1, sv r19.2.1, iv r19.2.2.1, iv r19.2.2.2.1, .slice A21 r19.2.2.2.2.1.length k22] 36 1 fun b25 => (K.mv1 (K.mv1 (k_row (T := 36) (n := 1) (xs := [(Tree.mk r19.1 r19.2.1 r19.2.2.1 r19.2.2.2.1 r19.2.2.2.2.1)]) (RowI.one (treeO_mk (k := r19.1) (t := r19.2.1) (n := r19.2.2.1) (a := r19.2.2.2.1) 36 o23)) rfl rfl (Nat.le_of_ble_eq_true rfl) fun h26 o27 => (K.mv2 (bnd h fun l28 hl28 h => (kapR rfl ety34 rfl hl28 o14 o27 fun h29 A30 k31 o32 => (kx 1 (knt ?_)))))))))
    obtain ⟨J35, hJ35, h⟩ := joinSplit h
    refine k_cut (τ := Bool × Int) (fun t => [(0, pt b0), (3, .slice A30 l28.length k31), (19, bv t.1)]) (fun t => h29 :: bk b0 #[.slice A_a0_0 a0_0.length c_a0_0, iv t.2] 73 :: X) (fun t => J35 t.1 t.2 = some r) ?_ ?_
    ·rintro ⟨x33, x34⟩ h
     subst hJ35
     refine kcn h (fun h => ?_) fun h => ?_
     ·exact k_exit (k_there rfl (k_then_exit (k_here (k_then (K.mv1 (k_meet (l28, x34, h29, A30, k31) ⟨h, o32⟩ sb rfl))))))
     ·exact k_skip (k_blk (k_then (K.mv1 (k_again m16 (l28, x34, h29, A30, k31) (Nat.lt_succ_self _) ⟨h, o32⟩ sb rfl))))
    ·skip
     refine k_region (kx 1 (K.mv1 (bnd h fun r37 hr37 h => (kc1 (parse_parser_got.ok (b0 := b0) hr37 R_a0_0) rfl ⟨(.tail _ hm_H_a0_0), trivial⟩ (kx 2 ?_)))))
     refine kcs 15 h (fun h => ?_) fun h => ?_
     ·exact kx 1 (bnd h fun r39 hr39 h => (kc1 (parse_parser_got.ok (b0 := b0) hr39 R_a0_0) rfl ⟨(.tail _ hm_H_a0_0), trivial⟩ (kx 2 (knt (K.mv1 (k_meet (!r39.1, r39.2) h sb rfl))))))
     ·exact kx 4 (knt (K.mv1 (k_meet (false, r37.2) h sb rfl)))
   ·exact k_exit (k_then_exit (k_then_exit (k_here (k_then (k_meet (l10, x15, h11, A12, k13) ⟨h, o14⟩ sb rfl)))))
def parse_parser_field.g (Rc : PE) (k : Nat) (a0_0 : List (Int × ByteArray × Int × Int)) (a0_1 : Int) : Option (PR (Int × ByteArray × Int × Int × List Tree × Int)) := (parse_parser_now.f k a0_0 a0_1).bind fun r2 => joinF (fun (x5 : Int) (l6 : List Tree) (x11 : Int) => PR.bind (Rc.parse_parser_exp a0_0 x11 0) fun r13 => (apd 64 l6 [(Tree.mk r13.1 r13.2.1 r13.2.2.1 r13.2.2.2.1 r13.2.2.2.2.1)]).bind fun l22 => some (PR.ok (x5, (⟨#[]⟩ : ByteArray), 0, r2.2.2.2, l22, r13.2.2.2.2.2))) (fun J12 => (parse_parser_got.f k a0_0 a0_1 (⟨#[91]⟩ : ByteArray)).bind fun r27 => cond r27.1 (PR.bind (Rc.parse_parser_exp a0_0 r27.2 0) fun r29 => PR.bind (parse_parser_want.f k a0_0 r29.2.2.2.2.2 (⟨#[93]⟩ : ByteArray)) fun r36 => PR.bind (parse_parser_want.f k a0_0 r36 (⟨#[61]⟩ : ByteArray)) fun r38 => J12 14 ([(Tree.mk r29.1 r29.2.1 r29.2.2.1 r29.2.2.2.1 r29.2.2.2.2.1)]) r38) ((cond (r2.1 == 1) ((lIdx a0_0 (IntKind.i64.wrap (r27.2 + 1))).bind fun x57 => cond (x57.1 == 5) ((lIdx a0_0 (IntKind.i64.wrap (r27.2 + 1))).bind fun x65 => some (x65.2.1.toList == (⟨#[61]⟩ : ByteArray).toList)) (some false)) (some false) : Option Bool).bind fun q42 => cond q42 (PR.bind (parse_parser_name.f k a0_0 r27.2) fun r44 => PR.bind (parse_parser_want.f k a0_0 r44.2.2.2.2.2 (⟨#[61]⟩ : ByteArray)) fun r52 => J12 14 ([(Tree.mk 5 r44.2.1 r44.2.2.1 r44.2.2.2.1 r44.2.2.2.2.1)]) r52) (J12 13 ([]) r27.2)))
set_option maxRecDepth 100000 in
theorem parse_parser_field.okg {Rc : PE} (hR : Rc.Good) {k : Nat} {a0_0 : List (Int × ByteArray × Int × Int)} {a0_1 : Int} {b0 : Nat} {H_a0_0 : Frag} {A_a0_0 : Option Addr} {c_a0_0 : Nat} {r : PR (Int × ByteArray × Int × Int × List Tree × Int)} (h : parse_parser_field.g Rc k a0_0 a0_1 = some r) (R_a0_0 : RdT e76 4 H_a0_0 (.slice A_a0_0 a0_0.length c_a0_0) a0_0) : Ct Tryz.prog 109 #[pt b0] [bk b0 #[.slice A_a0_0 a0_0.length c_a0_0, iv a0_1] 73] [H_a0_0] (PR.Post failV (fun (r : Int × ByteArray × Int × Int × List Tree × Int) e l1 => ∃ (H0_ : Frag) (A0_ : Option Addr) (c0_ : Nat), OwnR (rTree 36) 36 H0_ (.slice A0_ r.2.2.2.2.1.length c0_) r.2.2.2.2.1 ∧ e = .returned (.agg #[iv r.1, sv r.2.1, iv r.2.2.1, iv r.2.2.2.1, .slice A0_ r.2.2.2.2.1.length c0_]) ∧ l1 = [H0_, bk b0 #[.slice A_a0_0 a0_0.length c_a0_0, iv r.2.2.2.2.2] 73]) r) := by
 refine ct_enter (args := [pt b0]) Tryz.func109 rfl (Nat.le_of_ble_eq_true rfl) ?_
 intro A X hh_
 obtain ⟨hm_H_a0_0, _⟩ := hh_
 unfold parse_parser_field.g at h
 refine K.eq (env' := [(0, pt b0)]) (l' := bk b0 #[.slice A_a0_0 a0_0.length c_a0_0, iv a0_1] 73 :: X) rfl rfl (ksr (knp #[iv 0, sv noS, iv 0, iv 0, nS] 36 fun b1 => (kns' (kx 1 (K.mv1 (bnd h fun r2 hr2 h => (kc1 (parse_parser_now.ok (b0 := b0) hr2 R_a0_0) rfl ⟨(.tail _ hm_H_a0_0), trivial⟩ (knp #[iv 0, sv noS, iv 0, iv 0] 76 fun b3 => (kst 0 4 #[iv r2.1, sv r2.2.1, iv r2.2.2.1, iv r2.2.2.2] (kns' ?_))))))))))
 refine kx 1 (kld 0 3 rfl (kx 1 (knp #[iv 0, sv noS, iv 0, iv 0, nS] 36 fun b4 => (kst 0 5 #[iv 14, sv noS, iv 0, iv r2.2.2.2, nS] (knt ?_)))))
 obtain ⟨J12, hJ12, h⟩ := joinSplit h
 refine k_cut (τ := Int × (List Tree) × Int × Frag × (Option Addr) × Nat) (fun t => [(0, pt b0), (2, pt b1), (4, pt b4)]) (fun t => bk b4 #[iv t.1, sv noS, iv 0, iv r2.2.2.2, .slice t.2.2.2.2.1 t.2.1.length t.2.2.2.2.2] 36 :: bk b0 #[.slice A_a0_0 a0_0.length c_a0_0, iv t.2.2.1] 73 :: bk b1 #[iv 0, sv noS, iv 0, iv 0, nS] 36 :: t.2.2.2.1 :: X) (fun t => J12 t.1 t.2.1 t.2.2.1 = some r ∧ OwnR (rTree 36) 36 t.2.2.2.1 (.slice t.2.2.2.2.1 t.2.1.length t.2.2.2.2.2) t.2.1) ?_ ?_
 ·rintro ⟨x5, l6, x11, h7, A8, k9⟩ ⟨h, o10⟩
  subst hJ12
  refine k_seq (kpr [(0, 0), (1, 3), (2, 0), (3, 1), (4, 1)] [0] (kpx 1 (kpd 0 4 rfl (kpx 1 (kpt (K.mv1 (ocp h (fun _ hr13 => (hR.parse_parser_exp (b0 := b0) hr13 R_a0_0)) rfl ⟨(t3 hm_H_a0_0), trivial⟩ (fun _ e => k_then_panic (kpn 3 e rfl)) fun r13 h => ?_)))))))
  rintro _ _ ⟨h14, A15, k16, o17, rfl, rfl⟩
  refine nx_ret2 (kan [2] rfl (kpt (ons #[iv r13.1, sv r13.2.1, iv r13.2.2.1, iv r13.2.2.2.1, .slice A15 r13.2.2.2.2.1.length k16] 36 1 fun b19 => (kan [3] rfl (kpz (K.mv1 (K.mv1 (k_row (T := 36) (n := 1) (xs := [(Tree.mk r13.1 r13.2.1 r13.2.2.1 r13.2.2.2.1 r13.2.2.2.2.1)]) (RowI.one (treeO_mk (k := r13.1) (t := r13.2.1) (n := r13.2.2.1) (a := r13.2.2.2.1) 36 o17)) rfl rfl (Nat.le_of_ble_eq_true rfl) fun h20 o21 => (K.mv4 (bnd h fun l22 hl22 h => ?_))))))))))
  refine kapR rfl ety34 rfl hl22 o10 o21 fun h23 A24 k25 o26 => (kx 1 (K.mv2 (kst 4 1 #[iv x5, sv noS, iv 0, iv r2.2.2.2, .slice A24 l22.length k25] (kns' (kla 0 0 5 rfl (K.drop (K.mv2 (kst 0 5 #[iv x5, sv noS, iv 0, iv r2.2.2.2, .slice A24 l22.length k25] (knt (k_ret ?_))))))))))
  obtain rfl := Option.some.inj h
  exact kda 0 5 rfl [h23, bk b0 #[.slice A_a0_0 a0_0.length c_a0_0, iv r13.2.2.2.2.2] 73] (K.drop (k_end (PR.okI ⟨h23, A24, k25, o26, rfl, rfl⟩)))
 ·skip
  refine k_block (ksr (kx 1 (K.mv2 (bnd h fun r27 hr27 h => (kc1 (parse_parser_got.ok (b0 := b0) hr27 R_a0_0) rfl ⟨(t3 hm_H_a0_0), trivial⟩ (kx 1 (knt ?_)))))))
  refine kcn h (fun h => ?_) fun h => ?_
  ·refine ksr (kx 1 (kcp h (fun _ hr29 => (hR.parse_parser_exp (b0 := b0) hr29 R_a0_0)) rfl ⟨(t3 hm_H_a0_0), trivial⟩ (fun _ e => k_then_panic (k_blk_panic (k_then_panic (kpn 3 e rfl)))) fun r29 h => ?_))
   rintro _ _ ⟨h30, A31, k32, o33, rfl, rfl⟩
   refine nx_ret2 (K.mv3 (K.drop (kns #[iv r29.1, sv r29.2.1, iv r29.2.2.1, iv r29.2.2.2.1, .slice A31 r29.2.2.2.2.1.length k32] 36 1 fun b35 => (kx 1 (K.mv3 (kst 4 1 #[iv 14, sv noS, iv 0, iv r2.2.2.2, .slice (some ⟨b35, 0, none⟩) 1 1] (kns' (kx 1 (K.mv3 (kcp h (fun _ hr36 => (parse_parser_want.ok (b0 := b0) hr36 R_a0_0)) rfl ⟨(t4 hm_H_a0_0), trivial⟩ (fun _ e => k_then_panic (k_blk_panic (k_then_panic (kpn 4 e rfl)))) fun r36 h => ?_))))))))))
   rintro _ _ ⟨rfl, rfl⟩
   refine nx_ret1 (knr (kx 1 (kcp h (fun _ hr38 => (parse_parser_want.ok (b0 := b0) hr38 R_a0_0)) rfl ⟨(t4 hm_H_a0_0), trivial⟩ (fun _ e => k_blk_panic (k_then_panic (kpn 4 e rfl))) fun r38 h => ?_)))
   rintro _ _ ⟨rfl, rfl⟩
   exact nx_ret1 (knl (k_blk (k_then (K.mv3 (K.mv3 (k_row (T := 36) (n := 1) (xs := [(Tree.mk r29.1 r29.2.1 r29.2.2.1 r29.2.2.2.1 r29.2.2.2.2.1)]) (RowI.one (treeO_mk (k := r29.1) (t := r29.2.1) (n := r29.2.2.1) (a := r29.2.2.2.1) 36 o33)) rfl rfl (Nat.le_of_ble_eq_true rfl) fun h40 o41 => (K.mv3 (K.mv2 (K.mv3 (k_meet (14, [(Tree.mk r29.1 r29.2.1 r29.2.2.1 r29.2.2.2.1 r29.2.2.2.2.1)], r38, h40, (some ⟨b35, 0, none⟩), 1) ⟨h, o41⟩ sb rfl))))))))))
  ·refine bnd h fun q42 hq42 h => ?_
   refine k_cut1 [(0, pt b0), (2, pt b1), (4, pt b4), (23, bv q42)] (bk b0 #[.slice A_a0_0 a0_0.length c_a0_0, iv r27.2] 73 :: bk b4 #[iv 14, sv noS, iv 0, iv r2.2.2.2, nS] 36 :: bk b1 #[iv 0, sv noS, iv 0, iv 0, nS] 36 :: X) ?_ ?_
   ·clear hq42
    refine kcn h (fun h => ?_) fun h => ?_
    ·refine ksr (kx 1 (kcp h (fun _ hr44 => (parse_parser_name.ok (b0 := b0) hr44 R_a0_0)) rfl ⟨(t2 hm_H_a0_0), trivial⟩ (fun _ e => k_then_panic (k_blk_panic (k_then_panic (kpn 2 e rfl)))) fun r44 h => ?_))
     rintro _ _ ⟨h45, A46, k47, o48, rfl, rfl⟩
     refine nx_ret2 (knp #[iv 0, sv noS, iv 0, iv 0, nS] 36 fun b50 => (kst 0 5 #[iv r44.1, sv r44.2.1, iv r44.2.2.1, iv r44.2.2.2.1, .slice A46 r44.2.2.2.2.1.length k47] (kns' (kx 1 (kst 0 1 #[iv 5, sv r44.2.1, iv r44.2.2.1, iv r44.2.2.2.1, .slice A46 r44.2.2.2.2.1.length k47] (kns' (kla 0 0 5 rfl (K.drop (kns #[iv 5, sv r44.2.1, iv r44.2.2.1, iv r44.2.2.2.1, .slice A46 r44.2.2.2.2.1.length k47] 36 1 fun b51 => (kx 1 ?_))))))))))
     refine K.mv3 (kst 4 1 #[iv 14, sv noS, iv 0, iv r2.2.2.2, .slice (some ⟨b51, 0, none⟩) 1 1] (knr (kx 1 (K.mv3 (kcp h (fun _ hr52 => (parse_parser_want.ok (b0 := b0) hr52 R_a0_0)) rfl ⟨(t4 hm_H_a0_0), trivial⟩ (fun _ e => k_blk_panic (k_then_panic (kpn 4 e rfl))) fun r52 h => ?_)))))
     rintro _ _ ⟨rfl, rfl⟩
     exact nx_ret1 (knl (k_blk (k_then (K.mv3 (K.mv3 (k_row (T := 36) (n := 1) (xs := [(Tree.mk 5 r44.2.1 r44.2.2.1 r44.2.2.2.1 r44.2.2.2.2.1)]) (RowI.one (treeO_mk (k := 5) (t := r44.2.1) (n := r44.2.2.1) (a := r44.2.2.2.1) 36 o48)) rfl rfl (Nat.le_of_ble_eq_true rfl) fun h54 o55 => (K.mv3 (K.mv2 (K.mv3 (k_meet (14, [(Tree.mk 5 r44.2.1 r44.2.2.1 r44.2.2.2.1 r44.2.2.2.2.1)], r52, h54, (some ⟨b51, 0, none⟩), 1) ⟨h, o55⟩ sb rfl))))))))))
    ·refine k_region (kx 1 (K.mv1 (kst 0 1 #[iv 13, sv noS, iv 0, iv r2.2.2.2, nS] (knl (k_blk (k_then (k_none (K.mv3 (K.mv3 (K.mv3 ?_))))))))))
     exact k_meet (13, [], r27.2, none_, none, 0) ⟨h, (OwnR.nil (rTree 36) 36 none_)⟩ sb rfl
   ·have h := hq42
    clear hq42
    refine kprs [(0, 0), (1, 3), (2, 0), (3, 0), (4, 0), (5, 0), (6, 0), (7, 3), (8, 0), (9, 0), (10, 0), (11, 3), (12, 0), (13, 0), (14, 0), (15, 3), (16, 0), (17, 0), (18, 0), (19, 0), (20, 0), (21, 0), (22, 3), (23, 0), (24, 0), (25, 0), (26, 3), (27, 0)] [bk b0 #[.slice A_a0_0 a0_0.length c_a0_0, iv r27.2] 73, bk b3 #[iv r2.1, sv r2.2.1, iv r2.2.2.1, iv r2.2.2.2] 76, H_a0_0] (fun w h_ => ⟨h_.sat.on _ (.head _), h_.sat.on _ (.tail _ (.tail _ (.head _))), h_.sat.on _ (t4 hm_H_a0_0), trivial⟩) (kpx 1 (kpd 1 0 rfl (kpx 2 ?_)))
    refine kcs 27 h (fun h => ?_) fun h => ?_
    ·refine kpx 3 (kpd 0 0 rfl (kpx 3 (kpd 0 1 rfl (kpx 1 (bnd h fun x57 hx57 h => (kpelP (T := 76) (kd := .i64) e76_ok rfl hx57 R_a0_0 fun p58 e59 y60 => ?_))))))
     have e59 : Elem _ p58 [iv x57.1, sv x57.2.1, iv x57.2.2.1, iv x57.2.2.2] := e59
     refine kpefP (off := 0) rfl e59 y60 fun p61 e62 y63 => ?_
     have e62 : Elem _ p61 [iv x57.1, sv x57.2.1, iv x57.2.2.1, iv x57.2.2.2] := e62
     refine kp_eload1 rfl (by kernel_rfl) (by kernel_rfl) (by kernel_rfl) (by kernel_rfl) e62 (fun w h_ => h_.mem _ (.tail _ (.tail _ (.head _)))) (kpx 3 ?_)
     refine kcs 42 h (fun h => ?_) fun h => ?_
     ·refine kpx 3 (kpd 0 0 rfl (kpx 3 (kpd 0 1 rfl (kpx 1 (kpz (bnd h fun x65 hx65 h => (kelP (T := 76) (kd := .i64) e76_ok rfl hx65 R_a0_0 fun p66 e67 y68 => ?_)))))))
      have e67 : Elem _ p66 [iv x65.1, sv x65.2.1, iv x65.2.2.1, iv x65.2.2.2] := e67
      refine K.mv2 (K.drop (kefP (off := 1) rfl e67 y68 fun p69 e70 y71 => ?_))
      have e70 : Elem _ p69 [sv x65.2.1, iv x65.2.2.1, iv x65.2.2.2] := e70
      exact kl_eload1 rfl (by kernel_rfl) (by kernel_rfl) (by kernel_rfl) (by kernel_rfl) e70 (t3 hm_H_a0_0) (kx 3 (knt (k_meet1 ⟨gr, gr, gr, gb (Option.some.inj h), trivial⟩)))
     ·exact kpx 3 (kp_skip3 (by kernel_rfl) (by kernel_rfl) (kpx 3 (kp_skip3 (by kernel_rfl) (by kernel_rfl) (kpx 1 (kpz (kx 6 (knt (K.mv2 (K.drop (k_meet1 ⟨gr, gr, gr, gb (Option.some.inj h), trivial⟩))))))))))
    ·refine kpx 3 (kp_skip3 (by kernel_rfl) (by kernel_rfl) (kpx 3 (kp_skip3 (by kernel_rfl) (by kernel_rfl) (kpx 3 (kp_skip3 (by kernel_rfl) (by kernel_rfl) (kpx 6 (kp_skip3 (by kernel_rfl) (by kernel_rfl) (kpx 3 (kp_skip3 (by kernel_rfl) (by kernel_rfl) (kpx 1 ?_))))))))))
     exact kpz (kx 6 (knt (K.mv2 (K.drop (k_meet1 ⟨gr, gr, gr, gb (Option.some.inj h), trivial⟩)))))
def parse_parser_exps.l0 : Nat → (Rc : PE) → (a0_0 : List (Int × ByteArray × Int × Int)) → (J14 : (List Tree) → Int → Option (PR (List Tree × Int))) → (l15 : List Tree) → (x20 : Int) → Option (PR (List Tree × Int))
 | 0, _, _, _, _, _ => none
 | m21 + 1, Rc, a0_0, J14, l15, x20 => (parse_parser_got.f m21 a0_0 x20 (⟨#[44]⟩ : ByteArray)).bind fun r24 => cond r24.1 (PR.bind (Rc.parse_parser_exp a0_0 r24.2 0) fun r26 => (apd 64 l15 [(Tree.mk r26.1 r26.2.1 r26.2.2.1 r26.2.2.2.1 r26.2.2.2.2.1)]).bind fun l35 => parse_parser_exps.l0 m21 Rc a0_0 J14 l35 r26.2.2.2.2.2) (J14 l15 r24.2)
def parse_parser_exps.g (Rc : PE) (k : Nat) (a0_0 : List (Int × ByteArray × Int × Int)) (a0_1 : Int) : Option (PR (List Tree × Int)) := PR.bind (Rc.parse_parser_exp a0_0 a0_1 0) fun r1 => joinF (fun (l8 : List Tree) (x13 : Int) => some (PR.ok (l8, x13))) (fun J14 => parse_parser_exps.l0 k Rc a0_0 J14 ([(Tree.mk r1.1 r1.2.1 r1.2.2.1 r1.2.2.2.1 r1.2.2.2.2.1)]) r1.2.2.2.2.2)
set_option maxRecDepth 100000 in
theorem parse_parser_exps.okg {Rc : PE} (hR : Rc.Good) {k : Nat} {a0_0 : List (Int × ByteArray × Int × Int)} {a0_1 : Int} {b0 : Nat} {H_a0_0 : Frag} {A_a0_0 : Option Addr} {c_a0_0 : Nat} {r : PR (List Tree × Int)} (h : parse_parser_exps.g Rc k a0_0 a0_1 = some r) (R_a0_0 : RdT e76 4 H_a0_0 (.slice A_a0_0 a0_0.length c_a0_0) a0_0) : Ct Tryz.prog 47 #[pt b0] [bk b0 #[.slice A_a0_0 a0_0.length c_a0_0, iv a0_1] 73] [H_a0_0] (PR.Post failV (fun (r : List Tree × Int) e l1 => ∃ (H0_ : Frag) (A0_ : Option Addr) (c0_ : Nat), OwnR (rTree 36) 36 H0_ (.slice A0_ r.1.length c0_) r.1 ∧ e = .returned (.slice A0_ r.1.length c0_) ∧ l1 = [H0_, bk b0 #[.slice A_a0_0 a0_0.length c_a0_0, iv r.2] 73]) r) := by
 refine ct_enter (args := [pt b0]) Tryz.func47 rfl (Nat.le_of_ble_eq_true rfl) ?_
 intro A X hh_
 obtain ⟨hm_H_a0_0, _⟩ := hh_
 unfold parse_parser_exps.g at h
 refine K.eq (env' := [(0, pt b0)]) (l' := bk b0 #[.slice A_a0_0 a0_0.length c_a0_0, iv a0_1] 73 :: X) rfl rfl (ksr (kx 1 (kns' (kx 1 (kcp h (fun _ hr1 => (hR.parse_parser_exp (b0 := b0) hr1 R_a0_0)) rfl ⟨hm_H_a0_0, trivial⟩ (fun _ e => k_then_panic (kpn 0 e rfl)) fun r1 h => ?_)))))
 rintro _ _ ⟨h2, A3, k4, o5, rfl, rfl⟩
 refine nx_ret2 (kns #[iv r1.1, sv r1.2.1, iv r1.2.2.1, iv r1.2.2.2.1, .slice A3 r1.2.2.2.2.1.length k4] 36 1 fun b7 => (kx 1 (knt ?_)))
 obtain ⟨J14, hJ14, h⟩ := joinSplit h
 refine k_cut (τ := (List Tree) × Int × Frag × (Option Addr) × Nat) (fun t => [(3, .slice t.2.2.2.1 t.1.length t.2.2.2.2)]) (fun t => bk b0 #[.slice A_a0_0 a0_0.length c_a0_0, iv t.2.1] 73 :: t.2.2.1 :: X) (fun t => J14 t.1 t.2.1 = some r ∧ OwnR (rTree 36) 36 t.2.2.1 (.slice t.2.2.2.1 t.1.length t.2.2.2.2) t.1) ?_ ?_
 ·rintro ⟨l8, x13, h9, A10, k11⟩ ⟨h, o12⟩
  subst hJ14
  refine ksr (kx 2 (knt (k_ret ?_)))
  obtain rfl := Option.some.inj h
  exact kdv (.slice A10 l8.length k11) [h9, bk b0 #[.slice A_a0_0 a0_0.length c_a0_0, iv x13] 73] (K.mv1 (k_end (PR.okI ⟨h9, A10, k11, o12, rfl, rfl⟩)))
 ·skip
  refine k_block (K.mv1 (K.mv1 (k_row (T := 36) (n := 1) (xs := [(Tree.mk r1.1 r1.2.1 r1.2.2.1 r1.2.2.2.1 r1.2.2.2.2.1)]) (RowI.one (treeO_mk (k := r1.1) (t := r1.2.1) (n := r1.2.2.1) (a := r1.2.2.2.1) 36 o5)) rfl rfl (Nat.le_of_ble_eq_true rfl) fun h22 o23 => (K.mv1 (k_loop (τ := (List Tree) × Int × Frag × (Option Addr) × Nat) (fun t => [(0, pt b0), (3, .slice t.2.2.2.1 t.1.length t.2.2.2.2)]) (fun t => bk b0 #[.slice A_a0_0 a0_0.length c_a0_0, iv t.2.1] 73 :: t.2.2.1 :: X) (fun m t => parse_parser_exps.l0 m Rc a0_0 J14 t.1 t.2.1 = some r ∧ OwnR (rTree 36) 36 t.2.2.1 (.slice t.2.2.2.1 t.1.length t.2.2.2.2) t.1) k ([(Tree.mk r1.1 r1.2.1 r1.2.2.1 r1.2.2.2.1 r1.2.2.2.2.1)], r1.2.2.2.2.2, h22, (some ⟨b7, 0, none⟩), 1) ⟨h, o23⟩ sb rfl ?_)))))
  clear h
  rintro m21 ⟨l15, x20, h16, A17, k18⟩ ⟨h, o19⟩
  cases m21 with
  | zero => simp [parse_parser_exps.l0] at h
  | succ m21 =>
   simp only [parse_parser_exps.l0] at h
   refine k_seq (ksr (kx 1 (bnd h fun r24 hr24 h => (kc1 (parse_parser_got.ok (b0 := b0) hr24 R_a0_0) rfl ⟨(.tail _ hm_H_a0_0), trivial⟩ (knt ?_)))))
   refine kcn h (fun h => ?_) fun h => ?_
   ·refine k_skip (k_then (k_block (k_region (kx 2 (kcp h (fun _ hr26 => (hR.parse_parser_exp (b0 := b0) hr26 R_a0_0)) rfl ⟨(.tail _ hm_H_a0_0), trivial⟩ (fun _ e => k_blk_panic (k_then_panic (k_blk_panic (k_then_panic (kpn 1 e rfl))))) fun r26 h => ?_)))))
    rintro _ _ ⟨h27, A28, k29, o30, rfl, rfl⟩
    refine nx_ret2 (kns #[iv r26.1, sv r26.2.1, iv r26.2.2.1, iv r26.2.2.2.1, .slice A28 r26.2.2.2.2.1.length k29] 36 1 fun b32 => (K.mv1 (K.mv1 (k_row (T := 36) (n := 1) (xs := [(Tree.mk r26.1 r26.2.1 r26.2.2.1 r26.2.2.2.1 r26.2.2.2.2.1)]) (RowI.one (treeO_mk (k := r26.1) (t := r26.2.1) (n := r26.2.2.1) (a := r26.2.2.2.1) 36 o30)) rfl rfl (Nat.le_of_ble_eq_true rfl) fun h33 o34 => (K.mv2 (bnd h fun l35 hl35 h => (kapR rfl ety34 rfl hl35 o19 o34 fun h36 A37 k38 o39 => (kx 1 (knl (k_blk ?_))))))))))
    exact k_then (K.mv1 (k_again m21 (l35, r26.2.2.2.2.2, h36, A37, k38) (Nat.lt_succ_self _) ⟨h, o39⟩ sb rfl))
   ·exact k_exit (k_then_exit (k_then_exit (k_here (k_then (k_meet (l15, r24.2, h16, A17, k18) ⟨h, o19⟩ sb rfl)))))
def PE.at : Nat → PE
 | 0 => ⟨fun _ _ _ => none, fun _ _ => none, fun _ _ => none, fun _ _ => none, fun _ _ => none, fun _ _ => none⟩
 | k + 1 => ⟨fun a0_0 a0_1 a1 => parse_parser_exp.g (PE.at k) k a0_0 a0_1 a1, fun a0_0 a0_1 => parse_parser_operand.g (PE.at k) k a0_0 a0_1, fun a0_0 a0_1 => parse_parser_suffixed.g (PE.at k) k a0_0 a0_1, fun a0_0 a0_1 => parse_parser_fields.g (PE.at k) k a0_0 a0_1, fun a0_0 a0_1 => parse_parser_field.g (PE.at k) k a0_0 a0_1, fun a0_0 a0_1 => parse_parser_exps.g (PE.at k) k a0_0 a0_1⟩
theorem PE.good : ∀ k, (PE.at k).Good
 | 0 => ⟨fun h _ => (by cases (show (none : Option _) = some _ from h)), fun h _ => (by cases (show (none : Option _) = some _ from h)), fun h _ => (by cases (show (none : Option _) = some _ from h)), fun h _ => (by cases (show (none : Option _) = some _ from h)), fun h _ => (by cases (show (none : Option _) = some _ from h)), fun h _ => (by cases (show (none : Option _) = some _ from h))⟩
 | k + 1 => ⟨fun h R_a0_0 => parse_parser_exp.okg (PE.good k) h R_a0_0, fun h R_a0_0 => parse_parser_operand.okg (PE.good k) h R_a0_0, fun h R_a0_0 => parse_parser_suffixed.okg (PE.good k) h R_a0_0, fun h R_a0_0 => parse_parser_fields.okg (PE.good k) h R_a0_0, fun h R_a0_0 => parse_parser_field.okg (PE.good k) h R_a0_0, fun h R_a0_0 => parse_parser_exps.okg (PE.good k) h R_a0_0⟩
def parse_parser_exp.f (k : Nat) (a0_0 : List (Int × ByteArray × Int × Int)) (a0_1 : Int) (a1 : Int) : Option (PR (Int × ByteArray × Int × Int × List Tree × Int)) := parse_parser_exp.g (PE.at k) k a0_0 a0_1 a1
theorem parse_parser_exp.ok {k : Nat} {a0_0 : List (Int × ByteArray × Int × Int)} {a0_1 : Int} {a1 : Int} {b0 : Nat} {H_a0_0 : Frag} {A_a0_0 : Option Addr} {c_a0_0 : Nat} {r : PR (Int × ByteArray × Int × Int × List Tree × Int)} (h : parse_parser_exp.f k a0_0 a0_1 a1 = some r) (R_a0_0 : RdT e76 4 H_a0_0 (.slice A_a0_0 a0_0.length c_a0_0) a0_0) : Ct Tryz.prog 66 #[pt b0, iv a1] [bk b0 #[.slice A_a0_0 a0_0.length c_a0_0, iv a0_1] 73] [H_a0_0] (PR.Post failV (fun (r : Int × ByteArray × Int × Int × List Tree × Int) e l1 => ∃ (H0_ : Frag) (A0_ : Option Addr) (c0_ : Nat), OwnR (rTree 36) 36 H0_ (.slice A0_ r.2.2.2.2.1.length c0_) r.2.2.2.2.1 ∧ e = .returned (.agg #[iv r.1, sv r.2.1, iv r.2.2.1, iv r.2.2.2.1, .slice A0_ r.2.2.2.2.1.length c0_]) ∧ l1 = [H0_, bk b0 #[.slice A_a0_0 a0_0.length c_a0_0, iv r.2.2.2.2.2] 73]) r) := parse_parser_exp.okg (PE.good k) h R_a0_0
def parse_parser_suffixed.f (k : Nat) (a0_0 : List (Int × ByteArray × Int × Int)) (a0_1 : Int) : Option (PR (Int × ByteArray × Int × Int × List Tree × Int)) := parse_parser_suffixed.g (PE.at k) k a0_0 a0_1
theorem parse_parser_suffixed.ok {k : Nat} {a0_0 : List (Int × ByteArray × Int × Int)} {a0_1 : Int} {b0 : Nat} {H_a0_0 : Frag} {A_a0_0 : Option Addr} {c_a0_0 : Nat} {r : PR (Int × ByteArray × Int × Int × List Tree × Int)} (h : parse_parser_suffixed.f k a0_0 a0_1 = some r) (R_a0_0 : RdT e76 4 H_a0_0 (.slice A_a0_0 a0_0.length c_a0_0) a0_0) : Ct Tryz.prog 91 #[pt b0] [bk b0 #[.slice A_a0_0 a0_0.length c_a0_0, iv a0_1] 73] [H_a0_0] (PR.Post failV (fun (r : Int × ByteArray × Int × Int × List Tree × Int) e l1 => ∃ (H0_ : Frag) (A0_ : Option Addr) (c0_ : Nat), OwnR (rTree 36) 36 H0_ (.slice A0_ r.2.2.2.2.1.length c0_) r.2.2.2.2.1 ∧ e = .returned (.agg #[iv r.1, sv r.2.1, iv r.2.2.1, iv r.2.2.2.1, .slice A0_ r.2.2.2.2.1.length c0_]) ∧ l1 = [H0_, bk b0 #[.slice A_a0_0 a0_0.length c_a0_0, iv r.2.2.2.2.2] 73]) r) := parse_parser_suffixed.okg (PE.good k) h R_a0_0
def parse_parser_exps.f (k : Nat) (a0_0 : List (Int × ByteArray × Int × Int)) (a0_1 : Int) : Option (PR (List Tree × Int)) := parse_parser_exps.g (PE.at k) k a0_0 a0_1
theorem parse_parser_exps.ok {k : Nat} {a0_0 : List (Int × ByteArray × Int × Int)} {a0_1 : Int} {b0 : Nat} {H_a0_0 : Frag} {A_a0_0 : Option Addr} {c_a0_0 : Nat} {r : PR (List Tree × Int)} (h : parse_parser_exps.f k a0_0 a0_1 = some r) (R_a0_0 : RdT e76 4 H_a0_0 (.slice A_a0_0 a0_0.length c_a0_0) a0_0) : Ct Tryz.prog 47 #[pt b0] [bk b0 #[.slice A_a0_0 a0_0.length c_a0_0, iv a0_1] 73] [H_a0_0] (PR.Post failV (fun (r : List Tree × Int) e l1 => ∃ (H0_ : Frag) (A0_ : Option Addr) (c0_ : Nat), OwnR (rTree 36) 36 H0_ (.slice A0_ r.1.length c0_) r.1 ∧ e = .returned (.slice A0_ r.1.length c0_) ∧ l1 = [H0_, bk b0 #[.slice A_a0_0 a0_0.length c_a0_0, iv r.2] 73]) r) := parse_parser_exps.okg (PE.good k) h R_a0_0
end Go.Proofs.YtdkgnlaneccioaaGreatDoor
namespace Go.Proofs.YtdkgnlaneccioaaGreatDoor
open Go Go.RowKit
structure PS where
 parse_parser_block : (a0_0 : List (Int × ByteArray × Int × Int)) → (a0_1 : Int) → (a1 : Bool) → Option (PR (Int × ByteArray × Int × Int × List Tree × Int))
 parse_parser_function : (a0_0 : List (Int × ByteArray × Int × Int)) → (a0_1 : Int) → Option (PR (Int × ByteArray × Int × Int × List Tree × Int))
 parse_parser_stat : (a0_0 : List (Int × ByteArray × Int × Int)) → (a0_1 : Int) → Option (PR (Int × ByteArray × Int × Int × List Tree × Int))
 parse_parser_branches : (a0_0 : List (Int × ByteArray × Int × Int)) → (a0_1 : Int) → Option (PR (List Tree × Int))
 parse_parser_loop : (a0_0 : List (Int × ByteArray × Int × Int)) → (a0_1 : Int) → (a1 : Int) → Option (PR (Int × ByteArray × Int × Int × List Tree × Int))
 parse_parser_plain : (a0_0 : List (Int × ByteArray × Int × Int)) → (a0_1 : Int) → Option (PR (Int × ByteArray × Int × Int × List Tree × Int))
structure PS.Good (R : PS) : Prop where
 parse_parser_block : ∀ {a0_0 : List (Int × ByteArray × Int × Int)} {a0_1 : Int} {a1 : Bool} {b0 : Nat} {H_a0_0 : Frag} {A_a0_0 : Option Addr} {c_a0_0 : Nat} {r : PR (Int × ByteArray × Int × Int × List Tree × Int)} (h : R.parse_parser_block a0_0 a0_1 a1 = some r) (R_a0_0 : RdT e76 4 H_a0_0 (.slice A_a0_0 a0_0.length c_a0_0) a0_0), Ct Tryz.prog 30 #[pt b0, bv a1] [bk b0 #[.slice A_a0_0 a0_0.length c_a0_0, iv a0_1] 73] [H_a0_0] (PR.Post failV (fun (r : Int × ByteArray × Int × Int × List Tree × Int) e l1 => ∃ (H0_ : Frag) (A0_ : Option Addr) (c0_ : Nat), OwnR (rTree 36) 36 H0_ (.slice A0_ r.2.2.2.2.1.length c0_) r.2.2.2.2.1 ∧ e = .returned (.agg #[iv r.1, sv r.2.1, iv r.2.2.1, iv r.2.2.2.1, .slice A0_ r.2.2.2.2.1.length c0_]) ∧ l1 = [H0_, bk b0 #[.slice A_a0_0 a0_0.length c_a0_0, iv r.2.2.2.2.2] 73]) r)
 parse_parser_function : ∀ {a0_0 : List (Int × ByteArray × Int × Int)} {a0_1 : Int} {b0 : Nat} {H_a0_0 : Frag} {A_a0_0 : Option Addr} {c_a0_0 : Nat} {r : PR (Int × ByteArray × Int × Int × List Tree × Int)} (h : R.parse_parser_function a0_0 a0_1 = some r) (R_a0_0 : RdT e76 4 H_a0_0 (.slice A_a0_0 a0_0.length c_a0_0) a0_0), Ct Tryz.prog 48 #[pt b0] [bk b0 #[.slice A_a0_0 a0_0.length c_a0_0, iv a0_1] 73] [H_a0_0] (PR.Post failV (fun (r : Int × ByteArray × Int × Int × List Tree × Int) e l1 => ∃ (H0_ : Frag) (A0_ : Option Addr) (c0_ : Nat), OwnR (rTree 36) 36 H0_ (.slice A0_ r.2.2.2.2.1.length c0_) r.2.2.2.2.1 ∧ e = .returned (.agg #[iv r.1, sv r.2.1, iv r.2.2.1, iv r.2.2.2.1, .slice A0_ r.2.2.2.2.1.length c0_]) ∧ l1 = [H0_, bk b0 #[.slice A_a0_0 a0_0.length c_a0_0, iv r.2.2.2.2.2] 73]) r)
 parse_parser_stat : ∀ {a0_0 : List (Int × ByteArray × Int × Int)} {a0_1 : Int} {b0 : Nat} {H_a0_0 : Frag} {A_a0_0 : Option Addr} {c_a0_0 : Nat} {r : PR (Int × ByteArray × Int × Int × List Tree × Int)} (h : R.parse_parser_stat a0_0 a0_1 = some r) (R_a0_0 : RdT e76 4 H_a0_0 (.slice A_a0_0 a0_0.length c_a0_0) a0_0), Ct Tryz.prog 49 #[pt b0] [bk b0 #[.slice A_a0_0 a0_0.length c_a0_0, iv a0_1] 73] [H_a0_0] (PR.Post failV (fun (r : Int × ByteArray × Int × Int × List Tree × Int) e l1 => ∃ (H0_ : Frag) (A0_ : Option Addr) (c0_ : Nat), OwnR (rTree 36) 36 H0_ (.slice A0_ r.2.2.2.2.1.length c0_) r.2.2.2.2.1 ∧ e = .returned (.agg #[iv r.1, sv r.2.1, iv r.2.2.1, iv r.2.2.2.1, .slice A0_ r.2.2.2.2.1.length c0_]) ∧ l1 = [H0_, bk b0 #[.slice A_a0_0 a0_0.length c_a0_0, iv r.2.2.2.2.2] 73]) r)
 parse_parser_branches : ∀ {a0_0 : List (Int × ByteArray × Int × Int)} {a0_1 : Int} {b0 : Nat} {H_a0_0 : Frag} {A_a0_0 : Option Addr} {c_a0_0 : Nat} {r : PR (List Tree × Int)} (h : R.parse_parser_branches a0_0 a0_1 = some r) (R_a0_0 : RdT e76 4 H_a0_0 (.slice A_a0_0 a0_0.length c_a0_0) a0_0), Ct Tryz.prog 70 #[pt b0] [bk b0 #[.slice A_a0_0 a0_0.length c_a0_0, iv a0_1] 73] [H_a0_0] (PR.Post failV (fun (r : List Tree × Int) e l1 => ∃ (H0_ : Frag) (A0_ : Option Addr) (c0_ : Nat), OwnR (rTree 36) 36 H0_ (.slice A0_ r.1.length c0_) r.1 ∧ e = .returned (.slice A0_ r.1.length c0_) ∧ l1 = [H0_, bk b0 #[.slice A_a0_0 a0_0.length c_a0_0, iv r.2] 73]) r)
 parse_parser_loop : ∀ {a0_0 : List (Int × ByteArray × Int × Int)} {a0_1 : Int} {a1 : Int} {b0 : Nat} {H_a0_0 : Frag} {A_a0_0 : Option Addr} {c_a0_0 : Nat} {r : PR (Int × ByteArray × Int × Int × List Tree × Int)} (h : R.parse_parser_loop a0_0 a0_1 a1 = some r) (R_a0_0 : RdT e76 4 H_a0_0 (.slice A_a0_0 a0_0.length c_a0_0) a0_0), Ct Tryz.prog 71 #[pt b0, iv a1] [bk b0 #[.slice A_a0_0 a0_0.length c_a0_0, iv a0_1] 73] [H_a0_0] (PR.Post failV (fun (r : Int × ByteArray × Int × Int × List Tree × Int) e l1 => ∃ (H0_ : Frag) (A0_ : Option Addr) (c0_ : Nat), OwnR (rTree 36) 36 H0_ (.slice A0_ r.2.2.2.2.1.length c0_) r.2.2.2.2.1 ∧ e = .returned (.agg #[iv r.1, sv r.2.1, iv r.2.2.1, iv r.2.2.2.1, .slice A0_ r.2.2.2.2.1.length c0_]) ∧ l1 = [H0_, bk b0 #[.slice A_a0_0 a0_0.length c_a0_0, iv r.2.2.2.2.2] 73]) r)
 parse_parser_plain : ∀ {a0_0 : List (Int × ByteArray × Int × Int)} {a0_1 : Int} {b0 : Nat} {H_a0_0 : Frag} {A_a0_0 : Option Addr} {c_a0_0 : Nat} {r : PR (Int × ByteArray × Int × Int × List Tree × Int)} (h : R.parse_parser_plain a0_0 a0_1 = some r) (R_a0_0 : RdT e76 4 H_a0_0 (.slice A_a0_0 a0_0.length c_a0_0) a0_0), Ct Tryz.prog 72 #[pt b0] [bk b0 #[.slice A_a0_0 a0_0.length c_a0_0, iv a0_1] 73] [H_a0_0] (PR.Post failV (fun (r : Int × ByteArray × Int × Int × List Tree × Int) e l1 => ∃ (H0_ : Frag) (A0_ : Option Addr) (c0_ : Nat), OwnR (rTree 36) 36 H0_ (.slice A0_ r.2.2.2.2.1.length c0_) r.2.2.2.2.1 ∧ e = .returned (.agg #[iv r.1, sv r.2.1, iv r.2.2.1, iv r.2.2.2.1, .slice A0_ r.2.2.2.2.1.length c0_]) ∧ l1 = [H0_, bk b0 #[.slice A_a0_0 a0_0.length c_a0_0, iv r.2.2.2.2.2] 73]) r)
def parse_parser_block.l0 : Nat → (Rc : PS) → (a0_0 : List (Int × ByteArray × Int × Int)) → (a1 : Bool) → (r2 : Int × ByteArray × Int × Int) → (l4 : List Tree) → (x9 : Int) → Option (PR (Int × ByteArray × Int × Int × List Tree × Int))
 | 0, _, _, _, _, _, _ => none
 | m10 + 1, Rc, a0_0, a1, r2, l4, x9 => (parse_parser_now.f m10 a0_0 x9).bind fun r11 => (parse_parser_got.f m10 a0_0 x9 (⟨#[59]⟩ : ByteArray)).bind fun r13 => cond r13.1 (parse_parser_block.l0 m10 Rc a0_0 a1 r2 l4 r13.2) ((parse_parser_got.f m10 a0_0 r13.2 (⟨#[114, 101, 116, 117, 114, 110]⟩ : ByteArray)).bind fun r15 => cond r15.1 (joinF (fun (l18 : List Tree) (x23 : Int) => (parse_parser_got.f m10 a0_0 x23 (⟨#[59]⟩ : ByteArray)).bind fun r25 => (apd 64 l4 [(Tree.mk 30 (⟨#[]⟩ : ByteArray) 0 r11.2.2.2 l18)]).bind fun l29 => some (PR.ok (20, (⟨#[]⟩ : ByteArray), 0, r2.2.2.2, l29, r25.2))) (fun J24 => ((parse_parser_ends.f m10 a0_0 r15.2).bind fun r42 => cond (!r42) ((parse_parser_is.f m10 a0_0 r15.2 (⟨#[59]⟩ : ByteArray)).bind fun r44 => some (!r44)) (some false) : Option Bool).bind fun q34 => cond q34 (PR.bind (parse_parser_exps.f m10 a0_0 r15.2) fun r36 => J24 r36.1 r36.2) (J24 ([]) r15.2))) ((cond a1 ((parse_parser_is.f m10 a0_0 r15.2 (⟨#[102, 117, 110, 99, 116, 105, 111, 110]⟩ : ByteArray)).bind fun r78 => some r78) (some false) : Option Bool).bind fun q45 => cond q45 (PR.bind (Rc.parse_parser_function a0_0 r15.2) fun r47 => (apd 64 l4 [(Tree.mk r47.1 r47.2.1 r47.2.2.1 r47.2.2.2.1 r47.2.2.2.2.1)]).bind fun l56 => parse_parser_block.l0 m10 Rc a0_0 a1 r2 l56 r47.2.2.2.2.2) ((parse_parser_ends.f m10 a0_0 r15.2).bind fun r61 => cond r61 (some (PR.ok (20, (⟨#[]⟩ : ByteArray), 0, r2.2.2.2, l4, r15.2))) (PR.bind (Rc.parse_parser_stat a0_0 r15.2) fun r63 => (apd 64 l4 [(Tree.mk r63.1 r63.2.1 r63.2.2.1 r63.2.2.2.1 r63.2.2.2.2.1)]).bind fun l72 => parse_parser_block.l0 m10 Rc a0_0 a1 r2 l72 r63.2.2.2.2.2))))
def parse_parser_block.g (Rc : PS) (k : Nat) (a0_0 : List (Int × ByteArray × Int × Int)) (a0_1 : Int) (a1 : Bool) : Option (PR (Int × ByteArray × Int × Int × List Tree × Int)) := (parse_parser_now.f k a0_0 a0_1).bind fun r2 => parse_parser_block.l0 k Rc a0_0 a1 r2 ([]) a0_1
set_option maxRecDepth 100000 in
theorem parse_parser_block.okg {Rc : PS} (hR : Rc.Good) {k : Nat} {a0_0 : List (Int × ByteArray × Int × Int)} {a0_1 : Int} {a1 : Bool} {b0 : Nat} {H_a0_0 : Frag} {A_a0_0 : Option Addr} {c_a0_0 : Nat} {r : PR (Int × ByteArray × Int × Int × List Tree × Int)} (h : parse_parser_block.g Rc k a0_0 a0_1 a1 = some r) (R_a0_0 : RdT e76 4 H_a0_0 (.slice A_a0_0 a0_0.length c_a0_0) a0_0) : Ct Tryz.prog 30 #[pt b0, bv a1] [bk b0 #[.slice A_a0_0 a0_0.length c_a0_0, iv a0_1] 73] [H_a0_0] (PR.Post failV (fun (r : Int × ByteArray × Int × Int × List Tree × Int) e l1 => ∃ (H0_ : Frag) (A0_ : Option Addr) (c0_ : Nat), OwnR (rTree 36) 36 H0_ (.slice A0_ r.2.2.2.2.1.length c0_) r.2.2.2.2.1 ∧ e = .returned (.agg #[iv r.1, sv r.2.1, iv r.2.2.1, iv r.2.2.2.1, .slice A0_ r.2.2.2.2.1.length c0_]) ∧ l1 = [H0_, bk b0 #[.slice A_a0_0 a0_0.length c_a0_0, iv r.2.2.2.2.2] 73]) r) := by
 refine ct_enter (args := [pt b0, bv a1]) Tryz.func30 rfl (Nat.le_of_ble_eq_true rfl) ?_
 intro A X hh_
 obtain ⟨hm_H_a0_0, _⟩ := hh_
 unfold parse_parser_block.g at h
 refine K.eq (env' := [(0, pt b0), (1, bv a1)]) (l' := bk b0 #[.slice A_a0_0 a0_0.length c_a0_0, iv a0_1] 73 :: X) rfl rfl (ksr (knp #[iv 0, sv noS, iv 0, iv 0, nS] 36 fun b1 => (kns' (kx 1 (K.mv1 (bnd h fun r2 hr2 h => (kc1 (parse_parser_now.ok (b0 := b0) hr2 R_a0_0) rfl ⟨(.tail _ hm_H_a0_0), trivial⟩ (kx 2 (knp #[iv 0, sv noS, iv 0, iv 0, nS] 36 fun b3 => (kst 0 5 #[iv 20, sv noS, iv 0, iv r2.2.2.2, nS] ?_))))))))))
 refine knt (k_block (k_none (K.mv3 (K.mv3 (K.mv3 (k_loop (τ := (List Tree) × Int × Frag × (Option Addr) × Nat) (fun t => [(0, pt b0), (1, bv a1), (4, pt b1), (5, pt b3)]) (fun t => bk b3 #[iv 20, sv noS, iv 0, iv r2.2.2.2, .slice t.2.2.2.1 t.1.length t.2.2.2.2] 36 :: bk b0 #[.slice A_a0_0 a0_0.length c_a0_0, iv t.2.1] 73 :: bk b1 #[iv 0, sv noS, iv 0, iv 0, nS] 36 :: t.2.2.1 :: X) (fun m t => parse_parser_block.l0 m Rc a0_0 a1 r2 t.1 t.2.1 = some r ∧ OwnR (rTree 36) 36 t.2.2.1 (.slice t.2.2.2.1 t.1.length t.2.2.2.2) t.1) k ([], a0_1, none_, none, 0) ⟨h, (OwnR.nil (rTree 36) 36 none_)⟩ sb rfl ?_))))))
 clear h
 rintro m10 ⟨l4, x9, h5, A6, k7⟩ ⟨h, o8⟩
 cases m10 with
 | zero => simp [parse_parser_block.l0] at h
 | succ m10 =>
  simp only [parse_parser_block.l0] at h
  refine k_block (ksr (kx 1 (K.mv1 (bnd h fun r11 hr11 h => (kc1 (parse_parser_now.ok (b0 := b0) hr11 R_a0_0) rfl ⟨(t3 hm_H_a0_0), trivial⟩ (knp #[iv 0, sv noS, iv 0, iv 0] 76 fun b12 => (kst 0 4 #[iv r11.1, sv r11.2.1, iv r11.2.2.1, iv r11.2.2.2] (knt (k_block (ksr ?_))))))))))
  refine kx 1 (K.mv1 (bnd h fun r13 hr13 h => (kc1 (parse_parser_got.ok (b0 := b0) hr13 R_a0_0) rfl ⟨(t4 hm_H_a0_0), trivial⟩ (kx 1 (knt ?_)))))
  refine kcn h (fun h => ?_) fun h => ?_
  ·exact k_skip (k_blk (k_blk (k_then (K.mv1 (K.drop (K.mv3 (K.mv3 (K.mv2 (K.mv3 (k_again m10 (l4, r13.2, h5, A6, k7) (Nat.lt_succ_self _) ⟨h, o8⟩ sb rfl))))))))))
  ·refine ksr (kx 1 (bnd h fun r15 hr15 h => (kc1 (parse_parser_got.ok (b0 := b0) hr15 R_a0_0) rfl ⟨(t4 hm_H_a0_0), trivial⟩ (kx 1 (knt ?_)))))
   refine kcn h (fun h => ?_) fun h => ?_
   ·refine ksr (kx 1 (kld 1 3 rfl (K.mv1 (K.drop (kx 1 (knp #[iv 0, sv noS, iv 0, iv 0, nS] 36 fun b17 => (kst 0 5 #[iv 30, sv noS, iv 0, iv r11.2.2.2, nS] (knt ?_))))))))
    obtain ⟨J24, hJ24, h⟩ := joinSplit h
    refine k_cut (τ := (List Tree) × Int × Frag × (Option Addr) × Nat) (fun t => [(0, pt b0), (4, pt b1), (5, pt b3), (7, pt b17)]) (fun t => bk b17 #[iv 30, sv noS, iv 0, iv r11.2.2.2, .slice t.2.2.2.1 t.1.length t.2.2.2.2] 36 :: bk b0 #[.slice A_a0_0 a0_0.length c_a0_0, iv t.2.1] 73 :: bk b3 #[iv 20, sv noS, iv 0, iv r2.2.2.2, .slice A6 l4.length k7] 36 :: bk b1 #[iv 0, sv noS, iv 0, iv 0, nS] 36 :: h5 :: t.2.2.1 :: X) (fun t => J24 t.1 t.2.1 = some r ∧ OwnR (rTree 36) 36 t.2.2.1 (.slice t.2.2.2.1 t.1.length t.2.2.2.2) t.1) ?_ ?_
    ·rintro ⟨l18, x23, h19, A20, k21⟩ ⟨h, o22⟩
     subst hJ24
     refine ksr (kx 1 (K.mv1 (bnd h fun r25 hr25 h => (kc1 (parse_parser_got.ok (b0 := b0) hr25 R_a0_0) rfl ⟨(t5 hm_H_a0_0), trivial⟩ (kns' (kx 1 (kld 2 4 rfl (kla 1 0 5 rfl (K.mv1 (K.drop ?_))))))))))
     refine kns #[iv 30, sv noS, iv 0, iv r11.2.2.2, .slice A20 l18.length k21] 36 1 fun b26 => (K.mvN [_, _, _, _, _] _ _ (K.mv1 (k_row (T := 36) (n := 1) (xs := [(Tree.mk 30 (⟨#[]⟩ : ByteArray) 0 r11.2.2.2 l18)]) (RowI.one (treeO_mk (k := 30) (t := (⟨#[]⟩ : ByteArray)) (n := 0) (a := r11.2.2.2) 36 o22)) rfl rfl (Nat.le_of_ble_eq_true rfl) fun h27 o28 => (K.mv4 (bnd h fun l29 hl29 h => (kapR rfl ety34 rfl hl29 o8 o28 fun h30 A31 k32 o33 => (kx 1 (K.mv2 (kst 4 1 #[iv 20, sv noS, iv 0, iv r2.2.2.2, .slice A31 l29.length k32] (kns' ?_))))))))))
     refine kla 0 0 5 rfl (K.drop (K.mv2 (kst 0 5 #[iv 20, sv noS, iv 0, iv r2.2.2.2, .slice A31 l29.length k32] (knt (k_ret (k_blk_ret (k_blk_ret (k_then_ret (k_blk_ret ?_)))))))))
     obtain rfl := Option.some.inj h
     exact kda 0 5 rfl [h30, bk b0 #[.slice A_a0_0 a0_0.length c_a0_0, iv r25.2] 73] (K.drop (k_end (PR.okI ⟨h30, A31, k32, o33, rfl, rfl⟩)))
    ·skip
     refine bnd h fun q34 hq34 h => ?_
     refine k_cut1 [(0, pt b0), (4, pt b1), (5, pt b3), (7, pt b17), (37, bv q34)] (bk b17 #[iv 30, sv noS, iv 0, iv r11.2.2.2, nS] 36 :: bk b0 #[.slice A_a0_0 a0_0.length c_a0_0, iv r15.2] 73 :: bk b3 #[iv 20, sv noS, iv 0, iv r2.2.2.2, .slice A6 l4.length k7] 36 :: bk b1 #[iv 0, sv noS, iv 0, iv 0, nS] 36 :: h5 :: X) ?_ ?_
     ·clear hq34
      refine kcn h (fun h => ?_) fun h => ?_
      ·refine k_region (kx 1 (K.mv1 (kcp h (fun _ hr36 => (parse_parser_exps.ok (b0 := b0) hr36 R_a0_0)) rfl ⟨(t4 hm_H_a0_0), trivial⟩ (fun _ e => k_then_panic (k_blk_panic (k_blk_panic (k_then_panic (k_blk_panic (kpn 4 e rfl)))))) fun r36 h => ?_)))
       rintro _ _ ⟨h37, A38, k39, o40, rfl, rfl⟩
       refine nx_ret2 (kx 1 (K.mv2 (kst 4 1 #[iv 30, sv noS, iv 0, iv r11.2.2.2, .slice A38 r36.1.length k39] (knt (K.mv1 (K.mvN [_, _, _, _, _] _ _ (K.mvN [_, _, _, _, _] _ _ (K.mvN [_, _, _, _, _] _ _ (K.mvN [_, _, _, _, _] _ _ (K.mvN [_, _, _, _, _] _ _ ?_))))))))))
       exact k_meet (r36.1, r36.2, h37, A38, k39) ⟨h, o40⟩ sb rfl
      ·exact k_skip (k_then (k_none (K.mvN [_, _, _, _, _] _ _ (K.mvN [_, _, _, _, _] _ _ (K.mvN [_, _, _, _, _] _ _ (K.mvN [_, _, _, _, _] _ _ (K.mvN [_, _, _, _, _] _ _ (k_meet ([], r15.2, none_, none, 0) ⟨h, (OwnR.nil (rTree 36) 36 none_)⟩ sb rfl))))))))
     ·have h := hq34
      clear hq34
      refine k_region (kx 1 (K.mv1 (bnd h fun r42 hr42 h => (kc1 (parse_parser_ends.ok (b0 := b0) hr42 R_a0_0) rfl ⟨(t4 hm_H_a0_0), trivial⟩ (kx 2 ?_)))))
      refine kcs 33 h (fun h => ?_) fun h => ?_
      ·exact kx 1 (bnd h fun r44 hr44 h => (kc1 (parse_parser_is.ok (b0 := b0) hr44 R_a0_0) rfl ⟨(t4 hm_H_a0_0), trivial⟩ (kx 2 (knt (K.mv4 (K.mv4 (K.mv4 (K.mv3 (K.mv4 (k_meet1 ⟨gr, gr, gr, gr, gb (Option.some.inj h), trivial⟩))))))))))
      ·exact kx 4 (knt (K.mv4 (K.mv4 (K.mv4 (K.mv3 (K.mv4 (k_meet1 ⟨gr, gr, gr, gr, gb (Option.some.inj h), trivial⟩)))))))
   ·refine bnd h fun q45 hq45 h => ?_
    refine k_cut1 [(0, pt b0), (1, bv a1), (4, pt b1), (5, pt b3), (50, bv q45)] (bk b0 #[.slice A_a0_0 a0_0.length c_a0_0, iv r15.2] 73 :: bk b3 #[iv 20, sv noS, iv 0, iv r2.2.2.2, .slice A6 l4.length k7] 36 :: bk b1 #[iv 0, sv noS, iv 0, iv 0, nS] 36 :: h5 :: X) ?_ ?_
    ·clear hq45
     refine kcn h (fun h => ?_) fun h => ?_
     ·refine kpr [(0, 0), (1, 3), (2, 0), (3, 1), (4, 1)] [1] (kpx 1 (kpd 0 4 rfl (kpx 1 (kpt (ocp h (fun _ hr47 => (hR.parse_parser_function (b0 := b0) hr47 R_a0_0)) rfl ⟨(t3 hm_H_a0_0), trivial⟩ (fun _ e => k_blk_panic (k_blk_panic (k_then_panic (k_blk_panic (kpn 3 e rfl))))) fun r47 h => ?_)))))
      rintro _ _ ⟨h48, A49, k50, o51, rfl, rfl⟩
      refine nx_ret2 (kan [2] rfl (kpt (ons #[iv r47.1, sv r47.2.1, iv r47.2.2.1, iv r47.2.2.2.1, .slice A49 r47.2.2.2.2.1.length k50] 36 1 fun b53 => (kan [3] rfl (kpz (K.mv1 (K.mv1 (k_row (T := 36) (n := 1) (xs := [(Tree.mk r47.1 r47.2.1 r47.2.2.1 r47.2.2.2.1 r47.2.2.2.2.1)]) (RowI.one (treeO_mk (k := r47.1) (t := r47.2.1) (n := r47.2.2.1) (a := r47.2.2.2.1) 36 o51)) rfl rfl (Nat.le_of_ble_eq_true rfl) fun h54 o55 => (K.mv4 (bnd h fun l56 hl56 h => ?_))))))))))
      refine kapR rfl ety34 rfl hl56 o8 o55 fun h57 A58 k59 o60 => (kx 1 (K.mv2 (kst 4 1 #[iv 20, sv noS, iv 0, iv r2.2.2.2, .slice A58 l56.length k59] (knl (k_blk (k_blk (k_then (K.mv1 (K.mv3 (K.mv3 ?_))))))))))
      exact K.mv3 (k_again m10 (l56, r47.2.2.2.2.2, h57, A58, k59) (Nat.lt_succ_self _) ⟨h, o60⟩ sb rfl)
     ·refine ksr (kx 1 (bnd h fun r61 hr61 h => (kc1 (parse_parser_ends.ok (b0 := b0) hr61 R_a0_0) rfl ⟨(t3 hm_H_a0_0), trivial⟩ (kx 1 (knt ?_)))))
      refine kcn h (fun h => ?_) fun h => ?_
      ·refine ksr (kla 1 0 5 rfl (K.mv1 (K.drop (K.mv1 (kst 0 5 #[iv 20, sv noS, iv 0, iv r2.2.2.2, .slice A6 l4.length k7] (knt (k_ret (k_blk_ret (k_blk_ret (k_then_ret ?_))))))))))
       refine k_blk_ret ?_
       obtain rfl := Option.some.inj h
       exact kda 0 5 rfl [h5, bk b0 #[.slice A_a0_0 a0_0.length c_a0_0, iv r15.2] 73] (K.drop (K.mv1 (k_end (PR.okI ⟨h5, A6, k7, o8, rfl, rfl⟩))))
      ·refine kpr [(0, 0), (1, 3), (2, 0), (3, 1), (4, 1)] [1] (kpx 1 (kpd 0 4 rfl (kpx 1 (kpt (ocp h (fun _ hr63 => (hR.parse_parser_stat (b0 := b0) hr63 R_a0_0)) rfl ⟨(t3 hm_H_a0_0), trivial⟩ (fun _ e => k_blk_panic (k_blk_panic (k_then_panic (k_blk_panic (kpn 3 e rfl))))) fun r63 h => ?_)))))
       rintro _ _ ⟨h64, A65, k66, o67, rfl, rfl⟩
       refine nx_ret2 (kan [2] rfl (kpt (ons #[iv r63.1, sv r63.2.1, iv r63.2.2.1, iv r63.2.2.2.1, .slice A65 r63.2.2.2.2.1.length k66] 36 1 fun b69 => (kan [3] rfl (kpz (K.mv1 (K.mv1 (k_row (T := 36) (n := 1) (xs := [(Tree.mk r63.1 r63.2.1 r63.2.2.1 r63.2.2.2.1 r63.2.2.2.2.1)]) (RowI.one (treeO_mk (k := r63.1) (t := r63.2.1) (n := r63.2.2.1) (a := r63.2.2.2.1) 36 o67)) rfl rfl (Nat.le_of_ble_eq_true rfl) fun h70 o71 => (K.mv4 (bnd h fun l72 hl72 h => ?_))))))))))
       refine kapR rfl ety34 rfl hl72 o8 o71 fun h73 A74 k75 o76 => (kx 1 (K.mv2 (kst 4 1 #[iv 20, sv noS, iv 0, iv r2.2.2.2, .slice A74 l72.length k75] (knl (k_blk (k_blk (k_then (K.mv1 (K.mv3 (K.mv3 ?_))))))))))
       exact K.mv3 (k_again m10 (l72, r63.2.2.2.2.2, h73, A74, k75) (Nat.lt_succ_self _) ⟨h, o76⟩ sb rfl)
    ·have h := hq45
     clear hq45
     refine k_region (kx 2 ?_)
     refine kcs 52 h (fun h => ?_) fun h => ?_
     ·exact kx 1 (bnd h fun r78 hr78 h => (kc1 (parse_parser_is.ok (b0 := b0) hr78 R_a0_0) rfl ⟨(t4 hm_H_a0_0), trivial⟩ (K.mv1 (K.drop (kx 2 (knt (k_meet1 ⟨gr, gr, gr, gr, gb (Option.some.inj h), trivial⟩)))))))
     ·exact kx 4 (knt (K.mv1 (K.drop (k_meet1 ⟨gr, gr, gr, gr, gb (Option.some.inj h), trivial⟩))))
def parse_parser_function.g (Rc : PS) (k : Nat) (a0_0 : List (Int × ByteArray × Int × Int)) (a0_1 : Int) : Option (PR (Int × ByteArray × Int × Int × List Tree × Int)) := (parse_parser_now.f k a0_0 a0_1).bind fun r2 => PR.bind (parse_parser_want.f k a0_0 a0_1 (⟨#[102, 117, 110, 99, 116, 105, 111, 110]⟩ : ByteArray)) fun r4 => PR.bind (parse_parser_name.f k a0_0 r4) fun r6 => PR.bind (parse_parser_want.f k a0_0 r6.2.2.2.2.2 (⟨#[40]⟩ : ByteArray)) fun r12 => joinF (fun (x14 : Int) (l15 : List Tree) => PR.bind (parse_parser_want.f k a0_0 x14 (⟨#[41]⟩ : ByteArray)) fun r21 => PR.bind (Rc.parse_parser_block a0_0 r21 false) fun r23 => (apd 64 l15 [(Tree.mk r23.1 r23.2.1 r23.2.2.1 r23.2.2.2.1 r23.2.2.2.2.1)]).bind fun l32 => PR.bind (parse_parser_want.f k a0_0 r23.2.2.2.2.2 (⟨#[101, 110, 100]⟩ : ByteArray)) fun r37 => some (PR.ok (31, r6.2.1, ((l15.length : Nat) : Int), r2.2.2.2, l32, r37))) (fun J20 => (parse_parser_is.f k a0_0 r12 (⟨#[41]⟩ : ByteArray)).bind fun r39 => cond (!r39) (PR.bind (parse_parser_names.f k a0_0 r12) fun r41 => J20 r41.2 r41.1) (J20 r12 ([])))
set_option maxRecDepth 100000 in
theorem parse_parser_function.okg {Rc : PS} (hR : Rc.Good) {k : Nat} {a0_0 : List (Int × ByteArray × Int × Int)} {a0_1 : Int} {b0 : Nat} {H_a0_0 : Frag} {A_a0_0 : Option Addr} {c_a0_0 : Nat} {r : PR (Int × ByteArray × Int × Int × List Tree × Int)} (h : parse_parser_function.g Rc k a0_0 a0_1 = some r) (R_a0_0 : RdT e76 4 H_a0_0 (.slice A_a0_0 a0_0.length c_a0_0) a0_0) : Ct Tryz.prog 48 #[pt b0] [bk b0 #[.slice A_a0_0 a0_0.length c_a0_0, iv a0_1] 73] [H_a0_0] (PR.Post failV (fun (r : Int × ByteArray × Int × Int × List Tree × Int) e l1 => ∃ (H0_ : Frag) (A0_ : Option Addr) (c0_ : Nat), OwnR (rTree 36) 36 H0_ (.slice A0_ r.2.2.2.2.1.length c0_) r.2.2.2.2.1 ∧ e = .returned (.agg #[iv r.1, sv r.2.1, iv r.2.2.1, iv r.2.2.2.1, .slice A0_ r.2.2.2.2.1.length c0_]) ∧ l1 = [H0_, bk b0 #[.slice A_a0_0 a0_0.length c_a0_0, iv r.2.2.2.2.2] 73]) r) := by
 refine ct_enter (args := [pt b0]) Tryz.func48 rfl (Nat.le_of_ble_eq_true rfl) ?_
 intro A X hh_
 obtain ⟨hm_H_a0_0, _⟩ := hh_
 unfold parse_parser_function.g at h
 refine K.eq (env' := [(0, pt b0)]) (l' := bk b0 #[.slice A_a0_0 a0_0.length c_a0_0, iv a0_1] 73 :: X) rfl rfl (ksr (knp #[iv 0, sv noS, iv 0, iv 0, nS] 36 fun b1 => (kns' (kx 1 (K.mv1 (bnd h fun r2 hr2 h => (kc1 (parse_parser_now.ok (b0 := b0) hr2 R_a0_0) rfl ⟨(.tail _ hm_H_a0_0), trivial⟩ (kx 2 (knp #[iv 0, sv noS, iv 0, iv 0, nS] 36 fun b3 => (kst 0 5 #[iv 31, sv noS, iv 0, iv r2.2.2.2, nS] ?_))))))))))
 refine kns' (kx 1 (K.mv1 (kcp h (fun _ hr4 => (parse_parser_want.ok (b0 := b0) hr4 R_a0_0)) rfl ⟨(t2 hm_H_a0_0), trivial⟩ (fun _ e => k_then_panic (kpn 2 e rfl)) fun r4 h => ?_)))
 rintro _ _ ⟨rfl, rfl⟩
 refine nx_ret1 (kns' (kx 1 (kcp h (fun _ hr6 => (parse_parser_name.ok (b0 := b0) hr6 R_a0_0)) rfl ⟨(t2 hm_H_a0_0), trivial⟩ (fun _ e => k_then_panic (kpn 2 e rfl)) fun r6 h => ?_)))
 rintro _ _ ⟨h7, A8, k9, o10, rfl, rfl⟩
 refine nx_ret2 (kx 2 (K.mv2 (kst 1 1 #[iv 31, sv r6.2.1, iv 0, iv r2.2.2.2, nS] (K.mv1 (K.drop (kns' (kx 1 (K.mv1 (kcp h (fun _ hr12 => (parse_parser_want.ok (b0 := b0) hr12 R_a0_0)) rfl ⟨(t2 hm_H_a0_0), trivial⟩ (fun _ e => k_then_panic (kpn 2 e rfl)) fun r12 h => ?_)))))))))
 rintro _ _ ⟨rfl, rfl⟩
 refine nx_ret1 (knt ?_)
 obtain ⟨J20, hJ20, h⟩ := joinSplit h
 refine k_cut (τ := Int × (List Tree) × Frag × (Option Addr) × Nat) (fun t => [(0, pt b0), (2, pt b1), (3, pt b3)]) (fun t => bk b0 #[.slice A_a0_0 a0_0.length c_a0_0, iv t.1] 73 :: bk b3 #[iv 31, sv r6.2.1, iv 0, iv r2.2.2.2, .slice t.2.2.2.1 t.2.1.length t.2.2.2.2] 36 :: bk b1 #[iv 0, sv noS, iv 0, iv 0, nS] 36 :: t.2.2.1 :: X) (fun t => J20 t.1 t.2.1 = some r ∧ OwnR (rTree 36) 36 t.2.2.1 (.slice t.2.2.2.1 t.2.1.length t.2.2.2.2) t.2.1) ?_ ?_
 ·rintro ⟨x14, l15, h16, A17, k18⟩ ⟨h, o19⟩
  subst hJ20
  refine ksr (kx 1 (kld 1 4 rfl (kx 2 (K.mv1 (kst 2 1 #[iv 31, sv r6.2.1, iv ((l15.length : Nat) : Int), iv r2.2.2.2, .slice A17 l15.length k18] (kns' (kx 1 (K.mv1 (kcp h (fun _ hr21 => (parse_parser_want.ok (b0 := b0) hr21 R_a0_0)) rfl ⟨(t3 hm_H_a0_0), trivial⟩ (fun _ e => k_then_panic (kpn 3 e rfl)) fun r21 h => ?_)))))))))
  rintro _ _ ⟨rfl, rfl⟩
  refine nx_ret1 (knt (k_seq (kpr [(0, 0), (1, 3), (2, 0), (3, 1), (4, 1)] [1] (kpx 1 (kpd 0 4 rfl (kpx 1 (kpt (ocp h (fun _ hr23 => (hR.parse_parser_block (b0 := b0) hr23 R_a0_0)) rfl ⟨(t3 hm_H_a0_0), trivial⟩ (fun _ e => k_then_panic (kpn 3 e rfl)) fun r23 h => ?_))))))))
  rintro _ _ ⟨h24, A25, k26, o27, rfl, rfl⟩
  refine nx_ret2 (kan [2] rfl (kpt (ons #[iv r23.1, sv r23.2.1, iv r23.2.2.1, iv r23.2.2.2.1, .slice A25 r23.2.2.2.2.1.length k26] 36 1 fun b29 => (kan [3] rfl (kpz (K.mv1 (K.mv1 (k_row (T := 36) (n := 1) (xs := [(Tree.mk r23.1 r23.2.1 r23.2.2.1 r23.2.2.2.1 r23.2.2.2.2.1)]) (RowI.one (treeO_mk (k := r23.1) (t := r23.2.1) (n := r23.2.2.1) (a := r23.2.2.2.1) 36 o27)) rfl rfl (Nat.le_of_ble_eq_true rfl) fun h30 o31 => (K.mv4 (bnd h fun l32 hl32 h => ?_))))))))))
  refine kapR rfl ety34 rfl hl32 o19 o31 fun h33 A34 k35 o36 => (kx 1 (K.mv2 (kst 4 1 #[iv 31, sv r6.2.1, iv ((l15.length : Nat) : Int), iv r2.2.2.2, .slice A34 l32.length k35] (kns' (kx 1 (K.mv2 (kcp h (fun _ hr37 => (parse_parser_want.ok (b0 := b0) hr37 R_a0_0)) rfl ⟨(t3 hm_H_a0_0), trivial⟩ (fun _ e => k_then_panic (kpn 3 e rfl)) fun r37 h => ?_)))))))
  rintro _ _ ⟨rfl, rfl⟩
  refine nx_ret1 (kns' (kla 1 0 5 rfl (K.mv1 (K.drop (K.mv2 (kst 0 5 #[iv 31, sv r6.2.1, iv ((l15.length : Nat) : Int), iv r2.2.2.2, .slice A34 l32.length k35] (knt (k_ret ?_))))))))
  obtain rfl := Option.some.inj h
  exact kda 0 5 rfl [h33, bk b0 #[.slice A_a0_0 a0_0.length c_a0_0, iv r37] 73] (K.drop (K.mv1 (k_end (PR.okI ⟨h33, A34, k35, o36, rfl, rfl⟩))))
 ·skip
  refine ksr (kx 1 (bnd h fun r39 hr39 h => (kc1 (parse_parser_is.ok (b0 := b0) hr39 R_a0_0) rfl ⟨(t2 hm_H_a0_0), trivial⟩ (kx 1 (knt ?_)))))
  refine kcn h (fun h => ?_) fun h => ?_
  ·refine k_region (kx 1 (kcp h (fun _ hr41 => (parse_parser_names.ok (b0 := b0) hr41 R_a0_0)) rfl ⟨(t2 hm_H_a0_0), trivial⟩ (fun _ e => k_then_panic (kpn 2 e rfl)) fun r41 h => ?_))
   rintro _ _ ⟨h42, A43, k44, o45, rfl, rfl⟩
   exact nx_ret2 (kx 1 (K.mv2 (kst 4 1 #[iv 31, sv r6.2.1, iv 0, iv r2.2.2.2, .slice A43 r41.1.length k44] (knt (K.mv1 (K.mv3 (K.mv2 (K.mv3 (k_meet (r41.2, r41.1, h42, A43, k44) ⟨h, o45⟩ sb rfl)))))))))
  ·exact k_skip (k_then (k_none (K.mv3 (K.mv3 (K.mv3 (k_meet (r12, [], none_, none, 0) ⟨h, (OwnR.nil (rTree 36) 36 none_)⟩ sb rfl))))))
def parse_parser_stat.g (Rc : PS) (k : Nat) (a0_0 : List (Int × ByteArray × Int × Int)) (a0_1 : Int) : Option (PR (Int × ByteArray × Int × Int × List Tree × Int)) := (parse_parser_now.f k a0_0 a0_1).bind fun r2 => joinF (fun (x5 : Int) (x6 : Int) (l7 : List Tree) (x12 : Int) => some (PR.ok (x5, (⟨#[]⟩ : ByteArray), x6, r2.2.2.2, l7, x12))) (fun J13 => (parse_parser_got.f k a0_0 a0_1 (⟨#[100, 111]⟩ : ByteArray)).bind fun r14 => cond r14.1 (PR.bind (Rc.parse_parser_block a0_0 r14.2 false) fun r16 => PR.bind (parse_parser_want.f k a0_0 r16.2.2.2.2.2 (⟨#[101, 110, 100]⟩ : ByteArray)) fun r23 => J13 28 0 ([(Tree.mk r16.1 r16.2.1 r16.2.2.1 r16.2.2.2.1 r16.2.2.2.2.1)]) r23) ((parse_parser_got.f k a0_0 r14.2 (⟨#[119, 104, 105, 108, 101]⟩ : ByteArray)).bind fun r27 => cond r27.1 (PR.bind (parse_parser_exp.f k a0_0 r27.2 0) fun r29 => PR.bind (parse_parser_want.f k a0_0 r29.2.2.2.2.2 (⟨#[100, 111]⟩ : ByteArray)) fun r36 => PR.bind (Rc.parse_parser_block a0_0 r36 false) fun r38 => (apd 64 [(Tree.mk r29.1 r29.2.1 r29.2.2.1 r29.2.2.2.1 r29.2.2.2.2.1)] [(Tree.mk r38.1 r38.2.1 r38.2.2.1 r38.2.2.2.1 r38.2.2.2.2.1)]).bind fun l49 => PR.bind (parse_parser_want.f k a0_0 r38.2.2.2.2.2 (⟨#[101, 110, 100]⟩ : ByteArray)) fun r54 => J13 25 0 l49 r54) ((parse_parser_got.f k a0_0 r27.2 (⟨#[105, 102]⟩ : ByteArray)).bind fun r56 => cond r56.1 (PR.bind (Rc.parse_parser_branches a0_0 r56.2) fun r58 => J13 24 0 r58.1 r58.2) ((parse_parser_got.f k a0_0 r56.2 (⟨#[102, 111, 114]⟩ : ByteArray)).bind fun r64 => cond r64.1 (PR.bind (Rc.parse_parser_loop a0_0 r64.2 r2.2.2.2) fun r66 => some (PR.ok (r66.1, r66.2.1, r66.2.2.1, r66.2.2.2.1, r66.2.2.2.2.1, r66.2.2.2.2.2))) ((parse_parser_got.f k a0_0 r64.2 (⟨#[108, 111, 99, 97, 108]⟩ : ByteArray)).bind fun r72 => cond r72.1 (PR.bind (parse_parser_names.f k a0_0 r72.2) fun r74 => (parse_parser_got.f k a0_0 r74.2 (⟨#[61]⟩ : ByteArray)).bind fun r80 => cond r80.1 (PR.bind (parse_parser_exps.f k a0_0 r80.2) fun r82 => (apd 64 r74.1 r82.1).bind fun l88 => J13 21 ((r74.1.length : Nat) : Int) l88 r82.2) (J13 21 ((r74.1.length : Nat) : Int) r74.1 r80.2)) ((parse_parser_got.f k a0_0 r72.2 (⟨#[98, 114, 101, 97, 107]⟩ : ByteArray)).bind fun r93 => cond r93.1 (J13 29 0 ([]) r93.2) (PR.bind (Rc.parse_parser_plain a0_0 r93.2) fun r95 => some (PR.ok (r95.1, r95.2.1, r95.2.2.1, r95.2.2.2.1, r95.2.2.2.2.1, r95.2.2.2.2.2)))))))))
set_option maxRecDepth 100000 in
theorem parse_parser_stat.okg {Rc : PS} (hR : Rc.Good) {k : Nat} {a0_0 : List (Int × ByteArray × Int × Int)} {a0_1 : Int} {b0 : Nat} {H_a0_0 : Frag} {A_a0_0 : Option Addr} {c_a0_0 : Nat} {r : PR (Int × ByteArray × Int × Int × List Tree × Int)} (h : parse_parser_stat.g Rc k a0_0 a0_1 = some r) (R_a0_0 : RdT e76 4 H_a0_0 (.slice A_a0_0 a0_0.length c_a0_0) a0_0) : Ct Tryz.prog 49 #[pt b0] [bk b0 #[.slice A_a0_0 a0_0.length c_a0_0, iv a0_1] 73] [H_a0_0] (PR.Post failV (fun (r : Int × ByteArray × Int × Int × List Tree × Int) e l1 => ∃ (H0_ : Frag) (A0_ : Option Addr) (c0_ : Nat), OwnR (rTree 36) 36 H0_ (.slice A0_ r.2.2.2.2.1.length c0_) r.2.2.2.2.1 ∧ e = .returned (.agg #[iv r.1, sv r.2.1, iv r.2.2.1, iv r.2.2.2.1, .slice A0_ r.2.2.2.2.1.length c0_]) ∧ l1 = [H0_, bk b0 #[.slice A_a0_0 a0_0.length c_a0_0, iv r.2.2.2.2.2] 73]) r) := by
 refine ct_enter (args := [pt b0]) Tryz.func49 rfl (Nat.le_of_ble_eq_true rfl) ?_
 intro A X hh_
 obtain ⟨hm_H_a0_0, _⟩ := hh_
 unfold parse_parser_stat.g at h
 refine K.eq (env' := [(0, pt b0)]) (l' := bk b0 #[.slice A_a0_0 a0_0.length c_a0_0, iv a0_1] 73 :: X) rfl rfl (ksr (knp #[iv 0, sv noS, iv 0, iv 0, nS] 36 fun b1 => (kns' (kx 1 (K.mv1 (bnd h fun r2 hr2 h => (kc1 (parse_parser_now.ok (b0 := b0) hr2 R_a0_0) rfl ⟨(.tail _ hm_H_a0_0), trivial⟩ (knp #[iv 0, sv noS, iv 0, iv 0] 76 fun b3 => (kst 0 4 #[iv r2.1, sv r2.2.1, iv r2.2.2.1, iv r2.2.2.2] (kns' ?_))))))))))
 refine kx 1 (kld 0 3 rfl (kx 1 (knp #[iv 0, sv noS, iv 0, iv 0, nS] 36 fun b4 => (kst 0 5 #[iv 0, sv noS, iv 0, iv r2.2.2.2, nS] (knt ?_)))))
 obtain ⟨J13, hJ13, h⟩ := joinSplit h
 refine k_cut (τ := Int × Int × (List Tree) × Int × Frag × (Option Addr) × Nat) (fun t => [(2, pt b1), (4, pt b4)]) (fun t => bk b4 #[iv t.1, sv noS, iv t.2.1, iv r2.2.2.2, .slice t.2.2.2.2.2.1 t.2.2.1.length t.2.2.2.2.2.2] 36 :: bk b0 #[.slice A_a0_0 a0_0.length c_a0_0, iv t.2.2.2.1] 73 :: bk b1 #[iv 0, sv noS, iv 0, iv 0, nS] 36 :: t.2.2.2.2.1 :: X) (fun t => J13 t.1 t.2.1 t.2.2.1 t.2.2.2.1 = some r ∧ OwnR (rTree 36) 36 t.2.2.2.2.1 (.slice t.2.2.2.2.2.1 t.2.2.1.length t.2.2.2.2.2.2) t.2.2.1) ?_ ?_
 ·rintro ⟨x5, x6, l7, x12, h8, A9, k10⟩ ⟨h, o11⟩
  subst hJ13
  refine ksr (kla 0 0 5 rfl (K.drop (K.mv1 (kst 0 5 #[iv x5, sv noS, iv x6, iv r2.2.2.2, .slice A9 l7.length k10] (knt (k_ret ?_))))))
  obtain rfl := Option.some.inj h
  exact kda 0 5 rfl [h8, bk b0 #[.slice A_a0_0 a0_0.length c_a0_0, iv x12] 73] (K.drop (K.mv1 (k_end (PR.okI ⟨h8, A9, k10, o11, rfl, rfl⟩))))
 ·skip
  refine k_block (ksr (kx 1 (K.mv2 (bnd h fun r14 hr14 h => (kc1 (parse_parser_got.ok (b0 := b0) hr14 R_a0_0) rfl ⟨(t3 hm_H_a0_0), trivial⟩ (kx 1 (knt ?_)))))))
  refine kcn h (fun h => ?_) fun h => ?_
  ·refine ksr (kx 1 (kcp h (fun _ hr16 => (hR.parse_parser_block (b0 := b0) hr16 R_a0_0)) rfl ⟨(t3 hm_H_a0_0), trivial⟩ (fun _ e => k_then_panic (k_blk_panic (k_then_panic (kpn 3 e rfl)))) fun r16 h => ?_))
   rintro _ _ ⟨h17, A18, k19, o20, rfl, rfl⟩
   refine nx_ret2 (K.mv3 (K.drop (kns #[iv r16.1, sv r16.2.1, iv r16.2.2.1, iv r16.2.2.2.1, .slice A18 r16.2.2.2.2.1.length k19] 36 1 fun b22 => (kx 1 (K.mv3 (kst 0 1 #[iv 28, sv noS, iv 0, iv r2.2.2.2, nS] (kx 1 (kst 4 1 #[iv 28, sv noS, iv 0, iv r2.2.2.2, .slice (some ⟨b22, 0, none⟩) 1 1] (knr (kx 1 ?_))))))))))
   refine K.mv3 (kcp h (fun _ hr23 => (parse_parser_want.ok (b0 := b0) hr23 R_a0_0)) rfl ⟨(t4 hm_H_a0_0), trivial⟩ (fun _ e => k_blk_panic (k_then_panic (kpn 4 e rfl))) fun r23 h => ?_)
   rintro _ _ ⟨rfl, rfl⟩
   exact nx_ret1 (knl (k_blk (k_then (K.mv3 (K.mv3 (k_row (T := 36) (n := 1) (xs := [(Tree.mk r16.1 r16.2.1 r16.2.2.1 r16.2.2.2.1 r16.2.2.2.2.1)]) (RowI.one (treeO_mk (k := r16.1) (t := r16.2.1) (n := r16.2.2.1) (a := r16.2.2.2.1) 36 o20)) rfl rfl (Nat.le_of_ble_eq_true rfl) fun h25 o26 => (K.mv3 (K.mv2 (K.mv3 (k_meet (28, 0, [(Tree.mk r16.1 r16.2.1 r16.2.2.1 r16.2.2.2.1 r16.2.2.2.2.1)], r23, h25, (some ⟨b22, 0, none⟩), 1) ⟨h, o26⟩ sb rfl))))))))))
  ·refine ksr (kx 1 (bnd h fun r27 hr27 h => (kc1 (parse_parser_got.ok (b0 := b0) hr27 R_a0_0) rfl ⟨(t3 hm_H_a0_0), trivial⟩ (kx 1 (knt ?_)))))
   refine kcn h (fun h => ?_) fun h => ?_
   ·refine ksr (kx 1 (kcp h (fun _ hr29 => (parse_parser_exp.ok (b0 := b0) hr29 R_a0_0)) rfl ⟨(t3 hm_H_a0_0), trivial⟩ (fun _ e => k_then_panic (k_blk_panic (k_then_panic (kpn 3 e rfl)))) fun r29 h => ?_))
    rintro _ _ ⟨h30, A31, k32, o33, rfl, rfl⟩
    refine nx_ret2 (K.mv3 (K.drop (kns #[iv r29.1, sv r29.2.1, iv r29.2.2.1, iv r29.2.2.2.1, .slice A31 r29.2.2.2.2.1.length k32] 36 1 fun b35 => (kx 1 (K.mv3 (kst 0 1 #[iv 25, sv noS, iv 0, iv r2.2.2.2, nS] (kx 1 (kst 4 1 #[iv 25, sv noS, iv 0, iv r2.2.2.2, .slice (some ⟨b35, 0, none⟩) 1 1] (kns' (kx 1 ?_))))))))))
    refine K.mv3 (kcp h (fun _ hr36 => (parse_parser_want.ok (b0 := b0) hr36 R_a0_0)) rfl ⟨(t4 hm_H_a0_0), trivial⟩ (fun _ e => k_then_panic (k_blk_panic (k_then_panic (kpn 4 e rfl)))) fun r36 h => ?_)
    rintro _ _ ⟨rfl, rfl⟩
    refine nx_ret1 (knt (k_seq (kpr [(0, 0), (1, 3), (2, 0), (3, 1), (4, 1)] [1] (kpx 1 (kpd 0 4 rfl (kpx 1 (kpt (ocp h (fun _ hr38 => (hR.parse_parser_block (b0 := b0) hr38 R_a0_0)) rfl ⟨(t4 hm_H_a0_0), trivial⟩ (fun _ e => k_then_panic (k_blk_panic (k_then_panic (kpn 4 e rfl)))) fun r38 h => ?_))))))))
    rintro _ _ ⟨h39, A40, k41, o42, rfl, rfl⟩
    refine nx_ret2 (kan [2] rfl (kpt (ons #[iv r38.1, sv r38.2.1, iv r38.2.2.1, iv r38.2.2.2.1, .slice A40 r38.2.2.2.2.1.length k41] 36 1 fun b44 => (kan [3] rfl (kpz (K.mv1 (K.mv1 (k_row (T := 36) (n := 1) (xs := [(Tree.mk r38.1 r38.2.1 r38.2.2.1 r38.2.2.2.1 r38.2.2.2.2.1)]) (RowI.one (treeO_mk (k := r38.1) (t := r38.2.1) (n := r38.2.2.1) (a := r38.2.2.2.1) 36 o42)) rfl rfl (Nat.le_of_ble_eq_true rfl) fun h45 o46 => (K.mv4 (K.mv4 ?_))))))))))
    refine k_row (T := 36) (n := 1) (xs := [(Tree.mk r29.1 r29.2.1 r29.2.2.1 r29.2.2.2.1 r29.2.2.2.2.1)]) (RowI.one (treeO_mk (k := r29.1) (t := r29.2.1) (n := r29.2.2.1) (a := r29.2.2.2.1) 36 o33)) rfl rfl (Nat.le_of_ble_eq_true rfl) fun h47 o48 => (K.mv1 (K.mv1 (bnd h fun l49 hl49 h => (kapR rfl ety34 rfl hl49 o48 o46 fun h50 A51 k52 o53 => (kx 1 (K.mv2 (kst 4 1 #[iv 25, sv noS, iv 0, iv r2.2.2.2, .slice A51 l49.length k52] (knr (kx 1 (K.mv2 ?_))))))))))
    refine kcp h (fun _ hr54 => (parse_parser_want.ok (b0 := b0) hr54 R_a0_0)) rfl ⟨(t3 hm_H_a0_0), trivial⟩ (fun _ e => k_blk_panic (k_then_panic (kpn 3 e rfl))) fun r54 h => ?_
    rintro _ _ ⟨rfl, rfl⟩
    exact nx_ret1 (knl (k_blk (k_then (K.mv2 (K.mv3 (K.mv2 (K.mv3 (k_meet (25, 0, l49, r54, h50, A51, k52) ⟨h, o53⟩ sb rfl))))))))
   ·refine ksr (kx 1 (bnd h fun r56 hr56 h => (kc1 (parse_parser_got.ok (b0 := b0) hr56 R_a0_0) rfl ⟨(t3 hm_H_a0_0), trivial⟩ (kx 1 (knt ?_)))))
    refine kcn h (fun h => ?_) fun h => ?_
    ·refine k_region (kx 1 (kcp h (fun _ hr58 => (hR.parse_parser_branches (b0 := b0) hr58 R_a0_0)) rfl ⟨(t3 hm_H_a0_0), trivial⟩ (fun _ e => k_blk_panic (k_then_panic (kpn 3 e rfl))) fun r58 h => ?_))
     rintro _ _ ⟨h59, A60, k61, o62, rfl, rfl⟩
     refine nx_ret2 (K.mv3 (K.drop (kx 1 (K.mv2 (kst 0 1 #[iv 24, sv noS, iv 0, iv r2.2.2.2, nS] (kx 1 (kst 4 1 #[iv 24, sv noS, iv 0, iv r2.2.2.2, .slice A60 r58.1.length k61] (knl (k_blk (k_then ?_))))))))))
     exact K.mv1 (K.mv3 (K.mv3 (K.mv3 (k_meet (24, 0, r58.1, r58.2, h59, A60, k61) ⟨h, o62⟩ sb rfl))))
    ·refine ksr (kx 1 (bnd h fun r64 hr64 h => (kc1 (parse_parser_got.ok (b0 := b0) hr64 R_a0_0) rfl ⟨(t3 hm_H_a0_0), trivial⟩ (kx 1 (knt ?_)))))
     refine kcn h (fun h => ?_) fun h => ?_
     ·refine ksr (kx 2 (kld 2 3 rfl (K.mv1 (K.drop (K.mv1 (K.drop (kcp h (fun _ hr66 => (hR.parse_parser_loop (b0 := b0) hr66 R_a0_0)) rfl ⟨(.tail _ hm_H_a0_0), trivial⟩ (fun _ e => k_then_panic (k_blk_panic (k_then_panic (kpn 1 e rfl)))) fun r66 h => ?_)))))))
      rintro _ _ ⟨h67, A68, k69, o70, rfl, rfl⟩
      refine nx_ret2 (K.mv2 (kst 0 5 #[iv r66.1, sv r66.2.1, iv r66.2.2.1, iv r66.2.2.2.1, .slice A68 r66.2.2.2.2.1.length k69] (knt (k_ret (k_blk_ret (k_then_ret ?_))))))
      obtain rfl := Option.some.inj h
      exact kda 0 5 rfl [h67, bk b0 #[.slice A_a0_0 a0_0.length c_a0_0, iv r66.2.2.2.2.2] 73] (K.drop (k_end (PR.okI ⟨h67, A68, k69, o70, rfl, rfl⟩)))
     ·refine ksr (kx 1 (bnd h fun r72 hr72 h => (kc1 (parse_parser_got.ok (b0 := b0) hr72 R_a0_0) rfl ⟨(t3 hm_H_a0_0), trivial⟩ (K.mv2 (K.drop (kx 1 (knt ?_)))))))
      refine kcn h (fun h => ?_) fun h => ?_
      ·refine ksr (kx 1 (kcp h (fun _ hr74 => (parse_parser_names.ok (b0 := b0) hr74 R_a0_0)) rfl ⟨(t2 hm_H_a0_0), trivial⟩ (fun _ e => k_then_panic (k_blk_panic (k_then_panic (kpn 2 e rfl)))) fun r74 h => ?_))
       rintro _ _ ⟨h75, A76, k77, o78, rfl, rfl⟩
       refine nx_ret2 (kx 1 (K.mv2 (kst 0 1 #[iv 21, sv noS, iv 0, iv r2.2.2.2, nS] (kx 1 (kst 4 1 #[iv 21, sv noS, iv 0, iv r2.2.2.2, .slice A76 r74.1.length k77] (kns' (kx 1 (kld 0 4 rfl (kx 2 (kst 2 1 #[iv 21, sv noS, iv ((r74.1.length : Nat) : Int), iv r2.2.2.2, .slice A76 r74.1.length k77] ?_))))))))))
       refine kns' (kx 1 (K.mv2 (bnd h fun r80 hr80 h => (kc1 (parse_parser_got.ok (b0 := b0) hr80 R_a0_0) rfl ⟨(t3 hm_H_a0_0), trivial⟩ (knt ?_)))))
       refine kcn h (fun h => ?_) fun h => ?_
       ·refine kpr [(0, 0), (1, 3), (2, 0), (3, 1)] [1] (kpx 1 (kpd 0 4 rfl (kpx 1 (kpt (ocp h (fun _ hr82 => (parse_parser_exps.ok (b0 := b0) hr82 R_a0_0)) rfl ⟨(t3 hm_H_a0_0), trivial⟩ (fun _ e => k_blk_panic (k_then_panic (kpn 3 e rfl))) fun r82 h => ?_)))))
        rintro _ _ ⟨h83, A84, k85, o86, rfl, rfl⟩
        refine nx_ret2 (kan [2] rfl (kpz (K.mv3 (bnd h fun l88 hl88 h => (kapR rfl ety34 rfl hl88 o78 o86 fun h89 A90 k91 o92 => (kx 1 (K.mv2 (kst 4 1 #[iv 21, sv noS, iv ((r74.1.length : Nat) : Int), iv r2.2.2.2, .slice A90 l88.length k91] (knl (k_blk ?_))))))))))
        exact k_then (K.mv1 (K.mv3 (K.mv3 (K.mv3 (k_meet (21, ((r74.1.length : Nat) : Int), l88, r82.2, h89, A90, k91) ⟨h, o92⟩ sb rfl)))))
       ·exact k_skip (k_blk (k_then (K.mv2 (K.mv3 (K.mv2 (K.mv3 (k_meet (21, ((r74.1.length : Nat) : Int), r74.1, r80.2, h75, A76, k77) ⟨h, o78⟩ sb rfl)))))))
      ·refine ksr (kx 1 (bnd h fun r93 hr93 h => (kc1 (parse_parser_got.ok (b0 := b0) hr93 R_a0_0) rfl ⟨(t2 hm_H_a0_0), trivial⟩ (kx 1 (knt ?_)))))
       refine kcn h (fun h => ?_) fun h => ?_
       ·refine k_region (kx 1 (K.mv1 (kst 0 1 #[iv 29, sv noS, iv 0, iv r2.2.2.2, nS] (knl (k_blk (k_then (k_none (K.mv3 (K.mv3 (K.mv3 ?_))))))))))
        exact k_meet (29, 0, [], r93.2, none_, none, 0) ⟨h, (OwnR.nil (rTree 36) 36 none_)⟩ sb rfl
       ·refine ksr (kx 1 (kcp h (fun _ hr95 => (hR.parse_parser_plain (b0 := b0) hr95 R_a0_0)) rfl ⟨(t2 hm_H_a0_0), trivial⟩ (fun _ e => k_then_panic (k_blk_panic (k_then_panic (kpn 2 e rfl)))) fun r95 h => ?_))
        rintro _ _ ⟨h96, A97, k98, o99, rfl, rfl⟩
        refine nx_ret2 (K.mv2 (K.drop (K.mv2 (kst 0 5 #[iv r95.1, sv r95.2.1, iv r95.2.2.1, iv r95.2.2.2.1, .slice A97 r95.2.2.2.2.1.length k98] (knt (k_ret (k_blk_ret (k_then_ret ?_))))))))
        obtain rfl := Option.some.inj h
        exact kda 0 5 rfl [h96, bk b0 #[.slice A_a0_0 a0_0.length c_a0_0, iv r95.2.2.2.2.2] 73] (K.drop (k_end (PR.okI ⟨h96, A97, k98, o99, rfl, rfl⟩)))
def parse_parser_branches.l0 : Nat → (Rc : PS) → (a0_0 : List (Int × ByteArray × Int × Int)) → (J7 : (List Tree) → Int → Option (PR (List Tree × Int))) → (l33 : List Tree) → (x38 : Int) → Option (PR (List Tree × Int))
 | 0, _, _, _, _, _ => none
 | m39 + 1, Rc, a0_0, J7, l33, x38 => PR.bind (parse_parser_exp.f m39 a0_0 x38 0) fun r40 => (apd 64 l33 [(Tree.mk r40.1 r40.2.1 r40.2.2.1 r40.2.2.2.1 r40.2.2.2.2.1)]).bind fun l49 => PR.bind (parse_parser_want.f m39 a0_0 r40.2.2.2.2.2 (⟨#[116, 104, 101, 110]⟩ : ByteArray)) fun r54 => PR.bind (Rc.parse_parser_block a0_0 r54 false) fun r56 => (apd 64 l49 [(Tree.mk r56.1 r56.2.1 r56.2.2.1 r56.2.2.2.1 r56.2.2.2.2.1)]).bind fun l65 => (parse_parser_got.f m39 a0_0 r56.2.2.2.2.2 (⟨#[101, 108, 115, 101, 105, 102]⟩ : ByteArray)).bind fun r70 => cond (!r70.1) (J7 l65 r70.2) (parse_parser_branches.l0 m39 Rc a0_0 J7 l65 r70.2)
def parse_parser_branches.g (Rc : PS) (k : Nat) (a0_0 : List (Int × ByteArray × Int × Int)) (a0_1 : Int) : Option (PR (List Tree × Int)) := joinF (fun (l1 : List Tree) (x6 : Int) => joinF (fun (l8 : List Tree) (x13 : Int) => PR.bind (parse_parser_want.f k a0_0 x13 (⟨#[101, 110, 100]⟩ : ByteArray)) fun r15 => some (PR.ok (l8, r15))) (fun J14 => (parse_parser_got.f k a0_0 x6 (⟨#[101, 108, 115, 101]⟩ : ByteArray)).bind fun r17 => cond r17.1 (PR.bind (Rc.parse_parser_block a0_0 r17.2 false) fun r19 => (apd 64 l1 [(Tree.mk r19.1 r19.2.1 r19.2.2.1 r19.2.2.2.1 r19.2.2.2.2.1)]).bind fun l28 => J14 l28 r19.2.2.2.2.2) (J14 l1 r17.2))) (fun J7 => parse_parser_branches.l0 k Rc a0_0 J7 ([]) a0_1)
set_option maxRecDepth 100000 in
theorem parse_parser_branches.okg {Rc : PS} (hR : Rc.Good) {k : Nat} {a0_0 : List (Int × ByteArray × Int × Int)} {a0_1 : Int} {b0 : Nat} {H_a0_0 : Frag} {A_a0_0 : Option Addr} {c_a0_0 : Nat} {r : PR (List Tree × Int)} (h : parse_parser_branches.g Rc k a0_0 a0_1 = some r) (R_a0_0 : RdT e76 4 H_a0_0 (.slice A_a0_0 a0_0.length c_a0_0) a0_0) : Ct Tryz.prog 70 #[pt b0] [bk b0 #[.slice A_a0_0 a0_0.length c_a0_0, iv a0_1] 73] [H_a0_0] (PR.Post failV (fun (r : List Tree × Int) e l1 => ∃ (H0_ : Frag) (A0_ : Option Addr) (c0_ : Nat), OwnR (rTree 36) 36 H0_ (.slice A0_ r.1.length c0_) r.1 ∧ e = .returned (.slice A0_ r.1.length c0_) ∧ l1 = [H0_, bk b0 #[.slice A_a0_0 a0_0.length c_a0_0, iv r.2] 73]) r) := by
 refine ct_enter (args := [pt b0]) Tryz.func70 rfl (Nat.le_of_ble_eq_true rfl) ?_
 intro A X hh_
 obtain ⟨hm_H_a0_0, _⟩ := hh_
 unfold parse_parser_branches.g at h
 refine K.eq (env' := [(0, pt b0)]) (l' := bk b0 #[.slice A_a0_0 a0_0.length c_a0_0, iv a0_1] 73 :: X) rfl rfl (ksr (kx 1 (kns' (kx 1 (knt ?_)))))
 obtain ⟨J7, hJ7, h⟩ := joinSplit h
 refine k_cut (τ := (List Tree) × Int × Frag × (Option Addr) × Nat) (fun t => [(0, pt b0), (3, .slice t.2.2.2.1 t.1.length t.2.2.2.2)]) (fun t => bk b0 #[.slice A_a0_0 a0_0.length c_a0_0, iv t.2.1] 73 :: t.2.2.1 :: X) (fun t => J7 t.1 t.2.1 = some r ∧ OwnR (rTree 36) 36 t.2.2.1 (.slice t.2.2.2.1 t.1.length t.2.2.2.2) t.1) ?_ ?_
 ·rintro ⟨l1, x6, h2, A3, k4⟩ ⟨h, o5⟩
  subst hJ7
  obtain ⟨J14, hJ14, h⟩ := joinSplit h
  refine k_cut (τ := (List Tree) × Int × Frag × (Option Addr) × Nat) (fun t => [(0, pt b0), (3, .slice t.2.2.2.1 t.1.length t.2.2.2.2)]) (fun t => bk b0 #[.slice A_a0_0 a0_0.length c_a0_0, iv t.2.1] 73 :: t.2.2.1 :: X) (fun t => J14 t.1 t.2.1 = some r ∧ OwnR (rTree 36) 36 t.2.2.1 (.slice t.2.2.2.1 t.1.length t.2.2.2.2) t.1) ?_ ?_
  ·rintro ⟨l8, x13, h9, A10, k11⟩ ⟨h, o12⟩
   subst hJ14
   refine ksr (kx 1 (kcp h (fun _ hr15 => (parse_parser_want.ok (b0 := b0) hr15 R_a0_0)) rfl ⟨(.tail _ hm_H_a0_0), trivial⟩ (fun _ e => k_then_panic (kpn 1 e rfl)) fun r15 h => ?_))
   rintro _ _ ⟨rfl, rfl⟩
   refine nx_ret1 (kns' (kx 2 (knt (k_ret ?_))))
   obtain rfl := Option.some.inj h
   exact kdv (.slice A10 l8.length k11) [h9, bk b0 #[.slice A_a0_0 a0_0.length c_a0_0, iv r15] 73] (K.mv1 (k_end (PR.okI ⟨h9, A10, k11, o12, rfl, rfl⟩)))
  ·skip
   refine ksr (kx 1 (bnd h fun r17 hr17 h => (kc1 (parse_parser_got.ok (b0 := b0) hr17 R_a0_0) rfl ⟨(.tail _ hm_H_a0_0), trivial⟩ (knt ?_))))
   refine kcn h (fun h => ?_) fun h => ?_
   ·refine k_region (kx 2 (kcp h (fun _ hr19 => (hR.parse_parser_block (b0 := b0) hr19 R_a0_0)) rfl ⟨(.tail _ hm_H_a0_0), trivial⟩ (fun _ e => k_then_panic (kpn 1 e rfl)) fun r19 h => ?_))
    rintro _ _ ⟨h20, A21, k22, o23, rfl, rfl⟩
    refine nx_ret2 (kns #[iv r19.1, sv r19.2.1, iv r19.2.2.1, iv r19.2.2.2.1, .slice A21 r19.2.2.2.2.1.length k22] 36 1 fun b25 => (K.mv1 (K.mv1 (k_row (T := 36) (n := 1) (xs := [(Tree.mk r19.1 r19.2.1 r19.2.2.1 r19.2.2.2.1 r19.2.2.2.2.1)]) (RowI.one (treeO_mk (k := r19.1) (t := r19.2.1) (n := r19.2.2.1) (a := r19.2.2.2.1) 36 o23)) rfl rfl (Nat.le_of_ble_eq_true rfl) fun h26 o27 => (K.mv2 (bnd h fun l28 hl28 h => (kapR rfl ety34 rfl hl28 o5 o27 fun h29 A30 k31 o32 => (kx 1 (knt (K.mv1 ?_))))))))))
    exact k_meet (l28, r19.2.2.2.2.2, h29, A30, k31) ⟨h, o32⟩ sb rfl
   ·exact k_skip (k_then (k_meet (l1, r17.2, h2, A3, k4) ⟨h, o5⟩ sb rfl))
 ·skip
  refine k_block (k_none (K.mv1 (k_loop (τ := (List Tree) × Int × Frag × (Option Addr) × Nat) (fun t => [(0, pt b0), (3, .slice t.2.2.2.1 t.1.length t.2.2.2.2)]) (fun t => bk b0 #[.slice A_a0_0 a0_0.length c_a0_0, iv t.2.1] 73 :: t.2.2.1 :: X) (fun m t => parse_parser_branches.l0 m Rc a0_0 J7 t.1 t.2.1 = some r ∧ OwnR (rTree 36) 36 t.2.2.1 (.slice t.2.2.2.1 t.1.length t.2.2.2.2) t.1) k ([], a0_1, none_, none, 0) ⟨h, (OwnR.nil (rTree 36) 36 none_)⟩ sb rfl ?_)))
  clear h
  rintro m39 ⟨l33, x38, h34, A35, k36⟩ ⟨h, o37⟩
  cases m39 with
  | zero => simp [parse_parser_branches.l0] at h
  | succ m39 =>
   simp only [parse_parser_branches.l0] at h
   refine k_block (ksr (kx 2 (kcp h (fun _ hr40 => (parse_parser_exp.ok (b0 := b0) hr40 R_a0_0)) rfl ⟨(.tail _ hm_H_a0_0), trivial⟩ (fun _ e => k_then_panic (k_blk_panic (k_then_panic (k_blk_panic (k_then_panic (kpn 1 e rfl)))))) fun r40 h => ?_)))
   rintro _ _ ⟨h41, A42, k43, o44, rfl, rfl⟩
   refine nx_ret2 (kns #[iv r40.1, sv r40.2.1, iv r40.2.2.1, iv r40.2.2.2.1, .slice A42 r40.2.2.2.2.1.length k43] 36 1 fun b46 => (K.mv1 (K.mv1 (k_row (T := 36) (n := 1) (xs := [(Tree.mk r40.1 r40.2.1 r40.2.2.1 r40.2.2.2.1 r40.2.2.2.2.1)]) (RowI.one (treeO_mk (k := r40.1) (t := r40.2.1) (n := r40.2.2.1) (a := r40.2.2.2.1) 36 o44)) rfl rfl (Nat.le_of_ble_eq_true rfl) fun h47 o48 => (K.mv2 (bnd h fun l49 hl49 h => (kapR rfl ety34 rfl hl49 o37 o48 fun h50 A51 k52 o53 => (kx 1 (kns' (kx 1 ?_))))))))))
   refine K.mv1 (kcp h (fun _ hr54 => (parse_parser_want.ok (b0 := b0) hr54 R_a0_0)) rfl ⟨(.tail _ hm_H_a0_0), trivial⟩ (fun _ e => k_then_panic (k_blk_panic (k_then_panic (k_blk_panic (k_then_panic (kpn 1 e rfl)))))) fun r54 h => ?_)
   rintro _ _ ⟨rfl, rfl⟩
   refine nx_ret1 (kns' (kx 2 (kcp h (fun _ hr56 => (hR.parse_parser_block (b0 := b0) hr56 R_a0_0)) rfl ⟨(.tail _ hm_H_a0_0), trivial⟩ (fun _ e => k_then_panic (k_blk_panic (k_then_panic (k_blk_panic (k_then_panic (kpn 1 e rfl)))))) fun r56 h => ?_)))
   rintro _ _ ⟨h57, A58, k59, o60, rfl, rfl⟩
   refine nx_ret2 (kns #[iv r56.1, sv r56.2.1, iv r56.2.2.1, iv r56.2.2.2.1, .slice A58 r56.2.2.2.2.1.length k59] 36 1 fun b62 => (K.mv1 (K.mv1 (k_row (T := 36) (n := 1) (xs := [(Tree.mk r56.1 r56.2.1 r56.2.2.1 r56.2.2.2.1 r56.2.2.2.2.1)]) (RowI.one (treeO_mk (k := r56.1) (t := r56.2.1) (n := r56.2.2.1) (a := r56.2.2.2.1) 36 o60)) rfl rfl (Nat.le_of_ble_eq_true rfl) fun h63 o64 => (K.mv2 (bnd h fun l65 hl65 h => (kapR rfl ety34 rfl hl65 o53 o64 fun h66 A67 k68 o69 => (kx 1 (kns' (kx 1 ?_))))))))))
   refine K.mv1 (bnd h fun r70 hr70 h => (kc1 (parse_parser_got.ok (b0 := b0) hr70 R_a0_0) rfl ⟨(.tail _ hm_H_a0_0), trivial⟩ (kx 1 (knt ?_))))
   refine kcn h (fun h => ?_) fun h => ?_
   ·exact k_exit (k_there rfl (k_then_exit (k_here (k_then (k_meet (l65, r70.2, h66, A67, k68) ⟨h, o69⟩ sb rfl)))))
   ·exact k_skip (k_blk (k_then (k_again m39 (l65, r70.2, h66, A67, k68) (Nat.lt_succ_self _) ⟨h, o69⟩ sb rfl)))
def parse_parser_loop.g (Rc : PS) (k : Nat) (a0_0 : List (Int × ByteArray × Int × Int)) (a0_1 : Int) (a1 : Int) : Option (PR (Int × ByteArray × Int × Int × List Tree × Int)) := PR.bind (parse_parser_name.f k a0_0 a0_1) fun r2 => joinF (fun (x10 : Int) (x11 : Int) (l12 : List Tree) (x17 : Int) => PR.bind (parse_parser_want.f k a0_0 x17 (⟨#[100, 111]⟩ : ByteArray)) fun r19 => PR.bind (Rc.parse_parser_block a0_0 r19 false) fun r21 => (apd 64 l12 [(Tree.mk r21.1 r21.2.1 r21.2.2.1 r21.2.2.2.1 r21.2.2.2.2.1)]).bind fun l30 => PR.bind (parse_parser_want.f k a0_0 r21.2.2.2.2.2 (⟨#[101, 110, 100]⟩ : ByteArray)) fun r35 => some (PR.ok (x10, (⟨#[]⟩ : ByteArray), x11, a1, l30, r35))) (fun J18 => (parse_parser_got.f k a0_0 r2.2.2.2.2.2 (⟨#[61]⟩ : ByteArray)).bind fun r37 => cond r37.1 (PR.bind (parse_parser_exp.f k a0_0 r37.2 0) fun r39 => (apd 64 [(Tree.mk r2.1 r2.2.1 r2.2.2.1 r2.2.2.2.1 r2.2.2.2.2.1)] [(Tree.mk r39.1 r39.2.1 r39.2.2.1 r39.2.2.2.1 r39.2.2.2.2.1)]).bind fun l50 => PR.bind (parse_parser_want.f k a0_0 r39.2.2.2.2.2 (⟨#[44]⟩ : ByteArray)) fun r55 => PR.bind (parse_parser_exp.f k a0_0 r55 0) fun r57 => (apd 64 l50 [(Tree.mk r57.1 r57.2.1 r57.2.2.1 r57.2.2.2.1 r57.2.2.2.2.1)]).bind fun l66 => (parse_parser_got.f k a0_0 r57.2.2.2.2.2 (⟨#[44]⟩ : ByteArray)).bind fun r71 => cond r71.1 (PR.bind (parse_parser_exp.f k a0_0 r71.2 0) fun r73 => (apd 64 l66 [(Tree.mk r73.1 r73.2.1 r73.2.2.1 r73.2.2.2.1 r73.2.2.2.2.1)]).bind fun l82 => J18 26 0 l82 r73.2.2.2.2.2) (J18 26 0 l66 r71.2)) (joinF (fun (x87 : Int) (l88 : List Tree) => PR.bind (parse_parser_want.f k a0_0 x87 (⟨#[105, 110]⟩ : ByteArray)) fun r94 => PR.bind (parse_parser_exps.f k a0_0 r94) fun r96 => (apd 64 l88 r96.1).bind fun l102 => J18 27 ((l88.length : Nat) : Int) l102 r96.2) (fun J93 => (parse_parser_got.f k a0_0 r37.2 (⟨#[44]⟩ : ByteArray)).bind fun r107 => cond r107.1 (PR.bind (parse_parser_names.f k a0_0 r107.2) fun r109 => (apd 64 [(Tree.mk r2.1 r2.2.1 r2.2.2.1 r2.2.2.2.1 r2.2.2.2.2.1)] r109.1).bind fun l117 => J93 r109.2 l117) (J93 r107.2 ([(Tree.mk r2.1 r2.2.1 r2.2.2.1 r2.2.2.2.1 r2.2.2.2.2.1)])))))
set_option maxRecDepth 100000 in
theorem parse_parser_loop.okg {Rc : PS} (hR : Rc.Good) {k : Nat} {a0_0 : List (Int × ByteArray × Int × Int)} {a0_1 : Int} {a1 : Int} {b0 : Nat} {H_a0_0 : Frag} {A_a0_0 : Option Addr} {c_a0_0 : Nat} {r : PR (Int × ByteArray × Int × Int × List Tree × Int)} (h : parse_parser_loop.g Rc k a0_0 a0_1 a1 = some r) (R_a0_0 : RdT e76 4 H_a0_0 (.slice A_a0_0 a0_0.length c_a0_0) a0_0) : Ct Tryz.prog 71 #[pt b0, iv a1] [bk b0 #[.slice A_a0_0 a0_0.length c_a0_0, iv a0_1] 73] [H_a0_0] (PR.Post failV (fun (r : Int × ByteArray × Int × Int × List Tree × Int) e l1 => ∃ (H0_ : Frag) (A0_ : Option Addr) (c0_ : Nat), OwnR (rTree 36) 36 H0_ (.slice A0_ r.2.2.2.2.1.length c0_) r.2.2.2.2.1 ∧ e = .returned (.agg #[iv r.1, sv r.2.1, iv r.2.2.1, iv r.2.2.2.1, .slice A0_ r.2.2.2.2.1.length c0_]) ∧ l1 = [H0_, bk b0 #[.slice A_a0_0 a0_0.length c_a0_0, iv r.2.2.2.2.2] 73]) r) := by
 refine ct_enter (args := [pt b0, iv a1]) Tryz.func71 rfl (Nat.le_of_ble_eq_true rfl) ?_
 intro A X hh_
 obtain ⟨hm_H_a0_0, _⟩ := hh_
 unfold parse_parser_loop.g at h
 refine K.eq (env' := [(0, pt b0), (1, iv a1)]) (l' := bk b0 #[.slice A_a0_0 a0_0.length c_a0_0, iv a0_1] 73 :: X) rfl rfl (ksr (knp #[iv 0, sv noS, iv 0, iv 0, nS] 36 fun b1 => (kns' (kx 2 (K.mv1 (kcp h (fun _ hr2 => (parse_parser_name.ok (b0 := b0) hr2 R_a0_0)) rfl ⟨(.tail _ hm_H_a0_0), trivial⟩ (fun _ e => k_then_panic (kpn 1 e rfl)) fun r2 h => ?_))))))
 rintro _ _ ⟨h3, A4, k5, o6, rfl, rfl⟩
 refine nx_ret2 (kns #[iv r2.1, sv r2.2.1, iv r2.2.2.1, iv r2.2.2.2.1, .slice A4 r2.2.2.2.2.1.length k5] 36 1 fun b8 => (kx 1 (knp #[iv 0, sv noS, iv 0, iv 0, nS] 36 fun b9 => (kst 0 5 #[iv 27, sv noS, iv 0, iv a1, .slice (some ⟨b8, 0, none⟩) 1 1] (knt ?_)))))
 obtain ⟨J18, hJ18, h⟩ := joinSplit h
 refine k_cut (τ := Int × Int × (List Tree) × Int × Frag × (Option Addr) × Nat) (fun t => [(0, pt b0), (4, pt b1), (5, pt b9)]) (fun t => bk b9 #[iv t.1, sv noS, iv t.2.1, iv a1, .slice t.2.2.2.2.2.1 t.2.2.1.length t.2.2.2.2.2.2] 36 :: bk b0 #[.slice A_a0_0 a0_0.length c_a0_0, iv t.2.2.2.1] 73 :: bk b1 #[iv 0, sv noS, iv 0, iv 0, nS] 36 :: t.2.2.2.2.1 :: X) (fun t => J18 t.1 t.2.1 t.2.2.1 t.2.2.2.1 = some r ∧ OwnR (rTree 36) 36 t.2.2.2.2.1 (.slice t.2.2.2.2.2.1 t.2.2.1.length t.2.2.2.2.2.2) t.2.2.1) ?_ ?_
 ·rintro ⟨x10, x11, l12, x17, h13, A14, k15⟩ ⟨h, o16⟩
  subst hJ18
  refine ksr (kx 1 (K.mv1 (kcp h (fun _ hr19 => (parse_parser_want.ok (b0 := b0) hr19 R_a0_0)) rfl ⟨(t3 hm_H_a0_0), trivial⟩ (fun _ e => k_then_panic (kpn 3 e rfl)) fun r19 h => ?_)))
  rintro _ _ ⟨rfl, rfl⟩
  refine nx_ret1 (knt (k_seq (kpr [(0, 0), (1, 3), (2, 0), (3, 1), (4, 1)] [1] (kpx 1 (kpd 0 4 rfl (kpx 1 (kpt (ocp h (fun _ hr21 => (hR.parse_parser_block (b0 := b0) hr21 R_a0_0)) rfl ⟨(t3 hm_H_a0_0), trivial⟩ (fun _ e => k_then_panic (kpn 3 e rfl)) fun r21 h => ?_))))))))
  rintro _ _ ⟨h22, A23, k24, o25, rfl, rfl⟩
  refine nx_ret2 (kan [2] rfl (kpt (ons #[iv r21.1, sv r21.2.1, iv r21.2.2.1, iv r21.2.2.2.1, .slice A23 r21.2.2.2.2.1.length k24] 36 1 fun b27 => (kan [3] rfl (kpz (K.mv1 (K.mv1 (k_row (T := 36) (n := 1) (xs := [(Tree.mk r21.1 r21.2.1 r21.2.2.1 r21.2.2.2.1 r21.2.2.2.2.1)]) (RowI.one (treeO_mk (k := r21.1) (t := r21.2.1) (n := r21.2.2.1) (a := r21.2.2.2.1) 36 o25)) rfl rfl (Nat.le_of_ble_eq_true rfl) fun h28 o29 => (K.mv4 (bnd h fun l30 hl30 h => ?_))))))))))
  refine kapR rfl ety34 rfl hl30 o16 o29 fun h31 A32 k33 o34 => (kx 1 (K.mv2 (kst 4 1 #[iv x10, sv noS, iv x11, iv a1, .slice A32 l30.length k33] (kns' (kx 1 (K.mv2 (kcp h (fun _ hr35 => (parse_parser_want.ok (b0 := b0) hr35 R_a0_0)) rfl ⟨(t3 hm_H_a0_0), trivial⟩ (fun _ e => k_then_panic (kpn 3 e rfl)) fun r35 h => ?_)))))))
  rintro _ _ ⟨rfl, rfl⟩
  refine nx_ret1 (kns' (kla 1 0 5 rfl (K.mv1 (K.drop (K.mv2 (kst 0 5 #[iv x10, sv noS, iv x11, iv a1, .slice A32 l30.length k33] (knt (k_ret ?_))))))))
  obtain rfl := Option.some.inj h
  exact kda 0 5 rfl [h31, bk b0 #[.slice A_a0_0 a0_0.length c_a0_0, iv r35] 73] (K.drop (K.mv1 (k_end (PR.okI ⟨h31, A32, k33, o34, rfl, rfl⟩))))
 ·skip
  refine ksr (kx 1 (K.mv3 (bnd h fun r37 hr37 h => (kc1 (parse_parser_got.ok (b0 := b0) hr37 R_a0_0) rfl ⟨(t4 hm_H_a0_0), trivial⟩ (knt ?_)))))
  refine kcn h (fun h => ?_) fun h => ?_
  ·refine ksr (kx 1 (K.mv1 (kst 0 1 #[iv 26, sv noS, iv 0, iv a1, .slice (some ⟨b8, 0, none⟩) 1 1] (knt (k_seq (kpr [(0, 0), (1, 3), (2, 0), (3, 1), (4, 1)] [0] (kpx 1 (kpd 0 4 rfl (kpx 1 (kpt ?_))))))))))
   refine K.mv1 (ocp h (fun _ hr39 => (parse_parser_exp.ok (b0 := b0) hr39 R_a0_0)) rfl ⟨(t4 hm_H_a0_0), trivial⟩ (fun _ e => k_then_panic (k_then_panic (kpn 4 e rfl))) fun r39 h => ?_)
   rintro _ _ ⟨h40, A41, k42, o43, rfl, rfl⟩
   refine nx_ret2 (kan [2] rfl (kpt (ons #[iv r39.1, sv r39.2.1, iv r39.2.2.1, iv r39.2.2.2.1, .slice A41 r39.2.2.2.2.1.length k42] 36 1 fun b45 => (kan [3] rfl (kpz (K.mv1 (K.mv1 (k_row (T := 36) (n := 1) (xs := [(Tree.mk r39.1 r39.2.1 r39.2.2.1 r39.2.2.2.1 r39.2.2.2.2.1)]) (RowI.one (treeO_mk (k := r39.1) (t := r39.2.1) (n := r39.2.2.1) (a := r39.2.2.2.1) 36 o43)) rfl rfl (Nat.le_of_ble_eq_true rfl) fun h46 o47 => (K.mv4 (K.mv4 ?_))))))))))
   refine k_row (T := 36) (n := 1) (xs := [(Tree.mk r2.1 r2.2.1 r2.2.2.1 r2.2.2.2.1 r2.2.2.2.2.1)]) (RowI.one (treeO_mk (k := r2.1) (t := r2.2.1) (n := r2.2.2.1) (a := r2.2.2.2.1) 36 o6)) rfl rfl (Nat.le_of_ble_eq_true rfl) fun h48 o49 => (K.mv1 (K.mv1 (bnd h fun l50 hl50 h => (kapR rfl ety34 rfl hl50 o49 o47 fun h51 A52 k53 o54 => (kx 1 (K.mv2 (kst 4 1 #[iv 26, sv noS, iv 0, iv a1, .slice A52 l50.length k53] (kns' (kx 1 (K.mv2 ?_))))))))))
   refine kcp h (fun _ hr55 => (parse_parser_want.ok (b0 := b0) hr55 R_a0_0)) rfl ⟨(t3 hm_H_a0_0), trivial⟩ (fun _ e => k_then_panic (k_then_panic (kpn 3 e rfl))) fun r55 h => ?_
   rintro _ _ ⟨rfl, rfl⟩
   refine nx_ret1 (knt (k_seq (kpr [(0, 0), (1, 3), (2, 0), (3, 1), (4, 1)] [1] (kpx 1 (kpd 0 4 rfl (kpx 1 (kpt (ocp h (fun _ hr57 => (parse_parser_exp.ok (b0 := b0) hr57 R_a0_0)) rfl ⟨(t3 hm_H_a0_0), trivial⟩ (fun _ e => k_then_panic (k_then_panic (kpn 3 e rfl))) fun r57 h => ?_))))))))
   rintro _ _ ⟨h58, A59, k60, o61, rfl, rfl⟩
   refine nx_ret2 (kan [2] rfl (kpt (ons #[iv r57.1, sv r57.2.1, iv r57.2.2.1, iv r57.2.2.2.1, .slice A59 r57.2.2.2.2.1.length k60] 36 1 fun b63 => (kan [3] rfl (kpz (K.mv1 (K.mv1 (k_row (T := 36) (n := 1) (xs := [(Tree.mk r57.1 r57.2.1 r57.2.2.1 r57.2.2.2.1 r57.2.2.2.2.1)]) (RowI.one (treeO_mk (k := r57.1) (t := r57.2.1) (n := r57.2.2.1) (a := r57.2.2.2.1) 36 o61)) rfl rfl (Nat.le_of_ble_eq_true rfl) fun h64 o65 => (K.mv3 (bnd h fun l66 hl66 h => ?_))))))))))
   refine kapR rfl ety34 rfl hl66 o54 o65 fun h67 A68 k69 o70 => (kx 1 (K.mv2 (kst 4 1 #[iv 26, sv noS, iv 0, iv a1, .slice A68 l66.length k69] (kns' (kx 1 (K.mv2 (bnd h fun r71 hr71 h => (kc1 (parse_parser_got.ok (b0 := b0) hr71 R_a0_0) rfl ⟨(t3 hm_H_a0_0), trivial⟩ (knt ?_)))))))))
   refine kcn h (fun h => ?_) fun h => ?_
   ·refine kpr [(0, 0), (1, 3), (2, 0), (3, 1), (4, 1)] [1] (kpx 1 (kpd 0 4 rfl (kpx 1 (kpt (ocp h (fun _ hr73 => (parse_parser_exp.ok (b0 := b0) hr73 R_a0_0)) rfl ⟨(t3 hm_H_a0_0), trivial⟩ (fun _ e => k_then_panic (kpn 3 e rfl)) fun r73 h => ?_)))))
    rintro _ _ ⟨h74, A75, k76, o77, rfl, rfl⟩
    refine nx_ret2 (kan [2] rfl (kpt (ons #[iv r73.1, sv r73.2.1, iv r73.2.2.1, iv r73.2.2.2.1, .slice A75 r73.2.2.2.2.1.length k76] 36 1 fun b79 => (kan [3] rfl (kpz (K.mv1 (K.mv1 (k_row (T := 36) (n := 1) (xs := [(Tree.mk r73.1 r73.2.1 r73.2.2.1 r73.2.2.2.1 r73.2.2.2.2.1)]) (RowI.one (treeO_mk (k := r73.1) (t := r73.2.1) (n := r73.2.2.1) (a := r73.2.2.2.1) 36 o77)) rfl rfl (Nat.le_of_ble_eq_true rfl) fun h80 o81 => (K.mv3 (bnd h fun l82 hl82 h => ?_))))))))))
    exact kapR rfl ety34 rfl hl82 o70 o81 fun h83 A84 k85 o86 => (kx 1 (K.mv2 (kst 4 1 #[iv 26, sv noS, iv 0, iv a1, .slice A84 l82.length k85] (knt (K.mv1 (K.mv3 (K.mv3 (K.mv3 (k_meet (26, 0, l82, r73.2.2.2.2.2, h83, A84, k85) ⟨h, o86⟩ sb rfl)))))))))
   ·exact k_skip (k_then (K.mv2 (K.mv3 (K.mv2 (K.mv3 (k_meet (26, 0, l66, r71.2, h67, A68, k69) ⟨h, o70⟩ sb rfl))))))
  ·obtain ⟨J93, hJ93, h⟩ := joinSplit h
   refine k_cut (τ := Int × (List Tree) × Frag × (Option Addr) × Nat) (fun t => [(0, pt b0), (4, pt b1), (5, pt b9)]) (fun t => bk b0 #[.slice A_a0_0 a0_0.length c_a0_0, iv t.1] 73 :: bk b9 #[iv 27, sv noS, iv 0, iv a1, .slice t.2.2.2.1 t.2.1.length t.2.2.2.2] 36 :: bk b1 #[iv 0, sv noS, iv 0, iv 0, nS] 36 :: t.2.2.1 :: X) (fun t => J93 t.1 t.2.1 = some r ∧ OwnR (rTree 36) 36 t.2.2.1 (.slice t.2.2.2.1 t.2.1.length t.2.2.2.2) t.2.1) ?_ ?_
   ·rintro ⟨x87, l88, h89, A90, k91⟩ ⟨h, o92⟩
    subst hJ93
    refine ksr (kx 1 (kld 1 4 rfl (kx 2 (K.mv1 (kst 2 1 #[iv 27, sv noS, iv ((l88.length : Nat) : Int), iv a1, .slice A90 l88.length k91] (kns' (kx 1 (K.mv1 (kcp h (fun _ hr94 => (parse_parser_want.ok (b0 := b0) hr94 R_a0_0)) rfl ⟨(t3 hm_H_a0_0), trivial⟩ (fun _ e => k_then_panic (k_then_panic (kpn 3 e rfl))) fun r94 h => ?_)))))))))
    rintro _ _ ⟨rfl, rfl⟩
    refine nx_ret1 (knt (kpr [(0, 0), (1, 3), (2, 0), (3, 1)] [1] (kpx 1 (kpd 0 4 rfl (kpx 1 (kpt (ocp h (fun _ hr96 => (parse_parser_exps.ok (b0 := b0) hr96 R_a0_0)) rfl ⟨(t3 hm_H_a0_0), trivial⟩ (fun _ e => k_then_panic (kpn 3 e rfl)) fun r96 h => ?_)))))))
    rintro _ _ ⟨h97, A98, k99, o100, rfl, rfl⟩
    refine nx_ret2 (kan [2] rfl (kpz (K.mv4 (bnd h fun l102 hl102 h => (kapR rfl ety34 rfl hl102 o92 o100 fun h103 A104 k105 o106 => (kx 1 (K.mv2 (kst 4 1 #[iv 27, sv noS, iv ((l88.length : Nat) : Int), iv a1, .slice A104 l102.length k105] (knt (K.mv1 ?_))))))))))
    exact K.mv3 (K.mv3 (K.mv3 (k_meet (27, ((l88.length : Nat) : Int), l102, r96.2, h103, A104, k105) ⟨h, o106⟩ sb rfl)))
   ·skip
    refine ksr (kx 1 (bnd h fun r107 hr107 h => (kc1 (parse_parser_got.ok (b0 := b0) hr107 R_a0_0) rfl ⟨(t4 hm_H_a0_0), trivial⟩ (knt ?_))))
    refine kcn h (fun h => ?_) fun h => ?_
    ·refine kpr [(0, 0), (1, 3), (2, 0), (3, 1)] [1] (kpx 1 (kpd 0 4 rfl (kpx 1 (kpt (ocp h (fun _ hr109 => (parse_parser_names.ok (b0 := b0) hr109 R_a0_0)) rfl ⟨(t4 hm_H_a0_0), trivial⟩ (fun _ e => k_then_panic (k_then_panic (kpn 4 e rfl))) fun r109 h => ?_)))))
     rintro _ _ ⟨h110, A111, k112, o113, rfl, rfl⟩
     refine nx_ret2 (kan [2] rfl (kpz (K.mv4 (K.mv4 (k_row (T := 36) (n := 1) (xs := [(Tree.mk r2.1 r2.2.1 r2.2.2.1 r2.2.2.2.1 r2.2.2.2.2.1)]) (RowI.one (treeO_mk (k := r2.1) (t := r2.2.1) (n := r2.2.2.1) (a := r2.2.2.2.1) 36 o6)) rfl rfl (Nat.le_of_ble_eq_true rfl) fun h115 o116 => (K.mv1 (K.mv1 (bnd h fun l117 hl117 h => (kapR rfl ety34 rfl hl117 o116 o113 fun h118 A119 k120 o121 => (kx 1 ?_))))))))))
     exact K.mv2 (kst 4 1 #[iv 27, sv noS, iv 0, iv a1, .slice A119 l117.length k120] (knt (K.mv1 (K.mv3 (K.mv2 (K.mv3 (k_meet (r109.2, l117, h118, A119, k120) ⟨h, o121⟩ sb rfl)))))))
    ·exact k_skip (k_then (K.mv3 (K.mv3 (k_row (T := 36) (n := 1) (xs := [(Tree.mk r2.1 r2.2.1 r2.2.2.1 r2.2.2.2.1 r2.2.2.2.2.1)]) (RowI.one (treeO_mk (k := r2.1) (t := r2.2.1) (n := r2.2.2.1) (a := r2.2.2.2.1) 36 o6)) rfl rfl (Nat.le_of_ble_eq_true rfl) fun h122 o123 => (K.mv3 (K.mv3 (K.mv3 (k_meet (r107.2, [(Tree.mk r2.1 r2.2.1 r2.2.2.1 r2.2.2.2.1 r2.2.2.2.2.1)], h122, (some ⟨b8, 0, none⟩), 1) ⟨h, o123⟩ sb rfl))))))))
def parse_parser_plain.l0 : Nat → (a0_0 : List (Int × ByteArray × Int × Int)) → (J26 : (List Tree) → Int → Option (PR (Int × ByteArray × Int × Int × List Tree × Int))) → (x42 : Int) → (x43 : ByteArray) → (x44 : Int) → (x45 : Int) → (l46 : List Tree) → (l51 : List Tree) → (x56 : Int) → Option (PR (Int × ByteArray × Int × Int × List Tree × Int))
 | 0, _, _, _, _, _, _, _, _, _ => none
 | m57 + 1, a0_0, J26, x42, x43, x44, x45, l46, l51, x56 => joinF (fun (_ : Unit) => (apd 64 l51 [(Tree.mk x42 x43 x44 x45 l46)]).bind fun l62 => (parse_parser_got.f m57 a0_0 x56 (⟨#[44]⟩ : ByteArray)).bind fun r67 => cond (!r67.1) (J26 l62 r67.2) (PR.bind (parse_parser_suffixed.f m57 a0_0 r67.2) fun r70 => parse_parser_plain.l0 m57 a0_0 J26 r70.1 r70.2.1 r70.2.2.1 r70.2.2.2.1 r70.2.2.2.2.1 l62 r70.2.2.2.2.2)) (fun J58 => (parse_target.f m57 x42 x43 x44 x45 l46).bind fun r76 => cond (!r76) (PR.bind (parse_parser_fail.f m57 a0_0 x56 x45) fun r78 => J58 ()) (J58 ()))
def parse_parser_plain.g (Rc : PS) (k : Nat) (a0_0 : List (Int × ByteArray × Int × Int)) (a0_1 : Int) : Option (PR (Int × ByteArray × Int × Int × List Tree × Int)) := PR.bind (parse_parser_suffixed.f k a0_0 a0_1) fun r2 => ((parse_parser_is.f k a0_0 r2.2.2.2.2.2 (⟨#[61]⟩ : ByteArray)).bind fun r80 => cond (!r80) ((parse_parser_is.f k a0_0 r2.2.2.2.2.2 (⟨#[44]⟩ : ByteArray)).bind fun r82 => some (!r82)) (some false) : Option Bool).bind fun q9 => cond q9 (joinF (fun (_ : Unit) => some (PR.ok (23, (⟨#[]⟩ : ByteArray), 0, r2.2.2.2.1, [(Tree.mk r2.1 r2.2.1 r2.2.2.1 r2.2.2.2.1 r2.2.2.2.2.1)], r2.2.2.2.2.2))) (fun J11 => cond (r2.1 != 8) ((parse_parser_now.f k a0_0 r2.2.2.2.2.2).bind fun r16 => PR.bind (parse_parser_fail.f k a0_0 r2.2.2.2.2.2 r16.2.2.2) fun r17 => J11 ()) (J11 ()))) (joinF (fun (l20 : List Tree) (x25 : Int) => PR.bind (parse_parser_want.f k a0_0 x25 (⟨#[61]⟩ : ByteArray)) fun r27 => PR.bind (parse_parser_exps.f k a0_0 r27) fun r29 => (apd 64 l20 r29.1).bind fun l35 => some (PR.ok (22, (⟨#[]⟩ : ByteArray), ((l20.length : Nat) : Int), r2.2.2.2.1, l35, r29.2))) (fun J26 => parse_parser_plain.l0 k a0_0 J26 r2.1 r2.2.1 r2.2.2.1 r2.2.2.2.1 r2.2.2.2.2.1 ([]) r2.2.2.2.2.2))
set_option maxRecDepth 100000 in
theorem parse_parser_plain.okg {Rc : PS} (hR : Rc.Good) {k : Nat} {a0_0 : List (Int × ByteArray × Int × Int)} {a0_1 : Int} {b0 : Nat} {H_a0_0 : Frag} {A_a0_0 : Option Addr} {c_a0_0 : Nat} {r : PR (Int × ByteArray × Int × Int × List Tree × Int)} (h : parse_parser_plain.g Rc k a0_0 a0_1 = some r) (R_a0_0 : RdT e76 4 H_a0_0 (.slice A_a0_0 a0_0.length c_a0_0) a0_0) : Ct Tryz.prog 72 #[pt b0] [bk b0 #[.slice A_a0_0 a0_0.length c_a0_0, iv a0_1] 73] [H_a0_0] (PR.Post failV (fun (r : Int × ByteArray × Int × Int × List Tree × Int) e l1 => ∃ (H0_ : Frag) (A0_ : Option Addr) (c0_ : Nat), OwnR (rTree 36) 36 H0_ (.slice A0_ r.2.2.2.2.1.length c0_) r.2.2.2.2.1 ∧ e = .returned (.agg #[iv r.1, sv r.2.1, iv r.2.2.1, iv r.2.2.2.1, .slice A0_ r.2.2.2.2.1.length c0_]) ∧ l1 = [H0_, bk b0 #[.slice A_a0_0 a0_0.length c_a0_0, iv r.2.2.2.2.2] 73]) r) := by
 refine ct_enter (args := [pt b0]) Tryz.func72 rfl (Nat.le_of_ble_eq_true rfl) ?_
 intro A X hh_
 obtain ⟨hm_H_a0_0, _⟩ := hh_
 unfold parse_parser_plain.g at h
 refine K.eq (env' := [(0, pt b0)]) (l' := bk b0 #[.slice A_a0_0 a0_0.length c_a0_0, iv a0_1] 73 :: X) rfl rfl (ksr (knp #[iv 0, sv noS, iv 0, iv 0, nS] 36 fun b1 => (kns' (kx 1 (K.mv1 (kcp h (fun _ hr2 => (parse_parser_suffixed.ok (b0 := b0) hr2 R_a0_0)) rfl ⟨(.tail _ hm_H_a0_0), trivial⟩ (fun _ e => k_then_panic (kpn 1 e rfl)) fun r2 h => ?_))))))
 rintro _ _ ⟨h3, A4, k5, o6, rfl, rfl⟩
 refine nx_ret2 (knp #[iv 0, sv noS, iv 0, iv 0, nS] 36 fun b8 => (kst 0 5 #[iv r2.1, sv r2.2.1, iv r2.2.2.1, iv r2.2.2.2.1, .slice A4 r2.2.2.2.2.1.length k5] (knt (k_seq (bnd h fun q9 hq9 h => ?_)))))
 refine k_cut1 [(0, pt b0), (2, pt b1), (3, pt b8), (15, bv q9)] (bk b8 #[iv r2.1, sv r2.2.1, iv r2.2.2.1, iv r2.2.2.2.1, .slice A4 r2.2.2.2.2.1.length k5] 36 :: h3 :: bk b0 #[.slice A_a0_0 a0_0.length c_a0_0, iv r2.2.2.2.2.2] 73 :: bk b1 #[iv 0, sv noS, iv 0, iv 0, nS] 36 :: X) ?_ ?_
 ·clear hq9
  refine kcn h (fun h => ?_) fun h => ?_
  ·obtain ⟨J11, hJ11, h⟩ := joinSplit h
   refine k_cut (τ := Unit) (fun t => [(2, pt b1), (3, pt b8)]) (fun t => bk b8 #[iv r2.1, sv r2.2.1, iv r2.2.2.1, iv r2.2.2.2.1, .slice A4 r2.2.2.2.2.1.length k5] 36 :: h3 :: bk b0 #[.slice A_a0_0 a0_0.length c_a0_0, iv r2.2.2.2.2.2] 73 :: bk b1 #[iv 0, sv noS, iv 0, iv 0, nS] 36 :: X) (fun t => J11 () = some r) ?_ ?_
   ·rintro ⟨⟩ h
    subst hJ11
    refine ksr (kx 1 (kld 0 3 rfl (kla 0 0 5 rfl (K.drop (kns #[iv r2.1, sv r2.2.1, iv r2.2.2.1, iv r2.2.2.2.1, .slice A4 r2.2.2.2.2.1.length k5] 36 1 fun b12 => (kx 1 (K.mv3 (kst 0 5 #[iv 23, sv noS, iv 0, iv r2.2.2.2.1, .slice (some ⟨b12, 0, none⟩) 1 1] (knt (k_ret ?_))))))))))
    refine k_then_ret (K.mv2 (K.mv2 (k_row (T := 36) (n := 1) (xs := [(Tree.mk r2.1 r2.2.1 r2.2.2.1 r2.2.2.2.1 r2.2.2.2.2.1)]) (RowI.one (treeO_mk (k := r2.1) (t := r2.2.1) (n := r2.2.2.1) (a := r2.2.2.2.1) 36 o6)) rfl rfl (Nat.le_of_ble_eq_true rfl) fun h13 o14 => ?_)))
    obtain rfl := Option.some.inj h
    exact kda 1 5 rfl [h13, bk b0 #[.slice A_a0_0 a0_0.length c_a0_0, iv r2.2.2.2.2.2] 73] (K.mv1 (K.drop (k_end (PR.okI ⟨h13, (some ⟨b12, 0, none⟩), 1, o14, rfl, rfl⟩))))
   ·skip
    refine ksr (kx 1 (kld 0 0 rfl (kx 1 (knt ?_))))
    refine kcn h (fun h => ?_) fun h => ?_
    ·refine k_region (kx 2 (K.mv2 (bnd h fun r16 hr16 h => (kc1 (parse_parser_now.ok (b0 := b0) hr16 R_a0_0) rfl ⟨(t3 hm_H_a0_0), trivial⟩ (kx 1 (kcp h (fun _ hr17 => (parse_parser_fail.ok (b0 := b0) hr17 R_a0_0)) rfl ⟨(t3 hm_H_a0_0), trivial⟩ (fun _ e => k_then_panic (k_then_panic (kpn 3 e rfl))) fun r17 h => ?_))))))
     rintro _ _ ⟨rfl, rfl⟩
     exact nx_ret1 (knt (K.mv3 (K.mv1 (K.mv3 (K.mv3 (k_meet () h sb rfl))))))
    ·exact k_skip (k_then (k_meet () h sb rfl))
  ·refine k_skip (k_then (ksr (kx 1 (kld 0 3 rfl (kx 1 (knp #[iv 0, sv noS, iv 0, iv 0, nS] 36 fun b19 => (kst 0 5 #[iv 22, sv noS, iv 0, iv r2.2.2.2.1, nS] (knt ?_))))))))
   obtain ⟨J26, hJ26, h⟩ := joinSplit h
   refine k_cut (τ := (List Tree) × Int × Frag × (Option Addr) × Nat) (fun t => [(0, pt b0), (2, pt b1), (4, pt b19)]) (fun t => bk b19 #[iv 22, sv noS, iv 0, iv r2.2.2.2.1, .slice t.2.2.2.1 t.1.length t.2.2.2.2] 36 :: bk b0 #[.slice A_a0_0 a0_0.length c_a0_0, iv t.2.1] 73 :: bk b1 #[iv 0, sv noS, iv 0, iv 0, nS] 36 :: t.2.2.1 :: X) (fun t => J26 t.1 t.2.1 = some r ∧ OwnR (rTree 36) 36 t.2.2.1 (.slice t.2.2.2.1 t.1.length t.2.2.2.2) t.1) ?_ ?_
   ·rintro ⟨l20, x25, h21, A22, k23⟩ ⟨h, o24⟩
    subst hJ26
    refine ksr (kx 1 (kld 0 4 rfl (kx 2 (kst 2 1 #[iv 22, sv noS, iv ((l20.length : Nat) : Int), iv r2.2.2.2.1, .slice A22 l20.length k23] (kns' (kx 1 (K.mv1 (kcp h (fun _ hr27 => (parse_parser_want.ok (b0 := b0) hr27 R_a0_0)) rfl ⟨(t3 hm_H_a0_0), trivial⟩ (fun _ e => k_then_panic (kpn 3 e rfl)) fun r27 h => ?_))))))))
    rintro _ _ ⟨rfl, rfl⟩
    refine nx_ret1 (knt (k_seq (kpr [(0, 0), (1, 3), (2, 0), (3, 1)] [1] (kpx 1 (kpd 0 4 rfl (kpx 1 (kpt (ocp h (fun _ hr29 => (parse_parser_exps.ok (b0 := b0) hr29 R_a0_0)) rfl ⟨(t3 hm_H_a0_0), trivial⟩ (fun _ e => k_then_panic (kpn 3 e rfl)) fun r29 h => ?_))))))))
    rintro _ _ ⟨h30, A31, k32, o33, rfl, rfl⟩
    refine nx_ret2 (kan [2] rfl (kpz (K.mv4 (bnd h fun l35 hl35 h => (kapR rfl ety34 rfl hl35 o24 o33 fun h36 A37 k38 o39 => (kx 1 (K.mv2 (kst 4 1 #[iv 22, sv noS, iv ((l20.length : Nat) : Int), iv r2.2.2.2.1, .slice A37 l35.length k38] (kns' (kla 0 0 5 rfl ?_))))))))))
    refine K.drop (K.mv2 (kst 0 5 #[iv 22, sv noS, iv ((l20.length : Nat) : Int), iv r2.2.2.2.1, .slice A37 l35.length k38] (knt (k_ret ?_))))
    obtain rfl := Option.some.inj h
    exact kda 0 5 rfl [h36, bk b0 #[.slice A_a0_0 a0_0.length c_a0_0, iv r29.2] 73] (K.drop (k_end (PR.okI ⟨h36, A37, k38, o39, rfl, rfl⟩)))
   ·skip
    refine ksr (kla 1 0 5 rfl (K.mv1 (K.drop (knp #[iv 0, sv noS, iv 0, iv 0, nS] 36 fun b40 => (kst 0 5 #[iv r2.1, sv r2.2.1, iv r2.2.2.1, iv r2.2.2.2.1, .slice A4 r2.2.2.2.2.1.length k5] (knt (k_block (k_none (K.mv3 (K.mvN [_, _, _, _, _] _ _ ?_))))))))))
    refine K.mvN [_, _, _, _, _] _ _ (K.mvN [_, _, _, _, _] _ _ (K.mvN [_, _, _, _, _] _ _ (k_loop (τ := Int × ByteArray × Int × Int × (List Tree) × (List Tree) × Int × Nat × Frag × (Option Addr) × Nat × Frag × (Option Addr) × Nat) (fun t => [(0, pt b0), (2, pt b1), (4, pt b19), (5, pt t.2.2.2.2.2.2.2.1)]) (fun t => bk t.2.2.2.2.2.2.2.1 #[iv t.1, sv t.2.1, iv t.2.2.1, iv t.2.2.2.1, .slice t.2.2.2.2.2.2.2.2.2.1 t.2.2.2.2.1.length t.2.2.2.2.2.2.2.2.2.2.1] 36 :: bk b19 #[iv 22, sv noS, iv 0, iv r2.2.2.2.1, .slice t.2.2.2.2.2.2.2.2.2.2.2.2.1 t.2.2.2.2.2.1.length t.2.2.2.2.2.2.2.2.2.2.2.2.2] 36 :: bk b0 #[.slice A_a0_0 a0_0.length c_a0_0, iv t.2.2.2.2.2.2.1] 73 :: bk b1 #[iv 0, sv noS, iv 0, iv 0, nS] 36 :: t.2.2.2.2.2.2.2.2.1 :: t.2.2.2.2.2.2.2.2.2.2.2.1 :: X) (fun m t => parse_parser_plain.l0 m a0_0 J26 t.1 t.2.1 t.2.2.1 t.2.2.2.1 t.2.2.2.2.1 t.2.2.2.2.2.1 t.2.2.2.2.2.2.1 = some r ∧ OwnR (rTree 36) 36 t.2.2.2.2.2.2.2.2.1 (.slice t.2.2.2.2.2.2.2.2.2.1 t.2.2.2.2.1.length t.2.2.2.2.2.2.2.2.2.2.1) t.2.2.2.2.1 ∧ OwnR (rTree 36) 36 t.2.2.2.2.2.2.2.2.2.2.2.1 (.slice t.2.2.2.2.2.2.2.2.2.2.2.2.1 t.2.2.2.2.2.1.length t.2.2.2.2.2.2.2.2.2.2.2.2.2) t.2.2.2.2.2.1) k (r2.1, r2.2.1, r2.2.2.1, r2.2.2.2.1, r2.2.2.2.2.1, [], r2.2.2.2.2.2, b40, h3, A4, k5, none_, none, 0) ⟨h, o6, (OwnR.nil (rTree 36) 36 none_)⟩ sb rfl ?_)))
    clear h
    rintro m57 ⟨x42, x43, x44, x45, l46, l51, x56, b41, h47, A48, k49, h52, A53, k54⟩ ⟨h, o50, o55⟩
    cases m57 with
    | zero => simp [parse_parser_plain.l0] at h
    | succ m57 =>
     simp only [parse_parser_plain.l0] at h
     refine k_seq (k_block ?_)
     obtain ⟨J58, hJ58, h⟩ := joinSplit h
     refine k_cut (τ := Unit) (fun t => [(0, pt b0), (2, pt b1), (4, pt b19), (5, pt b41)]) (fun t => bk b41 #[iv x42, sv x43, iv x44, iv x45, .slice A48 l46.length k49] 36 :: bk b19 #[iv 22, sv noS, iv 0, iv r2.2.2.2.1, .slice A53 l51.length k54] 36 :: bk b0 #[.slice A_a0_0 a0_0.length c_a0_0, iv x56] 73 :: bk b1 #[iv 0, sv noS, iv 0, iv 0, nS] 36 :: h47 :: h52 :: X) (fun t => J58 () = some r) ?_ ?_
     ·rintro ⟨⟩ h
      subst hJ58
      refine ksr (kx 1 (kld 1 4 rfl (kla 0 0 5 rfl (kns #[iv x42, sv x43, iv x44, iv x45, .slice A48 l46.length k49] 36 1 fun b59 => (K.mvN [_, _, _, _, _] _ _ (K.mv1 (k_row (T := 36) (n := 1) (xs := [(Tree.mk x42 x43 x44 x45 l46)]) (RowI.one (treeO_mk (k := x42) (t := x43) (n := x44) (a := x45) 36 o50)) rfl rfl (Nat.le_of_ble_eq_true rfl) fun h60 o61 => (K.mvN [_, _, _, _, _] _ _ (bnd h fun l62 hl62 h => (kapR rfl ety34 rfl hl62 o55 o61 fun h63 A64 k65 o66 => ?_))))))))))
      refine kx 1 (K.mv2 (kst 4 1 #[iv 22, sv noS, iv 0, iv r2.2.2.2.1, .slice A64 l62.length k65] (kns' (kx 1 (K.mv3 (bnd h fun r67 hr67 h => (kc1 (parse_parser_got.ok (b0 := b0) hr67 R_a0_0) rfl ⟨(t4 hm_H_a0_0), trivial⟩ (kx 1 (knt ?_)))))))))
      refine kcn h (fun h => ?_) fun h => ?_
      ·refine k_exit (k_there rfl (k_then_exit (k_then_exit (k_here (k_then (K.mv3 (K.drop (K.mv2 (K.mv3 (K.mv2 ?_))))))))))
       exact K.mv3 (k_meet (l62, r67.2, h63, A64, k65) ⟨h, o66⟩ sb rfl)
      ·refine k_skip (k_blk (k_then (k_seq (ksr (kla 3 0 5 rfl (K.mv3 (K.drop (knr (knp #[iv 0, sv noS, iv 0, iv 0, nS] 36 fun b69 => (kst 0 5 #[iv x42, sv x43, iv x44, iv x45, .slice A48 l46.length k49] ?_))))))))))
       refine knr (kx 1 (K.mv1 (kcp h (fun _ hr70 => (parse_parser_suffixed.ok (b0 := b0) hr70 R_a0_0)) rfl ⟨(t4 hm_H_a0_0), trivial⟩ (fun _ e => k_then_panic (k_blk_panic (k_then_panic (kpn 4 e rfl)))) fun r70 h => ?_)))
       rintro _ _ ⟨h71, A72, k73, o74, rfl, rfl⟩
       exact nx_ret2 (K.mv2 (kst 0 5 #[iv r70.1, sv r70.2.1, iv r70.2.2.1, iv r70.2.2.2.1, .slice A72 r70.2.2.2.2.1.length k73] (knt (K.mv4 (K.mv2 (K.mvN [_, _, _, _, _] _ _ (K.mv4 (K.mvN [_, _, _, _, _] _ _ (K.mvN [_, _, _, _, _] _ _ (k_again m57 (r70.1, r70.2.1, r70.2.2.1, r70.2.2.2.1, r70.2.2.2.2.1, l62, r70.2.2.2.2.2, b69, h71, A72, k73, h63, A64, k65) (Nat.lt_succ_self _) ⟨h, o74, o66⟩ sb rfl))))))))))
     ·skip
      refine ksr (kla 0 0 5 rfl (bnd h fun r76 hr76 h => (kcv (parse_target.ok hr76 (OwnR.rd o50)) ⟨(.tail _ (.tail _ (.tail _ (.tail _ (.head _))))), trivial⟩ (kx 1 (knt ?_)))))
      refine kcn h (fun h => ?_) fun h => ?_
      ·refine k_region (kx 2 (kld 0 3 rfl (K.mv2 (kcp h (fun _ hr78 => (parse_parser_fail.ok (b0 := b0) hr78 R_a0_0)) rfl ⟨(t5 hm_H_a0_0), trivial⟩ (fun _ e => k_then_panic (k_blk_panic (k_then_panic (k_then_panic (k_blk_panic (k_then_panic (kpn 5 e rfl))))))) fun r78 h => ?_))))
       rintro _ _ ⟨rfl, rfl⟩
       exact nx_ret1 (knt (K.mvN [_, _, _, _, _] _ _ (K.mvN [_, _, _, _, _] _ _ (K.mvN [_, _, _, _, _] _ _ (K.mv3 (K.mvN [_, _, _, _, _] _ _ (K.mvN [_, _, _, _, _] _ _ (k_meet () h sb rfl))))))))
      ·exact k_skip (k_then (k_meet () h sb rfl))
 ·have h := hq9
  clear hq9
  refine k_region (kx 1 (K.mv2 (bnd h fun r80 hr80 h => (kc1 (parse_parser_is.ok (b0 := b0) hr80 R_a0_0) rfl ⟨(t3 hm_H_a0_0), trivial⟩ (kx 2 ?_)))))
  refine kcs 11 h (fun h => ?_) fun h => ?_
  ·exact kx 1 (bnd h fun r82 hr82 h => (kc1 (parse_parser_is.ok (b0 := b0) hr82 R_a0_0) rfl ⟨(t3 hm_H_a0_0), trivial⟩ (kx 2 (knt (K.mv3 (K.mv1 (K.mv3 (K.mv3 (k_meet1 ⟨gr, gr, gr, gb (Option.some.inj h), trivial⟩)))))))))
  ·exact kx 4 (knt (K.mv3 (K.mv1 (K.mv3 (K.mv3 (k_meet1 ⟨gr, gr, gr, gb (Option.some.inj h), trivial⟩))))))
def PS.at : Nat → PS
 | 0 => ⟨fun _ _ _ => none, fun _ _ => none, fun _ _ => none, fun _ _ => none, fun _ _ _ => none, fun _ _ => none⟩
 | k + 1 => ⟨fun a0_0 a0_1 a1 => parse_parser_block.g (PS.at k) k a0_0 a0_1 a1, fun a0_0 a0_1 => parse_parser_function.g (PS.at k) k a0_0 a0_1, fun a0_0 a0_1 => parse_parser_stat.g (PS.at k) k a0_0 a0_1, fun a0_0 a0_1 => parse_parser_branches.g (PS.at k) k a0_0 a0_1, fun a0_0 a0_1 a1 => parse_parser_loop.g (PS.at k) k a0_0 a0_1 a1, fun a0_0 a0_1 => parse_parser_plain.g (PS.at k) k a0_0 a0_1⟩
theorem PS.good : ∀ k, (PS.at k).Good
 | 0 => ⟨fun h _ => (by cases (show (none : Option _) = some _ from h)), fun h _ => (by cases (show (none : Option _) = some _ from h)), fun h _ => (by cases (show (none : Option _) = some _ from h)), fun h _ => (by cases (show (none : Option _) = some _ from h)), fun h _ => (by cases (show (none : Option _) = some _ from h)), fun h _ => (by cases (show (none : Option _) = some _ from h))⟩
 | k + 1 => ⟨fun h R_a0_0 => parse_parser_block.okg (PS.good k) h R_a0_0, fun h R_a0_0 => parse_parser_function.okg (PS.good k) h R_a0_0, fun h R_a0_0 => parse_parser_stat.okg (PS.good k) h R_a0_0, fun h R_a0_0 => parse_parser_branches.okg (PS.good k) h R_a0_0, fun h R_a0_0 => parse_parser_loop.okg (PS.good k) h R_a0_0, fun h R_a0_0 => parse_parser_plain.okg (PS.good k) h R_a0_0⟩
def parse_parser_block.f (k : Nat) (a0_0 : List (Int × ByteArray × Int × Int)) (a0_1 : Int) (a1 : Bool) : Option (PR (Int × ByteArray × Int × Int × List Tree × Int)) := parse_parser_block.g (PS.at k) k a0_0 a0_1 a1
theorem parse_parser_block.ok {k : Nat} {a0_0 : List (Int × ByteArray × Int × Int)} {a0_1 : Int} {a1 : Bool} {b0 : Nat} {H_a0_0 : Frag} {A_a0_0 : Option Addr} {c_a0_0 : Nat} {r : PR (Int × ByteArray × Int × Int × List Tree × Int)} (h : parse_parser_block.f k a0_0 a0_1 a1 = some r) (R_a0_0 : RdT e76 4 H_a0_0 (.slice A_a0_0 a0_0.length c_a0_0) a0_0) : Ct Tryz.prog 30 #[pt b0, bv a1] [bk b0 #[.slice A_a0_0 a0_0.length c_a0_0, iv a0_1] 73] [H_a0_0] (PR.Post failV (fun (r : Int × ByteArray × Int × Int × List Tree × Int) e l1 => ∃ (H0_ : Frag) (A0_ : Option Addr) (c0_ : Nat), OwnR (rTree 36) 36 H0_ (.slice A0_ r.2.2.2.2.1.length c0_) r.2.2.2.2.1 ∧ e = .returned (.agg #[iv r.1, sv r.2.1, iv r.2.2.1, iv r.2.2.2.1, .slice A0_ r.2.2.2.2.1.length c0_]) ∧ l1 = [H0_, bk b0 #[.slice A_a0_0 a0_0.length c_a0_0, iv r.2.2.2.2.2] 73]) r) := parse_parser_block.okg (PS.good k) h R_a0_0
end Go.Proofs.YtdkgnlaneccioaaGreatDoor
namespace Go.Proofs.YtdkgnlaneccioaaGreatDoor
open Go Go.RowKit
structure H1 where
 parse_Height : (a0_0 : Int) → (a0_1 : ByteArray) → (a0_2 : Int) → (a0_3 : Int) → (a0_4 : List Tree) → Option (Int)
structure H1.Good (R : H1) : Prop where
 parse_Height : ∀ {a0_0 : Int} {a0_1 : ByteArray} {a0_2 : Int} {a0_3 : Int} {a0_4 : List Tree} {H_a0_4 : Frag} {A_a0_4 : Option Addr} {c_a0_4 : Nat} {r : Int} (h : R.parse_Height a0_0 a0_1 a0_2 a0_3 a0_4 = some r) (R_a0_4 : RdR (rTree 36) H_a0_4 (.slice A_a0_4 a0_4.length c_a0_4) a0_4), Ct Tryz.prog 14 #[.agg #[iv a0_0, sv a0_1, iv a0_2, iv a0_3, .slice A_a0_4 a0_4.length c_a0_4]] [] [H_a0_4] (fun e l1 => e = .returned (iv r) ∧ l1 = [])
def parse_Height.l0 : Nat → (Rc : H1) → (a0_4 : List Tree) → (J3 : Int → Option (Int)) → (x4 : Int) → (x5 : Int) → Option (Int)
 | 0, _, _, _, _, _ => none
 | m6 + 1, Rc, a0_4, J3, x4, x5 => cond (decide (x5 < ((a0_4.length : Nat) : Int))) ((lIdx a0_4 x5).bind fun x8 => (Rc.parse_Height x8.kind x8.text x8.n x8.at_ x8.kids).bind fun r18 => parse_Height.l0 m6 Rc a0_4 J3 (if r18 > x4 then r18 else x4) (IntKind.i64.wrap (x5 + 1))) (J3 x4)
def parse_Height.g (Rc : H1) (k : Nat) (a0_0 : Int) (a0_1 : ByteArray) (a0_2 : Int) (a0_3 : Int) (a0_4 : List Tree) : Option (Int) := joinF (fun (x2 : Int) => some (IntKind.i64.wrap (x2 + 1))) (fun J3 => parse_Height.l0 k Rc a0_4 J3 0 0)
set_option maxRecDepth 100000 in
theorem parse_Height.okg {Rc : H1} (hR : Rc.Good) {k : Nat} {a0_0 : Int} {a0_1 : ByteArray} {a0_2 : Int} {a0_3 : Int} {a0_4 : List Tree} {H_a0_4 : Frag} {A_a0_4 : Option Addr} {c_a0_4 : Nat} {r : Int} (h : parse_Height.g Rc k a0_0 a0_1 a0_2 a0_3 a0_4 = some r) (R_a0_4 : RdR (rTree 36) H_a0_4 (.slice A_a0_4 a0_4.length c_a0_4) a0_4) : Ct Tryz.prog 14 #[.agg #[iv a0_0, sv a0_1, iv a0_2, iv a0_3, .slice A_a0_4 a0_4.length c_a0_4]] [] [H_a0_4] (fun e l1 => e = .returned (iv r) ∧ l1 = []) := by
 refine ct_enter (args := [.agg #[iv a0_0, sv a0_1, iv a0_2, iv a0_3, .slice A_a0_4 a0_4.length c_a0_4]]) Tryz.func14 rfl (Nat.le_of_ble_eq_true rfl) ?_
 intro A X hh_
 obtain ⟨hm_H_a0_4, _⟩ := hh_
 unfold parse_Height.g at h
 refine ksr (knp #[iv a0_0, sv a0_1, iv a0_2, iv a0_3, .slice A_a0_4 a0_4.length c_a0_4] 36 fun b1 => (kx 1 (kns' (kx 1 (knt ?_)))))
 obtain ⟨J3, hJ3, h⟩ := joinSplit h
 refine k_cut (τ := Int) (fun t => [(3, iv t)]) (fun t => X) (fun t => J3 t = some r) ?_ ?_
 ·rintro x2 h
  subst hJ3
  refine ksr (kx 3 (knt (k_ret ?_)))
  obtain rfl := Option.some.inj h
  exact kdn rfl
 ·skip
  refine ksr (kx 1 (kld 0 4 rfl (K.drop (kx 2 (knt (k_block (k_loop (τ := Int × Int) (fun t => [(3, iv t.1), (7, .slice A_a0_4 a0_4.length c_a0_4), (8, iv ((a0_4.length : Nat) : Int)), (9, iv t.2)]) (fun t => X) (fun m t => parse_Height.l0 m Rc a0_4 J3 t.1 t.2 = some r) k (0, 0) h sb rfl ?_)))))))
  clear h
  rintro m6 ⟨x4, x5⟩ h
  cases m6 with
  | zero => simp [parse_Height.l0] at h
  | succ m6 =>
   simp only [parse_Height.l0] at h
   refine ksr (kx 1 (knt (k_seq ?_)))
   refine kcn h (fun h => ?_) fun h => ?_
   ·refine k_skip (k_then (k_seq (k_block (ksr (bnd h fun x8 hx8 h => (kelR (T := 36) (kd := .i64) (R := (rTree 36)) rfl hx8 R_a0_4 fun p9 u12 q13 e10 y11 => ?_))))))
    obtain ⟨A14, k15, rfl, o16⟩ := treeR_mk 36 q13
    refine keN rfl e10 hm_H_a0_4 (knp #[iv 0, sv noS, iv 0, iv 0, nS] 36 fun b17 => (kst 0 5 #[iv x8.kind, sv x8.text, iv x8.n, iv x8.at_, .slice A14 x8.kids.length k15] (knr (kx 1 (kla 0 0 5 rfl (K.drop (bnd h fun r18 hr18 h => (kcv (hR.parse_Height hr18 o16) ⟨hm_H_a0_4, trivial⟩ (kx 2 (knl ?_))))))))))
    exact k_blk (k_then (k_region (kx 2 (knt (k_again m6 ((if r18 > x4 then r18 else x4), IntKind.i64.wrap (x5 + 1)) (Nat.lt_succ_self _) h sb rfl)))))
   ·exact k_exit (k_then_exit (k_then_exit (k_here (k_then (k_meet x4 h sb rfl)))))
def H1.at : Nat → H1
 | 0 => ⟨fun _ _ _ _ _ => none⟩
 | k + 1 => ⟨fun a0_0 a0_1 a0_2 a0_3 a0_4 => parse_Height.g (H1.at k) k a0_0 a0_1 a0_2 a0_3 a0_4⟩
theorem H1.good : ∀ k, (H1.at k).Good
 | 0 => ⟨fun h _ => (by cases (show (none : Option _) = some _ from h))⟩
 | k + 1 => ⟨fun h R_a0_4 => parse_Height.okg (H1.good k) h R_a0_4⟩
def parse_Height.f (k : Nat) (a0_0 : Int) (a0_1 : ByteArray) (a0_2 : Int) (a0_3 : Int) (a0_4 : List Tree) : Option (Int) := parse_Height.g (H1.at k) k a0_0 a0_1 a0_2 a0_3 a0_4
theorem parse_Height.ok {k : Nat} {a0_0 : Int} {a0_1 : ByteArray} {a0_2 : Int} {a0_3 : Int} {a0_4 : List Tree} {H_a0_4 : Frag} {A_a0_4 : Option Addr} {c_a0_4 : Nat} {r : Int} (h : parse_Height.f k a0_0 a0_1 a0_2 a0_3 a0_4 = some r) (R_a0_4 : RdR (rTree 36) H_a0_4 (.slice A_a0_4 a0_4.length c_a0_4) a0_4) : Ct Tryz.prog 14 #[.agg #[iv a0_0, sv a0_1, iv a0_2, iv a0_3, .slice A_a0_4 a0_4.length c_a0_4]] [] [H_a0_4] (fun e l1 => e = .returned (iv r) ∧ l1 = []) := parse_Height.okg (H1.good k) h R_a0_4
def parse_Parse.f (k : Nat) (a0 : ByteArray) : Option (Int × ByteArray × Int × Int × List Tree × Int × Int) := (lex_Scan.f k a0).bind fun r3 => cond (r3.2.1 != 0) (some (0, (⟨#[]⟩ : ByteArray), 0, 0, [], r3.2.1, r3.2.2)) (PR.elim (parse_parser_block.f k r3.1 0 true) (fun i15 => some (0, (⟨#[]⟩ : ByteArray), 0, 0, [], 4, i15)) fun r10 => joinF (fun (_ : Unit) => some (r10.1, r10.2.1, r10.2.2.1, r10.2.2.2.1, r10.2.2.2.2.1, 0, 0)) (fun J16 => (parse_parser_now.f k r3.1 r10.2.2.2.2.2).bind fun r17 => cond (r17.1 != 6) ((parse_parser_now.f k r3.1 r10.2.2.2.2.2).bind fun r19 => PR.elim (parse_parser_fail.f k r3.1 r10.2.2.2.2.2 r19.2.2.2) (fun i21 => some (0, (⟨#[]⟩ : ByteArray), 0, 0, [], 4, i21)) fun r20 => J16 ()) (J16 ())))
set_option maxRecDepth 100000 in
theorem parse_Parse.ok {k : Nat} {a0 : ByteArray} {G : Frag} {r : Int × ByteArray × Int × Int × List Tree × Int × Int} (h : parse_Parse.f k a0 = some r) (hG : GlP G) : Ct Tryz.prog 12 #[sv a0] [] [G] (fun e l1 => ∃ (H0_ : Frag) (A0_ : Option Addr) (c0_ : Nat), OwnR (rTree 36) 36 H0_ (.slice A0_ r.2.2.2.2.1.length c0_) r.2.2.2.2.1 ∧ e = .returned (.tuple #[.agg #[iv r.1, sv r.2.1, iv r.2.2.1, iv r.2.2.2.1, .slice A0_ r.2.2.2.2.1.length c0_], .agg #[iv r.2.2.2.2.2.1, iv r.2.2.2.2.2.2]]) ∧ l1 = [H0_]) := by
 refine ct_enterD (args := [sv a0]) Tryz.func12 rfl (Nat.le_of_ble_eq_true rfl) ?_
 intro A X hh_
 obtain ⟨hm_G, _⟩ := hh_
 unfold parse_Parse.f at h
 refine ksr (knp #[iv 0, sv noS, iv 0, iv 0, nS] 36 fun b1 => (knp #[iv 0, iv 0] 31 fun b2 => (kns' (kx 1 (bnd h fun r3 hr3 h => (kcl (lex_Scan.ok hr3 hG) rfl ⟨(t2 hm_G), trivial⟩ ?_))))))
 rintro _ _ ⟨h4, A5, k6, o7, rfl, rfl⟩
 refine nx_ret1 (kx 4 (K.mv1 (kst 0 2 #[iv r3.2.1, iv r3.2.2] (knt (k_seq (ksr (kx 1 (kld 0 0 rfl (kx 1 (knt ?_))))))))))
 refine kcn h (fun h => ?_) fun h => ?_
 ·refine k_seq (k_nopan (kpr [(0, 0), (1, 3), (2, 1)] [0] (kpx 1 (kpa 0 0 2 rfl (kpt (K.mv2 (ost 0 5 #[iv 0, sv noS, iv 0, iv 0, nS] (kan [1] rfl (kpz (K.mv1 ?_))))))))))
  refine kst 0 2 #[iv r3.2.1, iv r3.2.2] (K.mv2 (K.drop (knl (k_np (k_then (k_ret (k_then_ret ?_)))))))
  obtain rfl := Option.some.inj h
  exact k_doneD0 (v := .tuple #[.agg #[iv 0, sv noS, iv 0, iv 0, nS], .agg #[iv r3.2.1, iv r3.2.2]]) [.val (iv 0), .val (sv noS), .val (iv 0), .val (iv 0), .val (nS), .val (iv r3.2.1), .val (iv r3.2.2)] [.ld ⟨b1, 0, none⟩ (iv 0), .ld ⟨b1, 1, none⟩ (sv noS), .ld ⟨b1, 2, none⟩ (iv 0), .ld ⟨b1, 3, none⟩ (iv 0), .ld ⟨b1, 4, none⟩ (nS), .ld ⟨b2, 0, none⟩ (iv r3.2.1), .ld ⟨b2, 1, none⟩ (iv r3.2.2)] [none_] (by kernel_rfl) (by kernel_rfl) ⟨⟨1, _, _, _, rfl, rfl, rfl⟩, ⟨1, _, _, _, rfl, rfl, rfl⟩, ⟨1, _, _, _, rfl, rfl, rfl⟩, ⟨1, _, _, _, rfl, rfl, rfl⟩, ⟨1, _, _, _, rfl, rfl, rfl⟩, ⟨0, _, _, _, rfl, rfl, rfl⟩, ⟨0, _, _, _, rfl, rfl, rfl⟩, trivial⟩ (k_none (K.mv1 (K.drop (K.mv1 (K.drop (k_end ⟨none_, none, 0, (OwnR.nil (rTree 36) 36 none_), rfl, rfl⟩))))))
 ·refine k_skip (k_then (ksr (kx 1 (kl_defer { target := .fn (.func 29) #[pt b1, pt b2], args := #[] } (by kernel_rfl) (by kernel_rfl) (by kernel_rfl) (kns' (kx 2 (knp #[.slice A5 r3.1.length k6, iv 0] 73 fun b9 => (kx 1 (kns' (kx 1 ?_))))))))))
  rcases prElim h with ⟨i15, hr10, h⟩ | ⟨r10, hr10, h⟩
  ·refine kcl (parse_parser_block.ok (b0 := b9) hr10 (OwnT.rd o7)) rfl ⟨(.tail _ (.head _)), trivial⟩ ?_
   rintro _ _ ⟨rfl, rfl⟩
   refine nx_pan (k_then_panic (K.mv1 (K.drop (K.mv1 ?_))))
   obtain rfl := Option.some.inj h
   exact k_panD (v := .tuple #[.agg #[iv 0, sv noS, iv 0, iv 0, nS], .agg #[iv 4, iv i15]]) (bk b1 #[iv 0, sv noS, iv 0, iv 0, nS] 36 :: bk b2 #[iv 4, iv i15] 31 :: X) (fun _ => by kernel_rfl) (fun w_ hw_ => parse_Parse_1_pan hw_) [.val (iv 0), .val (sv noS), .val (iv 0), .val (iv 0), .val (nS), .val (iv 4), .val (iv i15)] [.ld ⟨b1, 0, none⟩ (iv 0), .ld ⟨b1, 1, none⟩ (sv noS), .ld ⟨b1, 2, none⟩ (iv 0), .ld ⟨b1, 3, none⟩ (iv 0), .ld ⟨b1, 4, none⟩ (nS), .ld ⟨b2, 0, none⟩ (iv 4), .ld ⟨b2, 1, none⟩ (iv i15)] [none_] (by kernel_rfl) (by kernel_rfl) ⟨⟨0, _, _, _, rfl, rfl, rfl⟩, ⟨0, _, _, _, rfl, rfl, rfl⟩, ⟨0, _, _, _, rfl, rfl, rfl⟩, ⟨0, _, _, _, rfl, rfl, rfl⟩, ⟨0, _, _, _, rfl, rfl, rfl⟩, ⟨1, _, _, _, rfl, rfl, rfl⟩, ⟨1, _, _, _, rfl, rfl, rfl⟩, trivial⟩ fun w_ hw_ => (⟨⟨none_, none, 0, (OwnR.nil (rTree 36) 36 none_), rfl, rfl⟩, St.nones 1 hw_.tail.tail⟩)
  refine kcl (parse_parser_block.ok (b0 := b9) hr10 (OwnT.rd o7)) rfl ⟨(.tail _ (.head _)), trivial⟩ ?_
  rintro _ _ ⟨h11, A12, k13, o14, rfl, rfl⟩
  refine nx_ret2 (K.mv4 (kst 0 5 #[iv r10.1, sv r10.2.1, iv r10.2.2.1, iv r10.2.2.2.1, .slice A12 r10.2.2.2.2.1.length k13] (knt ?_)))
  obtain ⟨J16, hJ16, h⟩ := joinSplit h
  refine k_cut (τ := Unit) (fun t => [(2, pt b1), (3, pt b2)]) (fun t => bk b1 #[iv r10.1, sv r10.2.1, iv r10.2.2.1, iv r10.2.2.2.1, .slice A12 r10.2.2.2.2.1.length k13] 36 :: h11 :: bk b2 #[iv r3.2.1, iv r3.2.2] 31 :: X) (fun t => J16 () = some r) ?_ ?_
  ·rintro ⟨⟩ h
   subst hJ16
   refine ksr (kla 0 0 5 rfl (kx 1 (kst 0 5 #[iv r10.1, sv r10.2.1, iv r10.2.2.1, iv r10.2.2.2.1, .slice A12 r10.2.2.2.2.1.length k13] (K.mv2 (kst 0 2 #[iv 0, iv 0] (knt (k_ret ?_)))))))
   obtain rfl := Option.some.inj h
   exact k_doneD (fun _ => by kernel_rfl) (parse_Parse_1_idle (pt b1) (pt b2)) (v := .tuple #[.agg #[iv r10.1, sv r10.2.1, iv r10.2.2.1, iv r10.2.2.2.1, .slice A12 r10.2.2.2.2.1.length k13], .agg #[iv 0, iv 0]]) [.val (iv r10.1), .val (sv r10.2.1), .val (iv r10.2.2.1), .val (iv r10.2.2.2.1), .val (.slice A12 r10.2.2.2.2.1.length k13), .val (iv 0), .val (iv 0)] [.ld ⟨b1, 0, none⟩ (iv r10.1), .ld ⟨b1, 1, none⟩ (sv r10.2.1), .ld ⟨b1, 2, none⟩ (iv r10.2.2.1), .ld ⟨b1, 3, none⟩ (iv r10.2.2.2.1), .ld ⟨b1, 4, none⟩ (.slice A12 r10.2.2.2.2.1.length k13), .ld ⟨b2, 0, none⟩ (iv 0), .ld ⟨b2, 1, none⟩ (iv 0)] [h11] (by kernel_rfl) (by kernel_rfl) ⟨⟨1, _, _, _, rfl, rfl, rfl⟩, ⟨1, _, _, _, rfl, rfl, rfl⟩, ⟨1, _, _, _, rfl, rfl, rfl⟩, ⟨1, _, _, _, rfl, rfl, rfl⟩, ⟨1, _, _, _, rfl, rfl, rfl⟩, ⟨0, _, _, _, rfl, rfl, rfl⟩, ⟨0, _, _, _, rfl, rfl, rfl⟩, trivial⟩ (K.drop (K.drop (k_endD ⟨h11, A12, k13, o14, rfl, rfl⟩)))
  ·skip
   refine ksr (kx 1 (K.mv2 (bnd h fun r17 hr17 h => (kc1 (parse_parser_now.ok (b0 := b9) hr17 (OwnT.rd o7)) rfl ⟨(.tail _ (.tail _ (.tail _ (.head _)))), trivial⟩ (kx 2 (knt ?_))))))
   refine kcn h (fun h => ?_) fun h => ?_
   ·refine k_region (kx 2 (bnd h fun r19 hr19 h => (kc1 (parse_parser_now.ok (b0 := b9) hr19 (OwnT.rd o7)) rfl ⟨(.tail _ (.tail _ (.tail _ (.head _)))), trivial⟩ (kx 1 ?_))))
    rcases prElim h with ⟨i21, hr20, h⟩ | ⟨r20, hr20, h⟩
    ·refine kcl (parse_parser_fail.ok (b0 := b9) hr20 (OwnT.rd o7)) rfl ⟨(.tail _ (.tail _ (.tail _ (.head _)))), trivial⟩ ?_
     rintro _ _ ⟨rfl, rfl⟩
     refine nx_pan (k_then_panic (K.mv1 (K.drop (K.mv2 (K.drop ?_)))))
     obtain rfl := Option.some.inj h
     exact k_panD (v := .tuple #[.agg #[iv 0, sv noS, iv 0, iv 0, nS], .agg #[iv 4, iv i21]]) (bk b1 #[iv 0, sv noS, iv 0, iv 0, nS] 36 :: bk b2 #[iv 4, iv i21] 31 :: X) (fun _ => by kernel_rfl) (fun w_ hw_ => parse_Parse_1_pan hw_) [.val (iv 0), .val (sv noS), .val (iv 0), .val (iv 0), .val (nS), .val (iv 4), .val (iv i21)] [.ld ⟨b1, 0, none⟩ (iv 0), .ld ⟨b1, 1, none⟩ (sv noS), .ld ⟨b1, 2, none⟩ (iv 0), .ld ⟨b1, 3, none⟩ (iv 0), .ld ⟨b1, 4, none⟩ (nS), .ld ⟨b2, 0, none⟩ (iv 4), .ld ⟨b2, 1, none⟩ (iv i21)] [none_] (by kernel_rfl) (by kernel_rfl) ⟨⟨0, _, _, _, rfl, rfl, rfl⟩, ⟨0, _, _, _, rfl, rfl, rfl⟩, ⟨0, _, _, _, rfl, rfl, rfl⟩, ⟨0, _, _, _, rfl, rfl, rfl⟩, ⟨0, _, _, _, rfl, rfl, rfl⟩, ⟨1, _, _, _, rfl, rfl, rfl⟩, ⟨1, _, _, _, rfl, rfl, rfl⟩, trivial⟩ fun w_ hw_ => (⟨⟨none_, none, 0, (OwnR.nil (rTree 36) 36 none_), rfl, rfl⟩, St.nones 1 hw_.tail.tail⟩)
    exact kc1 (parse_parser_fail.ok (b0 := b9) hr20 (OwnT.rd o7)) rfl ⟨(.tail _ (.tail _ (.tail _ (.head _)))), trivial⟩ (K.drop (K.mv3 (K.drop (knt (k_meet () h sb rfl)))))
   ·exact k_skip (k_then (K.drop (K.mv3 (K.drop (k_meet () h sb rfl)))))
end Go.Proofs.YtdkgnlaneccioaaGreatDoor
namespace Go.Proofs.YtdkgnlaneccioaaGreatDoor
open Go Go.RowKit
def check_kept.f (_k : Nat) (a0 : ByteArray) : Option (Bool) := (cond (a0.toList == (⟨#[116, 97, 98, 108, 101]⟩ : ByteArray).toList) (some true) (some (a0.toList == (⟨#[117, 116, 102, 56]⟩ : ByteArray).toList)) : Option Bool).bind fun q1 => some (q1)
set_option maxRecDepth 100000 in
theorem check_kept.ok {k : Nat} {a0 : ByteArray} {r : Bool} (h : check_kept.f k a0 = some r) : Ct Tryz.prog 51 #[.string a0] [] [] (fun e l1 => e = .returned (.bool r) ∧ l1 = []) := by
 refine ct_enter (args := [.string a0]) Tryz.func51 rfl (Nat.le_of_ble_eq_true rfl) ?_
 intro A X hh_
 unfold check_kept.f at h
 refine k_seq ?_
 refine k_region ?_
 refine kl_steps 1 [(0, .string a0)] (by kernel_rfl) ?_
 refine k_nil ?_
 refine k_then ?_
 obtain ⟨q1, hq1, h⟩ := bindSome h
 refine k_cut1 [(2, .bool q1)] (X) ?_ ?_
 ·clear hq1
  refine k_ret ?_
  obtain rfl := Option.some.inj h
  refine k_done (v := .bool q1) [] [] [] (by kernel_rfl) (by kernel_rfl) trivial ?_
  exact k_end ⟨rfl, rfl⟩
 ·have h := hq1
  clear hq1
  refine k_region ?_
  refine kl_steps 3 [(0, .string a0), (5, .bool (a0.toList == (⟨#[116, 97, 98, 108, 101]⟩ : ByteArray).toList))] (by kernel_rfl) ?_
  rcases Bool.eq_false_or_eq_true ((a0.toList == (⟨#[116, 97, 98, 108, 101]⟩ : ByteArray).toList)) with t2 | t2
  ·have h := condT h t2
   refine K.weak (env' := [(0, .string a0), (5, .bool true)]) ?_ ⟨rfl, congrArg (fun b => some (Value.bool b)) t2, trivial⟩
   refine kl_steps 4 [(2, .bool true)] (by kernel_rfl) ?_
   refine k_nil ?_
   refine k_then ?_
   exact k_meet1 ⟨congrArg (fun b => some (Value.bool b)) (Option.some.inj h), trivial⟩
  ·have h := condF h t2
   refine K.weak (env' := [(0, .string a0), (5, .bool false)]) ?_ ⟨rfl, congrArg (fun b => some (Value.bool b)) t2, trivial⟩
   refine kl_steps 4 [(2, .bool (a0.toList == (⟨#[117, 116, 102, 56]⟩ : ByteArray).toList))] (by kernel_rfl) ?_
   refine k_nil ?_
   refine k_then ?_
   exact k_meet1 ⟨congrArg (fun b => some (Value.bool b)) (Option.some.inj h), trivial⟩
def failC (i : Int × Int) : Value := .iface 58 (.agg #[.int .i64 i.1, .int .i64 i.2])
def check_fail.f (_k : Nat) (a0 : Int) (a1 : Int) : Option (PR (Unit) (Int × Int)) := some (PR.bad (a0, a1))
set_option maxRecDepth 100000 in
theorem check_fail.ok {k : Nat} {a0 : Int} {a1 : Int} {r : PR (Unit) (Int × Int)} (h : check_fail.f k a0 a1 = some r) : Ct Tryz.prog 26 #[.int .i64 a0, .int .i64 a1] [] [] (PR.Post failC (fun (r : Unit) e l1 => e = .returned (.tuple #[]) ∧ l1 = []) r) := by
 refine ct_enter (args := [.int .i64 a0, .int .i64 a1]) Tryz.func26 rfl (Nat.le_of_ble_eq_true rfl) ?_
 intro A X hh_
 unfold check_fail.f at h
 refine k_region ?_
 refine kl_steps 4 [(7, .iface 58 (.agg #[.int .i64 a0, .int .i64 a1]))] (by kernel_rfl) ?_
 obtain rfl := Option.some.inj h
 refine kl_panic (v := failC (a0, a1)) (by kernel_rfl) (by kernel_rfl) (by kernel_rfl) ?_
 refine k_panicked [] ?_
 exact k_end PR.badI
def check_few.f (k : Nat) (a0_0 : Int) (a0_1 : ByteArray) (a0_2 : Int) (a0_3 : Int) (a0_4 : List Tree) (a1 : Int) (a2 : Int) : Option (PR (Unit) (Int × Int)) := cond (decide (a1 > a2)) (PR.bind (check_fail.f k (6 : Int) a0_3) fun r3 => some (PR.ok ())) (some (PR.ok ()))
set_option maxRecDepth 100000 in
theorem check_few.ok {k : Nat} {a0_0 : Int} {a0_1 : ByteArray} {a0_2 : Int} {a0_3 : Int} {a0_4 : List Tree} {a1 : Int} {a2 : Int} {H_a0_4 : Frag} {A_a0_4 : Option Addr} {c_a0_4 : Nat} {r : PR (Unit) (Int × Int)} (h : check_few.f k a0_0 a0_1 a0_2 a0_3 a0_4 a1 a2 = some r) (R_a0_4 : RdR (rTree 36) H_a0_4 (.slice A_a0_4 a0_4.length c_a0_4) a0_4) : Ct Tryz.prog 37 #[.agg #[.int .i64 a0_0, .string a0_1, .int .i64 a0_2, .int .i64 a0_3, .slice A_a0_4 a0_4.length c_a0_4], .int .i64 a1, .int .i64 a2] [] [H_a0_4] (PR.Post failC (fun (r : Unit) e l1 => e = .returned (.tuple #[]) ∧ l1 = []) r) := by
 refine ct_enter (args := [.agg #[.int .i64 a0_0, .string a0_1, .int .i64 a0_2, .int .i64 a0_3, .slice A_a0_4 a0_4.length c_a0_4], .int .i64 a1, .int .i64 a2]) Tryz.func37 rfl (Nat.le_of_ble_eq_true rfl) ?_
 intro A X hh_
 obtain ⟨hm_H_a0_4, _⟩ := hh_
 unfold check_few.f at h
 refine k_seq ?_
 refine k_region ?_
 refine kl_new (.cells #[.int .i64 a0_0, .string a0_1, .int .i64 a0_2, .int .i64 a0_3, .slice A_a0_4 a0_4.length c_a0_4] 36 (0, 0)) (fun b => .pointer (some ⟨b, 0, none⟩)) (by kernel_rfl) (by kernel_rfl) (fun _ => by kernel_rfl) fun b1 => ?_
 refine k_nil ?_
 refine k_then ?_
 refine k_seq ?_
 refine k_region ?_
 refine kl_steps 3 [(3, .pointer (some ⟨b1, 0, none⟩)), (8, .bool (decide (a1 > a2)))] (by kernel_rfl) ?_
 refine k_nil ?_
 refine k_then ?_
 refine k_cond (t := decide (a1 > a2)) (by kernel_rfl) (fun t2 => ?_) (fun t2 => ?_)
 ·have h := condT h t2
  refine k_region ?_
  refine kl_steps 1 [(9, .pointer (some ⟨b1, 3, none⟩))] (by kernel_rfl) ?_
  refine kl_load (v := .int .i64 a0_3) [.val (.int .i64 a0_3)] [.ld ⟨b1, 3, none⟩ (.int .i64 a0_3)] (by kernel_rfl) (by kernel_rfl) (by kernel_rfl) ⟨⟨0, _, _, _, rfl, rfl, rfl⟩, trivial⟩ ?_
  refine K.drop ?_
  rcases prBind h with ⟨i4, hr3, rfl⟩ | ⟨r3, hr3, h⟩
  ·refine kl_call (X) (by kernel_rfl) (by kernel_rfl) (by kernel_rfl) (check_fail.ok hr3) rfl trivial ?_
   rintro _ _ ⟨rfl, rfl⟩
   refine nx_pan ?_
   refine k_panicked [] ?_
   exact k_end PR.badI
  refine kl_call (X) (by kernel_rfl) (by kernel_rfl) (by kernel_rfl) (check_fail.ok hr3) rfl trivial ?_
  rintro _ _ ⟨rfl, rfl⟩
  refine nx_ret0 ?_
  refine k_nil ?_
  refine k_fall ?_
  obtain rfl := Option.some.inj h
  refine k_done (v := .tuple #[]) [] [] [] (by kernel_rfl) (by kernel_rfl) trivial ?_
  exact k_end (PR.okI ⟨rfl, rfl⟩)
 ·have h := condF h t2
  refine k_skip ?_
  refine k_fall ?_
  obtain rfl := Option.some.inj h
  refine k_done (v := .tuple #[]) [] [] [] (by kernel_rfl) (by kernel_rfl) trivial ?_
  refine K.drop ?_
  exact k_end (PR.okI ⟨rfl, rfl⟩)
def slices_Index_string_string_.l0 : Nat → (a0 : List ByteArray) → (a1 : ByteArray) → (J1 : (Unit → Option (Int))) → (x2 : Int) → Option (Int)
 | 0, _, _, _, _ => none
 | m3 + 1, a0, a1, J1, x2 => cond (decide (x2 < ((a0.length : Nat) : Int))) ((lIdx a0 x2).bind fun x5 => cond (a1.toList == x5.toList) (some (x2)) (slices_Index_string_string_.l0 m3 a0 a1 J1 (IntKind.i64.wrap (x2 + (1 : Int))))) (J1 ())
def slices_Index_string_string_.f (k : Nat) (a0 : List ByteArray) (a1 : ByteArray) : Option (Int) := joinF (fun (_ : Unit) => some ((-1 : Int))) (fun J1 => slices_Index_string_string_.l0 k a0 a1 J1 (0 : Int))
set_option maxRecDepth 100000 in
theorem slices_Index_string_string_.ok {k : Nat} {a0 : List ByteArray} {a1 : ByteArray} {H_a0 : Frag} {A_a0 : Option Addr} {c_a0 : Nat} {r : Int} (h : slices_Index_string_string_.f k a0 a1 = some r) (R_a0 : RdT encS 1 H_a0 (.slice A_a0 a0.length c_a0) a0) : Ct Tryz.prog 23 #[.slice A_a0 a0.length c_a0, .string a1] [] [H_a0] (fun e l1 => e = .returned (.int .i64 r) ∧ l1 = []) := by
 refine ct_enter (args := [.slice A_a0 a0.length c_a0, .string a1]) Tryz.func23 rfl (Nat.le_of_ble_eq_true rfl) ?_
 intro A X hh_
 obtain ⟨hm_H_a0, _⟩ := hh_
 unfold slices_Index_string_string_.f at h
 refine k_seq ?_
 refine k_region ?_
 refine kl_steps 1 [(0, .slice A_a0 a0.length c_a0), (1, .string a1)] (by kernel_rfl) ?_
 refine k_nil ?_
 refine k_then ?_
 obtain ⟨J1, hJ1, h⟩ := joinSplit h
 refine k_cut (τ := Unit) (fun t => []) (fun t => X) (fun t => J1 () = some r) ?_ ?_
 ·rintro ⟨⟩ h
  subst hJ1
  refine k_seq ?_
  refine k_region ?_
  refine kl_steps 1 [(4, .int .i64 (-1 : Int))] (by kernel_rfl) ?_
  refine k_nil ?_
  refine k_then ?_
  refine k_ret ?_
  obtain rfl := Option.some.inj h
  refine k_done (v := .int .i64 (-1 : Int)) [] [] [] (by kernel_rfl) (by kernel_rfl) trivial ?_
  exact k_end ⟨rfl, rfl⟩
 ·skip
  refine k_seq ?_
  refine k_region ?_
  refine kl_steps 3 [(0, .slice A_a0 a0.length c_a0), (1, .string a1), (7, .int .i64 ((a0.length : Nat) : Int)), (8, .int .i64 (0 : Int))] (by kernel_rfl) ?_
  refine k_nil ?_
  refine k_then ?_
  refine k_block ?_
  refine k_loop (τ := Int) (fun t => [(0, .slice A_a0 a0.length c_a0), (1, .string a1), (7, .int .i64 ((a0.length : Nat) : Int)), (8, .int .i64 t)]) (fun t => X) (fun m t => slices_Index_string_string_.l0 m a0 a1 J1 t = some r) k (0 : Int) h ⟨rfl, rfl, rfl, rfl, trivial⟩ rfl ?_
  clear h
  rintro m3 x2 h
  cases m3 with
  | zero => simp [slices_Index_string_string_.l0] at h
  | succ m3 =>
   simp only [slices_Index_string_string_.l0] at h
   refine k_seq ?_
   refine k_region ?_
   refine kl_steps 1 [(0, .slice A_a0 a0.length c_a0), (1, .string a1), (7, .int .i64 ((a0.length : Nat) : Int)), (8, .int .i64 x2), (9, .bool (decide (x2 < ((a0.length : Nat) : Int))))] (by kernel_rfl) ?_
   refine k_nil ?_
   refine k_then ?_
   refine k_seq ?_
   refine k_cond (t := decide (x2 < ((a0.length : Nat) : Int))) (by kernel_rfl) (fun t4 => ?_) (fun t4 => ?_)
   ·have h := condT h t4
    refine k_skip ?_
    refine k_then ?_
    refine k_seq ?_
    refine k_block ?_
    refine k_seq ?_
    refine k_region ?_
    refine kl_steps 2 [(0, .slice A_a0 a0.length c_a0), (1, .string a1), (7, .int .i64 ((a0.length : Nat) : Int)), (8, .int .i64 x2), (5, .int .i64 x2)] (by kernel_rfl) ?_
    refine k_nil ?_
    refine k_then ?_
    refine k_seq ?_
    refine k_region ?_
    refine kl_steps 3 [(0, .slice A_a0 a0.length c_a0), (1, .string a1), (7, .int .i64 ((a0.length : Nat) : Int)), (8, .int .i64 x2), (5, .int .i64 x2), (11, .string a1), (12, .slice A_a0 a0.length c_a0), (13, .int .i64 x2)] (by kernel_rfl) ?_
    obtain ⟨x5, hx5, h⟩ := bindSome h
    refine kl_elemP (T := 9) (kd := .i64) encS_ok rfl (by kernel_rfl) (by kernel_rfl) (by kernel_rfl) (by kernel_rfl) (by kernel_rfl) (by kernel_rfl) hx5 R_a0 fun p6 e7 y8 => ?_
    have e7 : Elem _ p6 [.string x5] := e7
    refine kl_eload1 rfl (by kernel_rfl) (by kernel_rfl) (by kernel_rfl) (by kernel_rfl) e7 hm_H_a0 ?_
    refine kl_steps 1 [(0, .slice A_a0 a0.length c_a0), (1, .string a1), (7, .int .i64 ((a0.length : Nat) : Int)), (8, .int .i64 x2), (5, .int .i64 x2), (16, .bool (a1.toList == x5.toList))] (by kernel_rfl) ?_
    refine k_nil ?_
    refine k_then ?_
    refine k_cond (t := (a1.toList == x5.toList)) (by kernel_rfl) (fun t9 => ?_) (fun t9 => ?_)
    ·have h := condT h t9
     refine k_seq ?_
     refine k_region ?_
     refine kl_steps 2 [(4, .int .i64 x2)] (by kernel_rfl) ?_
     refine k_nil ?_
     refine k_then ?_
     refine k_ret ?_
     refine k_blk_ret ?_
     refine k_then_ret ?_
     refine k_then_ret ?_
     refine k_blk_ret ?_
     refine k_then_ret ?_
     obtain rfl := Option.some.inj h
     refine k_done (v := .int .i64 x2) [] [] [] (by kernel_rfl) (by kernel_rfl) trivial ?_
     exact k_end ⟨rfl, rfl⟩
    ·have h := condF h t9
     refine k_skip ?_
     refine k_blk ?_
     refine k_then ?_
     refine k_region ?_
     refine kl_steps 2 [(0, .slice A_a0 a0.length c_a0), (1, .string a1), (7, .int .i64 ((a0.length : Nat) : Int)), (8, .int .i64 (IntKind.i64.wrap (x2 + (1 : Int))))] (by kernel_rfl) ?_
     refine k_nil ?_
     refine k_then ?_
     exact k_again m3 (IntKind.i64.wrap (x2 + (1 : Int))) (Nat.lt_succ_self _) h ⟨rfl, rfl, rfl, rfl, trivial⟩ rfl
   ·have h := condF h t4
    refine k_exit ?_
    refine k_then_exit ?_
    refine k_then_exit ?_
    refine k_here ?_
    refine k_then ?_
    exact k_meet () h trivial rfl
def e53 (x : Int × Int × ByteArray) : List Value := [.int .i64 x.1, .int .i64 x.2.1, .string x.2.2]
theorem e53_ok : EncOk e53 3 := ⟨fun _ => rfl, fun _ => rfl⟩
def slices_Index_api_Val_api_Val_.l0 : Nat → (a0 : List (Int × Int × ByteArray)) → (a1_0 : Int) → (a1_1 : Int) → (a1_2 : ByteArray) → (J2 : (Unit → Option (Int))) → (x3 : Int) → Option (Int)
 | 0, _, _, _, _, _, _ => none
 | m4 + 1, a0, a1_0, a1_1, a1_2, J2, x3 => cond (decide (x3 < ((a0.length : Nat) : Int))) ((lIdx a0 x3).bind fun x6 => cond ((a1_0 == x6.1) && ((a1_1 == x6.2.1) && ((a1_2.toList == x6.2.2.toList) && true))) (some (x3)) (slices_Index_api_Val_api_Val_.l0 m4 a0 a1_0 a1_1 a1_2 J2 (IntKind.i64.wrap (x3 + (1 : Int))))) (J2 ())
def slices_Index_api_Val_api_Val_.f (k : Nat) (a0 : List (Int × Int × ByteArray)) (a1_0 : Int) (a1_1 : Int) (a1_2 : ByteArray) : Option (Int) := joinF (fun (_ : Unit) => some ((-1 : Int))) (fun J2 => slices_Index_api_Val_api_Val_.l0 k a0 a1_0 a1_1 a1_2 J2 (0 : Int))
set_option maxRecDepth 100000 in
theorem slices_Index_api_Val_api_Val_.ok {k : Nat} {a0 : List (Int × Int × ByteArray)} {a1_0 : Int} {a1_1 : Int} {a1_2 : ByteArray} {H_a0 : Frag} {A_a0 : Option Addr} {c_a0 : Nat} {r : Int} (h : slices_Index_api_Val_api_Val_.f k a0 a1_0 a1_1 a1_2 = some r) (R_a0 : RdT e53 3 H_a0 (.slice A_a0 a0.length c_a0) a0) : Ct Tryz.prog 93 #[.slice A_a0 a0.length c_a0, .agg #[.int .i64 a1_0, .int .i64 a1_1, .string a1_2]] [] [H_a0] (fun e l1 => e = .returned (.int .i64 r) ∧ l1 = []) := by
 refine ct_enter (args := [.slice A_a0 a0.length c_a0, .agg #[.int .i64 a1_0, .int .i64 a1_1, .string a1_2]]) Tryz.func93 rfl (Nat.le_of_ble_eq_true rfl) ?_
 intro A X hh_
 obtain ⟨hm_H_a0, _⟩ := hh_
 unfold slices_Index_api_Val_api_Val_.f at h
 refine k_seq ?_
 refine k_region ?_
 refine kl_new (.cells #[.int .i64 a1_0, .int .i64 a1_1, .string a1_2] 53 (0, 0)) (fun b => .pointer (some ⟨b, 0, none⟩)) (by kernel_rfl) (by kernel_rfl) (fun _ => by kernel_rfl) fun b1 => ?_
 refine kl_steps 1 [(0, .slice A_a0 a0.length c_a0), (3, .pointer (some ⟨b1, 0, none⟩))] (by kernel_rfl) ?_
 refine k_nil ?_
 refine k_then ?_
 obtain ⟨J2, hJ2, h⟩ := joinSplit h
 refine k_cut (τ := Unit) (fun t => []) (fun t => X) (fun t => J2 () = some r) ?_ ?_
 ·rintro ⟨⟩ h
  subst hJ2
  refine k_seq ?_
  refine k_region ?_
  refine kl_steps 1 [(4, .int .i64 (-1 : Int))] (by kernel_rfl) ?_
  refine k_nil ?_
  refine k_then ?_
  refine k_ret ?_
  obtain rfl := Option.some.inj h
  refine k_done (v := .int .i64 (-1 : Int)) [] [] [] (by kernel_rfl) (by kernel_rfl) trivial ?_
  exact k_end ⟨rfl, rfl⟩
 ·skip
  refine k_seq ?_
  refine k_region ?_
  refine kl_steps 3 [(0, .slice A_a0 a0.length c_a0), (3, .pointer (some ⟨b1, 0, none⟩)), (7, .int .i64 ((a0.length : Nat) : Int)), (8, .int .i64 (0 : Int))] (by kernel_rfl) ?_
  refine k_nil ?_
  refine k_then ?_
  refine k_block ?_
  refine k_loop (τ := Int) (fun t => [(0, .slice A_a0 a0.length c_a0), (3, .pointer (some ⟨b1, 0, none⟩)), (7, .int .i64 ((a0.length : Nat) : Int)), (8, .int .i64 t)]) (fun t => blk b1 (.cells #[.int .i64 a1_0, .int .i64 a1_1, .string a1_2] 53 (0, 0)) :: X) (fun m t => slices_Index_api_Val_api_Val_.l0 m a0 a1_0 a1_1 a1_2 J2 t = some r) k (0 : Int) h ⟨rfl, rfl, rfl, rfl, trivial⟩ rfl ?_
  clear h
  rintro m4 x3 h
  cases m4 with
  | zero => simp [slices_Index_api_Val_api_Val_.l0] at h
  | succ m4 =>
   simp only [slices_Index_api_Val_api_Val_.l0] at h
   refine k_seq ?_
   refine k_region ?_
   refine kl_steps 1 [(0, .slice A_a0 a0.length c_a0), (3, .pointer (some ⟨b1, 0, none⟩)), (7, .int .i64 ((a0.length : Nat) : Int)), (8, .int .i64 x3), (9, .bool (decide (x3 < ((a0.length : Nat) : Int))))] (by kernel_rfl) ?_
   refine k_nil ?_
   refine k_then ?_
   refine k_seq ?_
   refine k_cond (t := decide (x3 < ((a0.length : Nat) : Int))) (by kernel_rfl) (fun t5 => ?_) (fun t5 => ?_)
   ·have h := condT h t5
    refine k_skip ?_
    refine k_then ?_
    refine k_seq ?_
    refine k_block ?_
    refine k_seq ?_
    refine k_region ?_
    refine kl_steps 2 [(0, .slice A_a0 a0.length c_a0), (3, .pointer (some ⟨b1, 0, none⟩)), (7, .int .i64 ((a0.length : Nat) : Int)), (8, .int .i64 x3), (5, .int .i64 x3)] (by kernel_rfl) ?_
    refine k_nil ?_
    refine k_then ?_
    refine k_seq ?_
    refine k_region_plan [(0, 3), (1, 0), (2, 0), (3, 0), (4, 3)] (fun w => OnAll [blk b1 (.cells #[.int .i64 a1_0, .int .i64 a1_1, .string a1_2] 53 (0, 0)), H_a0] w) (by kernel_rfl) (by kernel_rfl) (fun _ _ d _ _ h => by cases d <;> exact h) (fun w h_ => ⟨h_.sat.on _ (.head _), h_.sat.on _ (.tail _ hm_H_a0), trivial⟩) ?_
    simp only [planOps, List.filterMap_cons, List.filterMap_nil, List.getElem?_toArray, List.getElem?_cons_zero, List.getElem?_cons_succ, Option.map_some, List.drop_succ_cons, List.drop_zero, List.length_cons, List.length_nil]
    refine kp_loadS (v := .agg #[.int .i64 a1_0, .int .i64 a1_1, .string a1_2]) [blk b1 (.cells #[.int .i64 a1_0, .int .i64 a1_1, .string a1_2] 53 (0, 0)), H_a0] [.val (.int .i64 a1_0), .val (.int .i64 a1_1), .val (.string a1_2)] [.ld ⟨b1, 0, none⟩ (.int .i64 a1_0), .ld ⟨b1, 1, none⟩ (.int .i64 a1_1), .ld ⟨b1, 2, none⟩ (.string a1_2)] (by kernel_rfl) (by kernel_rfl) (by kernel_rfl) (fun _ h => h) ⟨⟨0, _, _, _, rfl, rfl, rfl⟩, ⟨0, _, _, _, rfl, rfl, rfl⟩, ⟨0, _, _, _, rfl, rfl, rfl⟩, trivial⟩ ?_
    refine kp_steps 2 [(0, .slice A_a0 a0.length c_a0), (3, .pointer (some ⟨b1, 0, none⟩)), (7, .int .i64 ((a0.length : Nat) : Int)), (8, .int .i64 x3), (5, .int .i64 x3), (11, .agg #[.int .i64 a1_0, .int .i64 a1_1, .string a1_2]), (12, .slice A_a0 a0.length c_a0), (13, .int .i64 x3)] (by kernel_rfl) (by kernel_rfl) ?_
    obtain ⟨x6, hx6, h⟩ := bindSome h
    refine kp_elemP (T := 53) (kd := .i64) e53_ok rfl (by kernel_rfl) (by kernel_rfl) (by kernel_rfl) (by kernel_rfl) (by kernel_rfl) (by kernel_rfl) hx6 R_a0 fun p7 e8 y9 => ?_
    have e8 : Elem _ p7 [.int .i64 x6.1, .int .i64 x6.2.1, .string x6.2.2] := e8
    refine kp_eloadN rfl (by kernel_rfl) (by kernel_rfl) (by kernel_rfl) (by kernel_rfl) (by kernel_rfl) e8 (fun w h_ => h_.mem _ (.tail _ (.head _))) ?_
    refine kp_done ?_
    refine kl_eqS (r := ((a1_0 == x6.1) && ((a1_1 == x6.2.1) && ((a1_2.toList == x6.2.2.toList) && true)))) (xs := #[.int .i64 a1_0, .int .i64 a1_1, .string a1_2]) (ys := #[.int .i64 x6.1, .int .i64 x6.2.1, .string x6.2.2]) false (by kernel_rfl) rfl (by kernel_rfl) (by kernel_rfl) (by kernel_rfl) (by kernel_rfl) (by kernel_rfl) (by kernel_rfl) (by kernel_rfl) ?_
    refine k_nil ?_
    refine k_then ?_
    refine k_cond (t := ((a1_0 == x6.1) && ((a1_1 == x6.2.1) && ((a1_2.toList == x6.2.2.toList) && true)))) (by kernel_rfl) (fun t10 => ?_) (fun t10 => ?_)
    ·have h := condT h t10
     refine k_seq ?_
     refine k_region ?_
     refine kl_steps 2 [(4, .int .i64 x3)] (by kernel_rfl) ?_
     refine k_nil ?_
     refine k_then ?_
     refine k_ret ?_
     refine k_blk_ret ?_
     refine k_then_ret ?_
     refine k_then_ret ?_
     refine k_blk_ret ?_
     refine k_then_ret ?_
     obtain rfl := Option.some.inj h
     refine k_done (v := .int .i64 x3) [] [] [] (by kernel_rfl) (by kernel_rfl) trivial ?_
     refine K.drop ?_
     exact k_end ⟨rfl, rfl⟩
    ·have h := condF h t10
     refine k_skip ?_
     refine k_blk ?_
     refine k_then ?_
     refine k_region ?_
     refine kl_steps 2 [(0, .slice A_a0 a0.length c_a0), (3, .pointer (some ⟨b1, 0, none⟩)), (7, .int .i64 ((a0.length : Nat) : Int)), (8, .int .i64 (IntKind.i64.wrap (x3 + (1 : Int))))] (by kernel_rfl) ?_
     refine k_nil ?_
     refine k_then ?_
     exact k_again m4 (IntKind.i64.wrap (x3 + (1 : Int))) (Nat.lt_succ_self _) h ⟨rfl, rfl, rfl, rfl, trivial⟩ rfl
   ·have h := condF h t5
    refine k_exit ?_
    refine k_then_exit ?_
    refine k_then_exit ?_
    refine k_here ?_
    refine k_then ?_
    refine K.drop ?_
    exact k_meet () h trivial rfl
def slices_Contains_string_string_.f (k : Nat) (a0 : List ByteArray) (a1 : ByteArray) : Option (Bool) := (slices_Index_string_string_.f k a0 a1).bind fun r1 => some (decide (r1 ≥ (0 : Int)))
set_option maxRecDepth 100000 in
theorem slices_Contains_string_string_.ok {k : Nat} {a0 : List ByteArray} {a1 : ByteArray} {H_a0 : Frag} {A_a0 : Option Addr} {c_a0 : Nat} {r : Bool} (h : slices_Contains_string_string_.f k a0 a1 = some r) (R_a0 : RdT encS 1 H_a0 (.slice A_a0 a0.length c_a0) a0) : Ct Tryz.prog 75 #[.slice A_a0 a0.length c_a0, .string a1] [] [H_a0] (fun e l1 => e = .returned (.bool r) ∧ l1 = []) := by
 refine ct_enter (args := [.slice A_a0 a0.length c_a0, .string a1]) Tryz.func75 rfl (Nat.le_of_ble_eq_true rfl) ?_
 intro A X hh_
 obtain ⟨hm_H_a0, _⟩ := hh_
 unfold slices_Contains_string_string_.f at h
 refine k_seq ?_
 refine k_region ?_
 refine kl_steps 1 [(0, .slice A_a0 a0.length c_a0), (1, .string a1)] (by kernel_rfl) ?_
 refine k_nil ?_
 refine k_then ?_
 refine k_seq ?_
 refine k_region ?_
 refine kl_steps 2 [(5, .slice A_a0 a0.length c_a0), (6, .string a1)] (by kernel_rfl) ?_
 obtain ⟨r1, hr1, h⟩ := bindSome h
 refine kl_callv (by kernel_rfl) (by kernel_rfl) (by kernel_rfl) (slices_Index_string_string_.ok hr1 R_a0) ⟨hm_H_a0, trivial⟩ ?_
 refine kl_steps 2 [(4, .bool (decide (r1 ≥ (0 : Int))))] (by kernel_rfl) ?_
 refine k_nil ?_
 refine k_then ?_
 refine k_ret ?_
 obtain rfl := Option.some.inj h
 refine k_done (v := .bool (decide (r1 ≥ (0 : Int)))) [] [] [] (by kernel_rfl) (by kernel_rfl) trivial ?_
 exact k_end ⟨rfl, rfl⟩
def slices_Contains_api_Val_api_Val_.f (k : Nat) (a0 : List (Int × Int × ByteArray)) (a1_0 : Int) (a1_1 : Int) (a1_2 : ByteArray) : Option (Bool) := (slices_Index_api_Val_api_Val_.f k a0 a1_0 a1_1 a1_2).bind fun r2 => some (decide (r2 ≥ (0 : Int)))
set_option maxRecDepth 100000 in
theorem slices_Contains_api_Val_api_Val_.ok {k : Nat} {a0 : List (Int × Int × ByteArray)} {a1_0 : Int} {a1_1 : Int} {a1_2 : ByteArray} {H_a0 : Frag} {A_a0 : Option Addr} {c_a0 : Nat} {r : Bool} (h : slices_Contains_api_Val_api_Val_.f k a0 a1_0 a1_1 a1_2 = some r) (R_a0 : RdT e53 3 H_a0 (.slice A_a0 a0.length c_a0) a0) : Ct Tryz.prog 76 #[.slice A_a0 a0.length c_a0, .agg #[.int .i64 a1_0, .int .i64 a1_1, .string a1_2]] [] [H_a0] (fun e l1 => e = .returned (.bool r) ∧ l1 = []) := by
 refine ct_enter (args := [.slice A_a0 a0.length c_a0, .agg #[.int .i64 a1_0, .int .i64 a1_1, .string a1_2]]) Tryz.func76 rfl (Nat.le_of_ble_eq_true rfl) ?_
 intro A X hh_
 obtain ⟨hm_H_a0, _⟩ := hh_
 unfold slices_Contains_api_Val_api_Val_.f at h
 refine k_seq ?_
 refine k_region ?_
 refine kl_new (.cells #[.int .i64 a1_0, .int .i64 a1_1, .string a1_2] 53 (0, 0)) (fun b => .pointer (some ⟨b, 0, none⟩)) (by kernel_rfl) (by kernel_rfl) (fun _ => by kernel_rfl) fun b1 => ?_
 refine kl_steps 1 [(0, .slice A_a0 a0.length c_a0), (3, .pointer (some ⟨b1, 0, none⟩))] (by kernel_rfl) ?_
 refine k_nil ?_
 refine k_then ?_
 refine k_seq ?_
 refine k_region ?_
 refine kl_steps 1 [(3, .pointer (some ⟨b1, 0, none⟩)), (5, .slice A_a0 a0.length c_a0)] (by kernel_rfl) ?_
 refine kl_load (v := .agg #[.int .i64 a1_0, .int .i64 a1_1, .string a1_2]) [.val (.int .i64 a1_0), .val (.int .i64 a1_1), .val (.string a1_2)] [.ld ⟨b1, 0, none⟩ (.int .i64 a1_0), .ld ⟨b1, 1, none⟩ (.int .i64 a1_1), .ld ⟨b1, 2, none⟩ (.string a1_2)] (by kernel_rfl) (by kernel_rfl) (by kernel_rfl) ⟨⟨0, _, _, _, rfl, rfl, rfl⟩, ⟨0, _, _, _, rfl, rfl, rfl⟩, ⟨0, _, _, _, rfl, rfl, rfl⟩, trivial⟩ ?_
 refine K.drop ?_
 obtain ⟨r2, hr2, h⟩ := bindSome h
 refine kl_callv (by kernel_rfl) (by kernel_rfl) (by kernel_rfl) (slices_Index_api_Val_api_Val_.ok hr2 R_a0) ⟨hm_H_a0, trivial⟩ ?_
 refine kl_steps 2 [(4, .bool (decide (r2 ≥ (0 : Int))))] (by kernel_rfl) ?_
 refine k_nil ?_
 refine k_then ?_
 refine k_ret ?_
 obtain rfl := Option.some.inj h
 refine k_done (v := .bool (decide (r2 ≥ (0 : Int)))) [] [] [] (by kernel_rfl) (by kernel_rfl) trivial ?_
 exact k_end ⟨rfl, rfl⟩
def check_Library.f (k : Nat) (a0 : ByteArray) : Option (Int) := cond (a0.toList == (⟨#[45]⟩ : ByteArray).toList) (some ((0 : Int))) ((strings_Fields.f k (⟨#[112, 114, 105, 110, 116, 32, 116, 121, 112, 101, 32, 116, 111, 115, 116, 114, 105, 110, 103, 32, 116, 111, 110, 117, 109, 98, 101, 114, 32, 110, 101, 120, 116, 32, 112, 97, 105, 114, 115, 32, 105, 112, 97, 105, 114, 115, 32, 114, 97, 119, 108, 101, 110, 32, 115, 116, 97, 116, 115, 32, 112, 114, 111, 98, 101, 115, 32, 45, 32, 116, 97, 98, 108, 101, 46, 105, 110, 115, 101, 114, 116, 32, 116, 97, 98, 108, 101, 46, 114, 101, 109, 111, 118, 101, 32, 116, 97, 98, 108, 101, 46, 99, 111, 110, 99, 97, 116, 32, 116, 97, 98, 108, 101, 46, 117, 110, 112, 97, 99, 107, 32, 116, 97, 98, 108, 101, 46, 109, 111, 118, 101, 32, 116, 97, 98, 108, 101, 46, 115, 111, 114, 116, 32, 117, 116, 102, 56, 46, 108, 101, 110, 32, 117, 116, 102, 56, 46, 99, 104, 97, 114, 32, 117, 116, 102, 56, 46, 99, 111, 100, 101, 112, 111, 105, 110, 116, 32, 117, 116, 102, 56, 46, 111, 102, 102, 115, 101, 116, 32, 117, 116, 102, 56, 46, 99, 111, 100, 101, 115, 32, 45]⟩ : ByteArray)).bind fun r2 => (slices_Index_string_string_.f k r2 a0).bind fun r7 => some (IntKind.i64.wrap (r7 + (1 : Int))))
set_option maxRecDepth 100000 in
theorem check_Library.ok {k : Nat} {a0 : ByteArray} {G : Frag} {r : Int} (h : check_Library.f k a0 = some r) (hG : GlP G) : Ct Tryz.prog 8 #[.string a0] [] [G] (fun e l1 => e = .returned (.int .i64 r) ∧ l1 = []) := by
 refine ct_enter (args := [.string a0]) Tryz.func8 rfl (Nat.le_of_ble_eq_true rfl) ?_
 intro A X hh_
 obtain ⟨hm_G, _⟩ := hh_
 unfold check_Library.f at h
 refine k_seq ?_
 refine k_region ?_
 refine kl_steps 1 [(0, .string a0)] (by kernel_rfl) ?_
 refine k_nil ?_
 refine k_then ?_
 refine k_seq ?_
 refine k_seq ?_
 refine k_region ?_
 refine kl_steps 2 [(0, .string a0), (4, .bool (a0.toList == (⟨#[45]⟩ : ByteArray).toList))] (by kernel_rfl) ?_
 refine k_nil ?_
 refine k_then ?_
 refine k_cond (t := (a0.toList == (⟨#[45]⟩ : ByteArray).toList)) (by kernel_rfl) (fun t1 => ?_) (fun t1 => ?_)
 ·have h := condT h t1
  refine k_seq ?_
  refine k_region ?_
  refine kl_steps 1 [(2, .int .i64 (0 : Int))] (by kernel_rfl) ?_
  refine k_nil ?_
  refine k_then ?_
  refine k_ret ?_
  refine k_then_ret ?_
  obtain rfl := Option.some.inj h
  refine k_done (v := .int .i64 (0 : Int)) [] [] [] (by kernel_rfl) (by kernel_rfl) trivial ?_
  exact k_end ⟨rfl, rfl⟩
 ·have h := condF h t1
  refine k_skip ?_
  refine k_then ?_
  refine k_seq ?_
  refine k_region ?_
  obtain ⟨r2, hr2, h⟩ := bindSome h
  refine kl_call (X) (by kernel_rfl) (by kernel_rfl) (by kernel_rfl) (strings_Fields.ok hr2 hG) rfl ⟨hm_G, trivial⟩ ?_
  rintro _ _ ⟨h3, A4, k5, o6, rfl, rfl⟩
  refine nx_ret1 ?_
  refine kl_steps 1 [(5, .slice A4 r2.length k5), (6, .string a0)] (by kernel_rfl) ?_
  obtain ⟨r7, hr7, h⟩ := bindSome h
  refine kl_callv (by kernel_rfl) (by kernel_rfl) (by kernel_rfl) (slices_Index_string_string_.ok hr7 (OwnT.rd o6)) ⟨(.head _), trivial⟩ ?_
  refine K.drop ?_
  refine kl_steps 2 [(2, .int .i64 (IntKind.i64.wrap (r7 + (1 : Int))))] (by kernel_rfl) ?_
  refine k_nil ?_
  refine k_then ?_
  refine k_ret ?_
  obtain rfl := Option.some.inj h
  refine k_done (v := .int .i64 (IntKind.i64.wrap (r7 + (1 : Int)))) [] [] [] (by kernel_rfl) (by kernel_rfl) trivial ?_
  exact k_end ⟨rfl, rfl⟩
end Go.Proofs.YtdkgnlaneccioaaGreatDoor
namespace Go.Proofs.YtdkgnlaneccioaaGreatDoor
open Go Go.RowKit
theorem check_Check_1_idle (p q : Value) (w : World) :
  CallsD Tryz.prog 25 #[p, q] .returning w fun e u' w' => e = .returned (.tuple #[]) ∧ u' = .returning ∧ w = w' := by
 refine callsD_of_wpS Tryz.func25 rfl fun c₀ cs hu => ?_
 apply wpS_seq
 apply wpS_region
 simp [wpOpsS, go_sem, recoverD, hu, Tryz.ntmps25, Exit.thenS, Array.replicate_succ]
 refine wpS_of_wp ?_
 go_wp2
 cases c₀
 simp_all [bodyPostS, results, Tryz.results25]
set_option maxRecDepth 100000 in
theorem check_Check_1_pan {A w : World} {X : List Frag} {p q : Nat} {x0 x1 y0 y1 : Value} {i : Int × Int} (hw : St A (blk p (.cells #[x0, x1] 28 (0, 0)) :: blk q (.cells #[y0, y1] 31 (0, 0)) :: X) w) :
  CallsD Tryz.prog 25 #[.pointer (some ⟨p, 0, none⟩), .pointer (some ⟨q, 0, none⟩)] (.panicking [{ v := failC i, recovered := false }]) w fun e u' w' => e = .returned (.tuple #[]) ∧ settle u' = .returning ∧ St A (blk p (.cells #[.slice none 0 0, .slice none 0 0] 28 (0, 0)) :: blk q (.cells #[.int .i64 i.1, .int .i64 i.2] 31 (0, 0)) :: X) w' := by
 refine callsD_of_wpS Tryz.func25 rfl fun c₀ cs hu => ?_
 apply wpS_seq
 apply wpS_region
 simp [wpOpsS, go_sem, recoverD, hu, Tryz.ntmps25, Exit.thenS, Array.replicate_succ]
 refine wpS_of_wp ?_
 refine (?_ : K [] A Tryz.f25.ntmps [(0, .pointer (some ⟨p, 0, none⟩)), (1, .pointer (some ⟨q, 0, none⟩)), (5, .iface 58 (.agg #[.int .i64 i.1, .int .i64 i.2]))] (blk p (.cells #[x0, x1] 28 (0, 0)) :: blk q (.cells #[y0, y1] 31 (0, 0)) :: X) _) _ w ⟨rfl, rfl, ?_⟩ hw
 rotate_left
 ·intro j v hj
  simp only [Env.get] at hj
  match j with
  | 0 => cases hj; rfl
  | 1 => cases hj; rfl
  | 2 => cases hj
  | 3 => cases hj
  | 4 => cases hj
  | 5 => cases hj; rfl
  | j + 6 => cases hj
 refine k_block ?_
 refine k_seq ?_
 refine k_region ?_
 refine kl_steps 1 [(0, .pointer (some ⟨p, 0, none⟩)), (1, .pointer (some ⟨q, 0, none⟩)), (5, .iface 58 (.agg #[.int .i64 i.1, .int .i64 i.2])), (7, .bool false)] (by kernel_rfl) ?_
 refine k_nil ?_
 refine k_then ?_
 refine k_cond_false (by kernel_rfl) ?_
 refine k_seq ?_
 refine k_region ?_
 refine kl_steps 3 [(0, .pointer (some ⟨p, 0, none⟩)), (1, .pointer (some ⟨q, 0, none⟩)), (5, .iface 58 (.agg #[.int .i64 i.1, .int .i64 i.2])), (9, .bool true), (10, .agg #[.int .i64 i.1, .int .i64 i.2])] (by kernel_rfl) ?_
 refine k_nil ?_
 refine k_then ?_
 refine k_cond_true (by kernel_rfl) ?_
 refine k_seq ?_
 refine k_region ?_
 refine kl_new (.cells #[.int .i64 (0 : Int), .int .i64 (0 : Int)] 58 (0, 0)) (fun b => .pointer (some ⟨b, 0, none⟩)) (by kernel_rfl) (by kernel_rfl) (fun _ => by kernel_rfl) fun b1 => ?_
 refine kl_store (cs' := #[.int .i64 i.1, .int .i64 i.2]) [.st ⟨b1, 0, none⟩ (.int .i64 i.1), .st ⟨b1, 1, none⟩ (.int .i64 i.2)] (by kernel_rfl) (by kernel_rfl) (by kernel_rfl) ⟨rfl, rfl, trivial⟩ (by kernel_rfl) ?_
 refine k_nil ?_
 refine k_then ?_
 refine k_region_plan [(0, 0), (1, 3), (2, 1)] (fun w => OnAll [blk b1 (.cells #[.int .i64 i.1, .int .i64 i.2] 58 (0, 0))] w) (by kernel_rfl) (by kernel_rfl) (fun _ _ d _ _ h => by cases d <;> exact h) (fun w h_ => ⟨h_.sat.on _ (.head _), trivial⟩) ?_
 simp only [planOps, List.filterMap_cons, List.filterMap_nil, List.getElem?_toArray, List.getElem?_cons_zero, List.getElem?_cons_succ, Option.map_some, List.drop_succ_cons, List.drop_zero, List.length_cons, List.length_nil]
 refine kp_steps 1 [(0, .pointer (some ⟨p, 0, none⟩)), (1, .pointer (some ⟨q, 0, none⟩)), (3, .pointer (some ⟨b1, 0, none⟩)), (11, .agg #[.slice none 0 0, .slice none 0 0])] (by kernel_rfl) (by kernel_rfl) ?_
 refine kp_loadS (v := .agg #[.int .i64 i.1, .int .i64 i.2]) [blk b1 (.cells #[.int .i64 i.1, .int .i64 i.2] 58 (0, 0))] [.val (.int .i64 i.1), .val (.int .i64 i.2)] [.ld ⟨b1, 0, none⟩ (.int .i64 i.1), .ld ⟨b1, 1, none⟩ (.int .i64 i.2)] (by kernel_rfl) (by kernel_rfl) (by kernel_rfl) (fun _ h => h) ⟨⟨0, _, _, _, rfl, rfl, rfl⟩, ⟨0, _, _, _, rfl, rfl, rfl⟩, trivial⟩ ?_
 refine kp_turn (by kernel_rfl) ?_
 refine K.mv1 ?_
 refine op_store (cs' := #[.slice none 0 0, .slice none 0 0]) [.st ⟨p, 0, none⟩ (.slice none 0 0), .st ⟨p, 1, none⟩ (.slice none 0 0)] (by kernel_rfl) (by kernel_rfl) ⟨rfl, rfl, trivial⟩ (by kernel_rfl) ?_
 refine k_and (fun w h_ => ⟨h_.sat.on _ (.tail _ (.head _)), trivial⟩) ?_
 refine kp_done ?_
 refine K.mv2 ?_
 refine kl_store (cs' := #[.int .i64 i.1, .int .i64 i.2]) [.st ⟨q, 0, none⟩ (.int .i64 i.1), .st ⟨q, 1, none⟩ (.int .i64 i.2)] (by kernel_rfl) (by kernel_rfl) (by kernel_rfl) ⟨rfl, rfl, trivial⟩ (by kernel_rfl) ?_
 refine K.mv2 ?_
 refine K.drop ?_
 refine k_nil ?_
 refine k_blk ?_
 refine K.mv1 ?_
 intro a' w' ha' hw'
 have hd := ha'.defers
 simp [bodyPostS, results, Tryz.results25, hd, settle]
 exact hw'
end Go.Proofs.YtdkgnlaneccioaaGreatDoor
