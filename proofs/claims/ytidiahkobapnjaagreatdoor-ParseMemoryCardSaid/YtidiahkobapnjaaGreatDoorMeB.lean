/- Texts of mine for parseMemory_card, part 2. -/
import Derived.Test.YtidiahkobapnjaaGreatDoorMeA
set_option linter.unusedSimpArgs false
set_option linter.unusedVariables false
set_option linter.unusedSectionVars false
namespace Go.Proofs.YtidiahkobapnjaaGreatDoor
open Go Go.RowKit
def r11_names.l0 : Nat → (a0 : ByteArray) → (J2 : Int → Option (Int)) → (x3 : Int) → Option (Int)
 | 0, _, _, _ => none
 | m4 + 1, a0, J2, x3 => cond (decide (x3 < (a0.size : Int))) ((r01_At.f m4 a0 x3).bind fun r6 => ((r01_Letter.f m4 r6.2.2).bind fun r10 => cond (!r10) ((r01_Digit.f m4 r6.2.2).bind fun r12 => some (!r12)) (some false) : Option Bool).bind fun q8 => cond q8 (J2 x3) (r11_names.l0 m4 a0 J2 (IntKind.i64.wrap (x3 + r6.2.1)))) (J2 x3)
def r11_names.f (k : Nat) (a0 : ByteArray) (a1 : Int) : Option (Int) := joinF (fun (x1 : Int) => some (IntKind.i64.wrap (x1 - a1))) (fun J2 => r11_names.l0 k a0 J2 a1)
set_option maxRecDepth 100000 in
theorem r11_names.ok {k : Nat} {a0 : ByteArray} {a1 : Int} {r : Int} (h : r11_names.f k a0 a1 = some r) : Ct Tryz.prog 31 #[sv a0, iv a1] [] [] (fun e l1 => e = .returned (iv r) ∧ l1 = []) := by
 refine ct_enter (args := [sv a0, iv a1]) Tryz.func31 rfl (Nat.le_of_ble_eq_true rfl) ?_
 intro A X hh_
 unfold r11_names.f at h
 refine ksr (kx 1 (kns' (kx 2 (knt ?_))))
 obtain ⟨J2, hJ2, h⟩ := joinSplit h
 refine k_cut (τ := Int) (fun t => [(1, iv a1), (5, iv t)]) (fun t => X) (fun t => J2 t = some r) ?_ ?_
 ·rintro x1 h
  subst hJ2
  refine ksr (kx 4 (knt (k_ret ?_)))
  obtain rfl := Option.some.inj h
  exact kdn rfl
 ·skip
  refine k_block (k_loop (τ := Int) (fun t => [(0, sv a0), (1, iv a1), (5, iv t)]) (fun t => X) (fun m t => r11_names.l0 m a0 J2 t = some r) k a1 h sb rfl ?_)
  clear h
  rintro m4 x3 h
  cases m4 with
  | zero => simp [r11_names.l0] at h
  | succ m4 =>
   simp only [r11_names.l0] at h
   refine k_seq (ksr (kx 4 (knt ?_)))
   refine kcn h (fun h => ?_) fun h => ?_
   ·refine k_skip (k_then (k_block (ksr (kx 2 (bnd h fun r6 hr6 h => (kcv (r01_At.ok hr6) trivial (knp #[iv 0, iv 0, iv 0] 72 fun b7 => (kst 0 3 #[iv r6.1, iv r6.2.1, iv r6.2.2] (knt (k_seq ?_))))))))))
    refine bnd h fun q8 hq8 h => ?_
    refine k_cut1 [(0, sv a0), (1, iv a1), (5, iv x3), (6, pt b7), (24, bv q8)] (bk b7 #[iv r6.1, iv r6.2.1, iv r6.2.2] 72 :: X) ?_ ?_
    ·clear hq8
     refine kcn h (fun h => ?_) fun h => ?_
     ·exact k_exit (k_then_exit (k_there rfl (k_then_exit (k_here (k_then (K.drop (k_meet x3 h sb rfl)))))))
     ·exact k_skip (k_then (k_region (kx 2 (kld 0 1 rfl (K.drop (kx 2 (knl (k_blk (k_then (k_again m4 (IntKind.i64.wrap (x3 + r6.2.1)) (Nat.lt_succ_self _) h sb rfl))))))))))
    ·have h := hq8
     clear hq8
     refine k_region (kx 1 (kld 0 2 rfl (bnd h fun r10 hr10 h => (kcv (r01_Letter.ok hr10) trivial (kx 2 ?_)))))
     refine kcs 19 h (fun h => ?_) fun h => ?_
     ·exact kx 1 (kld 0 2 rfl (bnd h fun r12 hr12 h => (kcv (r01_Digit.ok hr12) trivial (kx 2 (knt (k_meet1 ⟨gr, gr, gr, gr, gb (Option.some.inj h), trivial⟩))))))
     ·exact kx 5 (knt (k_meet1 ⟨gr, gr, gr, gr, gb (Option.some.inj h), trivial⟩))
   ·exact k_exit (k_then_exit (k_then_exit (k_here (k_then (k_meet x3 h sb rfl)))))
def r11_IsWord.f (_k : Nat) (a0 : ByteArray) : Option (Bool) := joinF (fun (x1 : Bool) => cond x1 (some (true)) (some (false))) (fun J2 => cond (a0.toList == (⟨#[97, 110, 100]⟩ : ByteArray).toList) (J2 (a0.toList == (⟨#[97, 110, 100]⟩ : ByteArray).toList)) (cond (a0.toList == (⟨#[98, 114, 101, 97, 107]⟩ : ByteArray).toList) (J2 (a0.toList == (⟨#[98, 114, 101, 97, 107]⟩ : ByteArray).toList)) (cond (a0.toList == (⟨#[100, 111]⟩ : ByteArray).toList) (J2 (a0.toList == (⟨#[100, 111]⟩ : ByteArray).toList)) (cond (a0.toList == (⟨#[101, 108, 115, 101]⟩ : ByteArray).toList) (J2 (a0.toList == (⟨#[101, 108, 115, 101]⟩ : ByteArray).toList)) (cond (a0.toList == (⟨#[101, 108, 115, 101, 105, 102]⟩ : ByteArray).toList) (J2 (a0.toList == (⟨#[101, 108, 115, 101, 105, 102]⟩ : ByteArray).toList)) (cond (a0.toList == (⟨#[101, 110, 100]⟩ : ByteArray).toList) (J2 (a0.toList == (⟨#[101, 110, 100]⟩ : ByteArray).toList)) (cond (a0.toList == (⟨#[102, 97, 108, 115, 101]⟩ : ByteArray).toList) (J2 (a0.toList == (⟨#[102, 97, 108, 115, 101]⟩ : ByteArray).toList)) (cond (a0.toList == (⟨#[102, 111, 114]⟩ : ByteArray).toList) (J2 (a0.toList == (⟨#[102, 111, 114]⟩ : ByteArray).toList)) (cond (a0.toList == (⟨#[102, 117, 110, 99, 116, 105, 111, 110]⟩ : ByteArray).toList) (J2 (a0.toList == (⟨#[102, 117, 110, 99, 116, 105, 111, 110]⟩ : ByteArray).toList)) (cond (a0.toList == (⟨#[105, 102]⟩ : ByteArray).toList) (J2 (a0.toList == (⟨#[105, 102]⟩ : ByteArray).toList)) (cond (a0.toList == (⟨#[105, 110]⟩ : ByteArray).toList) (J2 (a0.toList == (⟨#[105, 110]⟩ : ByteArray).toList)) (cond (a0.toList == (⟨#[108, 111, 99, 97, 108]⟩ : ByteArray).toList) (J2 (a0.toList == (⟨#[108, 111, 99, 97, 108]⟩ : ByteArray).toList)) (cond (a0.toList == (⟨#[110, 105, 108]⟩ : ByteArray).toList) (J2 (a0.toList == (⟨#[110, 105, 108]⟩ : ByteArray).toList)) (cond (a0.toList == (⟨#[110, 111, 116]⟩ : ByteArray).toList) (J2 (a0.toList == (⟨#[110, 111, 116]⟩ : ByteArray).toList)) (cond (a0.toList == (⟨#[111, 114]⟩ : ByteArray).toList) (J2 (a0.toList == (⟨#[111, 114]⟩ : ByteArray).toList)) (cond (a0.toList == (⟨#[114, 101, 116, 117, 114, 110]⟩ : ByteArray).toList) (J2 (a0.toList == (⟨#[114, 101, 116, 117, 114, 110]⟩ : ByteArray).toList)) (cond (a0.toList == (⟨#[116, 104, 101, 110]⟩ : ByteArray).toList) (J2 (a0.toList == (⟨#[116, 104, 101, 110]⟩ : ByteArray).toList)) (cond (a0.toList == (⟨#[116, 114, 117, 101]⟩ : ByteArray).toList) (J2 (a0.toList == (⟨#[116, 114, 117, 101]⟩ : ByteArray).toList)) (J2 (a0.toList == (⟨#[119, 104, 105, 108, 101]⟩ : ByteArray).toList))))))))))))))))))))
set_option maxRecDepth 100000 in
theorem r11_IsWord.ok {k : Nat} {a0 : ByteArray} {r : Bool} (h : r11_IsWord.f k a0 = some r) : Ct Tryz.prog 32 #[sv a0] [] [] (fun e l1 => e = .returned (bv r) ∧ l1 = []) := by
 refine ct_enter (args := [sv a0]) Tryz.func32 rfl (Nat.le_of_ble_eq_true rfl) ?_
 intro A X hh_
 unfold r11_IsWord.f at h
 refine ksr (kx 1 (knt (k_seq (ksr (kx 1 (knt (k_block ?_)))))))
 obtain ⟨J2, hJ2, h⟩ := joinSplit h
 refine k_cut (τ := Bool) (fun t => [(4, bv t)]) (fun t => X) (fun t => J2 t = some r) ?_ ?_
 ·rintro x1 h
  subst hJ2
  refine kcn h (fun h => ?_) fun h => ?_
  ·refine ksr (kx 1 (knt (k_ret (k_blk_ret (k_then_ret ?_)))))
   obtain rfl := Option.some.inj h
   exact kdn rfl
  ·refine k_skip (k_blk (k_then (ksr (kx 1 (knt (k_ret ?_))))))
   obtain rfl := Option.some.inj h
   exact kdn rfl
 ·skip
  refine ksr (kx 2 (knt ?_))
  refine kcn h (fun h => ?_) fun h => ?_
  ·exact k_skip (k_then (k_meet (a0.toList == (⟨#[97, 110, 100]⟩ : ByteArray).toList) h sb rfl))
  ·refine ksr (kx 2 (knt ?_))
   refine kcn h (fun h => ?_) fun h => ?_
   ·exact k_skip (k_then (k_meet (a0.toList == (⟨#[98, 114, 101, 97, 107]⟩ : ByteArray).toList) h sb rfl))
   ·refine ksr (kx 2 (knt ?_))
    refine kcn h (fun h => ?_) fun h => ?_
    ·exact k_skip (k_then (k_meet (a0.toList == (⟨#[100, 111]⟩ : ByteArray).toList) h sb rfl))
    ·refine ksr (kx 2 (knt ?_))
     refine kcn h (fun h => ?_) fun h => ?_
     ·exact k_skip (k_then (k_meet (a0.toList == (⟨#[101, 108, 115, 101]⟩ : ByteArray).toList) h sb rfl))
     ·refine ksr (kx 2 (knt ?_))
      refine kcn h (fun h => ?_) fun h => ?_
      ·exact k_skip (k_then (k_meet (a0.toList == (⟨#[101, 108, 115, 101, 105, 102]⟩ : ByteArray).toList) h sb rfl))
      ·refine ksr (kx 2 (knt ?_))
       refine kcn h (fun h => ?_) fun h => ?_
       ·exact k_skip (k_then (k_meet (a0.toList == (⟨#[101, 110, 100]⟩ : ByteArray).toList) h sb rfl))
       ·refine ksr (kx 2 (knt ?_))
        refine kcn h (fun h => ?_) fun h => ?_
        ·exact k_skip (k_then (k_meet (a0.toList == (⟨#[102, 97, 108, 115, 101]⟩ : ByteArray).toList) h sb rfl))
        ·refine ksr (kx 2 (knt ?_))
         refine kcn h (fun h => ?_) fun h => ?_
         ·exact k_skip (k_then (k_meet (a0.toList == (⟨#[102, 111, 114]⟩ : ByteArray).toList) h sb rfl))
         ·refine ksr (kx 2 (knt ?_))
          refine kcn h (fun h => ?_) fun h => ?_
          ·exact k_skip (k_then (k_meet (a0.toList == (⟨#[102, 117, 110, 99, 116, 105, 111, 110]⟩ : ByteArray).toList) h sb rfl))
          ·refine ksr (kx 2 (knt ?_))
           refine kcn h (fun h => ?_) fun h => ?_
           ·exact k_skip (k_then (k_meet (a0.toList == (⟨#[105, 102]⟩ : ByteArray).toList) h sb rfl))
           ·refine ksr (kx 2 (knt ?_))
            refine kcn h (fun h => ?_) fun h => ?_
            ·exact k_skip (k_then (k_meet (a0.toList == (⟨#[105, 110]⟩ : ByteArray).toList) h sb rfl))
            ·refine ksr (kx 2 (knt ?_))
             refine kcn h (fun h => ?_) fun h => ?_
             ·exact k_skip (k_then (k_meet (a0.toList == (⟨#[108, 111, 99, 97, 108]⟩ : ByteArray).toList) h sb rfl))
             ·refine ksr (kx 2 (knt ?_))
              refine kcn h (fun h => ?_) fun h => ?_
              ·exact k_skip (k_then (k_meet (a0.toList == (⟨#[110, 105, 108]⟩ : ByteArray).toList) h sb rfl))
              ·refine ksr (kx 2 (knt ?_))
               refine kcn h (fun h => ?_) fun h => ?_
               ·exact k_skip (k_then (k_meet (a0.toList == (⟨#[110, 111, 116]⟩ : ByteArray).toList) h sb rfl))
               ·refine ksr (kx 2 (knt ?_))
                refine kcn h (fun h => ?_) fun h => ?_
                ·exact k_skip (k_then (k_meet (a0.toList == (⟨#[111, 114]⟩ : ByteArray).toList) h sb rfl))
                ·refine ksr (kx 2 (knt ?_))
                 refine kcn h (fun h => ?_) fun h => ?_
                 ·exact k_skip (k_then (k_meet (a0.toList == (⟨#[114, 101, 116, 117, 114, 110]⟩ : ByteArray).toList) h sb rfl))
                 ·refine ksr (kx 2 (knt ?_))
                  refine kcn h (fun h => ?_) fun h => ?_
                  ·exact k_skip (k_then (k_meet (a0.toList == (⟨#[116, 104, 101, 110]⟩ : ByteArray).toList) h sb rfl))
                  ·refine ksr (kx 2 (knt ?_))
                   refine kcn h (fun h => ?_) fun h => ?_
                   ·exact k_skip (k_then (k_meet (a0.toList == (⟨#[116, 114, 117, 101]⟩ : ByteArray).toList) h sb rfl))
                   ·exact k_region (kx 2 (knt (k_meet (a0.toList == (⟨#[119, 104, 105, 108, 101]⟩ : ByteArray).toList) h sb rfl)))
def r11_sign.f (_k : Nat) (a0 : ByteArray) (a1 : Int) : Option (ByteArray) := joinF (fun (_ : Unit) => (sIdx a0 a1).bind fun c2 : UInt8 => joinF (fun (x3 : Bool) => cond x3 ((sSub a0 a1 (IntKind.i64.wrap (a1 + 1))).bind fun s6 : ByteArray => some (s6)) (some ((⟨#[]⟩ : ByteArray)))) (fun J4 => cond ((c2.toNat : Int) == 43) (J4 ((c2.toNat : Int) == 43)) (cond ((c2.toNat : Int) == 45) (J4 ((c2.toNat : Int) == 45)) (cond ((c2.toNat : Int) == 42) (J4 ((c2.toNat : Int) == 42)) (cond ((c2.toNat : Int) == 37) (J4 ((c2.toNat : Int) == 37)) (cond ((c2.toNat : Int) == 60) (J4 ((c2.toNat : Int) == 60)) (cond ((c2.toNat : Int) == 62) (J4 ((c2.toNat : Int) == 62)) (cond ((c2.toNat : Int) == 61) (J4 ((c2.toNat : Int) == 61)) (cond ((c2.toNat : Int) == 35) (J4 ((c2.toNat : Int) == 35)) (cond ((c2.toNat : Int) == 40) (J4 ((c2.toNat : Int) == 40)) (cond ((c2.toNat : Int) == 41) (J4 ((c2.toNat : Int) == 41)) (cond ((c2.toNat : Int) == 123) (J4 ((c2.toNat : Int) == 123)) (cond ((c2.toNat : Int) == 125) (J4 ((c2.toNat : Int) == 125)) (cond ((c2.toNat : Int) == 91) (J4 ((c2.toNat : Int) == 91)) (cond ((c2.toNat : Int) == 93) (J4 ((c2.toNat : Int) == 93)) (cond ((c2.toNat : Int) == 59) (J4 ((c2.toNat : Int) == 59)) (cond ((c2.toNat : Int) == 44) (J4 ((c2.toNat : Int) == 44)) (J4 ((c2.toNat : Int) == 46))))))))))))))))))) (fun J1 => cond (decide (a1 < (IntKind.i64.wrap ((a0.size : Int) - 1)))) ((sSub a0 a1 (IntKind.i64.wrap (a1 + 2))).bind fun s24 : ByteArray => joinF (fun (x25 : Bool) => cond x25 ((sSub a0 a1 (IntKind.i64.wrap (a1 + 2))).bind fun s28 : ByteArray => some (s28)) (J1 ())) (fun J26 => cond (s24.toList == (⟨#[61, 61]⟩ : ByteArray).toList) (J26 (s24.toList == (⟨#[61, 61]⟩ : ByteArray).toList)) (cond (s24.toList == (⟨#[126, 61]⟩ : ByteArray).toList) (J26 (s24.toList == (⟨#[126, 61]⟩ : ByteArray).toList)) (cond (s24.toList == (⟨#[60, 61]⟩ : ByteArray).toList) (J26 (s24.toList == (⟨#[60, 61]⟩ : ByteArray).toList)) (cond (s24.toList == (⟨#[62, 61]⟩ : ByteArray).toList) (J26 (s24.toList == (⟨#[62, 61]⟩ : ByteArray).toList)) (cond (s24.toList == (⟨#[47, 47]⟩ : ByteArray).toList) (J26 (s24.toList == (⟨#[47, 47]⟩ : ByteArray).toList)) (J26 (s24.toList == (⟨#[46, 46]⟩ : ByteArray).toList)))))))) (J1 ()))
set_option maxRecDepth 100000 in
theorem r11_sign.ok {k : Nat} {a0 : ByteArray} {a1 : Int} {r : ByteArray} (h : r11_sign.f k a0 a1 = some r) : Ct Tryz.prog 36 #[sv a0, iv a1] [] [] (fun e l1 => e = .returned (sv r) ∧ l1 = []) := by
 refine ct_enter (args := [sv a0, iv a1]) Tryz.func36 rfl (Nat.le_of_ble_eq_true rfl) ?_
 intro A X hh_
 unfold r11_sign.f at h
 refine ksr (kx 1 (knt ?_))
 obtain ⟨J1, hJ1, h⟩ := joinSplit h
 refine k_cut (τ := Unit) (fun t => [(0, sv a0), (1, iv a1)]) (fun t => X) (fun t => J1 () = some r) ?_ ?_
 ·rintro ⟨⟩ h
  subst hJ1
  refine k_seq (ksr (kx 2 (bnd h fun c2 hc2 h => (kix (kd := .i64) rfl hc2 (knt (k_block ?_))))))
  obtain ⟨J4, hJ4, h⟩ := joinSplit h
  refine k_cut (τ := Bool) (fun t => [(0, sv a0), (1, iv a1), (30, bv t)]) (fun t => X) (fun t => J4 t = some r) ?_ ?_
  ·rintro x3 h
   subst hJ4
   refine kcn h (fun h => ?_) fun h => ?_
   ·refine ksr (kx 4 (bnd h fun s6 hs6 h => (kl_sstr a1 (IntKind.i64.wrap (a1 + 1)) rfl (by kernel_rfl) (by kernel_rfl) (by kernel_rfl) (.inr ⟨_, .i64, rfl, (by kernel_rfl)⟩) (.inr ⟨_, .i64, rfl, (by kernel_rfl)⟩) (by kernel_rfl) hs6 (kx 1 (knt (k_ret (k_blk_ret (k_then_ret ?_))))))))
    obtain rfl := Option.some.inj h
    exact kdn rfl
   ·refine k_skip (k_blk (k_then (ksr (kx 1 (knt (k_ret ?_))))))
    obtain rfl := Option.some.inj h
    exact kdn rfl
  ·skip
   refine ksr (kx 2 (knt ?_))
   refine kcn h (fun h => ?_) fun h => ?_
   ·exact k_skip (k_then (k_meet ((c2.toNat : Int) == 43) h sb rfl))
   ·refine ksr (kx 2 (knt ?_))
    refine kcn h (fun h => ?_) fun h => ?_
    ·exact k_skip (k_then (k_meet ((c2.toNat : Int) == 45) h sb rfl))
    ·refine ksr (kx 2 (knt ?_))
     refine kcn h (fun h => ?_) fun h => ?_
     ·exact k_skip (k_then (k_meet ((c2.toNat : Int) == 42) h sb rfl))
     ·refine ksr (kx 2 (knt ?_))
      refine kcn h (fun h => ?_) fun h => ?_
      ·exact k_skip (k_then (k_meet ((c2.toNat : Int) == 37) h sb rfl))
      ·refine ksr (kx 2 (knt ?_))
       refine kcn h (fun h => ?_) fun h => ?_
       ·exact k_skip (k_then (k_meet ((c2.toNat : Int) == 60) h sb rfl))
       ·refine ksr (kx 2 (knt ?_))
        refine kcn h (fun h => ?_) fun h => ?_
        ·exact k_skip (k_then (k_meet ((c2.toNat : Int) == 62) h sb rfl))
        ·refine ksr (kx 2 (knt ?_))
         refine kcn h (fun h => ?_) fun h => ?_
         ·exact k_skip (k_then (k_meet ((c2.toNat : Int) == 61) h sb rfl))
         ·refine ksr (kx 2 (knt ?_))
          refine kcn h (fun h => ?_) fun h => ?_
          ·exact k_skip (k_then (k_meet ((c2.toNat : Int) == 35) h sb rfl))
          ·refine ksr (kx 2 (knt ?_))
           refine kcn h (fun h => ?_) fun h => ?_
           ·exact k_skip (k_then (k_meet ((c2.toNat : Int) == 40) h sb rfl))
           ·refine ksr (kx 2 (knt ?_))
            refine kcn h (fun h => ?_) fun h => ?_
            ·exact k_skip (k_then (k_meet ((c2.toNat : Int) == 41) h sb rfl))
            ·refine ksr (kx 2 (knt ?_))
             refine kcn h (fun h => ?_) fun h => ?_
             ·exact k_skip (k_then (k_meet ((c2.toNat : Int) == 123) h sb rfl))
             ·refine ksr (kx 2 (knt ?_))
              refine kcn h (fun h => ?_) fun h => ?_
              ·exact k_skip (k_then (k_meet ((c2.toNat : Int) == 125) h sb rfl))
              ·refine ksr (kx 2 (knt ?_))
               refine kcn h (fun h => ?_) fun h => ?_
               ·exact k_skip (k_then (k_meet ((c2.toNat : Int) == 91) h sb rfl))
               ·refine ksr (kx 2 (knt ?_))
                refine kcn h (fun h => ?_) fun h => ?_
                ·exact k_skip (k_then (k_meet ((c2.toNat : Int) == 93) h sb rfl))
                ·refine ksr (kx 2 (knt ?_))
                 refine kcn h (fun h => ?_) fun h => ?_
                 ·exact k_skip (k_then (k_meet ((c2.toNat : Int) == 59) h sb rfl))
                 ·refine ksr (kx 2 (knt ?_))
                  refine kcn h (fun h => ?_) fun h => ?_
                  ·exact k_skip (k_then (k_meet ((c2.toNat : Int) == 44) h sb rfl))
                  ·exact k_region (kx 2 (knt (k_meet ((c2.toNat : Int) == 46) h sb rfl)))
 ·skip
  refine ksr (kx 5 (knt ?_))
  refine kcn h (fun h => ?_) fun h => ?_
  ·refine ksr (kx 4 (bnd h fun s24 hs24 h => (kl_sstr a1 (IntKind.i64.wrap (a1 + 2)) rfl (by kernel_rfl) (by kernel_rfl) (by kernel_rfl) (.inr ⟨_, .i64, rfl, (by kernel_rfl)⟩) (.inr ⟨_, .i64, rfl, (by kernel_rfl)⟩) (by kernel_rfl) hs24 (knt (k_block ?_)))))
   obtain ⟨J26, hJ26, h⟩ := joinSplit h
   refine k_cut (τ := Bool) (fun t => [(0, sv a0), (1, iv a1), (15, bv t)]) (fun t => X) (fun t => J26 t = some r) ?_ ?_
   ·rintro x25 h
    subst hJ26
    refine kcn h (fun h => ?_) fun h => ?_
    ·refine ksr (kx 4 (bnd h fun s28 hs28 h => (kl_sstr a1 (IntKind.i64.wrap (a1 + 2)) rfl (by kernel_rfl) (by kernel_rfl) (by kernel_rfl) (.inr ⟨_, .i64, rfl, (by kernel_rfl)⟩) (.inr ⟨_, .i64, rfl, (by kernel_rfl)⟩) (by kernel_rfl) hs28 (kx 1 (knt (k_ret (k_blk_ret (k_then_ret ?_))))))))
     obtain rfl := Option.some.inj h
     exact kdn rfl
    ·exact k_skip (k_blk (k_then (k_meet () h sb rfl)))
   ·skip
    refine ksr (kx 2 (knt ?_))
    refine kcn h (fun h => ?_) fun h => ?_
    ·exact k_skip (k_then (k_meet (s24.toList == (⟨#[61, 61]⟩ : ByteArray).toList) h sb rfl))
    ·refine ksr (kx 2 (knt ?_))
     refine kcn h (fun h => ?_) fun h => ?_
     ·exact k_skip (k_then (k_meet (s24.toList == (⟨#[126, 61]⟩ : ByteArray).toList) h sb rfl))
     ·refine ksr (kx 2 (knt ?_))
      refine kcn h (fun h => ?_) fun h => ?_
      ·exact k_skip (k_then (k_meet (s24.toList == (⟨#[60, 61]⟩ : ByteArray).toList) h sb rfl))
      ·refine ksr (kx 2 (knt ?_))
       refine kcn h (fun h => ?_) fun h => ?_
       ·exact k_skip (k_then (k_meet (s24.toList == (⟨#[62, 61]⟩ : ByteArray).toList) h sb rfl))
       ·refine ksr (kx 2 (knt ?_))
        refine kcn h (fun h => ?_) fun h => ?_
        ·exact k_skip (k_then (k_meet (s24.toList == (⟨#[47, 47]⟩ : ByteArray).toList) h sb rfl))
        ·exact k_region (kx 2 (knt (k_meet (s24.toList == (⟨#[46, 46]⟩ : ByteArray).toList) h sb rfl)))
  ·exact k_skip (k_then (k_meet () h sb rfl))
def r11_hexes.l0 : Nat → (a0 : ByteArray) → (a1 : Int) → (a2 : Int) → (J3 : Int → Int → Option (Int × Int)) → (x4 : Int) → (x5 : Int) → Option (Int × Int)
 | 0, _, _, _, _, _, _ => none
 | m6 + 1, a0, a1, a2, J3, x4, x5 => (cond (decide (x5 < a2)) (some (decide ((IntKind.i64.wrap (a1 + x5)) < (a0.size : Int)))) (some false) : Option Bool).bind fun q7 => cond q7 ((sIdx a0 (IntKind.i64.wrap (a1 + x5))).bind fun c9 : UInt8 => joinF (fun (x10 : Int) => r11_hexes.l0 m6 a0 a1 a2 J3 x10 (IntKind.i64.wrap (x5 + 1))) (fun J11 => (cond (decide ((IntKind.i64.wrap (c9.toNat : Int)) ≥ 48)) (some (decide ((IntKind.i64.wrap (c9.toNat : Int)) ≤ 57))) (some false) : Option Bool).bind fun q12 => cond q12 (J11 (IntKind.i64.wrap ((IntKind.i64.wrap ((IntKind.i64.wrap (x4 * 16)) + (IntKind.i64.wrap (c9.toNat : Int)))) - 48))) ((cond (decide ((IntKind.i64.wrap (c9.toNat : Int)) ≥ 97)) (some (decide ((IntKind.i64.wrap (c9.toNat : Int)) ≤ 102))) (some false) : Option Bool).bind fun q14 => cond q14 (J11 (IntKind.i64.wrap ((IntKind.i64.wrap ((IntKind.i64.wrap ((IntKind.i64.wrap (x4 * 16)) + (IntKind.i64.wrap (c9.toNat : Int)))) - 97)) + 10))) ((cond (decide ((IntKind.i64.wrap (c9.toNat : Int)) ≥ 65)) (some (decide ((IntKind.i64.wrap (c9.toNat : Int)) ≤ 70))) (some false) : Option Bool).bind fun q16 => cond q16 (J11 (IntKind.i64.wrap ((IntKind.i64.wrap ((IntKind.i64.wrap ((IntKind.i64.wrap (x4 * 16)) + (IntKind.i64.wrap (c9.toNat : Int)))) - 65)) + 10))) (some (x4, x5)))))) (J3 x4 x5)
def r11_hexes.f (k : Nat) (a0 : ByteArray) (a1 : Int) (a2 : Int) : Option (Int × Int) := joinF (fun (x1 : Int) (x2 : Int) => some (x1, x2)) (fun J3 => r11_hexes.l0 k a0 a1 a2 J3 0 0)
set_option maxRecDepth 100000 in
theorem r11_hexes.ok {k : Nat} {a0 : ByteArray} {a1 : Int} {a2 : Int} {r : Int × Int} (h : r11_hexes.f k a0 a1 a2 = some r) : Ct Tryz.prog 93 #[sv a0, iv a1, iv a2] [] [] (fun e l1 => e = .returned (.tuple #[iv r.1, iv r.2]) ∧ l1 = []) := by
 refine ct_enter (args := [sv a0, iv a1, iv a2]) Tryz.func93 rfl (Nat.le_of_ble_eq_true rfl) ?_
 intro A X hh_
 unfold r11_hexes.f at h
 refine ksr (kx 2 (kns' (kx 2 (knt ?_))))
 obtain ⟨J3, hJ3, h⟩ := joinSplit h
 refine k_cut (τ := Int × Int) (fun t => [(8, iv t.1), (9, iv t.2)]) (fun t => X) (fun t => J3 t.1 t.2 = some r) ?_ ?_
 ·rintro ⟨x1, x2⟩ h
  subst hJ3
  refine ksr (kx 4 (knt (k_ret ?_)))
  obtain rfl := Option.some.inj h
  exact kdn rfl
 ·skip
  refine k_block (k_loop (τ := Int × Int) (fun t => [(0, sv a0), (1, iv a1), (2, iv a2), (8, iv t.1), (9, iv t.2)]) (fun t => X) (fun m t => r11_hexes.l0 m a0 a1 a2 J3 t.1 t.2 = some r) k (0, 0) h sb rfl ?_)
  clear h
  rintro m6 ⟨x4, x5⟩ h
  cases m6 with
  | zero => simp [r11_hexes.l0] at h
  | succ m6 =>
   simp only [r11_hexes.l0] at h
   refine k_seq (bnd h fun q7 hq7 h => ?_)
   refine k_cut1 [(0, sv a0), (1, iv a1), (2, iv a2), (8, iv x4), (9, iv x5), (21, bv q7)] (X) ?_ ?_
   ·clear hq7
    refine kcn h (fun h => ?_) fun h => ?_
    ·refine k_skip (k_then (k_block (ksr (kx 4 (bnd h fun c9 hc9 h => (kix (kd := .i64) rfl hc9 (kx 2 (knt ?_))))))))
     obtain ⟨J11, hJ11, h⟩ := joinSplit h
     refine k_cut (τ := Int) (fun t => [(0, sv a0), (1, iv a1), (2, iv a2), (8, iv t), (9, iv x5)]) (fun t => X) (fun t => J11 t = some r) ?_ ?_
     ·rintro x10 h
      subst hJ11
      exact k_region (kx 3 (knl (k_blk (k_then (k_again m6 (x10, IntKind.i64.wrap (x5 + 1)) (Nat.lt_succ_self _) h sb rfl)))))
     ·skip
      refine k_block (bnd h fun q12 hq12 h => ?_)
      refine k_cut1 [(0, sv a0), (1, iv a1), (2, iv a2), (8, iv x4), (9, iv x5), (10, iv (IntKind.i64.wrap (c9.toNat : Int))), (30, bv q12)] (X) ?_ ?_
      ·clear hq12
       refine kcn h (fun h => ?_) fun h => ?_
       ·exact k_region (kx 6 (knl (k_blk (k_then (k_meet (IntKind.i64.wrap ((IntKind.i64.wrap ((IntKind.i64.wrap (x4 * 16)) + (IntKind.i64.wrap (c9.toNat : Int)))) - 48)) h sb rfl)))))
       ·refine bnd h fun q14 hq14 h => ?_
        refine k_cut1 [(0, sv a0), (1, iv a1), (2, iv a2), (8, iv x4), (9, iv x5), (10, iv (IntKind.i64.wrap (c9.toNat : Int))), (42, bv q14)] (X) ?_ ?_
        ·clear hq14
         refine kcn h (fun h => ?_) fun h => ?_
         ·exact k_region (kx 7 (knl (k_blk (k_then (k_meet (IntKind.i64.wrap ((IntKind.i64.wrap ((IntKind.i64.wrap ((IntKind.i64.wrap (x4 * 16)) + (IntKind.i64.wrap (c9.toNat : Int)))) - 97)) + 10)) h sb rfl)))))
         ·refine bnd h fun q16 hq16 h => ?_
          refine k_cut1 [(0, sv a0), (1, iv a1), (2, iv a2), (8, iv x4), (9, iv x5), (10, iv (IntKind.i64.wrap (c9.toNat : Int))), (55, bv q16)] (X) ?_ ?_
          ·clear hq16
           refine kcn h (fun h => ?_) fun h => ?_
           ·exact k_region (kx 7 (knl (k_blk (k_then (k_meet (IntKind.i64.wrap ((IntKind.i64.wrap ((IntKind.i64.wrap ((IntKind.i64.wrap (x4 * 16)) + (IntKind.i64.wrap (c9.toNat : Int)))) - 65)) + 10)) h sb rfl)))))
           ·refine ksr (kx 4 (knt (k_ret (k_blk_ret (k_then_ret (k_blk_ret (k_then_ret (k_blk_ret (k_then_ret ?_)))))))))
            obtain rfl := Option.some.inj h
            exact kdn rfl
          ·have h := hq16
           clear hq16
           refine k_region (kx 3 ?_)
           refine kcs 58 h (fun h => ?_) fun h => ?_
           ·exact kx 4 (knt (k_meet1 ⟨gr, gr, gr, gr, gr, gr, gb (Option.some.inj h), trivial⟩))
           ·exact kx 4 (knt (k_meet1 ⟨gr, gr, gr, gr, gr, gr, gb (Option.some.inj h), trivial⟩))
        ·have h := hq14
         clear hq14
         refine k_region (kx 3 ?_)
         refine kcs 45 h (fun h => ?_) fun h => ?_
         ·exact kx 4 (knt (k_meet1 ⟨gr, gr, gr, gr, gr, gr, gb (Option.some.inj h), trivial⟩))
         ·exact kx 4 (knt (k_meet1 ⟨gr, gr, gr, gr, gr, gr, gb (Option.some.inj h), trivial⟩))
      ·have h := hq12
       clear hq12
       refine k_region (kx 3 ?_)
       refine kcs 33 h (fun h => ?_) fun h => ?_
       ·exact kx 4 (knt (k_meet1 ⟨gr, gr, gr, gr, gr, gr, gb (Option.some.inj h), trivial⟩))
       ·exact kx 4 (knt (k_meet1 ⟨gr, gr, gr, gr, gr, gr, gb (Option.some.inj h), trivial⟩))
    ·exact k_exit (k_then_exit (k_then_exit (k_here (k_then (k_meet (x4, x5) h sb rfl)))))
   ·have h := hq7
    clear hq7
    refine k_region (kx 4 ?_)
    refine kcs 14 h (fun h => ?_) fun h => ?_
    ·exact kx 7 (knt (k_meet1 ⟨gr, gr, gr, gr, gr, gb (Option.some.inj h), trivial⟩))
    ·exact kx 7 (knt (k_meet1 ⟨gr, gr, gr, gr, gr, gb (Option.some.inj h), trivial⟩))
theorem ety85 : ElemTy Tryz.prog 85 5 1 1 Tryz.t5 (.int .u8 0) := ⟨by kernel_rfl, by kernel_rfl, by kernel_rfl, by kernel_rfl, by kernel_rfl, by kernel_rfl, by decide⟩
def r01_Encode.l0 : Nat → (J17 : Int → (List Int) → Option (ByteArray × Int)) → (x32 : Int) → (l33 : List Int) → (x38 : Int) → Option (ByteArray × Int)
 | 0, _, _, _, _ => none
 | m39 + 1, J17, x32, l33, x38 => cond (decide (x38 > 0)) ((lIdx l33 x38).bind fun x41 => (lSet l33 x38 (IntKind.u8.wrap (IntKind.i64.wrap (128 + (Int.tmod x32 64))))).bind fun l45 => r01_Encode.l0 m39 J17 (IntKind.i64.wrap (Int.tdiv x32 64)) l45 (IntKind.i64.wrap (x38 - 1))) (J17 x32 l33)
def r01_Encode.f (k : Nat) (a0 : Int) : Option (ByteArray × Int) := (r01_good.f k a0).bind fun r1 => cond (!r1) (some ((⟨#[]⟩ : ByteArray), 3)) ((r01_bytes.f k a0).bind fun r3 => cond (r3 == 1) (some ((strOfNums ([IntKind.u8.wrap a0])), 0)) ((mkd 1 0 r3).bind fun l6 => joinF (fun (x11 : Int) (l12 : List Int) => joinF (fun (x18 : Int) => joinF (fun (x20 : Int) => (lIdx l12 0).bind fun x22 => (lSet l12 0 (IntKind.u8.wrap (IntKind.i64.wrap (x20 + x11)))).bind fun l26 => some ((strOfNums l26), 0)) (fun J21 => cond (r3 == 4) (J21 240) (J21 x18))) (fun J19 => cond (r3 == 3) (J19 224) (J19 192))) (fun J17 => r01_Encode.l0 k J17 a0 l6 (IntKind.i64.wrap (r3 - 1)))))
set_option maxRecDepth 100000 in
theorem r01_Encode.ok {k : Nat} {a0 : Int} {r : ByteArray × Int} (h : r01_Encode.f k a0 = some r) : Ct Tryz.prog 94 #[iv a0] [] [] (fun e l1 => e = .returned (.tuple #[sv r.1, iv r.2]) ∧ l1 = []) := by
 refine ct_enter (args := [iv a0]) Tryz.func94 rfl (Nat.le_of_ble_eq_true rfl) ?_
 intro A X hh_
 unfold r01_Encode.f at h
 refine ksr (kx 2 (knt (k_seq (ksr (kx 1 (bnd h fun r1 hr1 h => (kcv (r01_good.ok hr1) trivial (kx 1 (knt ?_)))))))))
 refine kcn h (fun h => ?_) fun h => ?_
 ·refine ksr (kx 2 (knt (k_ret (k_then_ret ?_))))
  obtain rfl := Option.some.inj h
  exact kdn rfl
 ·refine k_skip (k_then (ksr (kx 1 (bnd h fun r3 hr3 h => (kcv (r01_bytes.ok hr3) trivial (kx 1 (knt (k_seq (ksr (kx 2 ?_))))))))))
  refine knt ?_
  refine kcn h (fun h => ?_) fun h => ?_
  ·refine ksr (kx 2 (kns #[.int .u8 (IntKind.u8.wrap a0)] 5 1 fun b5 => (kl_string (U := 5) (xs := [IntKind.u8.wrap a0]) rfl (by kernel_rfl) (by kernel_rfl) (by kernel_rfl) (by kernel_rfl) (by kernel_rfl) (by kernel_rfl) (OwnT.rd (OwnT.blk 5 (encI_ok .u8) b5 [IntKind.u8.wrap a0] #[.int .u8 (IntKind.u8.wrap a0)] 1 (by kernel_rfl) rfl (by decide))) (.head _) (K.drop (kx 2 (knt (k_ret (k_then_ret ?_))))))))
   obtain rfl := Option.some.inj h
   exact kdn rfl
  ·refine k_skip (k_then (ksr (kx 1 (bnd h fun l6 hl6 h => (kl_make (kl := .i64) (kc := .i64) (E := (encI .u8)) 0 (encI_ok .u8) rfl rfl ety85 (by kernel_rfl) (by kernel_rfl) (by kernel_rfl) (by kernel_rfl) hl6 fun h7 A8 k9 o10 => (kx 1 (knt ?_)))))))
   obtain ⟨J17, hJ17, h⟩ := joinSplit h
   refine k_cut (τ := Int × (List Int) × Frag × (Option Addr) × Nat) (fun t => [(0, iv t.1), (4, iv r3), (5, .slice t.2.2.2.1 t.2.1.length t.2.2.2.2)]) (fun t => t.2.2.1 :: X) (fun t => J17 t.1 t.2.1 = some r ∧ OwnT (encI .u8) 5 1 t.2.2.1 (.slice t.2.2.2.1 t.2.1.length t.2.2.2.2) t.2.1) ?_ ?_
   ·rintro ⟨x11, l12, h13, A14, k15⟩ ⟨h, o16⟩
    subst hJ17
    refine ksr (kx 1 (knt ?_))
    obtain ⟨J19, hJ19, h⟩ := joinSplit h
    refine k_cut (τ := Int) (fun t => [(0, iv x11), (4, iv r3), (5, .slice A14 l12.length k15), (7, iv t)]) (fun t => h13 :: X) (fun t => J19 t = some r) ?_ ?_
    ·rintro x18 h
     subst hJ19
     obtain ⟨J21, hJ21, h⟩ := joinSplit h
     refine k_cut (τ := Int) (fun t => [(0, iv x11), (5, .slice A14 l12.length k15), (7, iv t)]) (fun t => h13 :: X) (fun t => J21 t = some r) ?_ ?_
     ·rintro x20 h
      subst hJ21
      refine ksr (kx 5 (bnd h fun x22 hx22 h => (kelP (T := 5) (kd := .i64) (encI_ok .u8) rfl hx22 (OwnT.rd o16) fun p23 e24 y25 => ?_)))
      have e24 : Elem _ p23 [.int .u8 x22] := e24
      refine bnd h fun l26 hl26 h => (kl_estore (v := .int .u8 (IntKind.u8.wrap (IntKind.i64.wrap (x20 + x11)))) (off := 0) (x' := IntKind.u8.wrap (IntKind.i64.wrap (x20 + x11))) (encI_ok .u8) rfl (by kernel_rfl) (by kernel_rfl) (by kernel_rfl) (by kernel_rfl) (by kernel_rfl) y25 o16 hx22 (by kernel_rfl) (by kernel_rfl) hl26 fun h27 o28 => ?_)
      have g29 := lSet_len hl26
      refine K.weak (env' := [(5, .slice A14 l26.length k15), (44, .int .u8 (IntKind.u8.wrap (IntKind.i64.wrap (x20 + x11))))]) ?_ ⟨(by first | rfl | (rw [g29]; rfl)), gr, trivial⟩
      refine K.eq (l' := h27 :: X) rfl (by first | rfl | (rw [g29])) (kns' (kx 1 (kl_string (U := 5) (xs := l26) rfl (by kernel_rfl) (by kernel_rfl) (by kernel_rfl) (by kernel_rfl) (by kernel_rfl) (by kernel_rfl) (OwnT.rd o28) (.head _) (K.drop (kx 2 (knt (k_ret ?_)))))))
      obtain rfl := Option.some.inj h
      exact kdn rfl
     ·skip
      refine ksr (kx 2 (knt ?_))
      refine kcn h (fun h => ?_) fun h => ?_
      ·exact k_region (kx 1 (knt (k_meet 240 h sb rfl)))
      ·exact k_skip (k_then (k_meet x18 h sb rfl))
    ·skip
     refine ksr (kx 2 (knt ?_))
     refine kcn h (fun h => ?_) fun h => ?_
     ·exact k_region (kx 1 (knt (k_meet 224 h sb rfl)))
     ·exact k_skip (k_then (k_meet 192 h sb rfl))
   ·skip
    refine ksr (kx 3 (knt (k_block (k_loop (τ := Int × (List Int) × Int × Frag × (Option Addr) × Nat) (fun t => [(0, iv t.1), (4, iv r3), (5, .slice t.2.2.2.2.1 t.2.1.length t.2.2.2.2.2), (6, iv t.2.2.1)]) (fun t => t.2.2.2.1 :: X) (fun m t => r01_Encode.l0 m J17 t.1 t.2.1 t.2.2.1 = some r ∧ OwnT (encI .u8) 5 1 t.2.2.2.1 (.slice t.2.2.2.2.1 t.2.1.length t.2.2.2.2.2) t.2.1) k (a0, l6, IntKind.i64.wrap (r3 - 1), h7, A8, k9) ⟨h, o10⟩ sb rfl ?_))))
    clear h
    rintro m39 ⟨x32, l33, x38, h34, A35, k36⟩ ⟨h, o37⟩
    cases m39 with
    | zero => simp [r01_Encode.l0] at h
    | succ m39 =>
     simp only [r01_Encode.l0] at h
     refine k_seq (ksr (kx 2 (knt ?_)))
     refine kcn h (fun h => ?_) fun h => ?_
     ·refine k_skip (k_then (k_seq (k_block (ksr (kx 6 (bnd h fun x41 hx41 h => (kelP (T := 5) (kd := .i64) (encI_ok .u8) rfl hx41 (OwnT.rd o37) fun p42 e43 y44 => ?_)))))))
      have e43 : Elem _ p42 [.int .u8 x41] := e43
      refine bnd h fun l45 hl45 h => (kl_estore (v := .int .u8 (IntKind.u8.wrap (IntKind.i64.wrap (128 + (Int.tmod x32 64))))) (off := 0) (x' := IntKind.u8.wrap (IntKind.i64.wrap (128 + (Int.tmod x32 64)))) (encI_ok .u8) rfl (by kernel_rfl) (by kernel_rfl) (by kernel_rfl) (by kernel_rfl) (by kernel_rfl) y44 o37 hx41 (by kernel_rfl) (by kernel_rfl) hl45 fun h46 o47 => ?_)
      have g48 := lSet_len hl45
      refine K.weak (env' := [(0, iv x32), (4, iv r3), (5, .slice A35 l45.length k36), (6, iv x38), (32, .int .u8 (IntKind.u8.wrap (IntKind.i64.wrap (128 + (Int.tmod x32 64)))))]) ?_ ⟨gr, gr, (by first | rfl | (rw [g48]; rfl)), gr, gr, trivial⟩
      exact K.eq (l' := h46 :: X) rfl (by first | rfl | (rw [g48])) (knr (kx 3 (knl (k_blk (k_then (k_region (kx 3 (knt (k_again m39 (IntKind.i64.wrap (Int.tdiv x32 64), l45, IntKind.i64.wrap (x38 - 1), h46, A35, k36) (Nat.lt_succ_self _) ⟨h, o47⟩ sb rfl)))))))))
     ·exact k_exit (k_then_exit (k_then_exit (k_here (k_then (k_meet (x32, l33, h34, A35, k36) ⟨h, o37⟩ sb rfl)))))
end Go.Proofs.YtidiahkobapnjaaGreatDoor
namespace Go.Proofs.YtidiahkobapnjaaGreatDoor
open Go Go.RowKit
def r11_escape.l0 : Nat → (a0 : ByteArray) → (a1 : Int) → (J36 : Int → Int → Option (List Int × Int)) → (x41 : Int) → (x42 : Int) → Option (List Int × Int)
 | 0, _, _, _, _, _ => none
 | m43 + 1, a0, a1, J36, x41, x42 => (cond (decide (x42 < 3)) (cond (decide ((IntKind.i64.wrap ((IntKind.i64.wrap (a1 + 1)) + x42)) < (a0.size : Int))) ((sIdx a0 (IntKind.i64.wrap ((IntKind.i64.wrap (a1 + 1)) + x42))).bind fun c49 : UInt8 => cond (decide ((c49.toNat : Int) ≥ 48)) ((sIdx a0 (IntKind.i64.wrap ((IntKind.i64.wrap (a1 + 1)) + x42))).bind fun c51 : UInt8 => some (decide ((c51.toNat : Int) ≤ 57))) (some false)) (some false)) (some false) : Option Bool).bind fun q44 => cond q44 ((sIdx a0 (IntKind.i64.wrap ((IntKind.i64.wrap (a1 + 1)) + x42))).bind fun c46 : UInt8 => r11_escape.l0 m43 a0 a1 J36 (IntKind.i64.wrap ((IntKind.i64.wrap ((IntKind.i64.wrap (x41 * 10)) + (IntKind.i64.wrap (c46.toNat : Int)))) - 48)) (IntKind.i64.wrap (x42 + 1))) (J36 x41 x42)
def r11_escape.f (k : Nat) (a0 : ByteArray) (a1 : Int) : Option (List Int × Int) := (sIdx a0 (IntKind.i64.wrap (a1 + 1))).bind fun c1 : UInt8 => cond ((c1.toNat : Int) == 110) (some ([10], 2)) (cond ((c1.toNat : Int) == 116) (some ([9], 2)) (cond ((c1.toNat : Int) == 114) (some ([13], 2)) (joinF (fun (x8 : Bool) => cond x8 (some ([(c1.toNat : Int)], 2)) (cond ((c1.toNat : Int) == 120) ((r11_hexes.f k a0 (IntKind.i64.wrap (a1 + 2)) 2).bind fun r13 => cond (r13.2 == 2) (some ([IntKind.u8.wrap r13.1], 4)) (some ([], 0))) (cond ((c1.toNat : Int) == 117) ((cond (decide ((IntKind.i64.wrap (a1 + 2)) ≥ (a0.size : Int))) (some true) ((sIdx a0 (IntKind.i64.wrap (a1 + 2))).bind fun c33 : UInt8 => some ((c33.toNat : Int) != 123)) : Option Bool).bind fun q17 => cond q17 (some ([], 0)) ((r11_hexes.f k a0 (IntKind.i64.wrap (a1 + 3)) 8).bind fun r19 => (r01_Encode.f k r19.1).bind fun r20 => (cond (r19.2 == 0) (some true) (cond (r20.2 != 0) (some true) (cond (decide ((IntKind.i64.wrap ((IntKind.i64.wrap (a1 + 3)) + r19.2)) ≥ (a0.size : Int))) (some true) ((sIdx a0 (IntKind.i64.wrap ((IntKind.i64.wrap (a1 + 3)) + r19.2))).bind fun c31 : UInt8 => some ((c31.toNat : Int) != 125)))) : Option Bool).bind fun q21 => cond q21 (some ([], 0)) (cond (decide (r20.1.size ≤ 140737488355328)) (some ((bsI r20.1), IntKind.i64.wrap (r19.2 + 4))) none))) (joinF (fun (x34 : Int) (x35 : Int) => (cond (x35 == 0) (some true) (some (decide (x34 > 255))) : Option Bool).bind fun q37 => cond q37 (some ([], 0)) (some ([IntKind.u8.wrap x34], IntKind.i64.wrap (x35 + 1)))) (fun J36 => r11_escape.l0 k a0 a1 J36 0 0))))) (fun J9 => cond ((c1.toNat : Int) == 92) (J9 ((c1.toNat : Int) == 92)) (cond ((c1.toNat : Int) == 34) (J9 ((c1.toNat : Int) == 34)) (J9 ((c1.toNat : Int) == 39)))))))
set_option maxRecDepth 100000 in
theorem r11_escape.ok {k : Nat} {a0 : ByteArray} {a1 : Int} {r : List Int × Int} (h : r11_escape.f k a0 a1 = some r) : Ct Tryz.prog 68 #[sv a0, iv a1] [] [] (fun e l1 => ∃ (H0_ : Frag) (A0_ : Option Addr) (c0_ : Nat), RdT (encI .u8) 1 H0_ (.slice A0_ r.1.length c0_) r.1 ∧ e = .returned (.tuple #[.slice A0_ r.1.length c0_, iv r.2]) ∧ l1 = [H0_]) := by
 refine ct_enter (args := [sv a0, iv a1]) Tryz.func68 rfl (Nat.le_of_ble_eq_true rfl) ?_
 intro A X hh_
 unfold r11_escape.f at h
 refine ksr (kx 2 (kns' (kx 3 (bnd h fun c1 hc1 h => (kix (kd := .i64) rfl hc1 (kx 1 (knt (k_seq (ksr (kx 1 ?_))))))))))
 refine knt (k_block (ksr (kx 2 (knt ?_))))
 refine kcn h (fun h => ?_) fun h => ?_
 ·refine ksr (kns #[.int .u8 10] 5 1 fun b3 => (kx 2 (knt (k_ret (k_blk_ret (k_then_ret ?_))))))
  obtain rfl := Option.some.inj h
  exact kdv (.tuple #[.slice (some ⟨b3, 0, none⟩) 1 1, iv 2]) [bk b3 #[.int .u8 10] 5] (k_end ⟨bk b3 #[.int .u8 10] 5, (some ⟨b3, 0, none⟩), 1, (OwnT.rd (OwnT.blk 5 (encI_ok .u8) b3 [10] #[.int .u8 10] 1 (by kernel_rfl) rfl (by decide))), rfl, rfl⟩)
 ·refine ksr (kx 2 (knt ?_))
  refine kcn h (fun h => ?_) fun h => ?_
  ·refine ksr (kns #[.int .u8 9] 5 1 fun b5 => (kx 2 (knt (k_ret (k_blk_ret (k_then_ret ?_))))))
   obtain rfl := Option.some.inj h
   exact kdv (.tuple #[.slice (some ⟨b5, 0, none⟩) 1 1, iv 2]) [bk b5 #[.int .u8 9] 5] (k_end ⟨bk b5 #[.int .u8 9] 5, (some ⟨b5, 0, none⟩), 1, (OwnT.rd (OwnT.blk 5 (encI_ok .u8) b5 [9] #[.int .u8 9] 1 (by kernel_rfl) rfl (by decide))), rfl, rfl⟩)
  ·refine ksr (kx 2 (knt ?_))
   refine kcn h (fun h => ?_) fun h => ?_
   ·refine ksr (kns #[.int .u8 13] 5 1 fun b7 => (kx 2 (knt (k_ret (k_blk_ret (k_then_ret ?_))))))
    obtain rfl := Option.some.inj h
    exact kdv (.tuple #[.slice (some ⟨b7, 0, none⟩) 1 1, iv 2]) [bk b7 #[.int .u8 13] 5] (k_end ⟨bk b7 #[.int .u8 13] 5, (some ⟨b7, 0, none⟩), 1, (OwnT.rd (OwnT.blk 5 (encI_ok .u8) b7 [13] #[.int .u8 13] 1 (by kernel_rfl) rfl (by decide))), rfl, rfl⟩)
   ·obtain ⟨J9, hJ9, h⟩ := joinSplit h
    refine k_cut (τ := Bool) (fun t => [(0, sv a0), (1, iv a1), (6, .int .u8 (c1.toNat : Int)), (19, .int .u8 (c1.toNat : Int)), (29, bv t)]) (fun t => X) (fun t => J9 t = some r) ?_ ?_
    ·rintro x8 h
     subst hJ9
     refine kcn h (fun h => ?_) fun h => ?_
     ·refine ksr (kx 1 (kns #[.int .u8 (c1.toNat : Int)] 5 1 fun b11 => (kx 2 (knt (k_ret (k_blk_ret (k_then_ret ?_)))))))
      obtain rfl := Option.some.inj h
      exact kdv (.tuple #[.slice (some ⟨b11, 0, none⟩) 1 1, iv 2]) [bk b11 #[.int .u8 (c1.toNat : Int)] 5] (k_end ⟨bk b11 #[.int .u8 (c1.toNat : Int)] 5, (some ⟨b11, 0, none⟩), 1, (OwnT.rd (OwnT.blk 5 (encI_ok .u8) b11 [(c1.toNat : Int)] #[.int .u8 (c1.toNat : Int)] 1 (by kernel_rfl) rfl (by decide))), rfl, rfl⟩)
     ·refine ksr (kx 2 (knt ?_))
      refine kcn h (fun h => ?_) fun h => ?_
      ·refine ksr (kx 3 (bnd h fun r13 hr13 h => (kcv (r11_hexes.ok hr13) trivial (kx 5 (knt (k_seq (ksr (kx 2 (knt ?_)))))))))
       refine kcn h (fun h => ?_) fun h => ?_
       ·refine ksr (kx 2 (kns #[.int .u8 (IntKind.u8.wrap r13.1)] 5 1 fun b15 => (kx 2 (knt (k_ret (k_then_ret (k_blk_ret (k_then_ret ?_))))))))
        obtain rfl := Option.some.inj h
        exact kdv (.tuple #[.slice (some ⟨b15, 0, none⟩) 1 1, iv 4]) [bk b15 #[.int .u8 (IntKind.u8.wrap r13.1)] 5] (k_end ⟨bk b15 #[.int .u8 (IntKind.u8.wrap r13.1)] 5, (some ⟨b15, 0, none⟩), 1, (OwnT.rd (OwnT.blk 5 (encI_ok .u8) b15 [IntKind.u8.wrap r13.1] #[.int .u8 (IntKind.u8.wrap r13.1)] 1 (by kernel_rfl) rfl (by decide))), rfl, rfl⟩)
       ·refine k_skip (k_then (ksr (kx 2 (knt (k_ret (k_blk_ret (k_then_ret ?_)))))))
        obtain rfl := Option.some.inj h
        exact kdv (.tuple #[nS, iv 0]) [none_] (k_none (k_end ⟨none_, none, 0, (RdT.nil (encI .u8) 1 none_), rfl, rfl⟩))
      ·refine ksr (kx 2 (knt ?_))
       refine kcn h (fun h => ?_) fun h => ?_
       ·refine k_seq (bnd h fun q17 hq17 h => ?_)
        refine k_cut1 [(0, sv a0), (1, iv a1), (62, bv q17)] (X) ?_ ?_
        ·clear hq17
         refine kcn h (fun h => ?_) fun h => ?_
         ·refine ksr (kx 2 (knt (k_ret (k_then_ret (k_blk_ret (k_then_ret ?_))))))
          obtain rfl := Option.some.inj h
          exact kdv (.tuple #[nS, iv 0]) [none_] (k_none (k_end ⟨none_, none, 0, (RdT.nil (encI .u8) 1 none_), rfl, rfl⟩))
         ·refine k_skip (k_then (ksr (kx 3 (bnd h fun r19 hr19 h => (kcv (r11_hexes.ok hr19) trivial (kx 5 (kns' (kx 1 (bnd h fun r20 hr20 h => (kcv (r01_Encode.ok hr20) trivial ?_))))))))))
          refine kx 5 (knt (k_seq (bnd h fun q21 hq21 h => ?_)))
          refine k_cut1 [(10, iv r19.2), (11, sv r20.1), (98, bv q21)] (X) ?_ ?_
          ·clear hq21
           refine kcn h (fun h => ?_) fun h => ?_
           ·refine ksr (kx 2 (knt (k_ret (k_then_ret (k_blk_ret (k_then_ret ?_))))))
            obtain rfl := Option.some.inj h
            exact kdv (.tuple #[nS, iv 0]) [none_] (k_none (k_end ⟨none_, none, 0, (RdT.nil (encI .u8) 1 none_), rfl, rfl⟩))
           ·refine k_skip (k_then (ksr (kx 1 ?_)))
            obtain ⟨t27, h⟩ := condN h
            refine kl_bytes (s := r20.1) (U := 5) rfl (by kernel_rfl) (by kernel_rfl) (by kernel_rfl) (by kernel_rfl) (by kernel_rfl) (by kernel_rfl) (by have := of_decide_eq_true t27; unfold maxLen; omega) fun h23 A24 k25 o26 => (kx 4 (knt (k_ret (k_blk_ret (k_then_ret ?_)))))
            obtain rfl := Option.some.inj h
            exact kdv (.tuple #[.slice A24 (bsI r20.1).length k25, iv (IntKind.i64.wrap (r19.2 + 4))]) [h23] (k_end ⟨h23, A24, k25, o26, rfl, rfl⟩)
          ·have h := hq21
           clear hq21
           refine k_region (kx 3 ?_)
           refine kcs 77 h (fun h => ?_) fun h => ?_
           ·exact kx 21 (knt (k_meet1 ⟨gr, gr, gb (Option.some.inj h), trivial⟩))
           ·refine kx 4 ?_
            refine kcs 81 h (fun h => ?_) fun h => ?_
            ·exact kx 17 (knt (k_meet1 ⟨gr, gr, gb (Option.some.inj h), trivial⟩))
            ·refine kx 9 ?_
             refine kcs 90 h (fun h => ?_) fun h => ?_
             ·exact kx 8 (knt (k_meet1 ⟨gr, gr, gb (Option.some.inj h), trivial⟩))
             ·exact kx 5 (bnd h fun c31 hc31 h => (kix (kd := .i64) rfl hc31 (kx 2 (knt (k_meet1 ⟨gr, gr, gb (Option.some.inj h), trivial⟩)))))
        ·have h := hq17
         clear hq17
         refine k_region (kx 6 ?_)
         refine kcs 56 h (fun h => ?_) fun h => ?_
         ·exact kx 6 (knt (k_meet1 ⟨gr, gr, gb (Option.some.inj h), trivial⟩))
         ·exact kx 3 (bnd h fun c33 hc33 h => (kix (kd := .i64) rfl hc33 (kx 2 (knt (k_meet1 ⟨gr, gr, gb (Option.some.inj h), trivial⟩)))))
       ·refine k_skip (k_blk (k_then (ksr (kx 2 (knt ?_)))))
        obtain ⟨J36, hJ36, h⟩ := joinSplit h
        refine k_cut (τ := Int × Int) (fun t => [(13, iv t.1), (14, iv t.2)]) (fun t => X) (fun t => J36 t.1 t.2 = some r) ?_ ?_
        ·rintro ⟨x34, x35⟩ h
         subst hJ36
         refine k_seq (bnd h fun q37 hq37 h => ?_)
         refine k_cut1 [(13, iv x34), (14, iv x35), (150, bv q37)] (X) ?_ ?_
         ·clear hq37
          refine kcn h (fun h => ?_) fun h => ?_
          ·refine ksr (kx 2 (knt (k_ret (k_then_ret ?_))))
           obtain rfl := Option.some.inj h
           exact kdv (.tuple #[nS, iv 0]) [none_] (k_none (k_end ⟨none_, none, 0, (RdT.nil (encI .u8) 1 none_), rfl, rfl⟩))
          ·refine k_skip (k_then (ksr (kx 2 (kns #[.int .u8 (IntKind.u8.wrap x34)] 5 1 fun b39 => (kx 4 (knt (k_ret ?_)))))))
           obtain rfl := Option.some.inj h
           exact kdv (.tuple #[.slice (some ⟨b39, 0, none⟩) 1 1, iv (IntKind.i64.wrap (x35 + 1))]) [bk b39 #[.int .u8 (IntKind.u8.wrap x34)] 5] (k_end ⟨bk b39 #[.int .u8 (IntKind.u8.wrap x34)] 5, (some ⟨b39, 0, none⟩), 1, (OwnT.rd (OwnT.blk 5 (encI_ok .u8) b39 [IntKind.u8.wrap x34] #[.int .u8 (IntKind.u8.wrap x34)] 1 (by kernel_rfl) rfl (by decide))), rfl, rfl⟩)
         ·have h := hq37
          clear hq37
          refine k_region (kx 3 ?_)
          refine kcs 147 h (fun h => ?_) fun h => ?_
          ·exact kx 3 (knt (k_meet1 ⟨gr, gr, gb (Option.some.inj h), trivial⟩))
          ·exact kx 3 (knt (k_meet1 ⟨gr, gr, gb (Option.some.inj h), trivial⟩))
        ·skip
         refine k_block (k_loop (τ := Int × Int) (fun t => [(0, sv a0), (1, iv a1), (13, iv t.1), (14, iv t.2)]) (fun t => X) (fun m t => r11_escape.l0 m a0 a1 J36 t.1 t.2 = some r) k (0, 0) h sb rfl ?_)
         clear h
         rintro m43 ⟨x41, x42⟩ h
         cases m43 with
         | zero => simp [r11_escape.l0] at h
         | succ m43 =>
          simp only [r11_escape.l0] at h
          refine k_seq (bnd h fun q44 hq44 h => ?_)
          refine k_cut1 [(0, sv a0), (1, iv a1), (13, iv x41), (14, iv x42), (131, bv q44)] (X) ?_ ?_
          ·clear hq44
           refine kcn h (fun h => ?_) fun h => ?_
           ·refine k_skip (k_then (k_block (ksr (kx 7 (bnd h fun c46 hc46 h => (kix (kd := .i64) rfl hc46 (kx 4 (knr (kx 3 (knl ?_))))))))))
            exact k_blk (k_then (k_again m43 (IntKind.i64.wrap ((IntKind.i64.wrap ((IntKind.i64.wrap (x41 * 10)) + (IntKind.i64.wrap (c46.toNat : Int)))) - 48), IntKind.i64.wrap (x42 + 1)) (Nat.lt_succ_self _) h sb rfl))
           ·exact k_exit (k_then_exit (k_then_exit (k_here (k_then (k_meet (x41, x42) h sb rfl)))))
          ·have h := hq44
           clear hq44
           refine k_region (kx 3 ?_)
           refine kcs 105 h (fun h => ?_) fun h => ?_
           ·refine kx 9 ?_
            refine kcs 114 h (fun h => ?_) fun h => ?_
            ·refine kx 5 (bnd h fun c49 hc49 h => (kix (kd := .i64) rfl hc49 (kx 3 ?_)))
             refine kcs 123 h (fun h => ?_) fun h => ?_
             ·exact kx 5 (bnd h fun c51 hc51 h => (kix (kd := .i64) rfl hc51 (kx 2 (knt (k_meet1 ⟨gr, gr, gr, gr, gb (Option.some.inj h), trivial⟩)))))
             ·exact kx 8 (knt (k_meet1 ⟨gr, gr, gr, gr, gb (Option.some.inj h), trivial⟩))
            ·exact kx 17 (knt (k_meet1 ⟨gr, gr, gr, gr, gb (Option.some.inj h), trivial⟩))
           ·exact kx 26 (knt (k_meet1 ⟨gr, gr, gr, gr, gb (Option.some.inj h), trivial⟩))
    ·skip
     refine ksr (kx 2 (knt ?_))
     refine kcn h (fun h => ?_) fun h => ?_
     ·exact k_skip (k_then (k_meet ((c1.toNat : Int) == 92) h sb rfl))
     ·refine ksr (kx 2 (knt ?_))
      refine kcn h (fun h => ?_) fun h => ?_
      ·exact k_skip (k_then (k_meet ((c1.toNat : Int) == 34) h sb rfl))
      ·exact k_region (kx 2 (knt (k_meet ((c1.toNat : Int) == 39) h sb rfl)))
def r11_text.l0 : Nat → (a0 : ByteArray) → (a1 : Int) → (J8 : (List Int) → Int → Option (ByteArray × Int × Int × Int)) → (l14 : List Int) → (x19 : Int) → Option (ByteArray × Int × Int × Int)
 | 0, _, _, _, _, _ => none
 | m20 + 1, a0, a1, J8, l14, x19 => (cond (decide (x19 < (a0.size : Int))) ((sIdx a0 x19).bind fun c45 : UInt8 => cond ((c45.toNat : Int) != 10) ((sIdx a0 x19).bind fun c47 : UInt8 => (sIdx a0 a1).bind fun c48 : UInt8 => some ((c47.toNat : Int) != (c48.toNat : Int))) (some false)) (some false) : Option Bool).bind fun q21 => cond q21 ((sIdx a0 x19).bind fun c23 : UInt8 => cond ((c23.toNat : Int) != 92) ((sIdx a0 x19).bind fun c25 : UInt8 => (apd 1 l14 [(c25.toNat : Int)]).bind fun l27 => r11_text.l0 m20 a0 a1 J8 l27 (IntKind.i64.wrap (x19 + 1))) (cond (decide ((IntKind.i64.wrap (x19 + 1)) ≥ (a0.size : Int))) (some ((⟨#[]⟩ : ByteArray), 0, 4, a1)) ((r11_escape.f m20 a0 x19).bind fun r33 => cond (r33.2 == 0) (some ((⟨#[]⟩ : ByteArray), 0, 4, x19)) ((apd 1 l14 r33.1).bind fun l39 => r11_text.l0 m20 a0 a1 J8 l39 (IntKind.i64.wrap (x19 + r33.2)))))) (J8 l14 x19)
def r11_text.f (k : Nat) (a0 : ByteArray) (a1 : Int) : Option (ByteArray × Int × Int × Int) := joinF (fun (l2 : List Int) (x7 : Int) => (cond (decide (x7 ≥ (a0.size : Int))) (some true) ((sIdx a0 x7).bind fun c13 : UInt8 => some ((c13.toNat : Int) == 10)) : Option Bool).bind fun q9 => cond q9 (some ((⟨#[]⟩ : ByteArray), 0, 4, a1)) (cond (decide (((l2.length : Nat) : Int) > 10000)) (some ((⟨#[]⟩ : ByteArray), 0, 14, a1)) (some ((strOfNums l2), IntKind.i64.wrap ((IntKind.i64.wrap (x7 + 1)) - a1), 0, 0)))) (fun J8 => r11_text.l0 k a0 a1 J8 ([]) (IntKind.i64.wrap (a1 + 1)))
set_option maxRecDepth 100000 in
theorem r11_text.ok {k : Nat} {a0 : ByteArray} {a1 : Int} {r : ByteArray × Int × Int × Int} (h : r11_text.f k a0 a1 = some r) : Ct Tryz.prog 35 #[sv a0, iv a1] [] [] (fun e l1 => e = .returned (.tuple #[sv r.1, iv r.2.1, .agg #[iv r.2.2.1, iv r.2.2.2]]) ∧ l1 = []) := by
 refine ct_enter (args := [sv a0, iv a1]) Tryz.func35 rfl (Nat.le_of_ble_eq_true rfl) ?_
 intro A X hh_
 unfold r11_text.f at h
 refine ksr (kx 2 (knp #[iv 0, iv 0] 27 fun b1 => (kns' (kx 1 (kns' (kx 3 (knt ?_)))))))
 obtain ⟨J8, hJ8, h⟩ := joinSplit h
 refine k_cut (τ := (List Int) × Int × Frag × (Option Addr) × Nat) (fun t => [(0, sv a0), (1, iv a1), (6, pt b1), (7, .slice t.2.2.2.1 t.1.length t.2.2.2.2), (8, iv t.2.1)]) (fun t => bk b1 #[iv 0, iv 0] 27 :: t.2.2.1 :: X) (fun t => J8 t.1 t.2.1 = some r ∧ OwnT (encI .u8) 5 1 t.2.2.1 (.slice t.2.2.2.1 t.1.length t.2.2.2.2) t.1) ?_ ?_
 ·rintro ⟨l2, x7, h3, A4, k5⟩ ⟨h, o6⟩
  subst hJ8
  refine k_seq (bnd h fun q9 hq9 h => ?_)
  refine k_cut1 [(1, iv a1), (6, pt b1), (7, .slice A4 l2.length k5), (8, iv x7), (76, bv q9)] (bk b1 #[iv 0, iv 0] 27 :: h3 :: X) ?_ ?_
  ·clear hq9
   refine kcn h (fun h => ?_) fun h => ?_
   ·refine ksr (kx 4 (kst 0 2 #[iv 4, iv a1] (K.mv1 (K.drop (knt (k_ret (k_then_ret ?_)))))))
    obtain rfl := Option.some.inj h
    exact k_done (v := .tuple #[sv noS, iv 0, .agg #[iv 4, iv a1]]) [.val (iv 4), .val (iv a1)] [.ld ⟨b1, 0, none⟩ (iv 4), .ld ⟨b1, 1, none⟩ (iv a1)] [] (by kernel_rfl) (by kernel_rfl) ⟨⟨0, _, _, _, rfl, rfl, rfl⟩, ⟨0, _, _, _, rfl, rfl, rfl⟩, trivial⟩ (K.drop (k_end ⟨rfl, rfl⟩))
   ·refine k_skip (k_then (k_seq (ksr (kx 3 (knt ?_)))))
    refine kcn h (fun h => ?_) fun h => ?_
    ·refine ksr (kx 4 (kst 0 2 #[iv 14, iv a1] (K.mv1 (K.drop (knt (k_ret (k_then_ret ?_)))))))
     obtain rfl := Option.some.inj h
     exact k_done (v := .tuple #[sv noS, iv 0, .agg #[iv 14, iv a1]]) [.val (iv 14), .val (iv a1)] [.ld ⟨b1, 0, none⟩ (iv 14), .ld ⟨b1, 1, none⟩ (iv a1)] [] (by kernel_rfl) (by kernel_rfl) ⟨⟨0, _, _, _, rfl, rfl, rfl⟩, ⟨0, _, _, _, rfl, rfl, rfl⟩, trivial⟩ (K.drop (k_end ⟨rfl, rfl⟩))
    ·refine k_skip (k_then (ksr (kx 1 (kl_string (U := 5) (xs := l2) rfl (by kernel_rfl) (by kernel_rfl) (by kernel_rfl) (by kernel_rfl) (by kernel_rfl) (by kernel_rfl) (OwnT.rd o6) (.tail _ (.head _)) (K.mv1 (K.drop (kx 7 (kst 0 2 #[iv 0, iv 0] (knt (k_ret ?_))))))))))
     obtain rfl := Option.some.inj h
     exact k_done (v := .tuple #[sv (strOfNums l2), iv (IntKind.i64.wrap ((IntKind.i64.wrap (x7 + 1)) - a1)), .agg #[iv 0, iv 0]]) [.val (iv 0), .val (iv 0)] [.ld ⟨b1, 0, none⟩ (iv 0), .ld ⟨b1, 1, none⟩ (iv 0)] [] (by kernel_rfl) (by kernel_rfl) ⟨⟨0, _, _, _, rfl, rfl, rfl⟩, ⟨0, _, _, _, rfl, rfl, rfl⟩, trivial⟩ (K.drop (k_end ⟨rfl, rfl⟩))
  ·have h := hq9
   clear hq9
   refine k_region (kx 5 ?_)
   refine kcs 71 h (fun h => ?_) fun h => ?_
   ·exact kx 5 (knt (k_meet1 ⟨gr, gr, gr, gr, gb (Option.some.inj h), trivial⟩))
   ·exact kx 2 (bnd h fun c13 hc13 h => (kix (kd := .i64) rfl hc13 (kx 2 (knt (k_meet1 ⟨gr, gr, gr, gr, gb (Option.some.inj h), trivial⟩)))))
 ·skip
  refine k_block (k_none (K.mv1 (k_loop (τ := (List Int) × Int × Frag × (Option Addr) × Nat) (fun t => [(0, sv a0), (1, iv a1), (6, pt b1), (7, .slice t.2.2.2.1 t.1.length t.2.2.2.2), (8, iv t.2.1)]) (fun t => bk b1 #[iv 0, iv 0] 27 :: t.2.2.1 :: X) (fun m t => r11_text.l0 m a0 a1 J8 t.1 t.2.1 = some r ∧ OwnT (encI .u8) 5 1 t.2.2.1 (.slice t.2.2.2.1 t.1.length t.2.2.2.2) t.1) k ([], IntKind.i64.wrap (a1 + 1), none_, none, 0) ⟨h, (OwnT.nil (encI .u8) 5 1 none_)⟩ sb rfl ?_)))
  clear h
  rintro m20 ⟨l14, x19, h15, A16, k17⟩ ⟨h, o18⟩
  cases m20 with
  | zero => simp [r11_text.l0] at h
  | succ m20 =>
   simp only [r11_text.l0] at h
   refine k_seq (bnd h fun q21 hq21 h => ?_)
   refine k_cut1 [(0, sv a0), (1, iv a1), (6, pt b1), (7, .slice A16 l14.length k17), (8, iv x19), (31, bv q21)] (bk b1 #[iv 0, iv 0] 27 :: h15 :: X) ?_ ?_
   ·clear hq21
    refine kcn h (fun h => ?_) fun h => ?_
    ·refine k_skip (k_then (k_block (k_seq (ksr (kx 2 (bnd h fun c23 hc23 h => (kix (kd := .i64) rfl hc23 (kx 1 (knt ?_)))))))))
     refine kcn h (fun h => ?_) fun h => ?_
     ·refine ksr (kx 3 (bnd h fun c25 hc25 h => (kix (kd := .i64) rfl hc25 (kns #[.int .u8 (c25.toNat : Int)] 5 1 fun b26 => (K.mv2 (bnd h fun l27 hl27 h => (kap (ys := [(c25.toNat : Int)]) (encI_ok .u8) rfl ety85 hl27 o18 (src_blk (n := 1) (encI_ok .u8) [(c25.toNat : Int)] (by kernel_rfl) rfl (by decide) 1 rfl) fun h28 A29 k30 o31 => (K.mv1 (K.drop (kx 1 ?_))))))))))
      exact kns' (kx 3 (knt (k_exit (k_then_exit (k_here (k_then (K.mv1 (k_again m20 (l27, IntKind.i64.wrap (x19 + 1), h28, A29, k30) (Nat.lt_succ_self _) ⟨h, o31⟩ sb rfl))))))))
     ·refine k_skip (k_then (k_seq (ksr (kx 5 (knt ?_)))))
      refine kcn h (fun h => ?_) fun h => ?_
      ·refine ksr (kx 4 (kst 0 2 #[iv 4, iv a1] (K.mv1 (K.drop (knt (k_ret (k_then_ret (k_blk_ret (k_then_ret (k_blk_ret ?_))))))))))
       refine k_then_ret ?_
       obtain rfl := Option.some.inj h
       exact k_done (v := .tuple #[sv noS, iv 0, .agg #[iv 4, iv a1]]) [.val (iv 4), .val (iv a1)] [.ld ⟨b1, 0, none⟩ (iv 4), .ld ⟨b1, 1, none⟩ (iv a1)] [] (by kernel_rfl) (by kernel_rfl) ⟨⟨0, _, _, _, rfl, rfl, rfl⟩, ⟨0, _, _, _, rfl, rfl, rfl⟩, trivial⟩ (K.drop (k_end ⟨rfl, rfl⟩))
      ·refine k_skip (k_then (ksr (kx 2 (bnd h fun r33 hr33 h => (kcl (r11_escape.ok hr33) rfl trivial ?_)))))
       rintro _ _ ⟨h34, A35, k36, o37, rfl, rfl⟩
       refine nx_ret1 (kx 5 (knt (k_seq (ksr (kx 2 (knt ?_))))))
       refine kcn h (fun h => ?_) fun h => ?_
       ·refine ksr (kx 4 (K.mv1 (kst 0 2 #[iv 4, iv x19] (K.mv1 (K.drop (K.mv1 (K.drop (knt (k_ret (k_then_ret ?_))))))))))
        refine k_blk_ret (k_then_ret (k_blk_ret (k_then_ret ?_)))
        obtain rfl := Option.some.inj h
        exact k_done (v := .tuple #[sv noS, iv 0, .agg #[iv 4, iv x19]]) [.val (iv 4), .val (iv x19)] [.ld ⟨b1, 0, none⟩ (iv 4), .ld ⟨b1, 1, none⟩ (iv x19)] [] (by kernel_rfl) (by kernel_rfl) ⟨⟨0, _, _, _, rfl, rfl, rfl⟩, ⟨0, _, _, _, rfl, rfl, rfl⟩, trivial⟩ (K.drop (k_end ⟨rfl, rfl⟩))
       ·refine k_skip (k_then (ksr (kx 2 (K.mv2 (bnd h fun l39 hl39 h => (kap (ys := r33.1) (encI_ok .u8) rfl ety85 hl39 o18 (src_rd o37 (.tail _ (.head _))) fun h40 A41 k42 o43 => (K.mv1 (K.drop (kx 1 (knr ?_))))))))))
        exact kx 4 (knl (k_blk (k_then (K.mv1 (k_again m20 (l39, IntKind.i64.wrap (x19 + r33.2), h40, A41, k42) (Nat.lt_succ_self _) ⟨h, o43⟩ sb rfl)))))
    ·exact k_exit (k_then_exit (k_then_exit (k_here (k_then (k_meet (l14, x19, h15, A16, k17) ⟨h, o18⟩ sb rfl)))))
   ·have h := hq21
    clear hq21
    refine kpr [(0, 0), (1, 0), (2, 0), (3, 0), (4, 0), (5, 0), (6, 0), (7, 0), (8, 0), (9, 0), (10, 0), (11, 0), (12, 0), (13, 0), (14, 0)] [] (kpx 5 ?_)
    refine kcs 17 h (fun h => ?_) fun h => ?_
    ·refine kpx 2 (bnd h fun c45 hc45 h => (kp_index (kd := .i64) rfl (by kernel_rfl) (by kernel_rfl) (by kernel_rfl) (by kernel_rfl) (by kernel_rfl) hc45 (kpx 3 ?_)))
     refine kcs 23 h (fun h => ?_) fun h => ?_
     ·exact kpx 2 (bnd h fun c47 hc47 h => (kp_index (kd := .i64) rfl (by kernel_rfl) (by kernel_rfl) (by kernel_rfl) (by kernel_rfl) (by kernel_rfl) hc47 (kpx 1 (kpz (kx 1 (bnd h fun c48 hc48 h => (kix (kd := .i64) rfl hc48 (kx 2 (knt (k_meet1 ⟨gr, gr, gr, gr, gr, gb (Option.some.inj h), trivial⟩))))))))))
     ·exact kpx 4 (kpz (kx 4 (knt (k_meet1 ⟨gr, gr, gr, gr, gr, gb (Option.some.inj h), trivial⟩))))
    ·exact kpx 10 (kpz (kx 4 (knt (k_meet1 ⟨gr, gr, gr, gr, gr, gb (Option.some.inj h), trivial⟩))))
end Go.Proofs.YtidiahkobapnjaaGreatDoor
namespace Go.Proofs.YtidiahkobapnjaaGreatDoor
open Go Go.RowKit
def r02_worth.f (_k : Nat) (a0 : Int) (a1 : Bool) : Option (Int) := (cond (decide (a0 ≥ 48)) (some (decide (a0 ≤ 57))) (some false) : Option Bool).bind fun q1 => cond q1 (some (IntKind.i64.wrap ((IntKind.i64.wrap a0) - 48))) ((cond a1 (cond (decide (a0 ≥ 97)) (some (decide (a0 ≤ 102))) (some false)) (some false) : Option Bool).bind fun q3 => cond q3 (some (IntKind.i64.wrap ((IntKind.i64.wrap ((IntKind.i64.wrap a0) - 97)) + 10))) ((cond a1 (cond (decide (a0 ≥ 65)) (some (decide (a0 ≤ 70))) (some false)) (some false) : Option Bool).bind fun q5 => cond q5 (some (IntKind.i64.wrap ((IntKind.i64.wrap ((IntKind.i64.wrap a0) - 65)) + 10))) (some ((-1 : Int)))))
set_option maxRecDepth 100000 in
theorem r02_worth.ok {k : Nat} {a0 : Int} {a1 : Bool} {r : Int} (h : r02_worth.f k a0 a1 = some r) : Ct Tryz.prog 92 #[.int .u8 a0, bv a1] [] [] (fun e l1 => e = .returned (iv r) ∧ l1 = []) := by
 refine ct_enter (args := [.int .u8 a0, bv a1]) Tryz.func92 rfl (Nat.le_of_ble_eq_true rfl) ?_
 intro A X hh_
 unfold r02_worth.f at h
 refine ksr (kx 1 (knt (k_seq (bnd h fun q1 hq1 h => ?_))))
 refine k_cut1 [(0, .int .u8 a0), (1, bv a1), (10, bv q1)] (X) ?_ ?_
 ·clear hq1
  refine kcn h (fun h => ?_) fun h => ?_
  ·refine ksr (kx 4 (knt (k_ret (k_then_ret ?_))))
   obtain rfl := Option.some.inj h
   exact kdn rfl
  ·refine k_skip (k_then (k_seq (bnd h fun q3 hq3 h => ?_)))
   refine k_cut1 [(0, .int .u8 a0), (1, bv a1), (22, bv q3)] (X) ?_ ?_
   ·clear hq3
    refine kcn h (fun h => ?_) fun h => ?_
    ·refine ksr (kx 5 (knt (k_ret (k_then_ret ?_))))
     obtain rfl := Option.some.inj h
     exact kdn rfl
    ·refine k_skip (k_then (k_seq (bnd h fun q5 hq5 h => ?_)))
     refine k_cut1 [(0, .int .u8 a0), (35, bv q5)] (X) ?_ ?_
     ·clear hq5
      refine kcn h (fun h => ?_) fun h => ?_
      ·refine ksr (kx 5 (knt (k_ret (k_then_ret ?_))))
       obtain rfl := Option.some.inj h
       exact kdn rfl
      ·refine k_skip (k_then (ksr (kx 1 (knt (k_ret ?_)))))
       obtain rfl := Option.some.inj h
       exact kdn rfl
     ·have h := hq5
      clear hq5
      refine k_region (kx 2 ?_)
      refine kcs 28 h (fun h => ?_) fun h => ?_
      ·refine kx 4 ?_
       refine kcs 32 h (fun h => ?_) fun h => ?_
       ·exact kx 3 (knt (k_meet1 ⟨gr, gb (Option.some.inj h), trivial⟩))
       ·exact kx 3 (knt (k_meet1 ⟨gr, gb (Option.some.inj h), trivial⟩))
      ·exact kx 7 (knt (k_meet1 ⟨gr, gb (Option.some.inj h), trivial⟩))
   ·have h := hq3
    clear hq3
    refine k_region (kx 2 ?_)
    refine kcs 15 h (fun h => ?_) fun h => ?_
    ·refine kx 4 ?_
     refine kcs 19 h (fun h => ?_) fun h => ?_
     ·exact kx 3 (knt (k_meet1 ⟨gr, gr, gb (Option.some.inj h), trivial⟩))
     ·exact kx 3 (knt (k_meet1 ⟨gr, gr, gb (Option.some.inj h), trivial⟩))
    ·exact kx 7 (knt (k_meet1 ⟨gr, gr, gb (Option.some.inj h), trivial⟩))
 ·have h := hq1
  clear hq1
  refine k_region (kx 3 ?_)
  refine kcs 7 h (fun h => ?_) fun h => ?_
  ·exact kx 3 (knt (k_meet1 ⟨gr, gr, gb (Option.some.inj h), trivial⟩))
  ·exact kx 3 (knt (k_meet1 ⟨gr, gr, gb (Option.some.inj h), trivial⟩))
def r02_read.l2 : Nat → (q1 : Bool) → (x2 : ByteArray) → (J5 : (Unit → Option (Int × Int))) → (x29 : Int) → Option (Int × Int)
 | 0, _, _, _, _ => none
 | m30 + 1, q1, x2, J5, x29 => cond (decide (x29 < (x2.size : Int))) ((sIdx x2 x29).bind fun c32 : UInt8 => (r02_worth.f m30 (c32.toNat : Int) q1).bind fun r33 => cond (decide (r33 < 0)) (some (0, 4)) (r02_read.l2 m30 q1 x2 J5 (IntKind.i64.wrap (x29 + 1)))) (J5 ())
def r02_read.l1 : Nat → (x2 : ByteArray) → (J19 : Int → Option (Int × Int)) → (x22 : Int) → (x23 : Int) → Option (Int × Int)
 | 0, _, _, _, _ => none
 | m24 + 1, x2, J19, x22, x23 => cond (decide (x23 < (x2.size : Int))) ((sIdx x2 x23).bind fun c26 : UInt8 => (r02_worth.f m24 (c26.toNat : Int) false).bind fun r27 => cond (decide (x22 < (IntKind.i64.wrap (Int.tdiv (IntKind.i64.wrap ((-9223372036854775808 : Int) + r27)) 10)))) (some (0, 14)) (r02_read.l1 m24 x2 J19 (IntKind.i64.wrap ((IntKind.i64.wrap (x22 * 10)) - r27)) (IntKind.i64.wrap (x23 + 1)))) (J19 x22)
def r02_read.l0 : Nat → (x2 : ByteArray) → (J8 : Int → Option (Int × Int)) → (x12 : Int) → (x13 : Int) → Option (Int × Int)
 | 0, _, _, _, _ => none
 | m14 + 1, x2, J8, x12, x13 => cond (decide (x13 < (x2.size : Int))) ((sIdx x2 x13).bind fun c16 : UInt8 => (r02_worth.f m14 (c16.toNat : Int) true).bind fun r17 => r02_read.l0 m14 x2 J8 (IntKind.i64.wrap ((IntKind.i64.wrap (x12 * 16)) + r17)) (IntKind.i64.wrap (x13 + 1))) (J8 x12)
def r02_read.f (k : Nat) (a0 : ByteArray) (a1 : Bool) : Option (Int × Int) := (cond (decide ((a0.size : Int) ≥ 2)) ((sIdx a0 0).bind fun c38 : UInt8 => cond ((c38.toNat : Int) == 48) ((sIdx a0 1).bind fun c40 : UInt8 => cond ((c40.toNat : Int) == 120) (some true) ((sIdx a0 1).bind fun c42 : UInt8 => some ((c42.toNat : Int) == 88))) (some false)) (some false) : Option Bool).bind fun q1 => joinF (fun (x2 : ByteArray) => cond ((x2.size : Int) == 0) (some (0, 4)) (joinF (fun (_ : Unit) => cond q1 (joinF (fun (x7 : Int) => joinF (fun (x9 : Int) => some (x9, 0)) (fun J10 => cond a1 (J10 (IntKind.i64.wrap (0 - x7))) (J10 x7))) (fun J8 => r02_read.l0 k x2 J8 0 0)) (joinF (fun (x18 : Int) => cond a1 (some (x18, 0)) (cond (x18 == (-9223372036854775808 : Int)) (some (0, 14)) (some (IntKind.i64.wrap (0 - x18), 0)))) (fun J19 => r02_read.l1 k x2 J19 0 0))) (fun J5 => r02_read.l2 k q1 x2 J5 0))) (fun J3 => cond q1 ((sSub a0 2 (a0.size : Int)).bind fun s36 : ByteArray => J3 s36) (J3 a0))
set_option maxRecDepth 100000 in
theorem r02_read.ok {k : Nat} {a0 : ByteArray} {a1 : Bool} {r : Int × Int} (h : r02_read.f k a0 a1 = some r) : Ct Tryz.prog 67 #[sv a0, bv a1] [] [] (fun e l1 => e = .returned (.tuple #[iv r.1, iv r.2]) ∧ l1 = []) := by
 refine ct_enter (args := [sv a0, bv a1]) Tryz.func67 rfl (Nat.le_of_ble_eq_true rfl) ?_
 intro A X hh_
 unfold r02_read.f at h
 refine ksr (kx 2 (knt (bnd h fun q1 hq1 h => ?_)))
 refine k_cut1 [(0, sv a0), (1, bv a1), (6, bv q1)] (X) ?_ ?_
 ·clear hq1
  obtain ⟨J3, hJ3, h⟩ := joinSplit h
  refine k_cut (τ := ByteArray) (fun t => [(0, sv t), (1, bv a1), (6, bv q1)]) (fun t => X) (fun t => J3 t = some r) ?_ ?_
  ·rintro x2 h
   subst hJ3
   refine k_seq (ksr (kx 3 (knt ?_)))
   refine kcn h (fun h => ?_) fun h => ?_
   ·refine ksr (kx 2 (knt (k_ret (k_then_ret ?_))))
    obtain rfl := Option.some.inj h
    exact kdn rfl
   ·refine k_skip (k_then ?_)
    obtain ⟨J5, hJ5, h⟩ := joinSplit h
    refine k_cut (τ := Unit) (fun t => [(0, sv x2), (1, bv a1), (6, bv q1)]) (fun t => X) (fun t => J5 () = some r) ?_ ?_
    ·rintro ⟨⟩ h
     subst hJ5
     refine k_seq (ksr (kx 1 (knt ?_)))
     refine kcn h (fun h => ?_) fun h => ?_
     ·refine ksr (kx 1 (knt ?_))
      obtain ⟨J8, hJ8, h⟩ := joinSplit h
      refine k_cut (τ := Int) (fun t => [(1, bv a1), (8, iv t)]) (fun t => X) (fun t => J8 t = some r) ?_ ?_
      ·rintro x7 h
       subst hJ8
       obtain ⟨J10, hJ10, h⟩ := joinSplit h
       refine k_cut (τ := Int) (fun t => [(8, iv t)]) (fun t => X) (fun t => J10 t = some r) ?_ ?_
       ·rintro x9 h
        subst hJ10
        refine ksr (kx 3 (knt (k_ret (k_then_ret ?_))))
        obtain rfl := Option.some.inj h
        exact kdn rfl
       ·skip
        refine ksr (kx 1 (knt ?_))
        refine kcn h (fun h => ?_) fun h => ?_
        ·exact k_region (kx 3 (knt (k_meet (IntKind.i64.wrap (0 - x7)) h sb rfl)))
        ·exact k_skip (k_then (k_meet x7 h sb rfl))
      ·skip
       refine ksr (kx 1 (knt (k_block (k_loop (τ := Int × Int) (fun t => [(0, sv x2), (1, bv a1), (8, iv t.1), (9, iv t.2)]) (fun t => X) (fun m t => r02_read.l0 m x2 J8 t.1 t.2 = some r) k (0, 0) h sb rfl ?_))))
       clear h
       rintro m14 ⟨x12, x13⟩ h
       cases m14 with
       | zero => simp [r02_read.l0] at h
       | succ m14 =>
        simp only [r02_read.l0] at h
        refine k_seq (ksr (kx 4 (knt ?_)))
        refine kcn h (fun h => ?_) fun h => ?_
        ·refine k_skip (k_then (k_seq (k_block (k_region (kx 4 (bnd h fun c16 hc16 h => (kix (kd := .i64) rfl hc16 (bnd h fun r17 hr17 h => (kcv (r02_worth.ok hr17) trivial (kx 2 ?_))))))))))
         exact knl (k_blk (k_then (k_region (kx 3 (knt (k_again m14 (IntKind.i64.wrap ((IntKind.i64.wrap (x12 * 16)) + r17), IntKind.i64.wrap (x13 + 1)) (Nat.lt_succ_self _) h sb rfl))))))
        ·exact k_exit (k_then_exit (k_then_exit (k_here (k_then (k_meet x12 h sb rfl)))))
     ·refine k_skip (k_then (ksr (kx 1 (knt ?_))))
      obtain ⟨J19, hJ19, h⟩ := joinSplit h
      refine k_cut (τ := Int) (fun t => [(1, bv a1), (10, iv t)]) (fun t => X) (fun t => J19 t = some r) ?_ ?_
      ·rintro x18 h
       subst hJ19
       refine k_seq (ksr (kx 1 (knt ?_)))
       refine kcn h (fun h => ?_) fun h => ?_
       ·refine ksr (kx 3 (knt (k_ret (k_then_ret ?_))))
        obtain rfl := Option.some.inj h
        exact kdn rfl
       ·refine k_skip (k_then (k_seq (ksr (kx 2 (knt ?_)))))
        refine kcn h (fun h => ?_) fun h => ?_
        ·refine ksr (kx 2 (knt (k_ret (k_then_ret ?_))))
         obtain rfl := Option.some.inj h
         exact kdn rfl
        ·refine k_skip (k_then (ksr (kx 4 (knt (k_ret ?_)))))
         obtain rfl := Option.some.inj h
         exact kdn rfl
      ·skip
       refine ksr (kx 1 (knt (k_block (k_loop (τ := Int × Int) (fun t => [(0, sv x2), (1, bv a1), (10, iv t.1), (11, iv t.2)]) (fun t => X) (fun m t => r02_read.l1 m x2 J19 t.1 t.2 = some r) k (0, 0) h sb rfl ?_))))
       clear h
       rintro m24 ⟨x22, x23⟩ h
       cases m24 with
       | zero => simp [r02_read.l1] at h
       | succ m24 =>
        simp only [r02_read.l1] at h
        refine k_seq (ksr (kx 4 (knt ?_)))
        refine kcn h (fun h => ?_) fun h => ?_
        ·refine k_skip (k_then (k_seq (k_block (ksr (kx 2 (bnd h fun c26 hc26 h => (kix (kd := .i64) rfl hc26 (bnd h fun r27 hr27 h => (kcv (r02_worth.ok hr27) trivial (kx 1 ?_))))))))))
         refine knt (k_seq (ksr (kx 5 (knt ?_))))
         refine kcn h (fun h => ?_) fun h => ?_
         ·refine ksr (kx 2 (knt (k_ret (k_then_ret (k_blk_ret (k_then_ret (k_then_ret (k_blk_ret (k_then_ret ?_)))))))))
          obtain rfl := Option.some.inj h
          exact kdn rfl
         ·exact k_skip (k_then (k_region (kx 5 (knl (k_blk (k_then (k_region (kx 3 (knt (k_again m24 (IntKind.i64.wrap ((IntKind.i64.wrap (x22 * 10)) - r27), IntKind.i64.wrap (x23 + 1)) (Nat.lt_succ_self _) h sb rfl))))))))))
        ·exact k_exit (k_then_exit (k_then_exit (k_here (k_then (k_meet x22 h sb rfl)))))
    ·skip
     refine ksr (kx 1 (knt (k_block (k_loop (τ := Int) (fun t => [(0, sv x2), (1, bv a1), (6, bv q1), (7, iv t)]) (fun t => X) (fun m t => r02_read.l2 m q1 x2 J5 t = some r) k 0 h sb rfl ?_))))
     clear h
     rintro m30 x29 h
     cases m30 with
     | zero => simp [r02_read.l2] at h
     | succ m30 =>
      simp only [r02_read.l2] at h
      refine k_seq (ksr (kx 4 (knt ?_)))
      refine kcn h (fun h => ?_) fun h => ?_
      ·refine k_skip (k_then (k_seq (k_block (ksr (kx 2 (bnd h fun c32 hc32 h => (kix (kd := .i64) rfl hc32 (kx 1 (bnd h fun r33 hr33 h => (kcv (r02_worth.ok hr33) trivial ?_))))))))))
       refine kx 1 (knt ?_)
       refine kcn h (fun h => ?_) fun h => ?_
       ·refine ksr (kx 2 (knt (k_ret (k_blk_ret (k_then_ret (k_then_ret (k_blk_ret (k_then_ret ?_))))))))
        obtain rfl := Option.some.inj h
        exact kdn rfl
       ·exact k_skip (k_blk (k_then (k_region (kx 3 (knt (k_again m30 (IntKind.i64.wrap (x29 + 1)) (Nat.lt_succ_self _) h sb rfl))))))
      ·exact k_exit (k_then_exit (k_then_exit (k_here (k_then (k_meet () h sb rfl)))))
  ·skip
   refine ksr (kx 1 (knt ?_))
   refine kcn h (fun h => ?_) fun h => ?_
   ·exact k_region (kx 1 (bnd h fun s36 hs36 h => (kl_sstr 2 (a0.size : Int) rfl (by kernel_rfl) (by kernel_rfl) (by kernel_rfl) (.inr ⟨_, .i64, rfl, (by kernel_rfl)⟩) (.inl ⟨rfl, rfl⟩) (by kernel_rfl) hs36 (kx 1 (knt (k_meet s36 h sb rfl))))))
   ·exact k_skip (k_then (k_meet a0 h sb rfl))
 ·have h := hq1
  clear hq1
  refine k_region (kx 4 ?_)
  refine kcs 16 h (fun h => ?_) fun h => ?_
  ·refine kx 1 (bnd h fun c38 hc38 h => (kix (kd := .i64) rfl hc38 (kx 3 ?_)))
   refine kcs 21 h (fun h => ?_) fun h => ?_
   ·refine kx 1 (bnd h fun c40 hc40 h => (kix (kd := .i64) rfl hc40 (kx 2 ?_)))
    refine kcs 25 h (fun h => ?_) fun h => ?_
    ·exact kx 6 (knt (k_meet1 ⟨gr, gr, gb (Option.some.inj h), trivial⟩))
    ·exact kx 1 (bnd h fun c42 hc42 h => (kix (kd := .i64) rfl hc42 (kx 4 (knt (k_meet1 ⟨gr, gr, gb (Option.some.inj h), trivial⟩)))))
   ·exact kx 10 (knt (k_meet1 ⟨gr, gr, gb (Option.some.inj h), trivial⟩))
  ·exact kx 15 (knt (k_meet1 ⟨gr, gr, gb (Option.some.inj h), trivial⟩))
def r02_Parse.f (k : Nat) (a0 : ByteArray) : Option (Int × Int) := (r02_read.f k a0 false).bind fun r1 => some (r1.1, r1.2)
set_option maxRecDepth 100000 in
theorem r02_Parse.ok {k : Nat} {a0 : ByteArray} {r : Int × Int} (h : r02_Parse.f k a0 = some r) : Ct Tryz.prog 34 #[sv a0] [] [] (fun e l1 => e = .returned (.tuple #[iv r.1, iv r.2]) ∧ l1 = []) := by
 refine ct_enter (args := [sv a0]) Tryz.func34 rfl (Nat.le_of_ble_eq_true rfl) ?_
 intro A X hh_
 unfold r02_Parse.f at h
 refine ksr (kx 2 (kns' (kx 1 (bnd h fun r1 hr1 h => (kcv (r02_read.ok hr1) trivial (kx 4 (knt (k_ret ?_))))))))
 obtain rfl := Option.some.inj h
 exact kdn rfl
end Go.Proofs.YtidiahkobapnjaaGreatDoor
namespace Go.Proofs.YtidiahkobapnjaaGreatDoor
open Go Go.RowKit
def e59 (x : Int × ByteArray × Int × Int) : List Value := [.int .i64 x.1, .string x.2.1, .int .i64 x.2.2.1, .int .i64 x.2.2.2]
theorem e59_ok : EncOk e59 4 := ⟨fun _ => rfl, fun _ => rfl⟩
theorem ety52 : ElemTy Tryz.prog 52 59 4 40 Tryz.t59 (.agg #[iv 0, sv noS, iv 0, iv 0]) := ⟨by kernel_rfl, by kernel_rfl, by kernel_rfl, by kernel_rfl, by kernel_rfl, by kernel_rfl, by decide⟩
def r11_Scan.l1 : Nat → (a0 : ByteArray) → (J29 : Int → Option (List (Int × ByteArray × Int × Int) × Int × Int)) → (x30 : Int) → Option (List (Int × ByteArray × Int × Int) × Int × Int)
 | 0, _, _, _ => none
 | m31 + 1, a0, J29, x30 => (cond (decide (x30 < (a0.size : Int))) ((sIdx a0 x30).bind fun c35 : UInt8 => some ((c35.toNat : Int) != 10)) (some false) : Option Bool).bind fun q32 => cond q32 (r11_Scan.l1 m31 a0 J29 (IntKind.i64.wrap (x30 + 1))) (J29 x30)
def r11_Scan.l0 : Nat → (a0 : ByteArray) → (J8 : (List (Int × ByteArray × Int × Int)) → Option (List (Int × ByteArray × Int × Int) × Int × Int)) → (l15 : List (Int × ByteArray × Int × Int)) → (x20 : Int) → Option (List (Int × ByteArray × Int × Int) × Int × Int)
 | 0, _, _, _, _ => none
 | m21 + 1, a0, J8, l15, x20 => cond (decide (x20 < (a0.size : Int))) ((sIdx a0 x20).bind fun c23 : UInt8 => (cond ((c23.toNat : Int) == 32) (some true) (cond ((c23.toNat : Int) == 9) (some true) (cond ((c23.toNat : Int) == 10) (some true) (some ((c23.toNat : Int) == 13)))) : Option Bool).bind fun q24 => cond q24 (r11_Scan.l0 m21 a0 J8 l15 (IntKind.i64.wrap (x20 + 1))) ((cond ((c23.toNat : Int) == 45) (cond (decide ((IntKind.i64.wrap (x20 + 1)) < (a0.size : Int))) ((sIdx a0 (IntKind.i64.wrap (x20 + 1))).bind fun c74 : UInt8 => some ((c74.toNat : Int) == 45)) (some false)) (some false) : Option Bool).bind fun q26 => cond q26 (joinF (fun (x28 : Int) => r11_Scan.l0 m21 a0 J8 l15 x28) (fun J29 => r11_Scan.l1 m21 a0 J29 x20)) ((r01_At.f m21 a0 x20).bind fun r36 => joinF (fun (x39 : Int) (x40 : Int) (x41 : ByteArray) (x42 : Int) => (apd 40 l15 [(x40, x41, x42, x20)]).bind fun l45 => r11_Scan.l0 m21 a0 J8 l45 (IntKind.i64.wrap (x20 + x39))) (fun J43 => (r01_Letter.f m21 r36.2.2).bind fun r50 => cond r50 ((r11_names.f m21 a0 x20).bind fun r52 => cond (decide (r52 > 40)) (some ([], 14, x20)) ((sSub a0 x20 (IntKind.i64.wrap (x20 + r52))).bind fun s54 : ByteArray => (r11_IsWord.f m21 s54).bind fun r55 => cond r55 (J43 r52 2 s54 0) (J43 r52 1 s54 0))) ((r01_Digit.f m21 r36.2.2).bind fun r57 => cond r57 ((r11_names.f m21 a0 x20).bind fun r59 => (sSub a0 x20 (IntKind.i64.wrap (x20 + r59))).bind fun s60 : ByteArray => (r02_Parse.f m21 s60).bind fun r61 => cond (r61.2 != 0) (some ([], r61.2, x20)) ((sSub a0 x20 (IntKind.i64.wrap (x20 + r59))).bind fun s63 : ByteArray => J43 r59 3 s63 r61.1)) ((cond ((c23.toNat : Int) == 34) (some true) (some ((c23.toNat : Int) == 39)) : Option Bool).bind fun q64 => cond q64 ((r11_text.f m21 a0 x20).bind fun r66 => cond (r66.2.2.1 != 0) (some ([], r66.2.2.1, r66.2.2.2)) (J43 r66.2.1 4 r66.1 0)) ((r11_sign.f m21 a0 x20).bind fun r69 => cond ((r69.size : Int) == 0) (some ([], 4, x20)) (J43 (r69.size : Int) 5 r69 0)))))))) (J8 l15)
def r11_Scan.f (k : Nat) (a0 : ByteArray) : Option (List (Int × ByteArray × Int × Int) × Int × Int) := cond (decide ((a0.size : Int) > 20000)) (some ([], 14, (-1 : Int))) (joinF (fun (l3 : List (Int × ByteArray × Int × Int)) => (apd 40 l3 [(6, (⟨#[]⟩ : ByteArray), 0, (a0.size : Int))]).bind fun l10 => some (l10, 0, 0)) (fun J8 => r11_Scan.l0 k a0 J8 ([]) 0))
set_option maxRecDepth 100000 in
theorem r11_Scan.ok {k : Nat} {a0 : ByteArray} {r : List (Int × ByteArray × Int × Int) × Int × Int} (h : r11_Scan.f k a0 = some r) : Ct Tryz.prog 14 #[sv a0] [] [] (fun e l1 => ∃ (H0_ : Frag) (A0_ : Option Addr) (c0_ : Nat), OwnT e59 59 4 H0_ (.slice A0_ r.1.length c0_) r.1 ∧ e = .returned (.tuple #[.slice A0_ r.1.length c0_, .agg #[iv r.2.1, iv r.2.2]]) ∧ l1 = [H0_]) := by
 refine ct_enter (args := [sv a0]) Tryz.func14 rfl (Nat.le_of_ble_eq_true rfl) ?_
 intro A X hh_
 unfold r11_Scan.f at h
 refine ksr (kx 1 (knp #[iv 0, iv 0] 27 fun b1 => (knt (k_seq (ksr (kx 3 (knt ?_)))))))
 refine kcn h (fun h => ?_) fun h => ?_
 ·refine ksr (kx 2 (kst 0 2 #[iv 14, iv (-1)] (knt (k_ret (k_then_ret ?_)))))
  obtain rfl := Option.some.inj h
  exact k_done (v := .tuple #[nS, .agg #[iv 14, iv (-1)]]) [.val (iv 14), .val (iv (-1))] [.ld ⟨b1, 0, none⟩ (iv 14), .ld ⟨b1, 1, none⟩ (iv (-1))] [none_] (by kernel_rfl) (by kernel_rfl) ⟨⟨0, _, _, _, rfl, rfl, rfl⟩, ⟨0, _, _, _, rfl, rfl, rfl⟩, trivial⟩ (k_none (K.mv1 (K.drop (k_end ⟨none_, none, 0, (OwnT.nil e59 59 4 none_), rfl, rfl⟩))))
 ·refine k_skip (k_then (ksr (kx 1 (knt ?_))))
  obtain ⟨J8, hJ8, h⟩ := joinSplit h
  refine k_cut (τ := (List (Int × ByteArray × Int × Int)) × Frag × (Option Addr) × Nat) (fun t => [(0, sv a0), (3, pt b1), (4, .slice t.2.2.1 t.1.length t.2.2.2)]) (fun t => bk b1 #[iv 0, iv 0] 27 :: t.2.1 :: X) (fun t => J8 t.1 = some r ∧ OwnT e59 59 4 t.2.1 (.slice t.2.2.1 t.1.length t.2.2.2) t.1) ?_ ?_
  ·rintro ⟨l3, h4, A5, k6⟩ ⟨h, o7⟩
   subst hJ8
   refine ksr (kx 4 (kns #[iv 6, sv noS, iv 0, iv (a0.size : Int)] 59 1 fun b9 => (K.mv2 (bnd h fun l10 hl10 h => (kap (ys := [(6, (⟨#[]⟩ : ByteArray), 0, (a0.size : Int))]) e59_ok rfl ety52 hl10 o7 (src_blk (n := 1) e59_ok [(6, (⟨#[]⟩ : ByteArray), 0, (a0.size : Int))] (by kernel_rfl) rfl (by decide) 1 rfl) fun h11 A12 k13 o14 => (K.mv1 (K.drop (kx 2 (K.mv1 (kst 0 2 #[iv 0, iv 0] ?_))))))))))
   refine knt (k_ret ?_)
   obtain rfl := Option.some.inj h
   exact k_done (v := .tuple #[.slice A12 l10.length k13, .agg #[iv 0, iv 0]]) [.val (iv 0), .val (iv 0)] [.ld ⟨b1, 0, none⟩ (iv 0), .ld ⟨b1, 1, none⟩ (iv 0)] [h11] (by kernel_rfl) (by kernel_rfl) ⟨⟨0, _, _, _, rfl, rfl, rfl⟩, ⟨0, _, _, _, rfl, rfl, rfl⟩, trivial⟩ (K.drop (k_end ⟨h11, A12, k13, o14, rfl, rfl⟩))
  ·skip
   refine ksr (kx 1 (knt (k_block (k_none (K.mv1 (k_loop (τ := (List (Int × ByteArray × Int × Int)) × Int × Frag × (Option Addr) × Nat) (fun t => [(0, sv a0), (3, pt b1), (4, .slice t.2.2.2.1 t.1.length t.2.2.2.2), (5, iv t.2.1)]) (fun t => bk b1 #[iv 0, iv 0] 27 :: t.2.2.1 :: X) (fun m t => r11_Scan.l0 m a0 J8 t.1 t.2.1 = some r ∧ OwnT e59 59 4 t.2.2.1 (.slice t.2.2.2.1 t.1.length t.2.2.2.2) t.1) k ([], 0, none_, none, 0) ⟨h, (OwnT.nil e59 59 4 none_)⟩ sb rfl ?_))))))
   clear h
   rintro m21 ⟨l15, x20, h16, A17, k18⟩ ⟨h, o19⟩
   cases m21 with
   | zero => simp [r11_Scan.l0] at h
   | succ m21 =>
    simp only [r11_Scan.l0] at h
    refine k_seq (ksr (kx 4 (knt ?_)))
    refine kcn h (fun h => ?_) fun h => ?_
    ·refine k_skip (k_then (k_block (ksr (kx 2 (bnd h fun c23 hc23 h => (kix (kd := .i64) rfl hc23 (kx 1 (knt (k_seq (bnd h fun q24 hq24 h => ?_))))))))))
     refine k_cut1 [(0, sv a0), (3, pt b1), (4, .slice A17 l15.length k18), (5, iv x20), (6, .int .u8 (c23.toNat : Int)), (39, bv q24)] (bk b1 #[iv 0, iv 0] 27 :: h16 :: X) ?_ ?_
     ·clear hq24
      refine kcn h (fun h => ?_) fun h => ?_
      ·exact ksr (kx 3 (knt (k_exit (k_then_exit (k_here (k_then (k_again m21 (l15, IntKind.i64.wrap (x20 + 1), h16, A17, k18) (Nat.lt_succ_self _) ⟨h, o19⟩ sb rfl)))))))
      ·refine k_skip (k_then (k_seq (bnd h fun q26 hq26 h => ?_)))
       refine k_cut1 [(0, sv a0), (3, pt b1), (4, .slice A17 l15.length k18), (5, iv x20), (6, .int .u8 (c23.toNat : Int)), (57, bv q26)] (bk b1 #[iv 0, iv 0] 27 :: h16 :: X) ?_ ?_
       ·clear hq26
        refine kcn h (fun h => ?_) fun h => ?_
        ·obtain ⟨J29, hJ29, h⟩ := joinSplit h
         refine k_cut (τ := Int) (fun t => [(0, sv a0), (3, pt b1), (4, .slice A17 l15.length k18), (5, iv t)]) (fun t => bk b1 #[iv 0, iv 0] 27 :: h16 :: X) (fun t => J29 t = some r) ?_ ?_
         ·rintro x28 h
          subst hJ29
          exact k_exit (k_then_exit (k_here (k_then (k_again m21 (l15, x28, h16, A17, k18) (Nat.lt_succ_self _) ⟨h, o19⟩ sb rfl))))
         ·skip
          refine k_block (k_loop (τ := Int) (fun t => [(0, sv a0), (3, pt b1), (4, .slice A17 l15.length k18), (5, iv t)]) (fun t => bk b1 #[iv 0, iv 0] 27 :: h16 :: X) (fun m t => r11_Scan.l1 m a0 J29 t = some r) m21 x20 h sb rfl ?_)
          clear h
          rintro m31 x30 h
          cases m31 with
          | zero => simp [r11_Scan.l1] at h
          | succ m31 =>
           simp only [r11_Scan.l1] at h
           refine k_seq (bnd h fun q32 hq32 h => ?_)
           refine k_cut1 [(0, sv a0), (3, pt b1), (4, .slice A17 l15.length k18), (5, iv x30), (67, bv q32)] (bk b1 #[iv 0, iv 0] 27 :: h16 :: X) ?_ ?_
           ·clear hq32
            refine kcn h (fun h => ?_) fun h => ?_
            ·exact k_skip (k_then (k_block (k_region (kx 3 (knl (k_blk (k_then (k_again m31 (IntKind.i64.wrap (x30 + 1)) (Nat.lt_succ_self _) h sb rfl))))))))
            ·exact k_exit (k_then_exit (k_then_exit (k_here (k_then (k_meet x30 h sb rfl)))))
           ·have h := hq32
            clear hq32
            refine k_region (kx 5 ?_)
            refine kcs 62 h (fun h => ?_) fun h => ?_
            ·exact kx 2 (bnd h fun c35 hc35 h => (kix (kd := .i64) rfl hc35 (kx 2 (knt (k_meet1 ⟨gr, gr, gr, gr, gb (Option.some.inj h), trivial⟩)))))
            ·exact kx 5 (knt (k_meet1 ⟨gr, gr, gr, gr, gb (Option.some.inj h), trivial⟩))
        ·refine k_skip (k_then (ksr (kx 2 (bnd h fun r36 hr36 h => (kcv (r01_At.ok hr36) trivial (knp #[iv 0, iv 0, iv 0] 72 fun b37 => (kst 0 3 #[iv r36.1, iv r36.2.1, iv r36.2.2] (kns' (kx 2 (knp #[iv 0, sv noS, iv 0, iv 0] 59 fun b38 => ?_))))))))))
         refine kst 0 4 #[iv 0, sv noS, iv 0, iv x20] (kns' (kx 1 (knt ?_)))
         obtain ⟨J43, hJ43, h⟩ := joinSplit h
         refine k_cut (τ := Int × Int × ByteArray × Int) (fun t => [(0, sv a0), (3, pt b1), (4, .slice A17 l15.length k18), (5, iv x20), (8, pt b38), (9, iv t.1)]) (fun t => bk b38 #[iv t.2.1, sv t.2.2.1, iv t.2.2.2, iv x20] 59 :: bk b1 #[iv 0, iv 0] 27 :: h16 :: X) (fun t => J43 t.1 t.2.1 t.2.2.1 t.2.2.2 = some r) ?_ ?_
         ·rintro ⟨x39, x40, x41, x42⟩ h
          subst hJ43
          refine ksr (kx 1 (kla 0 0 4 rfl (K.drop (kns #[iv x40, sv x41, iv x42, iv x20] 59 1 fun b44 => (K.mv2 (bnd h fun l45 hl45 h => (kap (ys := [(x40, x41, x42, x20)]) e59_ok rfl ety52 hl45 o19 (src_blk (n := 1) e59_ok [(x40, x41, x42, x20)] (by kernel_rfl) rfl (by decide) 1 rfl) fun h46 A47 k48 o49 => (K.mv1 (K.drop (kx 1 ?_))))))))))
          exact knr (kx 4 (knl (k_blk (k_then (K.mv1 (k_again m21 (l45, IntKind.i64.wrap (x20 + x39), h46, A47, k48) (Nat.lt_succ_self _) ⟨h, o49⟩ sb rfl))))))
         ·skip
          refine k_block (ksr (kx 1 (kld 1 2 rfl (bnd h fun r50 hr50 h => (kcv (r01_Letter.ok hr50) trivial (kx 1 (knt ?_)))))))
          refine kcn h (fun h => ?_) fun h => ?_
          ·refine ksr (kx 2 (bnd h fun r52 hr52 h => (kcv (r11_names.ok hr52) trivial (K.mv1 (K.drop (kx 1 (knt (k_seq (ksr (kx 2 ?_))))))))))
           refine knt ?_
           refine kcn h (fun h => ?_) fun h => ?_
           ·refine ksr (kx 3 (K.mv1 (kst 0 2 #[iv 14, iv x20] (K.mv1 (K.drop (K.mv1 (K.drop (knt (k_ret (k_then_ret ?_))))))))))
            refine k_blk_ret (k_then_ret (k_blk_ret (k_then_ret (k_blk_ret (k_then_ret ?_)))))
            obtain rfl := Option.some.inj h
            exact k_done (v := .tuple #[nS, .agg #[iv 14, iv x20]]) [.val (iv 14), .val (iv x20)] [.ld ⟨b1, 0, none⟩ (iv 14), .ld ⟨b1, 1, none⟩ (iv x20)] [none_] (by kernel_rfl) (by kernel_rfl) ⟨⟨0, _, _, _, rfl, rfl, rfl⟩, ⟨0, _, _, _, rfl, rfl, rfl⟩, trivial⟩ (k_none (K.mv1 (K.drop (k_end ⟨none_, none, 0, (OwnT.nil e59 59 4 none_), rfl, rfl⟩))))
           ·refine k_skip (k_then (k_seq (kpr [(0, 0), (1, 0), (2, 0), (3, 0), (4, 0), (5, 0)] [] (kpx 5 (bnd h fun s54 hs54 h => (kp_sstr x20 (IntKind.i64.wrap (x20 + r52)) rfl (by kernel_rfl) (by kernel_rfl) (by kernel_rfl) (.inr ⟨_, .i64, rfl, (by kernel_rfl)⟩) (.inr ⟨_, .i64, rfl, (by kernel_rfl)⟩) (by kernel_rfl) hs54 (kpz (kx 1 (kst 0 1 #[iv 1, sv noS, iv 0, iv x20] (kx 1 ?_))))))))))
            refine kst 1 1 #[iv 1, sv s54, iv 0, iv x20] (kns' (kx 1 (kld 0 1 rfl (bnd h fun r55 hr55 h => (kcv (r11_IsWord.ok hr55) trivial (knt ?_))))))
            refine kcn h (fun h => ?_) fun h => ?_
            ·exact k_region (kx 1 (kst 0 1 #[iv 2, sv s54, iv 0, iv x20] (knl (k_blk (k_then (k_meet (r52, 2, s54, 0) h sb rfl))))))
            ·exact k_skip (k_blk (k_then (k_meet (r52, 1, s54, 0) h sb rfl)))
          ·refine ksr (kx 1 (kld 1 2 rfl (K.mv1 (K.drop (bnd h fun r57 hr57 h => (kcv (r01_Digit.ok hr57) trivial (kx 1 (knt ?_))))))))
           refine kcn h (fun h => ?_) fun h => ?_
           ·refine ksr (kx 2 (bnd h fun r59 hr59 h => (kcv (r11_names.ok hr59) trivial (kx 1 (kns' (kx 5 (bnd h fun s60 hs60 h => (kl_sstr x20 (IntKind.i64.wrap (x20 + r59)) rfl (by kernel_rfl) (by kernel_rfl) (by kernel_rfl) (.inr ⟨_, .i64, rfl, (by kernel_rfl)⟩) (.inr ⟨_, .i64, rfl, (by kernel_rfl)⟩) (by kernel_rfl) hs60 (bnd h fun r61 hr61 h => (kcv (r02_Parse.ok hr61) trivial ?_))))))))))
            refine kx 5 (knt (k_seq (ksr (kx 2 (knt ?_)))))
            refine kcn h (fun h => ?_) fun h => ?_
            ·refine ksr (kx 4 (K.mv1 (kst 0 2 #[iv r61.2, iv x20] (K.mv1 (K.drop (K.mv1 (K.drop (knt (k_ret (k_then_ret ?_))))))))))
             refine k_blk_ret (k_then_ret (k_blk_ret (k_then_ret (k_blk_ret (k_then_ret ?_)))))
             obtain rfl := Option.some.inj h
             exact k_done (v := .tuple #[nS, .agg #[iv r61.2, iv x20]]) [.val (iv r61.2), .val (iv x20)] [.ld ⟨b1, 0, none⟩ (iv r61.2), .ld ⟨b1, 1, none⟩ (iv x20)] [none_] (by kernel_rfl) (by kernel_rfl) ⟨⟨0, _, _, _, rfl, rfl, rfl⟩, ⟨0, _, _, _, rfl, rfl, rfl⟩, trivial⟩ (k_none (K.mv1 (K.drop (k_end ⟨none_, none, 0, (OwnT.nil e59 59 4 none_), rfl, rfl⟩))))
            ·refine k_skip (k_then (kpr [(0, 0), (1, 0), (2, 0), (3, 0), (4, 0), (5, 0), (6, 0)] [] (kpx 5 (bnd h fun s63 hs63 h => (kp_sstr x20 (IntKind.i64.wrap (x20 + r59)) rfl (by kernel_rfl) (by kernel_rfl) (by kernel_rfl) (.inr ⟨_, .i64, rfl, (by kernel_rfl)⟩) (.inr ⟨_, .i64, rfl, (by kernel_rfl)⟩) (by kernel_rfl) hs63 (kpx 1 (kpz (kx 1 (kst 0 1 #[iv 3, sv noS, iv 0, iv x20] (kx 1 ?_))))))))))
             exact kst 1 1 #[iv 3, sv s63, iv 0, iv x20] (kx 1 (kst 2 1 #[iv 3, sv s63, iv r61.1, iv x20] (knl (k_blk (k_then (k_meet (r59, 3, s63, r61.1) h sb rfl))))))
           ·refine bnd h fun q64 hq64 h => ?_
            refine k_cut1 [(0, sv a0), (3, pt b1), (4, .slice A17 l15.length k18), (5, iv x20), (8, pt b38), (142, bv q64)] (bk b38 #[iv 0, sv noS, iv 0, iv x20] 59 :: bk b1 #[iv 0, iv 0] 27 :: h16 :: X) ?_ ?_
            ·clear hq64
             refine kcn h (fun h => ?_) fun h => ?_
             ·refine ksr (kx 2 (bnd h fun r66 hr66 h => (kcv (r11_text.ok hr66) trivial (kx 4 (knp #[iv 0, iv 0] 27 fun b67 => (kx 2 (kst 0 2 #[iv r66.2.2.1, iv r66.2.2.2] (knt (k_seq (ksr ?_))))))))))
              refine kx 1 (kld 0 0 rfl (kx 1 (knt ?_)))
              refine kcn h (fun h => ?_) fun h => ?_
              ·refine k_seq (kpr [(0, 3), (1, 0)] [0] (kpa 0 0 2 rfl (kpx 1 (kpz (K.mv2 (kst 0 2 #[iv r66.2.2.1, iv r66.2.2.2] (K.mv1 (K.drop (K.mv1 (K.drop ?_))))))))))
               refine K.mv1 (K.drop (knt (k_ret (k_then_ret (k_blk_ret (k_then_ret (k_blk_ret (k_then_ret (k_blk_ret (k_then_ret ?_))))))))))
               obtain rfl := Option.some.inj h
               exact k_done (v := .tuple #[nS, .agg #[iv r66.2.2.1, iv r66.2.2.2]]) [.val (iv r66.2.2.1), .val (iv r66.2.2.2)] [.ld ⟨b1, 0, none⟩ (iv r66.2.2.1), .ld ⟨b1, 1, none⟩ (iv r66.2.2.2)] [none_] (by kernel_rfl) (by kernel_rfl) ⟨⟨0, _, _, _, rfl, rfl, rfl⟩, ⟨0, _, _, _, rfl, rfl, rfl⟩, trivial⟩ (k_none (K.mv1 (K.drop (k_end ⟨none_, none, 0, (OwnT.nil e59 59 4 none_), rfl, rfl⟩))))
              ·refine k_skip (k_then (k_region (kx 3 (K.mv1 (kst 0 1 #[iv 4, sv noS, iv 0, iv x20] (K.mv1 (K.drop (kx 1 (kst 1 1 #[iv 4, sv r66.1, iv 0, iv x20] (kx 1 ?_))))))))))
               exact knl (k_blk (k_then (k_meet (r66.2.1, 4, r66.1, 0) h sb rfl)))
             ·refine ksr (kx 2 (bnd h fun r69 hr69 h => (kcv (r11_sign.ok hr69) trivial (kx 1 (kst 0 1 #[iv 5, sv noS, iv 0, iv x20] (kx 1 (kst 1 1 #[iv 5, sv r69, iv 0, iv x20] (kns' (kx 1 (kld 0 1 rfl ?_))))))))))
              refine kx 2 (kns' (kx 2 (knt ?_)))
              refine kcn h (fun h => ?_) fun h => ?_
              ·refine ksr (kx 3 (K.mv1 (kst 0 2 #[iv 4, iv x20] (K.mv1 (K.drop (K.mv1 (K.drop (knt (k_ret (k_blk_ret ?_))))))))))
               refine k_then_ret (k_blk_ret (k_then_ret (k_blk_ret (k_then_ret ?_))))
               obtain rfl := Option.some.inj h
               exact k_done (v := .tuple #[nS, .agg #[iv 4, iv x20]]) [.val (iv 4), .val (iv x20)] [.ld ⟨b1, 0, none⟩ (iv 4), .ld ⟨b1, 1, none⟩ (iv x20)] [none_] (by kernel_rfl) (by kernel_rfl) ⟨⟨0, _, _, _, rfl, rfl, rfl⟩, ⟨0, _, _, _, rfl, rfl, rfl⟩, trivial⟩ (k_none (K.mv1 (K.drop (k_end ⟨none_, none, 0, (OwnT.nil e59 59 4 none_), rfl, rfl⟩))))
              ·exact k_skip (k_blk (k_then (k_meet ((r69.size : Int), 5, r69, 0) h sb rfl)))
            ·have h := hq64
             clear hq64
             refine k_region (kx 3 ?_)
             refine kcs 145 h (fun h => ?_) fun h => ?_
             ·exact kx 4 (knt (k_meet1 ⟨gr, gr, gr, gr, gr, gb (Option.some.inj h), trivial⟩))
             ·exact kx 4 (knt (k_meet1 ⟨gr, gr, gr, gr, gr, gb (Option.some.inj h), trivial⟩))
       ·have h := hq26
        clear hq26
        refine k_region (kx 3 ?_)
        refine kcs 44 h (fun h => ?_) fun h => ?_
        ·refine kx 7 ?_
         refine kcs 51 h (fun h => ?_) fun h => ?_
         ·exact kx 3 (bnd h fun c74 hc74 h => (kix (kd := .i64) rfl hc74 (kx 2 (knt (k_meet1 ⟨gr, gr, gr, gr, gr, gb (Option.some.inj h), trivial⟩)))))
         ·exact kx 6 (knt (k_meet1 ⟨gr, gr, gr, gr, gr, gb (Option.some.inj h), trivial⟩))
        ·exact kx 13 (knt (k_meet1 ⟨gr, gr, gr, gr, gr, gb (Option.some.inj h), trivial⟩))
     ·have h := hq24
      clear hq24
      refine k_region (kx 3 ?_)
      refine kcs 28 h (fun h => ?_) fun h => ?_
      ·exact kx 11 (knt (k_meet1 ⟨gr, gr, gr, gr, gr, gb (Option.some.inj h), trivial⟩))
      ·refine kx 4 ?_
       refine kcs 32 h (fun h => ?_) fun h => ?_
       ·exact kx 7 (knt (k_meet1 ⟨gr, gr, gr, gr, gr, gb (Option.some.inj h), trivial⟩))
       ·refine kx 4 ?_
        refine kcs 36 h (fun h => ?_) fun h => ?_
        ·exact kx 3 (knt (k_meet1 ⟨gr, gr, gr, gr, gr, gb (Option.some.inj h), trivial⟩))
        ·exact kx 3 (knt (k_meet1 ⟨gr, gr, gr, gr, gr, gb (Option.some.inj h), trivial⟩))
    ·exact k_exit (k_then_exit (k_then_exit (k_here (k_then (k_meet (l15, h16, A17, k18) ⟨h, o19⟩ sb rfl)))))
end Go.Proofs.YtidiahkobapnjaaGreatDoor
namespace Go.Proofs.YtidiahkobapnjaaGreatDoor
open Go Go.RowKit
def parse_parser_now.f (_k : Nat) (a0_0 : List (Int × ByteArray × Int × Int)) (a0_1 : Int) : Option (Int × ByteArray × Int × Int) := (lIdx a0_0 a0_1).bind fun x2 => some (x2.1, x2.2.1, x2.2.2.1, x2.2.2.2)
set_option maxRecDepth 100000 in
theorem parse_parser_now.ok {k : Nat} {a0_0 : List (Int × ByteArray × Int × Int)} {a0_1 : Int} {b0 : Nat} {H_a0_0 : Frag} {A_a0_0 : Option Addr} {c_a0_0 : Nat} {r : Int × ByteArray × Int × Int} (h : parse_parser_now.f k a0_0 a0_1 = some r) (R_a0_0 : RdT e49 4 H_a0_0 (.slice A_a0_0 a0_0.length c_a0_0) a0_0) : Ct Tryz.prog 12 #[pt b0] [bk b0 #[.slice A_a0_0 a0_0.length c_a0_0, iv a0_1] 46] [H_a0_0] (fun e l1 => e = .returned (.agg #[iv r.1, sv r.2.1, iv r.2.2.1, iv r.2.2.2]) ∧ l1 = [bk b0 #[.slice A_a0_0 a0_0.length c_a0_0, iv a0_1] 46]) := by
 refine ct_enter (args := [pt b0]) Tryz.func12 rfl (Nat.le_of_ble_eq_true rfl) ?_
 intro A X hh_
 obtain ⟨hm_H_a0_0, _⟩ := hh_
 unfold parse_parser_now.f at h
 refine K.eq (env' := [(0, pt b0)]) (l' := bk b0 #[.slice A_a0_0 a0_0.length c_a0_0, iv a0_1] 46 :: X) rfl rfl (ksr (knp #[iv 0, sv noS, iv 0, iv 0] 49 fun b1 => (knt (k_seq (kpr [(0, 0), (1, 0), (2, 0), (3, 3), (4, 0), (5, 0), (6, 0), (7, 3)] [1] (kpx 3 (kpd 0 0 rfl (kpx 3 (kpd 0 1 rfl (kpz ?_))))))))))
 refine bnd h fun x2 hx2 h => (kelP (T := 49) (kd := .i64) e49_ok rfl hx2 R_a0_0 fun p3 e4 y5 => ?_)
 have e4 : Elem _ p3 [iv x2.1, sv x2.2.1, iv x2.2.2.1, iv x2.2.2.2] := e4
 refine keN rfl e4 (t2 hm_H_a0_0) (kst 0 4 #[iv x2.1, sv x2.2.1, iv x2.2.2.1, iv x2.2.2.2] (knt (k_ret ?_)))
 obtain rfl := Option.some.inj h
 exact kda 0 4 rfl [bk b0 #[.slice A_a0_0 a0_0.length c_a0_0, iv a0_1] 46] (K.drop (k_end ⟨rfl, rfl⟩))
def parse_parser_is.f (k : Nat) (a0_0 : List (Int × ByteArray × Int × Int)) (a0_1 : Int) (a1 : ByteArray) : Option (Bool) := (parse_parser_now.f k a0_0 a0_1).bind fun r1 => (cond (r1.1 == 2) (some (r1.2.1.toList == a1.toList)) (cond (r1.1 == 5) (some (r1.2.1.toList == a1.toList)) (some false)) : Option Bool).bind fun q3 => some (q3)
set_option maxRecDepth 100000 in
theorem parse_parser_is.ok {k : Nat} {a0_0 : List (Int × ByteArray × Int × Int)} {a0_1 : Int} {a1 : ByteArray} {b0 : Nat} {H_a0_0 : Frag} {A_a0_0 : Option Addr} {c_a0_0 : Nat} {r : Bool} (h : parse_parser_is.f k a0_0 a0_1 a1 = some r) (R_a0_0 : RdT e49 4 H_a0_0 (.slice A_a0_0 a0_0.length c_a0_0) a0_0) : Ct Tryz.prog 25 #[pt b0, sv a1] [bk b0 #[.slice A_a0_0 a0_0.length c_a0_0, iv a0_1] 46] [H_a0_0] (fun e l1 => e = .returned (bv r) ∧ l1 = [bk b0 #[.slice A_a0_0 a0_0.length c_a0_0, iv a0_1] 46]) := by
 refine ct_enter (args := [pt b0, sv a1]) Tryz.func25 rfl (Nat.le_of_ble_eq_true rfl) ?_
 intro A X hh_
 obtain ⟨hm_H_a0_0, _⟩ := hh_
 unfold parse_parser_is.f at h
 refine K.eq (env' := [(0, pt b0), (1, sv a1)]) (l' := bk b0 #[.slice A_a0_0 a0_0.length c_a0_0, iv a0_1] 46 :: X) rfl rfl (ksr (kx 1 (kns' (kx 1 (bnd h fun r1 hr1 h => (kc1 (parse_parser_now.ok (b0 := b0) hr1 R_a0_0) rfl ⟨hm_H_a0_0, trivial⟩ (knp #[iv 0, sv noS, iv 0, iv 0] 49 fun b2 => (kst 0 4 #[iv r1.1, sv r1.2.1, iv r1.2.2.1, iv r1.2.2.2] (knt (bnd h fun q3 hq3 h => ?_))))))))))
 refine k_cut1 [(4, bv q3)] (bk b0 #[.slice A_a0_0 a0_0.length c_a0_0, iv a0_1] 46 :: X) ?_ ?_
 ·clear hq3
  refine k_ret ?_
  obtain rfl := Option.some.inj h
  exact kdn rfl
 ·have h := hq3
  clear hq3
  refine k_region (kx 1 (kld 0 0 rfl (kx 2 ?_)))
  refine kcs 11 h (fun h => ?_) fun h => ?_
  ·exact kx 6 (kld 0 1 rfl (K.drop (kx 4 (knt (k_meet1 ⟨gb (Option.some.inj h), trivial⟩)))))
  ·refine kx 1 (kld 0 0 rfl (kx 3 ?_))
   refine kcs 16 h (fun h => ?_) fun h => ?_
   ·exact kx 1 (kld 0 1 rfl (K.drop (kx 4 (knt (k_meet1 ⟨gb (Option.some.inj h), trivial⟩)))))
   ·exact kx 6 (knt (K.drop (k_meet1 ⟨gb (Option.some.inj h), trivial⟩)))
def parse_parser_got.f (k : Nat) (a0_0 : List (Int × ByteArray × Int × Int)) (a0_1 : Int) (a1 : ByteArray) : Option (Bool × Int) := (parse_parser_is.f k a0_0 a0_1 a1).bind fun r1 => cond r1 (some (true, IntKind.i64.wrap (a0_1 + 1))) (some (false, a0_1))
set_option maxRecDepth 100000 in
theorem parse_parser_got.ok {k : Nat} {a0_0 : List (Int × ByteArray × Int × Int)} {a0_1 : Int} {a1 : ByteArray} {b0 : Nat} {H_a0_0 : Frag} {A_a0_0 : Option Addr} {c_a0_0 : Nat} {r : Bool × Int} (h : parse_parser_got.f k a0_0 a0_1 a1 = some r) (R_a0_0 : RdT e49 4 H_a0_0 (.slice A_a0_0 a0_0.length c_a0_0) a0_0) : Ct Tryz.prog 23 #[pt b0, sv a1] [bk b0 #[.slice A_a0_0 a0_0.length c_a0_0, iv a0_1] 46] [H_a0_0] (fun e l1 => e = .returned (bv r.1) ∧ l1 = [bk b0 #[.slice A_a0_0 a0_0.length c_a0_0, iv r.2] 46]) := by
 refine ct_enter (args := [pt b0, sv a1]) Tryz.func23 rfl (Nat.le_of_ble_eq_true rfl) ?_
 intro A X hh_
 obtain ⟨hm_H_a0_0, _⟩ := hh_
 unfold parse_parser_got.f at h
 refine K.eq (env' := [(0, pt b0), (1, sv a1)]) (l' := bk b0 #[.slice A_a0_0 a0_0.length c_a0_0, iv a0_1] 46 :: X) rfl rfl (ksr (kx 1 (knt (k_seq (ksr (kx 2 (bnd h fun r1 hr1 h => (kc1 (parse_parser_is.ok (b0 := b0) hr1 R_a0_0) rfl ⟨hm_H_a0_0, trivial⟩ (knt ?_)))))))))
 refine kcn h (fun h => ?_) fun h => ?_
 ·refine ksr (kx 3 (kld 0 1 rfl (kx 3 (kst 1 1 #[.slice A_a0_0 a0_0.length c_a0_0, iv (IntKind.i64.wrap (a0_1 + 1))] (kns' (kx 1 (knt (k_ret (k_then_ret ?_)))))))))
  obtain rfl := Option.some.inj h
  exact kdn rfl
 ·refine k_skip (k_then (ksr (kx 1 (knt (k_ret ?_)))))
  obtain rfl := Option.some.inj h
  exact kdn rfl
def failV (i : Int) : Value := .iface 43 (.agg #[.int .i64 4, .int .i64 i])
def parse_parser_fail.f (_k : Nat) (a0_0 : List (Int × ByteArray × Int × Int)) (a0_1 : Int) (a1 : Int) : Option (PR (Unit)) := some (PR.bad a1)
set_option maxRecDepth 100000 in
theorem parse_parser_fail.ok {k : Nat} {a0_0 : List (Int × ByteArray × Int × Int)} {a0_1 : Int} {a1 : Int} {b0 : Nat} {H_a0_0 : Frag} {A_a0_0 : Option Addr} {c_a0_0 : Nat} {r : PR (Unit)} (h : parse_parser_fail.f k a0_0 a0_1 a1 = some r) (R_a0_0 : RdT e49 4 H_a0_0 (.slice A_a0_0 a0_0.length c_a0_0) a0_0) : Ct Tryz.prog 13 #[pt b0, iv a1] [bk b0 #[.slice A_a0_0 a0_0.length c_a0_0, iv a0_1] 46] [H_a0_0] (PR.Post failV (fun (r : Unit) e l1 => e = .returned (.tuple #[]) ∧ l1 = [bk b0 #[.slice A_a0_0 a0_0.length c_a0_0, iv a0_1] 46]) r) := by
 refine ct_enter (args := [pt b0, iv a1]) Tryz.func13 rfl (Nat.le_of_ble_eq_true rfl) ?_
 intro A X hh_
 obtain ⟨hm_H_a0_0, _⟩ := hh_
 unfold parse_parser_fail.f at h
 refine K.eq (env' := [(0, pt b0), (1, iv a1)]) (l' := bk b0 #[.slice A_a0_0 a0_0.length c_a0_0, iv a0_1] 46 :: X) rfl rfl (k_region (kx 3 ?_))
 obtain rfl := Option.some.inj h
 exact kl_panic (v := failV a1) (by kernel_rfl) (by kernel_rfl) (by kernel_rfl) (k_panicked [] (K.drop (k_end PR.badI)))
def parse_parser_want.f (k : Nat) (a0_0 : List (Int × ByteArray × Int × Int)) (a0_1 : Int) (a1 : ByteArray) : Option (PR (Int)) := (parse_parser_got.f k a0_0 a0_1 a1).bind fun r1 => cond (!r1.1) ((parse_parser_now.f k a0_0 r1.2).bind fun r3 => PR.bind (parse_parser_fail.f k a0_0 r1.2 r3.2.2.2) fun r4 => some (PR.ok (r1.2))) (some (PR.ok (r1.2)))
set_option maxRecDepth 100000 in
theorem parse_parser_want.ok {k : Nat} {a0_0 : List (Int × ByteArray × Int × Int)} {a0_1 : Int} {a1 : ByteArray} {b0 : Nat} {H_a0_0 : Frag} {A_a0_0 : Option Addr} {c_a0_0 : Nat} {r : PR (Int)} (h : parse_parser_want.f k a0_0 a0_1 a1 = some r) (R_a0_0 : RdT e49 4 H_a0_0 (.slice A_a0_0 a0_0.length c_a0_0) a0_0) : Ct Tryz.prog 59 #[pt b0, sv a1] [bk b0 #[.slice A_a0_0 a0_0.length c_a0_0, iv a0_1] 46] [H_a0_0] (PR.Post failV (fun (r : Int) e l1 => e = .returned (.tuple #[]) ∧ l1 = [bk b0 #[.slice A_a0_0 a0_0.length c_a0_0, iv r] 46]) r) := by
 refine ct_enter (args := [pt b0, sv a1]) Tryz.func59 rfl (Nat.le_of_ble_eq_true rfl) ?_
 intro A X hh_
 obtain ⟨hm_H_a0_0, _⟩ := hh_
 unfold parse_parser_want.f at h
 refine K.eq (env' := [(0, pt b0), (1, sv a1)]) (l' := bk b0 #[.slice A_a0_0 a0_0.length c_a0_0, iv a0_1] 46 :: X) rfl rfl (ksr (kx 2 (bnd h fun r1 hr1 h => (kc1 (parse_parser_got.ok (b0 := b0) hr1 R_a0_0) rfl ⟨hm_H_a0_0, trivial⟩ (kx 1 (knt ?_))))))
 refine kcn h (fun h => ?_) fun h => ?_
 ·refine k_region (kx 2 (bnd h fun r3 hr3 h => (kc1 (parse_parser_now.ok (b0 := b0) hr3 R_a0_0) rfl ⟨hm_H_a0_0, trivial⟩ (kx 1 (kcp h (fun _ hr4 => (parse_parser_fail.ok (b0 := b0) hr4 R_a0_0)) rfl ⟨hm_H_a0_0, trivial⟩ (fun _ e => kpn 0 e rfl) fun r4 h => ?_)))))
  rintro _ _ ⟨rfl, rfl⟩
  refine nx_ret1 (knl (k_fall ?_))
  obtain rfl := Option.some.inj h
  exact kdnp ⟨rfl, rfl⟩ rfl
 ·refine k_skip (k_fall ?_)
  obtain rfl := Option.some.inj h
  exact kdnp ⟨rfl, rfl⟩ rfl
def parse_parser_name.f (k : Nat) (a0_0 : List (Int × ByteArray × Int × Int)) (a0_1 : Int) : Option (PR (Int × ByteArray × Int × Int × List Tree × Int)) := (parse_parser_now.f k a0_0 a0_1).bind fun r2 => joinF (fun (_ : Unit) => some (PR.ok (6, r2.2.1, 0, r2.2.2.2, [], IntKind.i64.wrap (a0_1 + 1)))) (fun J4 => cond (r2.1 != 1) (PR.bind (parse_parser_fail.f k a0_0 a0_1 r2.2.2.2) fun r6 => J4 ()) (J4 ()))
set_option maxRecDepth 100000 in
theorem parse_parser_name.ok {k : Nat} {a0_0 : List (Int × ByteArray × Int × Int)} {a0_1 : Int} {b0 : Nat} {H_a0_0 : Frag} {A_a0_0 : Option Addr} {c_a0_0 : Nat} {r : PR (Int × ByteArray × Int × Int × List Tree × Int)} (h : parse_parser_name.f k a0_0 a0_1 = some r) (R_a0_0 : RdT e49 4 H_a0_0 (.slice A_a0_0 a0_0.length c_a0_0) a0_0) : Ct Tryz.prog 60 #[pt b0] [bk b0 #[.slice A_a0_0 a0_0.length c_a0_0, iv a0_1] 46] [H_a0_0] (PR.Post failV (fun (r : Int × ByteArray × Int × Int × List Tree × Int) e l1 => ∃ (H0_ : Frag) (A0_ : Option Addr) (c0_ : Nat), OwnR (rTree 24) 24 H0_ (.slice A0_ r.2.2.2.2.1.length c0_) r.2.2.2.2.1 ∧ e = .returned (.agg #[iv r.1, sv r.2.1, iv r.2.2.1, iv r.2.2.2.1, .slice A0_ r.2.2.2.2.1.length c0_]) ∧ l1 = [H0_, bk b0 #[.slice A_a0_0 a0_0.length c_a0_0, iv r.2.2.2.2.2] 46]) r) := by
 refine ct_enter (args := [pt b0]) Tryz.func60 rfl (Nat.le_of_ble_eq_true rfl) ?_
 intro A X hh_
 obtain ⟨hm_H_a0_0, _⟩ := hh_
 unfold parse_parser_name.f at h
 refine K.eq (env' := [(0, pt b0)]) (l' := bk b0 #[.slice A_a0_0 a0_0.length c_a0_0, iv a0_1] 46 :: X) rfl rfl (ksr (knp #[iv 0, sv noS, iv 0, iv 0, nS] 24 fun b1 => (kns' (kx 1 (K.mv1 (bnd h fun r2 hr2 h => (kc1 (parse_parser_now.ok (b0 := b0) hr2 R_a0_0) rfl ⟨(.tail _ hm_H_a0_0), trivial⟩ (knp #[iv 0, sv noS, iv 0, iv 0] 49 fun b3 => (kst 0 4 #[iv r2.1, sv r2.2.1, iv r2.2.2.1, iv r2.2.2.2] (knt ?_))))))))))
 obtain ⟨J4, hJ4, h⟩ := joinSplit h
 refine k_cut (τ := Unit) (fun t => [(0, pt b0), (2, pt b1), (3, pt b3)]) (fun t => bk b3 #[iv r2.1, sv r2.2.1, iv r2.2.2.1, iv r2.2.2.2] 49 :: bk b0 #[.slice A_a0_0 a0_0.length c_a0_0, iv a0_1] 46 :: bk b1 #[iv 0, sv noS, iv 0, iv 0, nS] 24 :: X) (fun t => J4 () = some r) ?_ ?_
 ·rintro ⟨⟩ h
  subst hJ4
  refine ksr (kx 3 (kld 1 1 rfl (kx 3 (K.mv1 (kst 1 1 #[.slice A_a0_0 a0_0.length c_a0_0, iv (IntKind.i64.wrap (a0_1 + 1))] (kns' (kx 1 (kld 1 1 rfl (kx 1 (kld 1 3 rfl ?_))))))))))
  refine K.mv1 (K.drop (kx 1 (K.mv1 (kst 0 5 #[iv 6, sv r2.2.1, iv 0, iv r2.2.2.2, nS] (knt (k_ret ?_))))))
  obtain rfl := Option.some.inj h
  exact kda 0 5 rfl [none_, bk b0 #[.slice A_a0_0 a0_0.length c_a0_0, iv (IntKind.i64.wrap (a0_1 + 1))] 46] (k_none (K.mv1 (K.drop (k_end (PR.okI ⟨none_, none, 0, (OwnR.nil (rTree 24) 24 none_), rfl, rfl⟩)))))
 ·skip
  refine ksr (kx 1 (kld 0 0 rfl (kx 1 (knt ?_))))
  refine kcn h (fun h => ?_) fun h => ?_
  ·refine k_region (kx 2 (kld 0 3 rfl (K.mv1 (kcp h (fun _ hr6 => (parse_parser_fail.ok (b0 := b0) hr6 R_a0_0)) rfl ⟨(t2 hm_H_a0_0), trivial⟩ (fun _ e => k_then_panic (kpn 2 e rfl)) fun r6 h => ?_))))
   rintro _ _ ⟨rfl, rfl⟩
   exact nx_ret1 (knt (K.mv2 (K.mv1 (K.mv2 (k_meet () h sb rfl)))))
  ·exact k_skip (k_then (k_meet () h sb rfl))
theorem ety22 : ElemTy Tryz.prog 22 24 5 64 Tryz.t24 (.agg #[iv 0, sv noS, iv 0, iv 0, nS]) := ⟨by kernel_rfl, by kernel_rfl, by kernel_rfl, by kernel_rfl, by kernel_rfl, by kernel_rfl, by decide⟩
def parse_parser_names.l0 : Nat → (a0_0 : List (Int × ByteArray × Int × Int)) → (J14 : (List Tree) → Int → Option (PR (List Tree × Int))) → (l15 : List Tree) → (x20 : Int) → Option (PR (List Tree × Int))
 | 0, _, _, _, _ => none
 | m21 + 1, a0_0, J14, l15, x20 => (parse_parser_got.f m21 a0_0 x20 (⟨#[44]⟩ : ByteArray)).bind fun r24 => cond r24.1 (PR.bind (parse_parser_name.f m21 a0_0 r24.2) fun r26 => (apd 64 l15 [(Tree.mk r26.1 r26.2.1 r26.2.2.1 r26.2.2.2.1 r26.2.2.2.2.1)]).bind fun l35 => parse_parser_names.l0 m21 a0_0 J14 l35 r26.2.2.2.2.2) (J14 l15 r24.2)
def parse_parser_names.f (k : Nat) (a0_0 : List (Int × ByteArray × Int × Int)) (a0_1 : Int) : Option (PR (List Tree × Int)) := PR.bind (parse_parser_name.f k a0_0 a0_1) fun r1 => joinF (fun (l8 : List Tree) (x13 : Int) => some (PR.ok (l8, x13))) (fun J14 => parse_parser_names.l0 k a0_0 J14 ([(Tree.mk r1.1 r1.2.1 r1.2.2.1 r1.2.2.2.1 r1.2.2.2.2.1)]) r1.2.2.2.2.2)
set_option maxRecDepth 100000 in
theorem parse_parser_names.ok {k : Nat} {a0_0 : List (Int × ByteArray × Int × Int)} {a0_1 : Int} {b0 : Nat} {H_a0_0 : Frag} {A_a0_0 : Option Addr} {c_a0_0 : Nat} {r : PR (List Tree × Int)} (h : parse_parser_names.f k a0_0 a0_1 = some r) (R_a0_0 : RdT e49 4 H_a0_0 (.slice A_a0_0 a0_0.length c_a0_0) a0_0) : Ct Tryz.prog 61 #[pt b0] [bk b0 #[.slice A_a0_0 a0_0.length c_a0_0, iv a0_1] 46] [H_a0_0] (PR.Post failV (fun (r : List Tree × Int) e l1 => ∃ (H0_ : Frag) (A0_ : Option Addr) (c0_ : Nat), OwnR (rTree 24) 24 H0_ (.slice A0_ r.1.length c0_) r.1 ∧ e = .returned (.slice A0_ r.1.length c0_) ∧ l1 = [H0_, bk b0 #[.slice A_a0_0 a0_0.length c_a0_0, iv r.2] 46]) r) := by
 refine ct_enter (args := [pt b0]) Tryz.func61 rfl (Nat.le_of_ble_eq_true rfl) ?_
 intro A X hh_
 obtain ⟨hm_H_a0_0, _⟩ := hh_
 unfold parse_parser_names.f at h
 refine K.eq (env' := [(0, pt b0)]) (l' := bk b0 #[.slice A_a0_0 a0_0.length c_a0_0, iv a0_1] 46 :: X) rfl rfl (ksr (kx 1 (kns' (kx 1 (kcp h (fun _ hr1 => (parse_parser_name.ok (b0 := b0) hr1 R_a0_0)) rfl ⟨hm_H_a0_0, trivial⟩ (fun _ e => k_then_panic (kpn 0 e rfl)) fun r1 h => ?_)))))
 rintro _ _ ⟨h2, A3, k4, o5, rfl, rfl⟩
 refine nx_ret2 (kns #[iv r1.1, sv r1.2.1, iv r1.2.2.1, iv r1.2.2.2.1, .slice A3 r1.2.2.2.2.1.length k4] 24 1 fun b7 => (kx 1 (knt ?_)))
 obtain ⟨J14, hJ14, h⟩ := joinSplit h
 refine k_cut (τ := (List Tree) × Int × Frag × (Option Addr) × Nat) (fun t => [(3, .slice t.2.2.2.1 t.1.length t.2.2.2.2)]) (fun t => bk b0 #[.slice A_a0_0 a0_0.length c_a0_0, iv t.2.1] 46 :: t.2.2.1 :: X) (fun t => J14 t.1 t.2.1 = some r ∧ OwnR (rTree 24) 24 t.2.2.1 (.slice t.2.2.2.1 t.1.length t.2.2.2.2) t.1) ?_ ?_
 ·rintro ⟨l8, x13, h9, A10, k11⟩ ⟨h, o12⟩
  subst hJ14
  refine ksr (kx 2 (knt (k_ret ?_)))
  obtain rfl := Option.some.inj h
  exact kdv (.slice A10 l8.length k11) [h9, bk b0 #[.slice A_a0_0 a0_0.length c_a0_0, iv x13] 46] (K.mv1 (k_end (PR.okI ⟨h9, A10, k11, o12, rfl, rfl⟩)))
 ·skip
  refine k_block (K.mv1 (K.mv1 (k_row (T := 24) (n := 1) (xs := [(Tree.mk r1.1 r1.2.1 r1.2.2.1 r1.2.2.2.1 r1.2.2.2.2.1)]) (RowI.one (treeO_mk (k := r1.1) (t := r1.2.1) (n := r1.2.2.1) (a := r1.2.2.2.1) 24 o5)) rfl rfl (Nat.le_of_ble_eq_true rfl) fun h22 o23 => (K.mv1 (k_loop (τ := (List Tree) × Int × Frag × (Option Addr) × Nat) (fun t => [(0, pt b0), (3, .slice t.2.2.2.1 t.1.length t.2.2.2.2)]) (fun t => bk b0 #[.slice A_a0_0 a0_0.length c_a0_0, iv t.2.1] 46 :: t.2.2.1 :: X) (fun m t => parse_parser_names.l0 m a0_0 J14 t.1 t.2.1 = some r ∧ OwnR (rTree 24) 24 t.2.2.1 (.slice t.2.2.2.1 t.1.length t.2.2.2.2) t.1) k ([(Tree.mk r1.1 r1.2.1 r1.2.2.1 r1.2.2.2.1 r1.2.2.2.2.1)], r1.2.2.2.2.2, h22, (some ⟨b7, 0, none⟩), 1) ⟨h, o23⟩ sb rfl ?_)))))
  clear h
  rintro m21 ⟨l15, x20, h16, A17, k18⟩ ⟨h, o19⟩
  cases m21 with
  | zero => simp [parse_parser_names.l0] at h
  | succ m21 =>
   simp only [parse_parser_names.l0] at h
   refine k_seq (ksr (kx 1 (bnd h fun r24 hr24 h => (kc1 (parse_parser_got.ok (b0 := b0) hr24 R_a0_0) rfl ⟨(.tail _ hm_H_a0_0), trivial⟩ (knt ?_)))))
   refine kcn h (fun h => ?_) fun h => ?_
   ·refine k_skip (k_then (k_block (k_region (kx 2 (kcp h (fun _ hr26 => (parse_parser_name.ok (b0 := b0) hr26 R_a0_0)) rfl ⟨(.tail _ hm_H_a0_0), trivial⟩ (fun _ e => k_blk_panic (k_then_panic (k_blk_panic (k_then_panic (kpn 1 e rfl))))) fun r26 h => ?_)))))
    rintro _ _ ⟨h27, A28, k29, o30, rfl, rfl⟩
    refine nx_ret2 (kns #[iv r26.1, sv r26.2.1, iv r26.2.2.1, iv r26.2.2.2.1, .slice A28 r26.2.2.2.2.1.length k29] 24 1 fun b32 => (K.mv1 (K.mv1 (k_row (T := 24) (n := 1) (xs := [(Tree.mk r26.1 r26.2.1 r26.2.2.1 r26.2.2.2.1 r26.2.2.2.2.1)]) (RowI.one (treeO_mk (k := r26.1) (t := r26.2.1) (n := r26.2.2.1) (a := r26.2.2.2.1) 24 o30)) rfl rfl (Nat.le_of_ble_eq_true rfl) fun h33 o34 => (K.mv2 (bnd h fun l35 hl35 h => (kapR rfl ety22 rfl hl35 o19 o34 fun h36 A37 k38 o39 => (kx 1 (knl (k_blk ?_))))))))))
    exact k_then (K.mv1 (k_again m21 (l35, r26.2.2.2.2.2, h36, A37, k38) (Nat.lt_succ_self _) ⟨h, o39⟩ sb rfl))
   ·exact k_exit (k_then_exit (k_then_exit (k_here (k_then (k_meet (l15, r24.2, h16, A17, k18) ⟨h, o19⟩ sb rfl)))))
def parse_parser_ends.f (k : Nat) (a0_0 : List (Int × ByteArray × Int × Int)) (a0_1 : Int) : Option (Bool) := ((parse_parser_now.f k a0_0 a0_1).bind fun r2 => cond (r2.1 == 6) (some true) ((parse_parser_is.f k a0_0 a0_1 (⟨#[101, 110, 100]⟩ : ByteArray)).bind fun r4 => cond r4 (some true) ((parse_parser_is.f k a0_0 a0_1 (⟨#[101, 108, 115, 101]⟩ : ByteArray)).bind fun r6 => cond r6 (some true) ((parse_parser_is.f k a0_0 a0_1 (⟨#[101, 108, 115, 101, 105, 102]⟩ : ByteArray)).bind fun r8 => some r8))) : Option Bool).bind fun q1 => some (q1)
set_option maxRecDepth 100000 in
theorem parse_parser_ends.ok {k : Nat} {a0_0 : List (Int × ByteArray × Int × Int)} {a0_1 : Int} {b0 : Nat} {H_a0_0 : Frag} {A_a0_0 : Option Addr} {c_a0_0 : Nat} {r : Bool} (h : parse_parser_ends.f k a0_0 a0_1 = some r) (R_a0_0 : RdT e49 4 H_a0_0 (.slice A_a0_0 a0_0.length c_a0_0) a0_0) : Ct Tryz.prog 24 #[pt b0] [bk b0 #[.slice A_a0_0 a0_0.length c_a0_0, iv a0_1] 46] [H_a0_0] (fun e l1 => e = .returned (bv r) ∧ l1 = [bk b0 #[.slice A_a0_0 a0_0.length c_a0_0, iv a0_1] 46]) := by
 refine ct_enter (args := [pt b0]) Tryz.func24 rfl (Nat.le_of_ble_eq_true rfl) ?_
 intro A X hh_
 obtain ⟨hm_H_a0_0, _⟩ := hh_
 unfold parse_parser_ends.f at h
 refine K.eq (env' := [(0, pt b0)]) (l' := bk b0 #[.slice A_a0_0 a0_0.length c_a0_0, iv a0_1] 46 :: X) rfl rfl (ksr (kx 1 (knt (bnd h fun q1 hq1 h => ?_))))
 refine k_cut1 [(2, bv q1)] (bk b0 #[.slice A_a0_0 a0_0.length c_a0_0, iv a0_1] 46 :: X) ?_ ?_
 ·clear hq1
  refine k_ret ?_
  obtain rfl := Option.some.inj h
  exact kdn rfl
 ·have h := hq1
  clear hq1
  refine k_region (kx 1 (bnd h fun r2 hr2 h => (kc1 (parse_parser_now.ok (b0 := b0) hr2 R_a0_0) rfl ⟨hm_H_a0_0, trivial⟩ (kx 3 ?_))))
  refine kcs 7 h (fun h => ?_) fun h => ?_
  ·exact kx 12 (knt (k_meet1 ⟨gb (Option.some.inj h), trivial⟩))
  ·refine kx 1 (bnd h fun r4 hr4 h => (kc1 (parse_parser_is.ok (b0 := b0) hr4 R_a0_0) rfl ⟨hm_H_a0_0, trivial⟩ (kx 2 ?_)))
   refine kcs 11 h (fun h => ?_) fun h => ?_
   ·exact kx 8 (knt (k_meet1 ⟨gb (Option.some.inj h), trivial⟩))
   ·refine kx 1 (bnd h fun r6 hr6 h => (kc1 (parse_parser_is.ok (b0 := b0) hr6 R_a0_0) rfl ⟨hm_H_a0_0, trivial⟩ (kx 2 ?_)))
    refine kcs 15 h (fun h => ?_) fun h => ?_
    ·exact kx 4 (knt (k_meet1 ⟨gb (Option.some.inj h), trivial⟩))
    ·exact kx 1 (bnd h fun r8 hr8 h => (kc1 (parse_parser_is.ok (b0 := b0) hr8 R_a0_0) rfl ⟨hm_H_a0_0, trivial⟩ (kx 2 (knt (k_meet1 ⟨gb (Option.some.inj h), trivial⟩)))))
def parse_binds.f (_k : Nat) (a0_0 : Int) (a0_1 : ByteArray) (a0_2 : Int) (a0_3 : Int) : Option (Int) := (cond (a0_0 != 5) (some (a0_0 != 2)) (some false) : Option Bool).bind fun q2 => cond q2 (some (0)) (cond (a0_1.toList == (⟨#[111, 114]⟩ : ByteArray).toList) (some (1)) (cond (a0_1.toList == (⟨#[97, 110, 100]⟩ : ByteArray).toList) (some (2)) (joinF (fun (x6 : Bool) => cond x6 (some (3)) (cond (a0_1.toList == (⟨#[46, 46]⟩ : ByteArray).toList) (some (4)) (joinF (fun (x10 : Bool) => cond x10 (some (5)) (joinF (fun (x13 : Bool) => cond x13 (some (6)) (some (0))) (fun J14 => cond (a0_1.toList == (⟨#[42]⟩ : ByteArray).toList) (J14 (a0_1.toList == (⟨#[42]⟩ : ByteArray).toList)) (cond (a0_1.toList == (⟨#[47, 47]⟩ : ByteArray).toList) (J14 (a0_1.toList == (⟨#[47, 47]⟩ : ByteArray).toList)) (J14 (a0_1.toList == (⟨#[37]⟩ : ByteArray).toList)))))) (fun J11 => cond (a0_1.toList == (⟨#[43]⟩ : ByteArray).toList) (J11 (a0_1.toList == (⟨#[43]⟩ : ByteArray).toList)) (J11 (a0_1.toList == (⟨#[45]⟩ : ByteArray).toList)))))) (fun J7 => cond (a0_1.toList == (⟨#[60]⟩ : ByteArray).toList) (J7 (a0_1.toList == (⟨#[60]⟩ : ByteArray).toList)) (cond (a0_1.toList == (⟨#[62]⟩ : ByteArray).toList) (J7 (a0_1.toList == (⟨#[62]⟩ : ByteArray).toList)) (cond (a0_1.toList == (⟨#[60, 61]⟩ : ByteArray).toList) (J7 (a0_1.toList == (⟨#[60, 61]⟩ : ByteArray).toList)) (cond (a0_1.toList == (⟨#[62, 61]⟩ : ByteArray).toList) (J7 (a0_1.toList == (⟨#[62, 61]⟩ : ByteArray).toList)) (cond (a0_1.toList == (⟨#[126, 61]⟩ : ByteArray).toList) (J7 (a0_1.toList == (⟨#[126, 61]⟩ : ByteArray).toList)) (J7 (a0_1.toList == (⟨#[61, 61]⟩ : ByteArray).toList))))))))))
set_option maxRecDepth 100000 in
theorem parse_binds.ok {k : Nat} {a0_0 : Int} {a0_1 : ByteArray} {a0_2 : Int} {a0_3 : Int} {r : Int} (h : parse_binds.f k a0_0 a0_1 a0_2 a0_3 = some r) : Ct Tryz.prog 89 #[.agg #[iv a0_0, sv a0_1, iv a0_2, iv a0_3]] [] [] (fun e l1 => e = .returned (iv r) ∧ l1 = []) := by
 refine ct_enter (args := [.agg #[iv a0_0, sv a0_1, iv a0_2, iv a0_3]]) Tryz.func89 rfl (Nat.le_of_ble_eq_true rfl) ?_
 intro A X hh_
 unfold parse_binds.f at h
 refine ksr (knp #[iv a0_0, sv a0_1, iv a0_2, iv a0_3] 49 fun b1 => (kx 1 (knt (k_seq (bnd h fun q2 hq2 h => ?_)))))
 refine k_cut1 [(1, pt b1), (10, bv q2)] (bk b1 #[iv a0_0, sv a0_1, iv a0_2, iv a0_3] 49 :: X) ?_ ?_
 ·clear hq2
  refine kcn h (fun h => ?_) fun h => ?_
  ·refine ksr (kx 1 (knt (k_ret (k_then_ret ?_))))
   obtain rfl := Option.some.inj h
   exact K.drop (kdn rfl)
  ·refine k_skip (k_then (k_seq (ksr (kx 1 (kld 0 1 rfl (K.drop (knt (k_block (ksr (kx 2 ?_))))))))))
   refine knt ?_
   refine kcn h (fun h => ?_) fun h => ?_
   ·refine ksr (kx 1 (knt (k_ret (k_blk_ret (k_then_ret ?_)))))
    obtain rfl := Option.some.inj h
    exact kdn rfl
   ·refine ksr (kx 2 (knt ?_))
    refine kcn h (fun h => ?_) fun h => ?_
    ·refine ksr (kx 1 (knt (k_ret (k_blk_ret (k_then_ret ?_)))))
     obtain rfl := Option.some.inj h
     exact kdn rfl
    ·obtain ⟨J7, hJ7, h⟩ := joinSplit h
     refine k_cut (τ := Bool) (fun t => [(12, sv a0_1), (17, bv t)]) (fun t => X) (fun t => J7 t = some r) ?_ ?_
     ·rintro x6 h
      subst hJ7
      refine kcn h (fun h => ?_) fun h => ?_
      ·refine ksr (kx 1 (knt (k_ret (k_blk_ret (k_then_ret ?_)))))
       obtain rfl := Option.some.inj h
       exact kdn rfl
      ·refine ksr (kx 2 (knt ?_))
       refine kcn h (fun h => ?_) fun h => ?_
       ·refine ksr (kx 1 (knt (k_ret (k_blk_ret (k_then_ret ?_)))))
        obtain rfl := Option.some.inj h
        exact kdn rfl
       ·obtain ⟨J11, hJ11, h⟩ := joinSplit h
        refine k_cut (τ := Bool) (fun t => [(12, sv a0_1), (26, bv t)]) (fun t => X) (fun t => J11 t = some r) ?_ ?_
        ·rintro x10 h
         subst hJ11
         refine kcn h (fun h => ?_) fun h => ?_
         ·refine ksr (kx 1 (knt (k_ret (k_blk_ret (k_then_ret ?_)))))
          obtain rfl := Option.some.inj h
          exact kdn rfl
         ·obtain ⟨J14, hJ14, h⟩ := joinSplit h
          refine k_cut (τ := Bool) (fun t => [(29, bv t)]) (fun t => X) (fun t => J14 t = some r) ?_ ?_
          ·rintro x13 h
           subst hJ14
           refine kcn h (fun h => ?_) fun h => ?_
           ·refine ksr (kx 1 (knt (k_ret (k_blk_ret (k_then_ret ?_)))))
            obtain rfl := Option.some.inj h
            exact kdn rfl
           ·refine k_skip (k_blk (k_then (ksr (kx 1 (knt (k_ret ?_))))))
            obtain rfl := Option.some.inj h
            exact kdn rfl
          ·skip
           refine ksr (kx 2 (knt ?_))
           refine kcn h (fun h => ?_) fun h => ?_
           ·exact k_skip (k_then (k_meet (a0_1.toList == (⟨#[42]⟩ : ByteArray).toList) h sb rfl))
           ·refine ksr (kx 2 (knt ?_))
            refine kcn h (fun h => ?_) fun h => ?_
            ·exact k_skip (k_then (k_meet (a0_1.toList == (⟨#[47, 47]⟩ : ByteArray).toList) h sb rfl))
            ·exact k_region (kx 2 (knt (k_meet (a0_1.toList == (⟨#[37]⟩ : ByteArray).toList) h sb rfl)))
        ·skip
         refine ksr (kx 2 (knt ?_))
         refine kcn h (fun h => ?_) fun h => ?_
         ·exact k_skip (k_then (k_meet (a0_1.toList == (⟨#[43]⟩ : ByteArray).toList) h sb rfl))
         ·exact k_region (kx 2 (knt (k_meet (a0_1.toList == (⟨#[45]⟩ : ByteArray).toList) h sb rfl)))
     ·skip
      refine ksr (kx 2 (knt ?_))
      refine kcn h (fun h => ?_) fun h => ?_
      ·exact k_skip (k_then (k_meet (a0_1.toList == (⟨#[60]⟩ : ByteArray).toList) h sb rfl))
      ·refine ksr (kx 2 (knt ?_))
       refine kcn h (fun h => ?_) fun h => ?_
       ·exact k_skip (k_then (k_meet (a0_1.toList == (⟨#[62]⟩ : ByteArray).toList) h sb rfl))
       ·refine ksr (kx 2 (knt ?_))
        refine kcn h (fun h => ?_) fun h => ?_
        ·exact k_skip (k_then (k_meet (a0_1.toList == (⟨#[60, 61]⟩ : ByteArray).toList) h sb rfl))
        ·refine ksr (kx 2 (knt ?_))
         refine kcn h (fun h => ?_) fun h => ?_
         ·exact k_skip (k_then (k_meet (a0_1.toList == (⟨#[62, 61]⟩ : ByteArray).toList) h sb rfl))
         ·refine ksr (kx 2 (knt ?_))
          refine kcn h (fun h => ?_) fun h => ?_
          ·exact k_skip (k_then (k_meet (a0_1.toList == (⟨#[126, 61]⟩ : ByteArray).toList) h sb rfl))
          ·exact k_region (kx 2 (knt (k_meet (a0_1.toList == (⟨#[61, 61]⟩ : ByteArray).toList) h sb rfl)))
 ·have h := hq2
  clear hq2
  refine k_region (kx 1 (kld 0 0 rfl (kx 2 ?_)))
  refine kcs 6 h (fun h => ?_) fun h => ?_
  ·exact kx 1 (kld 0 0 rfl (kx 2 (knt (k_meet1 ⟨gr, gb (Option.some.inj h), trivial⟩))))
  ·exact kx 4 (knt (k_meet1 ⟨gr, gb (Option.some.inj h), trivial⟩))
def parse_target.f (_k : Nat) (a0_0 : Int) (a0_1 : ByteArray) (a0_2 : Int) (a0_3 : Int) (a0_4 : List Tree) : Option (Bool) := (cond (a0_0 == 6) (some true) (some (a0_0 == 7)) : Option Bool).bind fun q2 => some (q2)
set_option maxRecDepth 100000 in
theorem parse_target.ok {k : Nat} {a0_0 : Int} {a0_1 : ByteArray} {a0_2 : Int} {a0_3 : Int} {a0_4 : List Tree} {H_a0_4 : Frag} {A_a0_4 : Option Addr} {c_a0_4 : Nat} {r : Bool} (h : parse_target.f k a0_0 a0_1 a0_2 a0_3 a0_4 = some r) (R_a0_4 : RdR (rTree 24) H_a0_4 (.slice A_a0_4 a0_4.length c_a0_4) a0_4) : Ct Tryz.prog 91 #[.agg #[iv a0_0, sv a0_1, iv a0_2, iv a0_3, .slice A_a0_4 a0_4.length c_a0_4]] [] [H_a0_4] (fun e l1 => e = .returned (bv r) ∧ l1 = []) := by
 refine ct_enter (args := [.agg #[iv a0_0, sv a0_1, iv a0_2, iv a0_3, .slice A_a0_4 a0_4.length c_a0_4]]) Tryz.func91 rfl (Nat.le_of_ble_eq_true rfl) ?_
 intro A X hh_
 obtain ⟨hm_H_a0_4, _⟩ := hh_
 unfold parse_target.f at h
 refine ksr (knp #[iv a0_0, sv a0_1, iv a0_2, iv a0_3, .slice A_a0_4 a0_4.length c_a0_4] 24 fun b1 => (kx 1 (knt (bnd h fun q2 hq2 h => ?_))))
 refine k_cut1 [(2, bv q2)] (X) ?_ ?_
 ·clear hq2
  refine k_ret ?_
  obtain rfl := Option.some.inj h
  exact kdn rfl
 ·have h := hq2
  clear hq2
  refine k_region (kx 1 (kld 0 0 rfl (kx 2 ?_)))
  refine kcs 6 h (fun h => ?_) fun h => ?_
  ·exact kx 5 (knt (K.drop (k_meet1 ⟨gb (Option.some.inj h), trivial⟩)))
  ·exact kx 1 (kld 0 0 rfl (K.drop (kx 3 (knt (k_meet1 ⟨gb (Option.some.inj h), trivial⟩)))))
end Go.Proofs.YtidiahkobapnjaaGreatDoor
namespace Go.Proofs.YtidiahkobapnjaaGreatDoor
open Go Go.RowKit
def r12_reader_bad.f (_k : Nat) (a0_0 : List (Int × ByteArray × Int × Int)) (a0_1 : Int) (a0_2 : Int) (a1 : Int) : Option (Int × Int) := joinF (fun (x1 : Int) => some (IntKind.i64.wrap (((a0_0.length : Nat) : Int) - 1), x1)) (fun J2 => cond (decide (a0_2 < 0)) (J2 a1) (J2 a0_2))
set_option maxRecDepth 100000 in
theorem r12_reader_bad.ok {k : Nat} {a0_0 : List (Int × ByteArray × Int × Int)} {a0_1 : Int} {a0_2 : Int} {a1 : Int} {b0 : Nat} {H_a0_0 : Frag} {A_a0_0 : Option Addr} {c_a0_0 : Nat} {r : Int × Int} (h : r12_reader_bad.f k a0_0 a0_1 a0_2 a1 = some r) (R_a0_0 : RdT e59 4 H_a0_0 (.slice A_a0_0 a0_0.length c_a0_0) a0_0) : Ct Tryz.prog 16 #[pt b0, iv a1] [bk b0 #[.slice A_a0_0 a0_0.length c_a0_0, iv a0_1, iv a0_2] 57] [H_a0_0] (fun e l1 => e = .returned (.tuple #[]) ∧ l1 = [bk b0 #[.slice A_a0_0 a0_0.length c_a0_0, iv r.1, iv r.2] 57]) := by
 refine ct_enter (args := [pt b0, iv a1]) Tryz.func16 rfl (Nat.le_of_ble_eq_true rfl) ?_
 intro A X hh_
 obtain ⟨hm_H_a0_0, _⟩ := hh_
 unfold r12_reader_bad.f at h
 refine K.eq (env' := [(0, pt b0), (1, iv a1)]) (l' := bk b0 #[.slice A_a0_0 a0_0.length c_a0_0, iv a0_1, iv a0_2] 57 :: X) rfl rfl ?_
 obtain ⟨J2, hJ2, h⟩ := joinSplit h
 refine k_cut (τ := Int) (fun t => [(0, pt b0)]) (fun t => bk b0 #[.slice A_a0_0 a0_0.length c_a0_0, iv a0_1, iv t] 57 :: X) (fun t => J2 t = some r) ?_ ?_
 ·rintro x1 h
  subst hJ2
  refine k_region (kx 4 (kld 0 0 rfl (kx 4 (kst 1 1 #[.slice A_a0_0 a0_0.length c_a0_0, iv (IntKind.i64.wrap (((a0_0.length : Nat) : Int) - 1)), iv x1] (knl (k_fall ?_))))))
  obtain rfl := Option.some.inj h
  exact kdn rfl
 ·skip
  refine ksr (kx 3 (kld 0 2 rfl (kx 1 (knt ?_))))
  refine kcn h (fun h => ?_) fun h => ?_
  ·exact k_region (kx 4 (kst 2 1 #[.slice A_a0_0 a0_0.length c_a0_0, iv a0_1, iv a1] (knt (k_meet a1 h sb rfl))))
  ·exact k_skip (k_then (k_meet a0_2 h sb rfl))
def r12_reader_at.f (_k : Nat) (a0_0 : List (Int × ByteArray × Int × Int)) (a0_1 : Int) (a0_2 : Int) : Option (Int) := (lIdx a0_0 a0_1).bind fun x1 => some (x1.2.2.2)
set_option maxRecDepth 100000 in
theorem r12_reader_at.ok {k : Nat} {a0_0 : List (Int × ByteArray × Int × Int)} {a0_1 : Int} {a0_2 : Int} {b0 : Nat} {H_a0_0 : Frag} {A_a0_0 : Option Addr} {c_a0_0 : Nat} {r : Int} (h : r12_reader_at.f k a0_0 a0_1 a0_2 = some r) (R_a0_0 : RdT e59 4 H_a0_0 (.slice A_a0_0 a0_0.length c_a0_0) a0_0) : Ct Tryz.prog 17 #[pt b0] [bk b0 #[.slice A_a0_0 a0_0.length c_a0_0, iv a0_1, iv a0_2] 57] [H_a0_0] (fun e l1 => e = .returned (iv r) ∧ l1 = [bk b0 #[.slice A_a0_0 a0_0.length c_a0_0, iv a0_1, iv a0_2] 57]) := by
 refine ct_enter (args := [pt b0]) Tryz.func17 rfl (Nat.le_of_ble_eq_true rfl) ?_
 intro A X hh_
 obtain ⟨hm_H_a0_0, _⟩ := hh_
 unfold r12_reader_at.f at h
 refine K.eq (env' := [(0, pt b0)]) (l' := bk b0 #[.slice A_a0_0 a0_0.length c_a0_0, iv a0_1, iv a0_2] 57 :: X) rfl rfl (ksr (kx 1 (knt (k_seq (kpr [(0, 0), (1, 0), (2, 0), (3, 3), (4, 0), (5, 0), (6, 0), (7, 3)] [0] (kpx 3 (kpd 0 0 rfl (kpx 3 (kpd 0 1 rfl (kpz ?_))))))))))
 refine bnd h fun x1 hx1 h => (kelP (T := 59) (kd := .i64) e59_ok rfl hx1 R_a0_0 fun p2 e3 y4 => ?_)
 have e3 : Elem _ p2 [iv x1.1, sv x1.2.1, iv x1.2.2.1, iv x1.2.2.2] := e3
 refine kefP (off := 3) rfl e3 y4 fun p5 e6 y7 => ?_
 have e6 : Elem _ p5 [iv x1.2.2.2] := e6
 refine kl_eload1 rfl (by kernel_rfl) (by kernel_rfl) (by kernel_rfl) (by kernel_rfl) e6 (.tail _ hm_H_a0_0) (kx 1 (knt (k_ret ?_)))
 obtain rfl := Option.some.inj h
 exact kdn rfl
def r12_reader_see.f (_k : Nat) (a0_0 : List (Int × ByteArray × Int × Int)) (a0_1 : Int) (a0_2 : Int) (a1 : ByteArray) : Option (Bool) := (lIdx a0_0 a0_1).bind fun x1 => (cond (decide (a0_2 < 0)) (cond (x1.1 == 2) (some (x1.2.1.toList == a1.toList)) (cond (x1.1 == 5) (some (x1.2.1.toList == a1.toList)) (some false))) (some false) : Option Bool).bind fun q6 => some (q6)
set_option maxRecDepth 100000 in
theorem r12_reader_see.ok {k : Nat} {a0_0 : List (Int × ByteArray × Int × Int)} {a0_1 : Int} {a0_2 : Int} {a1 : ByteArray} {b0 : Nat} {H_a0_0 : Frag} {A_a0_0 : Option Addr} {c_a0_0 : Nat} {r : Bool} (h : r12_reader_see.f k a0_0 a0_1 a0_2 a1 = some r) (R_a0_0 : RdT e59 4 H_a0_0 (.slice A_a0_0 a0_0.length c_a0_0) a0_0) : Ct Tryz.prog 39 #[pt b0, sv a1] [bk b0 #[.slice A_a0_0 a0_0.length c_a0_0, iv a0_1, iv a0_2] 57] [H_a0_0] (fun e l1 => e = .returned (bv r) ∧ l1 = [bk b0 #[.slice A_a0_0 a0_0.length c_a0_0, iv a0_1, iv a0_2] 57]) := by
 refine ct_enter (args := [pt b0, sv a1]) Tryz.func39 rfl (Nat.le_of_ble_eq_true rfl) ?_
 intro A X hh_
 obtain ⟨hm_H_a0_0, _⟩ := hh_
 unfold r12_reader_see.f at h
 refine K.eq (env' := [(0, pt b0), (1, sv a1)]) (l' := bk b0 #[.slice A_a0_0 a0_0.length c_a0_0, iv a0_1, iv a0_2] 57 :: X) rfl rfl (ksr (kx 1 (knt (k_seq (kprs [(0, 0), (1, 0), (2, 0), (3, 3), (4, 0), (5, 0), (6, 0), (7, 3), (8, 0), (9, 3), (10, 1)] [bk b0 #[.slice A_a0_0 a0_0.length c_a0_0, iv a0_1, iv a0_2] 57, H_a0_0] (fun w h_ => ⟨h_.sat.on _ (.head _), h_.sat.on _ (.tail _ hm_H_a0_0), trivial⟩) (kpx 3 (kpd 0 0 rfl (kpx 3 (kpd 0 1 rfl (bnd h fun x1 hx1 h => ?_))))))))))
 refine kpelP (T := 59) (kd := .i64) e59_ok rfl hx1 R_a0_0 fun p2 e3 y4 => ?_
 have e3 : Elem _ p2 [iv x1.1, sv x1.2.1, iv x1.2.2.1, iv x1.2.2.2] := e3
 refine kpeN rfl e3 (fun w h_ => h_.mem _ (.tail _ (.head _))) (kpt (onp #[iv 0, sv noS, iv 0, iv 0] 59 fun b5 => (k_and (fun w h_ => ⟨h_.sat.on _ (.tail _ (.head _)), h_.sat.on _ (t2 hm_H_a0_0), trivial⟩) (kpz (kst 0 4 #[iv x1.1, sv x1.2.1, iv x1.2.2.1, iv x1.2.2.2] (knt (bnd h fun q6 hq6 h => ?_)))))))
 refine k_cut1 [(4, bv q6)] (bk b0 #[.slice A_a0_0 a0_0.length c_a0_0, iv a0_1, iv a0_2] 57 :: X) ?_ ?_
 ·clear hq6
  refine k_ret ?_
  obtain rfl := Option.some.inj h
  exact kdn rfl
 ·have h := hq6
  clear hq6
  refine k_region (kx 3 (kld 1 2 rfl (kx 2 ?_)))
  refine kcs 21 h (fun h => ?_) fun h => ?_
  ·refine kx 1 (kld 0 0 rfl (kx 2 ?_))
   refine kcs 25 h (fun h => ?_) fun h => ?_
   ·exact kx 7 (kld 0 1 rfl (K.drop (kx 4 (knt (k_meet1 ⟨gb (Option.some.inj h), trivial⟩)))))
   ·refine kx 1 (kld 0 0 rfl (kx 4 ?_))
    refine kcs 31 h (fun h => ?_) fun h => ?_
    ·exact kx 1 (kld 0 1 rfl (K.drop (kx 4 (knt (k_meet1 ⟨gb (Option.some.inj h), trivial⟩)))))
    ·exact kx 6 (knt (K.drop (k_meet1 ⟨gb (Option.some.inj h), trivial⟩)))
  ·exact kx 16 (knt (K.drop (k_meet1 ⟨gb (Option.some.inj h), trivial⟩)))
def r12_reader_take.f (k : Nat) (a0_0 : List (Int × ByteArray × Int × Int)) (a0_1 : Int) (a0_2 : Int) (a1 : ByteArray) : Option (Bool × Int) := (r12_reader_see.f k a0_0 a0_1 a0_2 a1).bind fun r1 => cond r1 (some (true, IntKind.i64.wrap (a0_1 + 1))) (some (false, a0_1))
set_option maxRecDepth 100000 in
theorem r12_reader_take.ok {k : Nat} {a0_0 : List (Int × ByteArray × Int × Int)} {a0_1 : Int} {a0_2 : Int} {a1 : ByteArray} {b0 : Nat} {H_a0_0 : Frag} {A_a0_0 : Option Addr} {c_a0_0 : Nat} {r : Bool × Int} (h : r12_reader_take.f k a0_0 a0_1 a0_2 a1 = some r) (R_a0_0 : RdT e59 4 H_a0_0 (.slice A_a0_0 a0_0.length c_a0_0) a0_0) : Ct Tryz.prog 38 #[pt b0, sv a1] [bk b0 #[.slice A_a0_0 a0_0.length c_a0_0, iv a0_1, iv a0_2] 57] [H_a0_0] (fun e l1 => e = .returned (bv r.1) ∧ l1 = [bk b0 #[.slice A_a0_0 a0_0.length c_a0_0, iv r.2, iv a0_2] 57]) := by
 refine ct_enter (args := [pt b0, sv a1]) Tryz.func38 rfl (Nat.le_of_ble_eq_true rfl) ?_
 intro A X hh_
 obtain ⟨hm_H_a0_0, _⟩ := hh_
 unfold r12_reader_take.f at h
 refine K.eq (env' := [(0, pt b0), (1, sv a1)]) (l' := bk b0 #[.slice A_a0_0 a0_0.length c_a0_0, iv a0_1, iv a0_2] 57 :: X) rfl rfl (ksr (kx 1 (knt (k_seq (ksr (kx 2 (bnd h fun r1 hr1 h => (kc1 (r12_reader_see.ok (b0 := b0) hr1 R_a0_0) rfl ⟨hm_H_a0_0, trivial⟩ (knt ?_)))))))))
 refine kcn h (fun h => ?_) fun h => ?_
 ·refine ksr (kx 3 (kld 0 1 rfl (kx 3 (kst 1 1 #[.slice A_a0_0 a0_0.length c_a0_0, iv (IntKind.i64.wrap (a0_1 + 1)), iv a0_2] (kns' (kx 1 (knt (k_ret (k_then_ret ?_)))))))))
  obtain rfl := Option.some.inj h
  exact kdn rfl
 ·refine k_skip (k_then (ksr (kx 1 (knt (k_ret ?_)))))
  obtain rfl := Option.some.inj h
  exact kdn rfl
def r12_reader_need.f (k : Nat) (a0_0 : List (Int × ByteArray × Int × Int)) (a0_1 : Int) (a0_2 : Int) (a1 : ByteArray) : Option (Int × Int) := (r12_reader_take.f k a0_0 a0_1 a0_2 a1).bind fun r1 => cond (!r1.1) ((r12_reader_at.f k a0_0 r1.2 a0_2).bind fun r3 => (r12_reader_bad.f k a0_0 r1.2 a0_2 r3).bind fun r4 => some (r4.1, r4.2)) (some (r1.2, a0_2))
set_option maxRecDepth 100000 in
theorem r12_reader_need.ok {k : Nat} {a0_0 : List (Int × ByteArray × Int × Int)} {a0_1 : Int} {a0_2 : Int} {a1 : ByteArray} {b0 : Nat} {H_a0_0 : Frag} {A_a0_0 : Option Addr} {c_a0_0 : Nat} {r : Int × Int} (h : r12_reader_need.f k a0_0 a0_1 a0_2 a1 = some r) (R_a0_0 : RdT e59 4 H_a0_0 (.slice A_a0_0 a0_0.length c_a0_0) a0_0) : Ct Tryz.prog 42 #[pt b0, sv a1] [bk b0 #[.slice A_a0_0 a0_0.length c_a0_0, iv a0_1, iv a0_2] 57] [H_a0_0] (fun e l1 => e = .returned (.tuple #[]) ∧ l1 = [bk b0 #[.slice A_a0_0 a0_0.length c_a0_0, iv r.1, iv r.2] 57]) := by
 refine ct_enter (args := [pt b0, sv a1]) Tryz.func42 rfl (Nat.le_of_ble_eq_true rfl) ?_
 intro A X hh_
 obtain ⟨hm_H_a0_0, _⟩ := hh_
 unfold r12_reader_need.f at h
 refine K.eq (env' := [(0, pt b0), (1, sv a1)]) (l' := bk b0 #[.slice A_a0_0 a0_0.length c_a0_0, iv a0_1, iv a0_2] 57 :: X) rfl rfl (ksr (kx 2 (bnd h fun r1 hr1 h => (kc1 (r12_reader_take.ok (b0 := b0) hr1 R_a0_0) rfl ⟨hm_H_a0_0, trivial⟩ (kx 1 (knt ?_))))))
 refine kcn h (fun h => ?_) fun h => ?_
 ·refine k_region (kx 2 (bnd h fun r3 hr3 h => (kc1 (r12_reader_at.ok (b0 := b0) hr3 R_a0_0) rfl ⟨hm_H_a0_0, trivial⟩ (bnd h fun r4 hr4 h => (kc1 (r12_reader_bad.ok (b0 := b0) hr4 R_a0_0) rfl ⟨hm_H_a0_0, trivial⟩ (knl (k_fall ?_)))))))
  obtain rfl := Option.some.inj h
  exact kdn rfl
 ·refine k_skip (k_fall ?_)
  obtain rfl := Option.some.inj h
  exact kdn rfl
def r12_reader_name.f (k : Nat) (a0_0 : List (Int × ByteArray × Int × Int)) (a0_1 : Int) (a0_2 : Int) (a1 : Int) : Option (Int × ByteArray × Int × Int × List Tree × Int × Int) := (lIdx a0_0 a0_1).bind fun x2 => (cond (decide (a0_2 ≥ 0)) (some true) (some (x2.1 != 1)) : Option Bool).bind fun q7 => cond q7 ((r12_reader_bad.f k a0_0 a0_1 a0_2 x2.2.2.2).bind fun r9 => some (0, (⟨#[]⟩ : ByteArray), 0, 0, [], r9.1, r9.2)) (some (a1, x2.2.1, 0, x2.2.2.2, [], IntKind.i64.wrap (a0_1 + 1), a0_2))
set_option maxRecDepth 100000 in
theorem r12_reader_name.ok {k : Nat} {a0_0 : List (Int × ByteArray × Int × Int)} {a0_1 : Int} {a0_2 : Int} {a1 : Int} {b0 : Nat} {H_a0_0 : Frag} {A_a0_0 : Option Addr} {c_a0_0 : Nat} {r : Int × ByteArray × Int × Int × List Tree × Int × Int} (h : r12_reader_name.f k a0_0 a0_1 a0_2 a1 = some r) (R_a0_0 : RdT e59 4 H_a0_0 (.slice A_a0_0 a0_0.length c_a0_0) a0_0) : Ct Tryz.prog 41 #[pt b0, iv a1] [bk b0 #[.slice A_a0_0 a0_0.length c_a0_0, iv a0_1, iv a0_2] 57] [H_a0_0] (fun e l1 => ∃ (H0_ : Frag) (A0_ : Option Addr) (c0_ : Nat), OwnR (rTree 32) 32 H0_ (.slice A0_ r.2.2.2.2.1.length c0_) r.2.2.2.2.1 ∧ e = .returned (.agg #[iv r.1, sv r.2.1, iv r.2.2.1, iv r.2.2.2.1, .slice A0_ r.2.2.2.2.1.length c0_]) ∧ l1 = [H0_, bk b0 #[.slice A_a0_0 a0_0.length c_a0_0, iv r.2.2.2.2.2.1, iv r.2.2.2.2.2.2] 57]) := by
 refine ct_enter (args := [pt b0, iv a1]) Tryz.func41 rfl (Nat.le_of_ble_eq_true rfl) ?_
 intro A X hh_
 obtain ⟨hm_H_a0_0, _⟩ := hh_
 unfold r12_reader_name.f at h
 refine K.eq (env' := [(0, pt b0), (1, iv a1)]) (l' := bk b0 #[.slice A_a0_0 a0_0.length c_a0_0, iv a0_1, iv a0_2] 57 :: X) rfl rfl (ksr (knp #[iv 0, sv noS, iv 0, iv 0, nS] 32 fun b1 => (knt (k_seq (kprs [(0, 0), (1, 0), (2, 0), (3, 3), (4, 0), (5, 0), (6, 0), (7, 3), (8, 0), (9, 3), (10, 1)] [bk b0 #[.slice A_a0_0 a0_0.length c_a0_0, iv a0_1, iv a0_2] 57, H_a0_0] (fun w h_ => ⟨h_.sat.on _ (.tail _ (.head _)), h_.sat.on _ (t2 hm_H_a0_0), trivial⟩) (kpx 3 (kpd 0 0 rfl (kpx 3 (kpd 0 1 rfl (bnd h fun x2 hx2 h => ?_))))))))))
 refine kpelP (T := 59) (kd := .i64) e59_ok rfl hx2 R_a0_0 fun p3 e4 y5 => ?_
 have e4 : Elem _ p3 [iv x2.1, sv x2.2.1, iv x2.2.2.1, iv x2.2.2.2] := e4
 refine kpeN rfl e4 (fun w h_ => h_.mem _ (.tail _ (.head _))) (kpt (onp #[iv 0, sv noS, iv 0, iv 0] 59 fun b6 => (k_and (fun w h_ => ⟨h_.sat.on _ (.tail _ (.tail _ (.head _))), h_.sat.on _ (t3 hm_H_a0_0), trivial⟩) (kpz (kst 0 4 #[iv x2.1, sv x2.2.1, iv x2.2.2.1, iv x2.2.2.2] (knt (k_seq (bnd h fun q7 hq7 h => ?_))))))))
 refine k_cut1 [(0, pt b0), (1, iv a1), (4, pt b1), (5, pt b6), (25, bv q7)] (bk b6 #[iv x2.1, sv x2.2.1, iv x2.2.2.1, iv x2.2.2.2] 59 :: bk b1 #[iv 0, sv noS, iv 0, iv 0, nS] 32 :: bk b0 #[.slice A_a0_0 a0_0.length c_a0_0, iv a0_1, iv a0_2] 57 :: X) ?_ ?_
 ·clear hq7
  refine kcn h (fun h => ?_) fun h => ?_
  ·refine ksr (kx 2 (kld 0 3 rfl (K.drop (K.mv1 (bnd h fun r9 hr9 h => (kc1 (r12_reader_bad.ok (b0 := b0) hr9 R_a0_0) rfl ⟨(.tail _ hm_H_a0_0), trivial⟩ (kns' (kx 1 (K.mv1 (kst 0 5 #[iv 0, sv noS, iv 0, iv 0, nS] ?_))))))))))
   refine knt (k_ret (k_then_ret ?_))
   obtain rfl := Option.some.inj h
   exact kda 0 5 rfl [none_, bk b0 #[.slice A_a0_0 a0_0.length c_a0_0, iv r9.1, iv r9.2] 57] (k_none (K.mv1 (K.drop (k_end ⟨none_, none, 0, (OwnR.nil (rTree 32) 32 none_), rfl, rfl⟩))))
  ·refine k_skip (k_then (ksr (kx 3 (kld 2 1 rfl (kx 3 (K.mv2 (kst 1 1 #[.slice A_a0_0 a0_0.length c_a0_0, iv (IntKind.i64.wrap (a0_1 + 1)), iv a0_2] (kns' (kx 2 (kld 1 1 rfl ?_))))))))))
   refine kx 1 (kld 1 3 rfl (K.mv1 (K.drop (kx 1 (K.mv1 (kst 0 5 #[iv a1, sv x2.2.1, iv 0, iv x2.2.2.2, nS] (knt (k_ret ?_))))))))
   obtain rfl := Option.some.inj h
   exact kda 0 5 rfl [none_, bk b0 #[.slice A_a0_0 a0_0.length c_a0_0, iv (IntKind.i64.wrap (a0_1 + 1)), iv a0_2] 57] (k_none (K.mv1 (K.drop (k_end ⟨none_, none, 0, (OwnR.nil (rTree 32) 32 none_), rfl, rfl⟩))))
 ·have h := hq7
  clear hq7
  refine k_region (kx 3 (kld 2 2 rfl (kx 2 ?_)))
  refine kcs 21 h (fun h => ?_) fun h => ?_
  ·exact kx 4 (knt (k_meet1 ⟨gr, gr, gr, gr, gb (Option.some.inj h), trivial⟩))
  ·exact kx 1 (kld 0 0 rfl (kx 2 (knt (k_meet1 ⟨gr, gr, gr, gr, gb (Option.some.inj h), trivial⟩))))
def r12_reader_end.f (k : Nat) (a0_0 : List (Int × ByteArray × Int × Int)) (a0_1 : Int) (a0_2 : Int) : Option (Bool) := (cond (decide (a0_2 ≥ 0)) (some true) ((lIdx a0_0 a0_1).bind fun x3 => cond (x3.1 == 6) (some true) ((r12_reader_see.f k a0_0 a0_1 a0_2 (⟨#[101, 110, 100]⟩ : ByteArray)).bind fun r11 => cond r11 (some true) ((r12_reader_see.f k a0_0 a0_1 a0_2 (⟨#[101, 108, 115, 101]⟩ : ByteArray)).bind fun r13 => cond r13 (some true) ((r12_reader_see.f k a0_0 a0_1 a0_2 (⟨#[101, 108, 115, 101, 105, 102]⟩ : ByteArray)).bind fun r15 => some r15)))) : Option Bool).bind fun q1 => some (q1)
set_option maxRecDepth 100000 in
theorem r12_reader_end.ok {k : Nat} {a0_0 : List (Int × ByteArray × Int × Int)} {a0_1 : Int} {a0_2 : Int} {b0 : Nat} {H_a0_0 : Frag} {A_a0_0 : Option Addr} {c_a0_0 : Nat} {r : Bool} (h : r12_reader_end.f k a0_0 a0_1 a0_2 = some r) (R_a0_0 : RdT e59 4 H_a0_0 (.slice A_a0_0 a0_0.length c_a0_0) a0_0) : Ct Tryz.prog 37 #[pt b0] [bk b0 #[.slice A_a0_0 a0_0.length c_a0_0, iv a0_1, iv a0_2] 57] [H_a0_0] (fun e l1 => e = .returned (bv r) ∧ l1 = [bk b0 #[.slice A_a0_0 a0_0.length c_a0_0, iv a0_1, iv a0_2] 57]) := by
 refine ct_enter (args := [pt b0]) Tryz.func37 rfl (Nat.le_of_ble_eq_true rfl) ?_
 intro A X hh_
 obtain ⟨hm_H_a0_0, _⟩ := hh_
 unfold r12_reader_end.f at h
 refine K.eq (env' := [(0, pt b0)]) (l' := bk b0 #[.slice A_a0_0 a0_0.length c_a0_0, iv a0_1, iv a0_2] 57 :: X) rfl rfl (ksr (kx 1 (knt (bnd h fun q1 hq1 h => ?_))))
 refine k_cut1 [(2, bv q1)] (bk b0 #[.slice A_a0_0 a0_0.length c_a0_0, iv a0_1, iv a0_2] 57 :: X) ?_ ?_
 ·clear hq1
  refine k_ret ?_
  obtain rfl := Option.some.inj h
  exact kdn rfl
 ·have h := hq1
  clear hq1
  refine kpr [(0, 0), (1, 0), (2, 0), (3, 3), (4, 0), (5, 0), (6, 0), (7, 0), (8, 0), (9, 3), (10, 0), (11, 0), (12, 0), (13, 3)] [0] (kpx 3 (kpd 0 2 rfl (kpx 2 ?_)))
  refine kcs 8 h (fun h => ?_) fun h => ?_
  ·exact kpx 3 (kp_skip3 (by kernel_rfl) (by kernel_rfl) (kpx 3 (kp_skip3 (by kernel_rfl) (by kernel_rfl) (kpz (kx 18 (knt (k_meet1 ⟨gb (Option.some.inj h), trivial⟩)))))))
  ·refine kpx 3 (kpd 0 0 rfl (kpx 3 (kpd 0 1 rfl (kpz (bnd h fun x3 hx3 h => (kelP (T := 59) (kd := .i64) e59_ok rfl hx3 R_a0_0 fun p4 e5 y6 => ?_))))))
   have e5 : Elem _ p4 [iv x3.1, sv x3.2.1, iv x3.2.2.1, iv x3.2.2.2] := e5
   refine kefP (off := 0) rfl e5 y6 fun p7 e8 y9 => ?_
   have e8 : Elem _ p7 [iv x3.1, sv x3.2.1, iv x3.2.2.1, iv x3.2.2.2] := e8
   refine kl_eload1 rfl (by kernel_rfl) (by kernel_rfl) (by kernel_rfl) (by kernel_rfl) e8 (.tail _ hm_H_a0_0) (kx 3 ?_)
   refine kcs 22 h (fun h => ?_) fun h => ?_
   ·exact kx 12 (knt (k_meet1 ⟨gb (Option.some.inj h), trivial⟩))
   ·refine kx 1 (bnd h fun r11 hr11 h => (kc1 (r12_reader_see.ok (b0 := b0) hr11 R_a0_0) rfl ⟨hm_H_a0_0, trivial⟩ (kx 2 ?_)))
    refine kcs 26 h (fun h => ?_) fun h => ?_
    ·exact kx 8 (knt (k_meet1 ⟨gb (Option.some.inj h), trivial⟩))
    ·refine kx 1 (bnd h fun r13 hr13 h => (kc1 (r12_reader_see.ok (b0 := b0) hr13 R_a0_0) rfl ⟨hm_H_a0_0, trivial⟩ (kx 2 ?_)))
     refine kcs 30 h (fun h => ?_) fun h => ?_
     ·exact kx 4 (knt (k_meet1 ⟨gb (Option.some.inj h), trivial⟩))
     ·exact kx 1 (bnd h fun r15 hr15 h => (kc1 (r12_reader_see.ok (b0 := b0) hr15 R_a0_0) rfl ⟨hm_H_a0_0, trivial⟩ (kx 2 (knt (k_meet1 ⟨gb (Option.some.inj h), trivial⟩)))))
theorem ety30 : ElemTy Tryz.prog 30 32 5 64 Tryz.t32 (.agg #[iv 0, sv noS, iv 0, iv 0, nS]) := ⟨by kernel_rfl, by kernel_rfl, by kernel_rfl, by kernel_rfl, by kernel_rfl, by kernel_rfl, by decide⟩
def r12_reader_names.l0 : Nat → (a0_0 : List (Int × ByteArray × Int × Int)) → (J14 : (List Tree) → Int → Int → Option (List Tree × Int × Int)) → (l15 : List Tree) → (x20 : Int) → (x21 : Int) → Option (List Tree × Int × Int)
 | 0, _, _, _, _, _ => none
 | m22 + 1, a0_0, J14, l15, x20, x21 => (r12_reader_take.f m22 a0_0 x20 x21 (⟨#[44]⟩ : ByteArray)).bind fun r25 => cond r25.1 ((r12_reader_name.f m22 a0_0 r25.2 x21 6).bind fun r27 => (apd 64 l15 [(Tree.mk r27.1 r27.2.1 r27.2.2.1 r27.2.2.2.1 r27.2.2.2.2.1)]).bind fun l35 => r12_reader_names.l0 m22 a0_0 J14 l35 r27.2.2.2.2.2.1 r27.2.2.2.2.2.2) (J14 l15 r25.2 x21)
def r12_reader_names.f (k : Nat) (a0_0 : List (Int × ByteArray × Int × Int)) (a0_1 : Int) (a0_2 : Int) : Option (List Tree × Int × Int) := (r12_reader_name.f k a0_0 a0_1 a0_2 6).bind fun r1 => joinF (fun (l7 : List Tree) (x12 : Int) (x13 : Int) => some (l7, x12, x13)) (fun J14 => r12_reader_names.l0 k a0_0 J14 ([(Tree.mk r1.1 r1.2.1 r1.2.2.1 r1.2.2.2.1 r1.2.2.2.2.1)]) r1.2.2.2.2.2.1 r1.2.2.2.2.2.2)
set_option maxRecDepth 100000 in
theorem r12_reader_names.ok {k : Nat} {a0_0 : List (Int × ByteArray × Int × Int)} {a0_1 : Int} {a0_2 : Int} {b0 : Nat} {H_a0_0 : Frag} {A_a0_0 : Option Addr} {c_a0_0 : Nat} {r : List Tree × Int × Int} (h : r12_reader_names.f k a0_0 a0_1 a0_2 = some r) (R_a0_0 : RdT e59 4 H_a0_0 (.slice A_a0_0 a0_0.length c_a0_0) a0_0) : Ct Tryz.prog 43 #[pt b0] [bk b0 #[.slice A_a0_0 a0_0.length c_a0_0, iv a0_1, iv a0_2] 57] [H_a0_0] (fun e l1 => ∃ (H0_ : Frag) (A0_ : Option Addr) (c0_ : Nat), OwnR (rTree 32) 32 H0_ (.slice A0_ r.1.length c0_) r.1 ∧ e = .returned (.slice A0_ r.1.length c0_) ∧ l1 = [H0_, bk b0 #[.slice A_a0_0 a0_0.length c_a0_0, iv r.2.1, iv r.2.2] 57]) := by
 refine ct_enter (args := [pt b0]) Tryz.func43 rfl (Nat.le_of_ble_eq_true rfl) ?_
 intro A X hh_
 obtain ⟨hm_H_a0_0, _⟩ := hh_
 unfold r12_reader_names.f at h
 refine K.eq (env' := [(0, pt b0)]) (l' := bk b0 #[.slice A_a0_0 a0_0.length c_a0_0, iv a0_1, iv a0_2] 57 :: X) rfl rfl (ksr (kx 1 (kns' (kx 1 (bnd h fun r1 hr1 h => (kcl (r12_reader_name.ok (b0 := b0) hr1 R_a0_0) rfl ⟨hm_H_a0_0, trivial⟩ ?_))))))
 rintro _ _ ⟨h2, A3, k4, o5, rfl, rfl⟩
 refine nx_ret2 (kns #[iv r1.1, sv r1.2.1, iv r1.2.2.1, iv r1.2.2.2.1, .slice A3 r1.2.2.2.2.1.length k4] 32 1 fun b6 => (kx 1 (knt ?_)))
 obtain ⟨J14, hJ14, h⟩ := joinSplit h
 refine k_cut (τ := (List Tree) × Int × Int × Frag × (Option Addr) × Nat) (fun t => [(3, .slice t.2.2.2.2.1 t.1.length t.2.2.2.2.2)]) (fun t => bk b0 #[.slice A_a0_0 a0_0.length c_a0_0, iv t.2.1, iv t.2.2.1] 57 :: t.2.2.2.1 :: X) (fun t => J14 t.1 t.2.1 t.2.2.1 = some r ∧ OwnR (rTree 32) 32 t.2.2.2.1 (.slice t.2.2.2.2.1 t.1.length t.2.2.2.2.2) t.1) ?_ ?_
 ·rintro ⟨l7, x12, x13, h8, A9, k10⟩ ⟨h, o11⟩
  subst hJ14
  refine ksr (kx 2 (knt (k_ret ?_)))
  obtain rfl := Option.some.inj h
  exact kdv (.slice A9 l7.length k10) [h8, bk b0 #[.slice A_a0_0 a0_0.length c_a0_0, iv x12, iv x13] 57] (K.mv1 (k_end ⟨h8, A9, k10, o11, rfl, rfl⟩))
 ·skip
  refine k_block (K.mv1 (K.mv1 (k_row (T := 32) (n := 1) (xs := [(Tree.mk r1.1 r1.2.1 r1.2.2.1 r1.2.2.2.1 r1.2.2.2.2.1)]) (RowI.one (treeO_mk (k := r1.1) (t := r1.2.1) (n := r1.2.2.1) (a := r1.2.2.2.1) 32 o5)) rfl rfl (Nat.le_of_ble_eq_true rfl) fun h23 o24 => (K.mv1 (k_loop (τ := (List Tree) × Int × Int × Frag × (Option Addr) × Nat) (fun t => [(0, pt b0), (3, .slice t.2.2.2.2.1 t.1.length t.2.2.2.2.2)]) (fun t => bk b0 #[.slice A_a0_0 a0_0.length c_a0_0, iv t.2.1, iv t.2.2.1] 57 :: t.2.2.2.1 :: X) (fun m t => r12_reader_names.l0 m a0_0 J14 t.1 t.2.1 t.2.2.1 = some r ∧ OwnR (rTree 32) 32 t.2.2.2.1 (.slice t.2.2.2.2.1 t.1.length t.2.2.2.2.2) t.1) k ([(Tree.mk r1.1 r1.2.1 r1.2.2.1 r1.2.2.2.1 r1.2.2.2.2.1)], r1.2.2.2.2.2.1, r1.2.2.2.2.2.2, h23, (some ⟨b6, 0, none⟩), 1) ⟨h, o24⟩ sb rfl ?_)))))
  clear h
  rintro m22 ⟨l15, x20, x21, h16, A17, k18⟩ ⟨h, o19⟩
  cases m22 with
  | zero => simp [r12_reader_names.l0] at h
  | succ m22 =>
   simp only [r12_reader_names.l0] at h
   refine k_seq (ksr (kx 1 (bnd h fun r25 hr25 h => (kc1 (r12_reader_take.ok (b0 := b0) hr25 R_a0_0) rfl ⟨(.tail _ hm_H_a0_0), trivial⟩ (knt ?_)))))
   refine kcn h (fun h => ?_) fun h => ?_
   ·refine k_skip (k_then (k_block (k_region (kx 2 (bnd h fun r27 hr27 h => (kcl (r12_reader_name.ok (b0 := b0) hr27 R_a0_0) rfl ⟨(.tail _ hm_H_a0_0), trivial⟩ ?_))))))
    rintro _ _ ⟨h28, A29, k30, o31, rfl, rfl⟩
    refine nx_ret2 (kns #[iv r27.1, sv r27.2.1, iv r27.2.2.1, iv r27.2.2.2.1, .slice A29 r27.2.2.2.2.1.length k30] 32 1 fun b32 => (K.mv1 (K.mv1 (k_row (T := 32) (n := 1) (xs := [(Tree.mk r27.1 r27.2.1 r27.2.2.1 r27.2.2.2.1 r27.2.2.2.2.1)]) (RowI.one (treeO_mk (k := r27.1) (t := r27.2.1) (n := r27.2.2.1) (a := r27.2.2.2.1) 32 o31)) rfl rfl (Nat.le_of_ble_eq_true rfl) fun h33 o34 => (K.mv2 (bnd h fun l35 hl35 h => (kapR rfl ety30 rfl hl35 o19 o34 fun h36 A37 k38 o39 => (kx 1 (knl (k_blk ?_))))))))))
    exact k_then (K.mv1 (k_again m22 (l35, r27.2.2.2.2.2.1, r27.2.2.2.2.2.2, h36, A37, k38) (Nat.lt_succ_self _) ⟨h, o39⟩ sb rfl))
   ·exact k_exit (k_then_exit (k_then_exit (k_here (k_then (k_meet (l15, r25.2, x21, h16, A17, k18) ⟨h, o19⟩ sb rfl)))))
def r12_reader_level.l0 : Nat → (a0_0 : List (Int × ByteArray × Int × Int)) → (a0_1 : Int) → (a0_2 : Int) → (l2 : List ByteArray) → (J8 : (Unit → Option (ByteArray))) → (x9 : Int) → Option (ByteArray)
 | 0, _, _, _, _, _, _ => none
 | m10 + 1, a0_0, a0_1, a0_2, l2, J8, x9 => cond (decide (x9 < ((l2.length : Nat) : Int))) ((lIdx l2 x9).bind fun x12 => (r12_reader_see.f m10 a0_0 a0_1 a0_2 x12).bind fun r16 => cond r16 ((lIdx l2 x9).bind fun x18 => some (x18)) (r12_reader_level.l0 m10 a0_0 a0_1 a0_2 l2 J8 (IntKind.i64.wrap (x9 + 1)))) (J8 ())
def r12_reader_level.f (k : Nat) (a0_0 : List (Int × ByteArray × Int × Int)) (a0_1 : Int) (a0_2 : Int) (a1 : Int) : Option (ByteArray) := joinF (fun (l2 : List ByteArray) => joinF (fun (_ : Unit) => some ((⟨#[]⟩ : ByteArray))) (fun J8 => r12_reader_level.l0 k a0_0 a0_1 a0_2 l2 J8 0)) (fun J7 => cond (a1 == 2) (J7 ([(⟨#[97, 110, 100]⟩ : ByteArray)])) (cond (a1 == 3) (J7 ([(⟨#[60]⟩ : ByteArray), (⟨#[62]⟩ : ByteArray), (⟨#[60, 61]⟩ : ByteArray), (⟨#[62, 61]⟩ : ByteArray), (⟨#[126, 61]⟩ : ByteArray), (⟨#[61, 61]⟩ : ByteArray)])) (cond (a1 == 4) (J7 ([(⟨#[46, 46]⟩ : ByteArray)])) (cond (a1 == 5) (J7 ([(⟨#[43]⟩ : ByteArray), (⟨#[45]⟩ : ByteArray)])) (cond (a1 == 6) (J7 ([(⟨#[42]⟩ : ByteArray), (⟨#[47, 47]⟩ : ByteArray), (⟨#[37]⟩ : ByteArray)])) (J7 ([(⟨#[111, 114]⟩ : ByteArray)])))))))
set_option maxRecDepth 100000 in
theorem r12_reader_level.ok {k : Nat} {a0_0 : List (Int × ByteArray × Int × Int)} {a0_1 : Int} {a0_2 : Int} {a1 : Int} {b0 : Nat} {H_a0_0 : Frag} {A_a0_0 : Option Addr} {c_a0_0 : Nat} {r : ByteArray} (h : r12_reader_level.f k a0_0 a0_1 a0_2 a1 = some r) (R_a0_0 : RdT e59 4 H_a0_0 (.slice A_a0_0 a0_0.length c_a0_0) a0_0) : Ct Tryz.prog 96 #[pt b0, iv a1] [bk b0 #[.slice A_a0_0 a0_0.length c_a0_0, iv a0_1, iv a0_2] 57] [H_a0_0] (fun e l1 => e = .returned (sv r) ∧ l1 = [bk b0 #[.slice A_a0_0 a0_0.length c_a0_0, iv a0_1, iv a0_2] 57]) := by
 refine ct_enter (args := [pt b0, iv a1]) Tryz.func96 rfl (Nat.le_of_ble_eq_true rfl) ?_
 intro A X hh_
 obtain ⟨hm_H_a0_0, _⟩ := hh_
 unfold r12_reader_level.f at h
 refine K.eq (env' := [(0, pt b0), (1, iv a1)]) (l' := bk b0 #[.slice A_a0_0 a0_0.length c_a0_0, iv a0_1, iv a0_2] 57 :: X) rfl rfl (ksr (kx 1 (kns' (kns #[sv (⟨#[111, 114]⟩ : ByteArray)] 9 1 fun b1 => (kx 1 (knt ?_))))))
 obtain ⟨J7, hJ7, h⟩ := joinSplit h
 refine k_cut (τ := (List ByteArray) × Frag × (Option Addr) × Nat) (fun t => [(0, pt b0), (5, .slice t.2.2.1 t.1.length t.2.2.2)]) (fun t => bk b0 #[.slice A_a0_0 a0_0.length c_a0_0, iv a0_1, iv a0_2] 57 :: t.2.1 :: X) (fun t => J7 t.1 = some r ∧ OwnT encS 9 1 t.2.1 (.slice t.2.2.1 t.1.length t.2.2.2) t.1) ?_ ?_
 ·rintro ⟨l2, h3, A4, k5⟩ ⟨h, o6⟩
  subst hJ7
  obtain ⟨J8, hJ8, h⟩ := joinSplit h
  refine k_cut (τ := Unit) (fun t => []) (fun t => bk b0 #[.slice A_a0_0 a0_0.length c_a0_0, iv a0_1, iv a0_2] 57 :: X) (fun t => J8 () = some r) ?_ ?_
  ·rintro ⟨⟩ h
   subst hJ8
   refine ksr (kx 1 (knt (k_ret ?_)))
   obtain rfl := Option.some.inj h
   exact kdn rfl
  ·skip
   refine ksr (kx 1 (knt (k_block (k_loop (τ := Int) (fun t => [(0, pt b0), (5, .slice A4 l2.length k5), (6, iv t)]) (fun t => bk b0 #[.slice A_a0_0 a0_0.length c_a0_0, iv a0_1, iv a0_2] 57 :: h3 :: X) (fun m t => r12_reader_level.l0 m a0_0 a0_1 a0_2 l2 J8 t = some r) k 0 h sb rfl ?_))))
   clear h
   rintro m10 x9 h
   cases m10 with
   | zero => simp [r12_reader_level.l0] at h
   | succ m10 =>
    simp only [r12_reader_level.l0] at h
    refine k_seq (ksr (kx 4 (knt ?_)))
    refine kcn h (fun h => ?_) fun h => ?_
    ·refine k_skip (k_then (k_seq (k_block (ksr (kx 3 (bnd h fun x12 hx12 h => (kelP (T := 9) (kd := .i64) encS_ok rfl hx12 (OwnT.rd o6) fun p13 e14 y15 => ?_)))))))
     have e14 : Elem _ p13 [sv x12] := e14
     refine kl_eload1 rfl (by kernel_rfl) (by kernel_rfl) (by kernel_rfl) (by kernel_rfl) e14 (.tail _ (.head _)) (bnd h fun r16 hr16 h => (kc1 (r12_reader_see.ok (b0 := b0) hr16 R_a0_0) rfl ⟨(.tail _ hm_H_a0_0), trivial⟩ (knt ?_)))
     refine kcn h (fun h => ?_) fun h => ?_
     ·refine ksr (kx 2 (bnd h fun x18 hx18 h => (kelP (T := 9) (kd := .i64) encS_ok rfl hx18 (OwnT.rd o6) fun p19 e20 y21 => ?_)))
      have e20 : Elem _ p19 [sv x18] := e20
      refine kl_eload1 rfl (by kernel_rfl) (by kernel_rfl) (by kernel_rfl) (by kernel_rfl) e20 (.tail _ (.head _)) (K.mv1 (K.drop (kx 1 (knt (k_ret (k_blk_ret (k_then_ret (k_then_ret (k_blk_ret (k_then_ret ?_))))))))))
      obtain rfl := Option.some.inj h
      exact kdn rfl
     ·exact k_skip (k_blk (k_then (k_region (kx 3 (knt (k_again m10 (IntKind.i64.wrap (x9 + 1)) (Nat.lt_succ_self _) h sb rfl))))))
    ·exact k_exit (k_then_exit (k_then_exit (k_here (k_then (K.mv1 (K.drop (k_meet () h trivial rfl)))))))
 ·skip
  refine ksr (kx 1 (knt (k_block (ksr (kx 2 (knt ?_))))))
  refine kcn h (fun h => ?_) fun h => ?_
  ·exact k_region (kns #[sv (⟨#[97, 110, 100]⟩ : ByteArray)] 9 1 fun b23 => (kx 1 (knl (k_blk (k_then (K.mv1 (K.drop (K.mv1 (k_meet ([(⟨#[97, 110, 100]⟩ : ByteArray)], bk b23 #[sv (⟨#[97, 110, 100]⟩ : ByteArray)] 9, (some ⟨b23, 0, none⟩), 1) ⟨h, (OwnT.blk 9 encS_ok b23 [(⟨#[97, 110, 100]⟩ : ByteArray)] #[sv (⟨#[97, 110, 100]⟩ : ByteArray)] 1 (by kernel_rfl) rfl (by decide))⟩ sb rfl)))))))))
  ·refine ksr (kx 2 (knt ?_))
   refine kcn h (fun h => ?_) fun h => ?_
   ·exact k_region (kns #[sv (⟨#[60]⟩ : ByteArray), sv (⟨#[62]⟩ : ByteArray), sv (⟨#[60, 61]⟩ : ByteArray), sv (⟨#[62, 61]⟩ : ByteArray), sv (⟨#[126, 61]⟩ : ByteArray), sv (⟨#[61, 61]⟩ : ByteArray)] 9 6 fun b25 => (kx 1 (knl (k_blk (k_then (K.mv1 (K.drop (K.mv1 (k_meet ([(⟨#[60]⟩ : ByteArray), (⟨#[62]⟩ : ByteArray), (⟨#[60, 61]⟩ : ByteArray), (⟨#[62, 61]⟩ : ByteArray), (⟨#[126, 61]⟩ : ByteArray), (⟨#[61, 61]⟩ : ByteArray)], bk b25 #[sv (⟨#[60]⟩ : ByteArray), sv (⟨#[62]⟩ : ByteArray), sv (⟨#[60, 61]⟩ : ByteArray), sv (⟨#[62, 61]⟩ : ByteArray), sv (⟨#[126, 61]⟩ : ByteArray), sv (⟨#[61, 61]⟩ : ByteArray)] 9, (some ⟨b25, 0, none⟩), 6) ⟨h, (OwnT.blk 9 encS_ok b25 [(⟨#[60]⟩ : ByteArray), (⟨#[62]⟩ : ByteArray), (⟨#[60, 61]⟩ : ByteArray), (⟨#[62, 61]⟩ : ByteArray), (⟨#[126, 61]⟩ : ByteArray), (⟨#[61, 61]⟩ : ByteArray)] #[sv (⟨#[60]⟩ : ByteArray), sv (⟨#[62]⟩ : ByteArray), sv (⟨#[60, 61]⟩ : ByteArray), sv (⟨#[62, 61]⟩ : ByteArray), sv (⟨#[126, 61]⟩ : ByteArray), sv (⟨#[61, 61]⟩ : ByteArray)] 6 (by kernel_rfl) rfl (by decide))⟩ sb rfl)))))))))
   ·refine ksr (kx 2 (knt ?_))
    refine kcn h (fun h => ?_) fun h => ?_
    ·exact k_region (kns #[sv (⟨#[46, 46]⟩ : ByteArray)] 9 1 fun b27 => (kx 1 (knl (k_blk (k_then (K.mv1 (K.drop (K.mv1 (k_meet ([(⟨#[46, 46]⟩ : ByteArray)], bk b27 #[sv (⟨#[46, 46]⟩ : ByteArray)] 9, (some ⟨b27, 0, none⟩), 1) ⟨h, (OwnT.blk 9 encS_ok b27 [(⟨#[46, 46]⟩ : ByteArray)] #[sv (⟨#[46, 46]⟩ : ByteArray)] 1 (by kernel_rfl) rfl (by decide))⟩ sb rfl)))))))))
    ·refine ksr (kx 2 (knt ?_))
     refine kcn h (fun h => ?_) fun h => ?_
     ·exact k_region (kns #[sv (⟨#[43]⟩ : ByteArray), sv (⟨#[45]⟩ : ByteArray)] 9 2 fun b29 => (kx 1 (knl (k_blk (k_then (K.mv1 (K.drop (K.mv1 (k_meet ([(⟨#[43]⟩ : ByteArray), (⟨#[45]⟩ : ByteArray)], bk b29 #[sv (⟨#[43]⟩ : ByteArray), sv (⟨#[45]⟩ : ByteArray)] 9, (some ⟨b29, 0, none⟩), 2) ⟨h, (OwnT.blk 9 encS_ok b29 [(⟨#[43]⟩ : ByteArray), (⟨#[45]⟩ : ByteArray)] #[sv (⟨#[43]⟩ : ByteArray), sv (⟨#[45]⟩ : ByteArray)] 2 (by kernel_rfl) rfl (by decide))⟩ sb rfl)))))))))
     ·refine ksr (kx 2 (knt ?_))
      refine kcn h (fun h => ?_) fun h => ?_
      ·exact k_region (kns #[sv (⟨#[42]⟩ : ByteArray), sv (⟨#[47, 47]⟩ : ByteArray), sv (⟨#[37]⟩ : ByteArray)] 9 3 fun b31 => (kx 1 (knl (k_blk (k_then (K.mv1 (K.drop (K.mv1 (k_meet ([(⟨#[42]⟩ : ByteArray), (⟨#[47, 47]⟩ : ByteArray), (⟨#[37]⟩ : ByteArray)], bk b31 #[sv (⟨#[42]⟩ : ByteArray), sv (⟨#[47, 47]⟩ : ByteArray), sv (⟨#[37]⟩ : ByteArray)] 9, (some ⟨b31, 0, none⟩), 3) ⟨h, (OwnT.blk 9 encS_ok b31 [(⟨#[42]⟩ : ByteArray), (⟨#[47, 47]⟩ : ByteArray), (⟨#[37]⟩ : ByteArray)] #[sv (⟨#[42]⟩ : ByteArray), sv (⟨#[47, 47]⟩ : ByteArray), sv (⟨#[37]⟩ : ByteArray)] 3 (by kernel_rfl) rfl (by decide))⟩ sb rfl)))))))))
      ·exact k_skip (k_blk (k_then (K.mv1 (k_meet ([(⟨#[111, 114]⟩ : ByteArray)], bk b1 #[sv (⟨#[111, 114]⟩ : ByteArray)] 9, (some ⟨b1, 0, none⟩), 1) ⟨h, (OwnT.blk 9 encS_ok b1 [(⟨#[111, 114]⟩ : ByteArray)] #[sv (⟨#[111, 114]⟩ : ByteArray)] 1 (by kernel_rfl) rfl (by decide))⟩ sb rfl))))
end Go.Proofs.YtidiahkobapnjaaGreatDoor
namespace Go.Proofs.YtidiahkobapnjaaGreatDoor
open Go Go.RowKit
structure RE where
 r12_reader_exp : (a0_0 : List (Int × ByteArray × Int × Int)) → (a0_1 : Int) → (a0_2 : Int) → (a1 : Int) → Option (Int × ByteArray × Int × Int × List Tree × Int × Int)
 r12_reader_operand : (a0_0 : List (Int × ByteArray × Int × Int)) → (a0_1 : Int) → (a0_2 : Int) → Option (Int × ByteArray × Int × Int × List Tree × Int × Int)
 r12_reader_suffixed : (a0_0 : List (Int × ByteArray × Int × Int)) → (a0_1 : Int) → (a0_2 : Int) → Option (Int × ByteArray × Int × Int × List Tree × Int × Int)
 r12_reader_field : (a0_0 : List (Int × ByteArray × Int × Int)) → (a0_1 : Int) → (a0_2 : Int) → Option (Int × ByteArray × Int × Int × List Tree × Int × Int)
 r12_reader_list : (a0_0 : List (Int × ByteArray × Int × Int)) → (a0_1 : Int) → (a0_2 : Int) → Option (List Tree × Int × Int)
structure RE.Good (R : RE) : Prop where
 r12_reader_exp : ∀ {a0_0 : List (Int × ByteArray × Int × Int)} {a0_1 : Int} {a0_2 : Int} {a1 : Int} {b0 : Nat} {H_a0_0 : Frag} {A_a0_0 : Option Addr} {c_a0_0 : Nat} {r : Int × ByteArray × Int × Int × List Tree × Int × Int} (h : R.r12_reader_exp a0_0 a0_1 a0_2 a1 = some r) (R_a0_0 : RdT e59 4 H_a0_0 (.slice A_a0_0 a0_0.length c_a0_0) a0_0), Ct Tryz.prog 69 #[pt b0, iv a1] [bk b0 #[.slice A_a0_0 a0_0.length c_a0_0, iv a0_1, iv a0_2] 57] [H_a0_0] (fun e l1 => ∃ (H0_ : Frag) (A0_ : Option Addr) (c0_ : Nat), OwnR (rTree 32) 32 H0_ (.slice A0_ r.2.2.2.2.1.length c0_) r.2.2.2.2.1 ∧ e = .returned (.agg #[iv r.1, sv r.2.1, iv r.2.2.1, iv r.2.2.2.1, .slice A0_ r.2.2.2.2.1.length c0_]) ∧ l1 = [H0_, bk b0 #[.slice A_a0_0 a0_0.length c_a0_0, iv r.2.2.2.2.2.1, iv r.2.2.2.2.2.2] 57])
 r12_reader_operand : ∀ {a0_0 : List (Int × ByteArray × Int × Int)} {a0_1 : Int} {a0_2 : Int} {b0 : Nat} {H_a0_0 : Frag} {A_a0_0 : Option Addr} {c_a0_0 : Nat} {r : Int × ByteArray × Int × Int × List Tree × Int × Int} (h : R.r12_reader_operand a0_0 a0_1 a0_2 = some r) (R_a0_0 : RdT e59 4 H_a0_0 (.slice A_a0_0 a0_0.length c_a0_0) a0_0), Ct Tryz.prog 95 #[pt b0] [bk b0 #[.slice A_a0_0 a0_0.length c_a0_0, iv a0_1, iv a0_2] 57] [H_a0_0] (fun e l1 => ∃ (H0_ : Frag) (A0_ : Option Addr) (c0_ : Nat), OwnR (rTree 32) 32 H0_ (.slice A0_ r.2.2.2.2.1.length c0_) r.2.2.2.2.1 ∧ e = .returned (.agg #[iv r.1, sv r.2.1, iv r.2.2.1, iv r.2.2.2.1, .slice A0_ r.2.2.2.2.1.length c0_]) ∧ l1 = [H0_, bk b0 #[.slice A_a0_0 a0_0.length c_a0_0, iv r.2.2.2.2.2.1, iv r.2.2.2.2.2.2] 57])
 r12_reader_suffixed : ∀ {a0_0 : List (Int × ByteArray × Int × Int)} {a0_1 : Int} {a0_2 : Int} {b0 : Nat} {H_a0_0 : Frag} {A_a0_0 : Option Addr} {c_a0_0 : Nat} {r : Int × ByteArray × Int × Int × List Tree × Int × Int} (h : R.r12_reader_suffixed a0_0 a0_1 a0_2 = some r) (R_a0_0 : RdT e59 4 H_a0_0 (.slice A_a0_0 a0_0.length c_a0_0) a0_0), Ct Tryz.prog 97 #[pt b0] [bk b0 #[.slice A_a0_0 a0_0.length c_a0_0, iv a0_1, iv a0_2] 57] [H_a0_0] (fun e l1 => ∃ (H0_ : Frag) (A0_ : Option Addr) (c0_ : Nat), OwnR (rTree 32) 32 H0_ (.slice A0_ r.2.2.2.2.1.length c0_) r.2.2.2.2.1 ∧ e = .returned (.agg #[iv r.1, sv r.2.1, iv r.2.2.1, iv r.2.2.2.1, .slice A0_ r.2.2.2.2.1.length c0_]) ∧ l1 = [H0_, bk b0 #[.slice A_a0_0 a0_0.length c_a0_0, iv r.2.2.2.2.2.1, iv r.2.2.2.2.2.2] 57])
 r12_reader_field : ∀ {a0_0 : List (Int × ByteArray × Int × Int)} {a0_1 : Int} {a0_2 : Int} {b0 : Nat} {H_a0_0 : Frag} {A_a0_0 : Option Addr} {c_a0_0 : Nat} {r : Int × ByteArray × Int × Int × List Tree × Int × Int} (h : R.r12_reader_field a0_0 a0_1 a0_2 = some r) (R_a0_0 : RdT e59 4 H_a0_0 (.slice A_a0_0 a0_0.length c_a0_0) a0_0), Ct Tryz.prog 115 #[pt b0] [bk b0 #[.slice A_a0_0 a0_0.length c_a0_0, iv a0_1, iv a0_2] 57] [H_a0_0] (fun e l1 => ∃ (H0_ : Frag) (A0_ : Option Addr) (c0_ : Nat), OwnR (rTree 32) 32 H0_ (.slice A0_ r.2.2.2.2.1.length c0_) r.2.2.2.2.1 ∧ e = .returned (.agg #[iv r.1, sv r.2.1, iv r.2.2.1, iv r.2.2.2.1, .slice A0_ r.2.2.2.2.1.length c0_]) ∧ l1 = [H0_, bk b0 #[.slice A_a0_0 a0_0.length c_a0_0, iv r.2.2.2.2.2.1, iv r.2.2.2.2.2.2] 57])
 r12_reader_list : ∀ {a0_0 : List (Int × ByteArray × Int × Int)} {a0_1 : Int} {a0_2 : Int} {b0 : Nat} {H_a0_0 : Frag} {A_a0_0 : Option Addr} {c_a0_0 : Nat} {r : List Tree × Int × Int} (h : R.r12_reader_list a0_0 a0_1 a0_2 = some r) (R_a0_0 : RdT e59 4 H_a0_0 (.slice A_a0_0 a0_0.length c_a0_0) a0_0), Ct Tryz.prog 40 #[pt b0] [bk b0 #[.slice A_a0_0 a0_0.length c_a0_0, iv a0_1, iv a0_2] 57] [H_a0_0] (fun e l1 => ∃ (H0_ : Frag) (A0_ : Option Addr) (c0_ : Nat), OwnR (rTree 32) 32 H0_ (.slice A0_ r.1.length c0_) r.1 ∧ e = .returned (.slice A0_ r.1.length c0_) ∧ l1 = [H0_, bk b0 #[.slice A_a0_0 a0_0.length c_a0_0, iv r.2.1, iv r.2.2] 57])
def r12_reader_exp.l0 : Nat → (Rc : RE) → (a0_0 : List (Int × ByteArray × Int × Int)) → (a1 : Int) → (r9 : Int × ByteArray × Int × Int × List Tree × Int × Int) → (J26 : Int → Int → Int → ByteArray → Int → (List Tree) → Option (Int × ByteArray × Int × Int × List Tree × Int × Int)) → (x27 : ByteArray) → (x28 : Int) → (x29 : Int) → (x30 : Int) → (x31 : ByteArray) → (x32 : Int) → (l33 : List Tree) → Option (Int × ByteArray × Int × Int × List Tree × Int × Int)
 | 0, _, _, _, _, _, _, _, _, _, _, _, _ => none
 | m38 + 1, Rc, a0_0, a1, r9, J26, x27, x28, x29, x30, x31, x32, l33 => cond (!(x27.toList == (⟨#[]⟩ : ByteArray).toList)) (joinF (fun (x41 : Int) (x42 : ByteArray) (x43 : Int) (x44 : Int) (l45 : List Tree) (x50 : Int) (x51 : Int) => (r12_reader_level.f m38 a0_0 x50 x51 a1).bind fun r54 => r12_reader_exp.l0 m38 Rc a0_0 a1 r9 J26 r54 x50 x51 11 x27 0 ([(Tree.mk x30 x31 x32 r9.2.2.2.1 l33), (Tree.mk x41 x42 x43 x44 l45)])) (fun J52 => cond (a1 == 4) ((Rc.r12_reader_exp a0_0 (IntKind.i64.wrap (x28 + 1)) x29 4).bind fun r59 => J52 r59.1 r59.2.1 r59.2.2.1 r59.2.2.2.1 r59.2.2.2.2.1 r59.2.2.2.2.2.1 r59.2.2.2.2.2.2) ((Rc.r12_reader_exp a0_0 (IntKind.i64.wrap (x28 + 1)) x29 (IntKind.i64.wrap (a1 + 1))).bind fun r64 => J52 r64.1 r64.2.1 r64.2.2.1 r64.2.2.2.1 r64.2.2.2.2.1 r64.2.2.2.2.2.1 r64.2.2.2.2.2.2))) (J26 x28 x29 x30 x31 x32 l33)
def r12_reader_exp.g (Rc : RE) (k : Nat) (a0_0 : List (Int × ByteArray × Int × Int)) (a0_1 : Int) (a0_2 : Int) (a1 : Int) : Option (Int × ByteArray × Int × Int × List Tree × Int × Int) := cond (decide (a0_2 ≥ 0)) (some (0, (⟨#[]⟩ : ByteArray), 0, 0, [], a0_1, a0_2)) (cond (a1 == 7) ((Rc.r12_reader_operand a0_0 a0_1 a0_2).bind fun r4 => some (r4.1, r4.2.1, r4.2.2.1, r4.2.2.2.1, r4.2.2.2.2.1, r4.2.2.2.2.2.1, r4.2.2.2.2.2.2)) ((Rc.r12_reader_exp a0_0 a0_1 a0_2 (IntKind.i64.wrap (a1 + 1))).bind fun r9 => (r12_reader_level.f k a0_0 r9.2.2.2.2.2.1 r9.2.2.2.2.2.2 a1).bind fun r15 => joinF (fun (x16 : Int) (x17 : Int) (x18 : Int) (x19 : ByteArray) (x20 : Int) (l21 : List Tree) => some (x18, x19, x20, r9.2.2.2.1, l21, x16, x17)) (fun J26 => r12_reader_exp.l0 k Rc a0_0 a1 r9 J26 r15 r9.2.2.2.2.2.1 r9.2.2.2.2.2.2 r9.1 r9.2.1 r9.2.2.1 r9.2.2.2.2.1)))
set_option maxRecDepth 100000 in
theorem r12_reader_exp.okg {Rc : RE} (hR : Rc.Good) {k : Nat} {a0_0 : List (Int × ByteArray × Int × Int)} {a0_1 : Int} {a0_2 : Int} {a1 : Int} {b0 : Nat} {H_a0_0 : Frag} {A_a0_0 : Option Addr} {c_a0_0 : Nat} {r : Int × ByteArray × Int × Int × List Tree × Int × Int} (h : r12_reader_exp.g Rc k a0_0 a0_1 a0_2 a1 = some r) (R_a0_0 : RdT e59 4 H_a0_0 (.slice A_a0_0 a0_0.length c_a0_0) a0_0) : Ct Tryz.prog 69 #[pt b0, iv a1] [bk b0 #[.slice A_a0_0 a0_0.length c_a0_0, iv a0_1, iv a0_2] 57] [H_a0_0] (fun e l1 => ∃ (H0_ : Frag) (A0_ : Option Addr) (c0_ : Nat), OwnR (rTree 32) 32 H0_ (.slice A0_ r.2.2.2.2.1.length c0_) r.2.2.2.2.1 ∧ e = .returned (.agg #[iv r.1, sv r.2.1, iv r.2.2.1, iv r.2.2.2.1, .slice A0_ r.2.2.2.2.1.length c0_]) ∧ l1 = [H0_, bk b0 #[.slice A_a0_0 a0_0.length c_a0_0, iv r.2.2.2.2.2.1, iv r.2.2.2.2.2.2] 57]) := by
 refine ct_enter (args := [pt b0, iv a1]) Tryz.func69 rfl (Nat.le_of_ble_eq_true rfl) ?_
 intro A X hh_
 obtain ⟨hm_H_a0_0, _⟩ := hh_
 unfold r12_reader_exp.g at h
 refine K.eq (env' := [(0, pt b0), (1, iv a1)]) (l' := bk b0 #[.slice A_a0_0 a0_0.length c_a0_0, iv a0_1, iv a0_2] 57 :: X) rfl rfl (ksr (knp #[iv 0, sv noS, iv 0, iv 0, nS] 32 fun b1 => (knt (k_seq (ksr (kx 3 (kld 1 2 rfl (kx 1 (knt ?_)))))))))
 refine kcn h (fun h => ?_) fun h => ?_
 ·refine ksr (kx 1 (kst 0 5 #[iv 0, sv noS, iv 0, iv 0, nS] (knt (k_ret (k_then_ret ?_)))))
  obtain rfl := Option.some.inj h
  exact kda 0 5 rfl [none_, bk b0 #[.slice A_a0_0 a0_0.length c_a0_0, iv a0_1, iv a0_2] 57] (k_none (K.mv1 (K.drop (k_end ⟨none_, none, 0, (OwnR.nil (rTree 32) 32 none_), rfl, rfl⟩))))
 ·refine k_skip (k_then (k_seq (ksr (kx 2 (knt ?_)))))
  refine kcn h (fun h => ?_) fun h => ?_
  ·refine ksr (kx 1 (K.mv1 (bnd h fun r4 hr4 h => (kcl (hR.r12_reader_operand (b0 := b0) hr4 R_a0_0) rfl ⟨(.tail _ hm_H_a0_0), trivial⟩ ?_))))
   rintro _ _ ⟨h5, A6, k7, o8, rfl, rfl⟩
   refine nx_ret2 (K.mv2 (kst 0 5 #[iv r4.1, sv r4.2.1, iv r4.2.2.1, iv r4.2.2.2.1, .slice A6 r4.2.2.2.2.1.length k7] (knt (k_ret (k_then_ret ?_)))))
   obtain rfl := Option.some.inj h
   exact kda 0 5 rfl [h5, bk b0 #[.slice A_a0_0 a0_0.length c_a0_0, iv r4.2.2.2.2.2.1, iv r4.2.2.2.2.2.2] 57] (K.drop (k_end ⟨h5, A6, k7, o8, rfl, rfl⟩))
  ·refine k_skip (k_then (ksr (kx 3 (K.mv1 (bnd h fun r9 hr9 h => (kcl (hR.r12_reader_exp (b0 := b0) hr9 R_a0_0) rfl ⟨(.tail _ hm_H_a0_0), trivial⟩ ?_))))))
   rintro _ _ ⟨h10, A11, k12, o13, rfl, rfl⟩
   refine nx_ret2 (knp #[iv 0, sv noS, iv 0, iv 0, nS] 32 fun b14 => (kst 0 5 #[iv r9.1, sv r9.2.1, iv r9.2.2.1, iv r9.2.2.2.1, .slice A11 r9.2.2.2.2.1.length k12] (kns' (kx 2 (K.mv2 (bnd h fun r15 hr15 h => (kc1 (r12_reader_level.ok (b0 := b0) hr15 R_a0_0) rfl ⟨(t3 hm_H_a0_0), trivial⟩ (kx 1 (knt ?_)))))))))
   obtain ⟨J26, hJ26, h⟩ := joinSplit h
   refine k_cut (τ := Int × Int × Int × ByteArray × Int × (List Tree) × Frag × (Option Addr) × Nat) (fun t => [(4, pt b1), (5, pt b14)]) (fun t => bk b0 #[.slice A_a0_0 a0_0.length c_a0_0, iv t.1, iv t.2.1] 57 :: bk b14 #[iv t.2.2.1, sv t.2.2.2.1, iv t.2.2.2.2.1, iv r9.2.2.2.1, .slice t.2.2.2.2.2.2.2.1 t.2.2.2.2.2.1.length t.2.2.2.2.2.2.2.2] 32 :: bk b1 #[iv 0, sv noS, iv 0, iv 0, nS] 32 :: t.2.2.2.2.2.2.1 :: X) (fun t => J26 t.1 t.2.1 t.2.2.1 t.2.2.2.1 t.2.2.2.2.1 t.2.2.2.2.2.1 = some r ∧ OwnR (rTree 32) 32 t.2.2.2.2.2.2.1 (.slice t.2.2.2.2.2.2.2.1 t.2.2.2.2.2.1.length t.2.2.2.2.2.2.2.2) t.2.2.2.2.2.1) ?_ ?_
   ·rintro ⟨x16, x17, x18, x19, x20, l21, h22, A23, k24⟩ ⟨h, o25⟩
    subst hJ26
    refine ksr (kla 1 0 5 rfl (K.mv1 (K.drop (K.mv1 (kst 0 5 #[iv x18, sv x19, iv x20, iv r9.2.2.2.1, .slice A23 l21.length k24] (knt (k_ret ?_)))))))
    obtain rfl := Option.some.inj h
    exact kda 0 5 rfl [h22, bk b0 #[.slice A_a0_0 a0_0.length c_a0_0, iv x16, iv x17] 57] (K.drop (K.mv1 (k_end ⟨h22, A23, k24, o25, rfl, rfl⟩)))
   ·skip
    refine k_block (K.mv2 (K.mv3 (K.mv3 (K.mv3 (k_loop (τ := ByteArray × Int × Int × Int × ByteArray × Int × (List Tree) × Frag × (Option Addr) × Nat) (fun t => [(0, pt b0), (1, iv a1), (4, pt b1), (5, pt b14), (6, sv t.1)]) (fun t => bk b0 #[.slice A_a0_0 a0_0.length c_a0_0, iv t.2.1, iv t.2.2.1] 57 :: bk b14 #[iv t.2.2.2.1, sv t.2.2.2.2.1, iv t.2.2.2.2.2.1, iv r9.2.2.2.1, .slice t.2.2.2.2.2.2.2.2.1 t.2.2.2.2.2.2.1.length t.2.2.2.2.2.2.2.2.2] 32 :: bk b1 #[iv 0, sv noS, iv 0, iv 0, nS] 32 :: t.2.2.2.2.2.2.2.1 :: X) (fun m t => r12_reader_exp.l0 m Rc a0_0 a1 r9 J26 t.1 t.2.1 t.2.2.1 t.2.2.2.1 t.2.2.2.2.1 t.2.2.2.2.2.1 t.2.2.2.2.2.2.1 = some r ∧ OwnR (rTree 32) 32 t.2.2.2.2.2.2.2.1 (.slice t.2.2.2.2.2.2.2.2.1 t.2.2.2.2.2.2.1.length t.2.2.2.2.2.2.2.2.2) t.2.2.2.2.2.2.1) k (r15, r9.2.2.2.2.2.1, r9.2.2.2.2.2.2, r9.1, r9.2.1, r9.2.2.1, r9.2.2.2.2.1, h10, A11, k12) ⟨h, o13⟩ sb rfl ?_)))))
    clear h
    rintro m38 ⟨x27, x28, x29, x30, x31, x32, l33, h34, A35, k36⟩ ⟨h, o37⟩
    cases m38 with
    | zero => simp [r12_reader_exp.l0] at h
    | succ m38 =>
     simp only [r12_reader_exp.l0] at h
     refine k_seq (ksr (kx 2 (knt ?_)))
     refine kcn h (fun h => ?_) fun h => ?_
     ·refine k_skip (k_then (k_block (ksr (kx 3 (kld 0 1 rfl (kx 3 (kst 1 1 #[.slice A_a0_0 a0_0.length c_a0_0, iv (IntKind.i64.wrap (x28 + 1)), iv x29] (kns' (kx 1 (knp #[iv 0, sv noS, iv 0, iv 0, nS] 32 fun b40 => ?_))))))))))
      refine kst 0 5 #[iv 0, sv noS, iv 0, iv 0, nS] (knt ?_)
      obtain ⟨J52, hJ52, h⟩ := joinSplit h
      refine k_cut (τ := Int × ByteArray × Int × Int × (List Tree) × Int × Int × Frag × (Option Addr) × Nat) (fun t => [(0, pt b0), (1, iv a1), (4, pt b1), (5, pt b14), (6, sv x27), (7, pt b40)]) (fun t => bk b40 #[iv t.1, sv t.2.1, iv t.2.2.1, iv t.2.2.2.1, .slice t.2.2.2.2.2.2.2.2.1 t.2.2.2.2.1.length t.2.2.2.2.2.2.2.2.2] 32 :: bk b0 #[.slice A_a0_0 a0_0.length c_a0_0, iv t.2.2.2.2.2.1, iv t.2.2.2.2.2.2.1] 57 :: bk b14 #[iv x30, sv x31, iv x32, iv r9.2.2.2.1, .slice A35 l33.length k36] 32 :: bk b1 #[iv 0, sv noS, iv 0, iv 0, nS] 32 :: h34 :: t.2.2.2.2.2.2.2.1 :: X) (fun t => J52 t.1 t.2.1 t.2.2.1 t.2.2.2.1 t.2.2.2.2.1 t.2.2.2.2.2.1 t.2.2.2.2.2.2.1 = some r ∧ OwnR (rTree 32) 32 t.2.2.2.2.2.2.2.1 (.slice t.2.2.2.2.2.2.2.2.1 t.2.2.2.2.1.length t.2.2.2.2.2.2.2.2.2) t.2.2.2.2.1) ?_ ?_
      ·rintro ⟨x41, x42, x43, x44, l45, x50, x51, h46, A47, k48⟩ ⟨h, o49⟩
       subst hJ52
       refine ksr (kx 2 (kld 2 3 rfl (kla 2 0 5 rfl (kla 0 0 5 rfl (K.drop (kns #[iv x30, sv x31, iv x32, iv r9.2.2.2.1, .slice A35 l33.length k36, iv x41, sv x42, iv x43, iv x44, .slice A47 l45.length k48] 32 2 fun b53 => (kx 1 (K.mv2 (kst 0 5 #[iv 11, sv x27, iv 0, iv r9.2.2.2.1, .slice (some ⟨b53, 0, none⟩) 2 2] (knr ?_))))))))))
       refine kx 2 (K.mv2 (bnd h fun r54 hr54 h => (kc1 (r12_reader_level.ok (b0 := b0) hr54 R_a0_0) rfl ⟨(t5 hm_H_a0_0), trivial⟩ (kx 1 (knl (k_blk (k_then (K.mvN [_, _, _, _, _] _ _ (K.mvN [_, _, _, _, _] _ _ (k_or fun p55 => ?_))))))))))
       exact K.mv3 (k_row (T := 32) (n := 2) (xs := [(Tree.mk x30 x31 x32 r9.2.2.2.1 l33), (Tree.mk x41 x42 x43 x44 l45)]) (RowI.cons (treeO_mk (k := x30) (t := x31) (n := x32) (a := r9.2.2.2.1) 32 o37) p55 (RowI.one (treeO_mk (k := x41) (t := x42) (n := x43) (a := x44) 32 o49))) rfl rfl (Nat.le_of_ble_eq_true rfl) fun h56 o57 => (K.mv3 (K.mv3 (K.mv3 (k_again m38 (r54, x50, x51, 11, x27, 0, [(Tree.mk x30 x31 x32 r9.2.2.2.1 l33), (Tree.mk x41 x42 x43 x44 l45)], h56, (some ⟨b53, 0, none⟩), 2) (Nat.lt_succ_self _) ⟨h, o57⟩ sb rfl)))))
      ·skip
       refine ksr (kx 2 (knt ?_))
       refine kcn h (fun h => ?_) fun h => ?_
       ·refine k_region (kx 1 (K.mv1 (bnd h fun r59 hr59 h => (kcl (hR.r12_reader_exp (b0 := b0) hr59 R_a0_0) rfl ⟨(t4 hm_H_a0_0), trivial⟩ ?_))))
        rintro _ _ ⟨h60, A61, k62, o63, rfl, rfl⟩
        exact nx_ret2 (K.mv2 (kst 0 5 #[iv r59.1, sv r59.2.1, iv r59.2.2.1, iv r59.2.2.2.1, .slice A61 r59.2.2.2.2.1.length k62] (knt (K.mv1 (K.mvN [_, _, _, _, _] _ _ (K.mvN [_, _, _, _, _] _ _ (K.mvN [_, _, _, _, _] _ _ (K.mvN [_, _, _, _, _] _ _ (K.mvN [_, _, _, _, _] _ _ (k_meet (r59.1, r59.2.1, r59.2.2.1, r59.2.2.2.1, r59.2.2.2.2.1, r59.2.2.2.2.2.1, r59.2.2.2.2.2.2, h60, A61, k62) ⟨h, o63⟩ sb rfl))))))))))
       ·refine k_region (kx 3 (K.mv1 (bnd h fun r64 hr64 h => (kcl (hR.r12_reader_exp (b0 := b0) hr64 R_a0_0) rfl ⟨(t4 hm_H_a0_0), trivial⟩ ?_))))
        rintro _ _ ⟨h65, A66, k67, o68, rfl, rfl⟩
        exact nx_ret2 (K.mv2 (kst 0 5 #[iv r64.1, sv r64.2.1, iv r64.2.2.1, iv r64.2.2.2.1, .slice A66 r64.2.2.2.2.1.length k67] (knt (K.mv1 (K.mvN [_, _, _, _, _] _ _ (K.mvN [_, _, _, _, _] _ _ (K.mvN [_, _, _, _, _] _ _ (K.mvN [_, _, _, _, _] _ _ (K.mvN [_, _, _, _, _] _ _ (k_meet (r64.1, r64.2.1, r64.2.2.1, r64.2.2.2.1, r64.2.2.2.2.1, r64.2.2.2.2.2.1, r64.2.2.2.2.2.2, h65, A66, k67) ⟨h, o68⟩ sb rfl))))))))))
     ·exact k_exit (k_then_exit (k_then_exit (k_here (k_then (k_meet (x28, x29, x30, x31, x32, l33, h34, A35, k36) ⟨h, o37⟩ sb rfl)))))
def r12_reader_operand.l0 : Nat → (Rc : RE) → (a0_0 : List (Int × ByteArray × Int × Int)) → (J46 : (List Tree) → Int → Int → Option (Int × ByteArray × Int × Int × List Tree × Int × Int)) → (x48 : Bool) → (l49 : List Tree) → (x54 : Int) → (x55 : Int) → Option (Int × ByteArray × Int × Int × List Tree × Int × Int)
 | 0, _, _, _, _, _, _, _ => none
 | m56 + 1, Rc, a0_0, J46, x48, l49, x54, x55 => (cond x48 ((r12_reader_see.f m56 a0_0 x54 x55 (⟨#[125]⟩ : ByteArray)).bind fun r76 => cond (!r76) (some (decide (x55 < 0))) (some false)) (some false) : Option Bool).bind fun q57 => cond q57 ((Rc.r12_reader_field a0_0 x54 x55).bind fun r59 => (apd 64 l49 [(Tree.mk r59.1 r59.2.1 r59.2.2.1 r59.2.2.2.1 r59.2.2.2.2.1)]).bind fun l67 => (r12_reader_take.f m56 a0_0 r59.2.2.2.2.2.1 r59.2.2.2.2.2.2 (⟨#[44]⟩ : ByteArray)).bind fun r72 => cond r72.1 (r12_reader_operand.l0 m56 Rc a0_0 J46 true l67 r72.2 r59.2.2.2.2.2.2) ((r12_reader_take.f m56 a0_0 r72.2 r59.2.2.2.2.2.2 (⟨#[59]⟩ : ByteArray)).bind fun r74 => r12_reader_operand.l0 m56 Rc a0_0 J46 r74.1 l67 r74.2 r59.2.2.2.2.2.2)) (J46 l49 x54 x55)
def r12_reader_operand.g (Rc : RE) (k : Nat) (a0_0 : List (Int × ByteArray × Int × Int)) (a0_1 : Int) (a0_2 : Int) : Option (Int × ByteArray × Int × Int × List Tree × Int × Int) := (lIdx a0_0 a0_1).bind fun x2 => joinF (fun (x8 : Int) (x9 : ByteArray) (x10 : Int) (l11 : List Tree) (x16 : Int) (x17 : Int) => some (x8, x9, x10, x2.2.2.2, l11, x16, x17)) (fun J18 => cond (x2.1 == 3) (J18 4 (⟨#[]⟩ : ByteArray) x2.2.2.1 ([]) (IntKind.i64.wrap (a0_1 + 1)) a0_2) (cond (x2.1 == 4) (J18 5 x2.2.1 0 ([]) (IntKind.i64.wrap (a0_1 + 1)) a0_2) ((r12_reader_take.f k a0_0 a0_1 a0_2 (⟨#[110, 105, 108]⟩ : ByteArray)).bind fun r21 => cond r21.1 (J18 1 (⟨#[]⟩ : ByteArray) 0 ([]) r21.2 a0_2) ((r12_reader_take.f k a0_0 r21.2 a0_2 (⟨#[116, 114, 117, 101]⟩ : ByteArray)).bind fun r23 => cond r23.1 (J18 2 (⟨#[]⟩ : ByteArray) 0 ([]) r23.2 a0_2) ((r12_reader_take.f k a0_0 r23.2 a0_2 (⟨#[102, 97, 108, 115, 101]⟩ : ByteArray)).bind fun r25 => cond r25.1 (J18 3 (⟨#[]⟩ : ByteArray) 0 ([]) r25.2 a0_2) (((r12_reader_see.f k a0_0 r25.2 a0_2 (⟨#[110, 111, 116]⟩ : ByteArray)).bind fun r83 => cond r83 (some true) ((r12_reader_see.f k a0_0 r25.2 a0_2 (⟨#[35]⟩ : ByteArray)).bind fun r85 => cond r85 (some true) ((r12_reader_see.f k a0_0 r25.2 a0_2 (⟨#[45]⟩ : ByteArray)).bind fun r87 => some r87)) : Option Bool).bind fun q27 => cond q27 ((Rc.r12_reader_exp a0_0 (IntKind.i64.wrap (r25.2 + 1)) a0_2 7).bind fun r29 => J18 10 x2.2.1 0 ([(Tree.mk r29.1 r29.2.1 r29.2.2.1 r29.2.2.2.1 r29.2.2.2.2.1)]) r29.2.2.2.2.2.1 r29.2.2.2.2.2.2) ((r12_reader_take.f k a0_0 r25.2 a0_2 (⟨#[123]⟩ : ByteArray)).bind fun r37 => cond r37.1 (joinF (fun (l39 : List Tree) (x44 : Int) (x45 : Int) => (r12_reader_need.f k a0_0 x44 x45 (⟨#[125]⟩ : ByteArray)).bind fun r47 => J18 12 (⟨#[]⟩ : ByteArray) 0 l39 r47.1 r47.2) (fun J46 => r12_reader_operand.l0 k Rc a0_0 J46 true ([]) r37.2 a0_2)) ((Rc.r12_reader_suffixed a0_0 r37.2 a0_2).bind fun r78 => some (r78.1, r78.2.1, r78.2.2.1, r78.2.2.2.1, r78.2.2.2.2.1, r78.2.2.2.2.2.1, r78.2.2.2.2.2.2)))))))))
set_option maxRecDepth 100000 in
theorem r12_reader_operand.okg {Rc : RE} (hR : Rc.Good) {k : Nat} {a0_0 : List (Int × ByteArray × Int × Int)} {a0_1 : Int} {a0_2 : Int} {b0 : Nat} {H_a0_0 : Frag} {A_a0_0 : Option Addr} {c_a0_0 : Nat} {r : Int × ByteArray × Int × Int × List Tree × Int × Int} (h : r12_reader_operand.g Rc k a0_0 a0_1 a0_2 = some r) (R_a0_0 : RdT e59 4 H_a0_0 (.slice A_a0_0 a0_0.length c_a0_0) a0_0) : Ct Tryz.prog 95 #[pt b0] [bk b0 #[.slice A_a0_0 a0_0.length c_a0_0, iv a0_1, iv a0_2] 57] [H_a0_0] (fun e l1 => ∃ (H0_ : Frag) (A0_ : Option Addr) (c0_ : Nat), OwnR (rTree 32) 32 H0_ (.slice A0_ r.2.2.2.2.1.length c0_) r.2.2.2.2.1 ∧ e = .returned (.agg #[iv r.1, sv r.2.1, iv r.2.2.1, iv r.2.2.2.1, .slice A0_ r.2.2.2.2.1.length c0_]) ∧ l1 = [H0_, bk b0 #[.slice A_a0_0 a0_0.length c_a0_0, iv r.2.2.2.2.2.1, iv r.2.2.2.2.2.2] 57]) := by
 refine ct_enter (args := [pt b0]) Tryz.func95 rfl (Nat.le_of_ble_eq_true rfl) ?_
 intro A X hh_
 obtain ⟨hm_H_a0_0, _⟩ := hh_
 unfold r12_reader_operand.g at h
 refine K.eq (env' := [(0, pt b0)]) (l' := bk b0 #[.slice A_a0_0 a0_0.length c_a0_0, iv a0_1, iv a0_2] 57 :: X) rfl rfl (ksr (knp #[iv 0, sv noS, iv 0, iv 0, nS] 32 fun b1 => (knt (k_seq (kprs [(0, 0), (1, 0), (2, 0), (3, 3), (4, 0), (5, 0), (6, 0), (7, 3), (8, 0), (9, 3), (10, 1)] [bk b0 #[.slice A_a0_0 a0_0.length c_a0_0, iv a0_1, iv a0_2] 57, H_a0_0] (fun w h_ => ⟨h_.sat.on _ (.tail _ (.head _)), h_.sat.on _ (t2 hm_H_a0_0), trivial⟩) (kpx 3 (kpd 0 0 rfl (kpx 3 (kpd 0 1 rfl (bnd h fun x2 hx2 h => ?_))))))))))
 refine kpelP (T := 59) (kd := .i64) e59_ok rfl hx2 R_a0_0 fun p3 e4 y5 => ?_
 have e4 : Elem _ p3 [iv x2.1, sv x2.2.1, iv x2.2.2.1, iv x2.2.2.2] := e4
 refine kpeN rfl e4 (fun w h_ => h_.mem _ (.tail _ (.head _))) (kpt (onp #[iv 0, sv noS, iv 0, iv 0] 59 fun b6 => (k_and (fun w h_ => ⟨h_.sat.on _ (.tail _ (.tail _ (.head _))), h_.sat.on _ (t3 hm_H_a0_0), trivial⟩) (kpz (kst 0 4 #[iv x2.1, sv x2.2.1, iv x2.2.2.1, iv x2.2.2.2] (kns' (kx 1 (kld 0 3 rfl (kx 1 (knp #[iv 0, sv noS, iv 0, iv 0, nS] 32 fun b7 => ?_))))))))))
 refine kst 0 5 #[iv 0, sv noS, iv 0, iv x2.2.2.2, nS] (knt ?_)
 obtain ⟨J18, hJ18, h⟩ := joinSplit h
 refine k_cut (τ := Int × ByteArray × Int × (List Tree) × Int × Int × Frag × (Option Addr) × Nat) (fun t => [(2, pt b1), (4, pt b7)]) (fun t => bk b7 #[iv t.1, sv t.2.1, iv t.2.2.1, iv x2.2.2.2, .slice t.2.2.2.2.2.2.2.1 t.2.2.2.1.length t.2.2.2.2.2.2.2.2] 32 :: bk b1 #[iv 0, sv noS, iv 0, iv 0, nS] 32 :: bk b0 #[.slice A_a0_0 a0_0.length c_a0_0, iv t.2.2.2.2.1, iv t.2.2.2.2.2.1] 57 :: t.2.2.2.2.2.2.1 :: X) (fun t => J18 t.1 t.2.1 t.2.2.1 t.2.2.2.1 t.2.2.2.2.1 t.2.2.2.2.2.1 = some r ∧ OwnR (rTree 32) 32 t.2.2.2.2.2.2.1 (.slice t.2.2.2.2.2.2.2.1 t.2.2.2.1.length t.2.2.2.2.2.2.2.2) t.2.2.2.1) ?_ ?_
 ·rintro ⟨x8, x9, x10, l11, x16, x17, h12, A13, k14⟩ ⟨h, o15⟩
  subst hJ18
  refine ksr (kla 0 0 5 rfl (K.drop (kst 0 5 #[iv x8, sv x9, iv x10, iv x2.2.2.2, .slice A13 l11.length k14] (knt (k_ret ?_)))))
  obtain rfl := Option.some.inj h
  exact kda 0 5 rfl [h12, bk b0 #[.slice A_a0_0 a0_0.length c_a0_0, iv x16, iv x17] 57] (K.drop (K.mv1 (k_end ⟨h12, A13, k14, o15, rfl, rfl⟩)))
 ·skip
  refine k_block (ksr (kx 1 (kld 1 0 rfl (kx 2 (knt ?_)))))
  refine kcn h (fun h => ?_) fun h => ?_
  ·refine k_seq (kpr [(0, 0), (1, 3), (2, 0), (3, 1)] [1] (kpx 1 (kpd 0 2 rfl (kpx 1 (kpt (ost 0 1 #[iv 4, sv noS, iv 0, iv x2.2.2.2, nS] (kan [1] rfl (kpz (kx 1 (kst 2 1 #[iv 4, sv noS, iv x2.2.2.1, iv x2.2.2.2, nS] ?_))))))))))
   refine K.mv1 (K.drop (knr (kx 3 (kld 2 1 rfl (kx 3 (K.mv2 (kst 1 1 #[.slice A_a0_0 a0_0.length c_a0_0, iv (IntKind.i64.wrap (a0_1 + 1)), iv a0_2] (knl (k_blk (k_then ?_))))))))))
   exact k_none (K.mv1 (K.mv3 (K.mv3 (k_meet (4, (⟨#[]⟩ : ByteArray), x2.2.2.1, [], IntKind.i64.wrap (a0_1 + 1), a0_2, none_, none, 0) ⟨h, (OwnR.nil (rTree 32) 32 none_)⟩ sb rfl))))
  ·refine ksr (kx 1 (kld 1 0 rfl (kx 2 (knt ?_))))
   refine kcn h (fun h => ?_) fun h => ?_
   ·refine k_seq (kpr [(0, 0), (1, 3), (2, 0), (3, 1)] [1] (kpx 1 (kpd 0 1 rfl (kpx 1 (kpt (ost 0 1 #[iv 5, sv noS, iv 0, iv x2.2.2.2, nS] (kan [1] rfl (kpz (kx 1 (kst 1 1 #[iv 5, sv x2.2.1, iv 0, iv x2.2.2.2, nS] ?_))))))))))
    refine K.mv1 (K.drop (knr (kx 3 (kld 2 1 rfl (kx 3 (K.mv2 (kst 1 1 #[.slice A_a0_0 a0_0.length c_a0_0, iv (IntKind.i64.wrap (a0_1 + 1)), iv a0_2] (knl (k_blk (k_then ?_))))))))))
    exact k_none (K.mv1 (K.mv3 (K.mv3 (k_meet (5, x2.2.1, 0, [], IntKind.i64.wrap (a0_1 + 1), a0_2, none_, none, 0) ⟨h, (OwnR.nil (rTree 32) 32 none_)⟩ sb rfl))))
   ·refine ksr (kx 1 (K.mv3 (bnd h fun r21 hr21 h => (kc1 (r12_reader_take.ok (b0 := b0) hr21 R_a0_0) rfl ⟨(t3 hm_H_a0_0), trivial⟩ (kx 1 (knt ?_))))))
    refine kcn h (fun h => ?_) fun h => ?_
    ·refine k_region (kx 1 (K.mv1 (kst 0 1 #[iv 1, sv noS, iv 0, iv x2.2.2.2, nS] (K.mv2 (K.drop (knl (k_blk (k_then (k_none (K.mv2 ?_))))))))))
     exact K.mv3 (K.mv3 (k_meet (1, (⟨#[]⟩ : ByteArray), 0, [], r21.2, a0_2, none_, none, 0) ⟨h, (OwnR.nil (rTree 32) 32 none_)⟩ sb rfl))
    ·refine ksr (kx 1 (bnd h fun r23 hr23 h => (kc1 (r12_reader_take.ok (b0 := b0) hr23 R_a0_0) rfl ⟨(t3 hm_H_a0_0), trivial⟩ (kx 1 (knt ?_)))))
     refine kcn h (fun h => ?_) fun h => ?_
     ·refine k_region (kx 1 (K.mv1 (kst 0 1 #[iv 2, sv noS, iv 0, iv x2.2.2.2, nS] (K.mv2 (K.drop (knl (k_blk (k_then (k_none (K.mv2 ?_))))))))))
      exact K.mv3 (K.mv3 (k_meet (2, (⟨#[]⟩ : ByteArray), 0, [], r23.2, a0_2, none_, none, 0) ⟨h, (OwnR.nil (rTree 32) 32 none_)⟩ sb rfl))
     ·refine ksr (kx 1 (bnd h fun r25 hr25 h => (kc1 (r12_reader_take.ok (b0 := b0) hr25 R_a0_0) rfl ⟨(t3 hm_H_a0_0), trivial⟩ (kx 1 (knt ?_)))))
      refine kcn h (fun h => ?_) fun h => ?_
      ·refine k_region (kx 1 (K.mv1 (kst 0 1 #[iv 3, sv noS, iv 0, iv x2.2.2.2, nS] (K.mv2 (K.drop (knl (k_blk (k_then (k_none (K.mv2 ?_))))))))))
       exact K.mv3 (K.mv3 (k_meet (3, (⟨#[]⟩ : ByteArray), 0, [], r25.2, a0_2, none_, none, 0) ⟨h, (OwnR.nil (rTree 32) 32 none_)⟩ sb rfl))
      ·refine bnd h fun q27 hq27 h => ?_
       refine k_cut1 [(0, pt b0), (2, pt b1), (3, pt b6), (4, pt b7), (63, bv q27)] (bk b0 #[.slice A_a0_0 a0_0.length c_a0_0, iv r25.2, iv a0_2] 57 :: bk b7 #[iv 0, sv noS, iv 0, iv x2.2.2.2, nS] 32 :: bk b6 #[iv x2.1, sv x2.2.1, iv x2.2.2.1, iv x2.2.2.2] 59 :: bk b1 #[iv 0, sv noS, iv 0, iv 0, nS] 32 :: X) ?_ ?_
       ·clear hq27
        refine kcn h (fun h => ?_) fun h => ?_
        ·refine ksr (kx 3 (kld 0 1 rfl (kx 3 (kst 1 1 #[.slice A_a0_0 a0_0.length c_a0_0, iv (IntKind.i64.wrap (r25.2 + 1)), iv a0_2] (knt (k_seq (kpr [(0, 0), (1, 3), (2, 0), (3, 1)] [2] (kpx 1 (kpd 0 1 rfl (kpx 1 ?_))))))))))
         refine kpt (K.mv1 (ost 0 1 #[iv 10, sv noS, iv 0, iv x2.2.2.2, nS] (kan [2] rfl (kpz (kx 1 (kst 1 1 #[iv 10, sv x2.2.1, iv 0, iv x2.2.2.2, nS] (K.mv2 (K.drop (knr (kx 1 ?_))))))))))
         refine K.mv1 (bnd h fun r29 hr29 h => (kcl (hR.r12_reader_exp (b0 := b0) hr29 R_a0_0) rfl ⟨(t2 hm_H_a0_0), trivial⟩ ?_))
         rintro _ _ ⟨h30, A31, k32, o33, rfl, rfl⟩
         refine nx_ret2 (kns #[iv r29.1, sv r29.2.1, iv r29.2.2.1, iv r29.2.2.2.1, .slice A31 r29.2.2.2.2.1.length k32] 32 1 fun b34 => (kx 1 (K.mv3 (kst 4 1 #[iv 10, sv x2.2.1, iv 0, iv x2.2.2.2, .slice (some ⟨b34, 0, none⟩) 1 1] (knl (k_blk (k_then (K.mv2 (K.mv2 (k_row (T := 32) (n := 1) (xs := [(Tree.mk r29.1 r29.2.1 r29.2.2.1 r29.2.2.2.1 r29.2.2.2.2.1)]) (RowI.one (treeO_mk (k := r29.1) (t := r29.2.1) (n := r29.2.2.1) (a := r29.2.2.2.1) 32 o33)) rfl rfl (Nat.le_of_ble_eq_true rfl) fun h35 o36 => ?_))))))))))
         exact K.mv2 (K.mv3 (K.mv3 (k_meet (10, x2.2.1, 0, [(Tree.mk r29.1 r29.2.1 r29.2.2.1 r29.2.2.2.1 r29.2.2.2.2.1)], r29.2.2.2.2.2.1, r29.2.2.2.2.2.2, h35, (some ⟨b34, 0, none⟩), 1) ⟨h, o36⟩ sb rfl)))
        ·refine ksr (kx 1 (bnd h fun r37 hr37 h => (kc1 (r12_reader_take.ok (b0 := b0) hr37 R_a0_0) rfl ⟨(t3 hm_H_a0_0), trivial⟩ (K.mv2 (K.drop (kx 1 (knt ?_)))))))
         refine kcn h (fun h => ?_) fun h => ?_
         ·refine ksr (kx 1 (K.mv1 (kst 0 1 #[iv 12, sv noS, iv 0, iv x2.2.2.2, nS] (kns' (kx 1 (knt ?_))))))
          obtain ⟨J46, hJ46, h⟩ := joinSplit h
          refine k_cut (τ := (List Tree) × Int × Int × Frag × (Option Addr) × Nat) (fun t => [(0, pt b0), (2, pt b1), (4, pt b7)]) (fun t => bk b7 #[iv 12, sv noS, iv 0, iv x2.2.2.2, .slice t.2.2.2.2.1 t.1.length t.2.2.2.2.2] 32 :: bk b0 #[.slice A_a0_0 a0_0.length c_a0_0, iv t.2.1, iv t.2.2.1] 57 :: bk b1 #[iv 0, sv noS, iv 0, iv 0, nS] 32 :: t.2.2.2.1 :: X) (fun t => J46 t.1 t.2.1 t.2.2.1 = some r ∧ OwnR (rTree 32) 32 t.2.2.2.1 (.slice t.2.2.2.2.1 t.1.length t.2.2.2.2.2) t.1) ?_ ?_
          ·rintro ⟨l39, x44, x45, h40, A41, k42⟩ ⟨h, o43⟩
           subst hJ46
           refine k_region (kx 1 (K.mv1 (bnd h fun r47 hr47 h => (kc1 (r12_reader_need.ok (b0 := b0) hr47 R_a0_0) rfl ⟨(t3 hm_H_a0_0), trivial⟩ (knl (k_blk (k_then (K.mv3 (K.mv1 (K.mv3 ?_))))))))))
           exact K.mv3 (k_meet (12, (⟨#[]⟩ : ByteArray), 0, l39, r47.1, r47.2, h40, A41, k42) ⟨h, o43⟩ sb rfl)
          ·skip
           refine k_block (k_none (K.mv3 (K.mv3 (K.mv3 (k_loop (τ := Bool × (List Tree) × Int × Int × Frag × (Option Addr) × Nat) (fun t => [(0, pt b0), (2, pt b1), (4, pt b7), (5, bv t.1)]) (fun t => bk b7 #[iv 12, sv noS, iv 0, iv x2.2.2.2, .slice t.2.2.2.2.2.1 t.2.1.length t.2.2.2.2.2.2] 32 :: bk b0 #[.slice A_a0_0 a0_0.length c_a0_0, iv t.2.2.1, iv t.2.2.2.1] 57 :: bk b1 #[iv 0, sv noS, iv 0, iv 0, nS] 32 :: t.2.2.2.2.1 :: X) (fun m t => r12_reader_operand.l0 m Rc a0_0 J46 t.1 t.2.1 t.2.2.1 t.2.2.2.1 = some r ∧ OwnR (rTree 32) 32 t.2.2.2.2.1 (.slice t.2.2.2.2.2.1 t.2.1.length t.2.2.2.2.2.2) t.2.1) k (true, [], r37.2, a0_2, none_, none, 0) ⟨h, (OwnR.nil (rTree 32) 32 none_)⟩ sb rfl ?_)))))
           clear h
           rintro m56 ⟨x48, l49, x54, x55, h50, A51, k52⟩ ⟨h, o53⟩
           cases m56 with
           | zero => simp [r12_reader_operand.l0] at h
           | succ m56 =>
            simp only [r12_reader_operand.l0] at h
            refine k_seq (bnd h fun q57 hq57 h => ?_)
            refine k_cut1 [(0, pt b0), (2, pt b1), (4, pt b7), (105, bv q57)] (bk b7 #[iv 12, sv noS, iv 0, iv x2.2.2.2, .slice A51 l49.length k52] 32 :: bk b0 #[.slice A_a0_0 a0_0.length c_a0_0, iv x54, iv x55] 57 :: bk b1 #[iv 0, sv noS, iv 0, iv 0, nS] 32 :: h50 :: X) ?_ ?_
            ·clear hq57
             refine kcn h (fun h => ?_) fun h => ?_
             ·refine k_skip (k_then (k_block (k_seq (kpr [(0, 0), (1, 3), (2, 0), (3, 1), (4, 1)] [0] (kpx 1 (kpd 0 4 rfl (kpx 1 (kpt (K.mv1 (bnd h fun r59 hr59 h => ?_))))))))))
              refine ocl (hR.r12_reader_field (b0 := b0) hr59 R_a0_0) rfl ⟨(t3 hm_H_a0_0), trivial⟩ ?_
              rintro _ _ ⟨h60, A61, k62, o63, rfl, rfl⟩
              refine nx_ret2 (kan [2] rfl (kpt (ons #[iv r59.1, sv r59.2.1, iv r59.2.2.1, iv r59.2.2.2.1, .slice A61 r59.2.2.2.2.1.length k62] 32 1 fun b64 => (kan [3] rfl (kpz (K.mv1 (K.mv1 (k_row (T := 32) (n := 1) (xs := [(Tree.mk r59.1 r59.2.1 r59.2.2.1 r59.2.2.2.1 r59.2.2.2.2.1)]) (RowI.one (treeO_mk (k := r59.1) (t := r59.2.1) (n := r59.2.2.1) (a := r59.2.2.2.1) 32 o63)) rfl rfl (Nat.le_of_ble_eq_true rfl) fun h65 o66 => (K.mv4 (bnd h fun l67 hl67 h => ?_))))))))))
              refine kapR rfl ety30 rfl hl67 o53 o66 fun h68 A69 k70 o71 => (kx 1 (K.mv2 (kst 4 1 #[iv 12, sv noS, iv 0, iv x2.2.2.2, .slice A69 l67.length k70] (knr (kx 1 (K.mv2 (bnd h fun r72 hr72 h => (kc1 (r12_reader_take.ok (b0 := b0) hr72 R_a0_0) rfl ⟨(t3 hm_H_a0_0), trivial⟩ (kx 1 ?_)))))))))
              refine kcs 115 h (fun h => ?_) fun h => ?_
              ·exact kx 4 (knl (k_blk (k_then (K.mv2 (K.mv3 (K.mv2 (K.mv3 (k_again m56 (true, l67, r72.2, r59.2.2.2.2.2.2, h68, A69, k70) (Nat.lt_succ_self _) ⟨h, o71⟩ sb rfl))))))))
              ·refine kx 1 (bnd h fun r74 hr74 h => (kc1 (r12_reader_take.ok (b0 := b0) hr74 R_a0_0) rfl ⟨(t3 hm_H_a0_0), trivial⟩ (kx 2 (knl (k_blk (k_then (K.mv2 (K.mv3 (K.mv2 (K.mv3 ?_))))))))))
               exact k_again m56 (r74.1, l67, r74.2, r59.2.2.2.2.2.2, h68, A69, k70) (Nat.lt_succ_self _) ⟨h, o71⟩ sb rfl
             ·exact k_exit (k_then_exit (k_then_exit (k_here (k_then (k_meet (l49, x54, x55, h50, A51, k52) ⟨h, o53⟩ sb rfl)))))
            ·have h := hq57
             clear hq57
             refine k_region (kx 2 ?_)
             refine kcs 94 h (fun h => ?_) fun h => ?_
             ·refine kx 1 (K.mv1 (bnd h fun r76 hr76 h => (kc1 (r12_reader_see.ok (b0 := b0) hr76 R_a0_0) rfl ⟨(t3 hm_H_a0_0), trivial⟩ (kx 3 ?_))))
              refine kcs 99 h (fun h => ?_) fun h => ?_
              ·exact kx 3 (kld 0 2 rfl (kx 2 (knt (K.mv3 (K.mv3 (K.mv2 (K.mv3 (k_meet1 ⟨gr, gr, gr, gb (Option.some.inj h), trivial⟩))))))))
              ·exact kx 6 (knt (K.mv3 (K.mv3 (K.mv2 (K.mv3 (k_meet1 ⟨gr, gr, gr, gb (Option.some.inj h), trivial⟩))))))
             ·exact kx 11 (knt (k_meet1 ⟨gr, gr, gr, gb (Option.some.inj h), trivial⟩))
         ·refine ksr (kx 1 (bnd h fun r78 hr78 h => (kcl (hR.r12_reader_suffixed (b0 := b0) hr78 R_a0_0) rfl ⟨(t2 hm_H_a0_0), trivial⟩ ?_)))
          rintro _ _ ⟨h79, A80, k81, o82, rfl, rfl⟩
          refine nx_ret2 (K.mv2 (K.drop (K.mv2 (kst 0 5 #[iv r78.1, sv r78.2.1, iv r78.2.2.1, iv r78.2.2.2.1, .slice A80 r78.2.2.2.2.1.length k81] (knt (k_ret (k_blk_ret (k_then_ret ?_))))))))
          obtain rfl := Option.some.inj h
          exact kda 0 5 rfl [h79, bk b0 #[.slice A_a0_0 a0_0.length c_a0_0, iv r78.2.2.2.2.2.1, iv r78.2.2.2.2.2.2] 57] (K.drop (k_end ⟨h79, A80, k81, o82, rfl, rfl⟩))
       ·have h := hq27
        clear hq27
        refine k_region (kx 1 (bnd h fun r83 hr83 h => (kc1 (r12_reader_see.ok (b0 := b0) hr83 R_a0_0) rfl ⟨(t3 hm_H_a0_0), trivial⟩ (kx 1 ?_))))
        refine kcs 66 h (fun h => ?_) fun h => ?_
        ·exact kx 8 (knt (k_meet1 ⟨gr, gr, gr, gr, gb (Option.some.inj h), trivial⟩))
        ·refine kx 1 (bnd h fun r85 hr85 h => (kc1 (r12_reader_see.ok (b0 := b0) hr85 R_a0_0) rfl ⟨(t3 hm_H_a0_0), trivial⟩ (kx 2 ?_)))
         refine kcs 70 h (fun h => ?_) fun h => ?_
         ·exact kx 4 (knt (k_meet1 ⟨gr, gr, gr, gr, gb (Option.some.inj h), trivial⟩))
         ·exact kx 1 (bnd h fun r87 hr87 h => (kc1 (r12_reader_see.ok (b0 := b0) hr87 R_a0_0) rfl ⟨(t3 hm_H_a0_0), trivial⟩ (kx 2 (knt (k_meet1 ⟨gr, gr, gr, gr, gb (Option.some.inj h), trivial⟩)))))
def r12_reader_suffixed.l0 : Nat → (Rc : RE) → (a0_0 : List (Int × ByteArray × Int × Int)) → (r2 : Int) → (x16 : Int) → (x17 : ByteArray) → (x18 : Int) → (x19 : Int) → (l20 : List Tree) → (x25 : Int) → (x26 : Int) → Option (Int × ByteArray × Int × Int × List Tree × Int × Int)
 | 0, _, _, _, _, _, _, _, _, _, _ => none
 | m27 + 1, Rc, a0_0, r2, x16, x17, x18, x19, l20, x25, x26 => (r12_reader_take.f m27 a0_0 x25 x26 (⟨#[91]⟩ : ByteArray)).bind fun r28 => cond r28.1 ((Rc.r12_reader_exp a0_0 r28.2 x26 1).bind fun r30 => (r12_reader_need.f m27 a0_0 r30.2.2.2.2.2.1 r30.2.2.2.2.2.2 (⟨#[93]⟩ : ByteArray)).bind fun r36 => r12_reader_suffixed.l0 m27 Rc a0_0 r2 7 (⟨#[]⟩ : ByteArray) 0 r2 ([(Tree.mk x16 x17 x18 x19 l20), (Tree.mk r30.1 r30.2.1 r30.2.2.1 r30.2.2.2.1 r30.2.2.2.2.1)]) r36.1 r36.2) ((r12_reader_take.f m27 a0_0 r28.2 x26 (⟨#[46]⟩ : ByteArray)).bind fun r41 => cond r41.1 ((r12_reader_name.f m27 a0_0 r41.2 x26 5).bind fun r43 => r12_reader_suffixed.l0 m27 Rc a0_0 r2 7 (⟨#[]⟩ : ByteArray) 0 r2 ([(Tree.mk x16 x17 x18 x19 l20), (Tree.mk r43.1 r43.2.1 r43.2.2.1 r43.2.2.2.1 r43.2.2.2.2.1)]) r43.2.2.2.2.2.1 r43.2.2.2.2.2.2) ((r12_reader_take.f m27 a0_0 r41.2 x26 (⟨#[40]⟩ : ByteArray)).bind fun r52 => cond r52.1 (joinF (fun (l55 : List Tree) (x60 : Int) (x61 : Int) => (r12_reader_need.f m27 a0_0 x60 x61 (⟨#[41]⟩ : ByteArray)).bind fun r63 => r12_reader_suffixed.l0 m27 Rc a0_0 r2 8 (⟨#[]⟩ : ByteArray) 0 r2 l55 r63.1 r63.2) (fun J62 => (r12_reader_see.f m27 a0_0 r52.2 x26 (⟨#[41]⟩ : ByteArray)).bind fun r64 => cond (!r64) ((Rc.r12_reader_list a0_0 r52.2 x26).bind fun r66 => (apd 64 [(Tree.mk x16 x17 x18 x19 l20)] r66.1).bind fun l73 => J62 l73 r66.2.1 r66.2.2) (J62 ([(Tree.mk x16 x17 x18 x19 l20)]) r52.2 x26))) (some (x16, x17, x18, x19, l20, r52.2, x26))))
def r12_reader_suffixed.g (Rc : RE) (k : Nat) (a0_0 : List (Int × ByteArray × Int × Int)) (a0_1 : Int) (a0_2 : Int) : Option (Int × ByteArray × Int × Int × List Tree × Int × Int) := (r12_reader_at.f k a0_0 a0_1 a0_2).bind fun r2 => joinF (fun (x4 : Int) (x5 : ByteArray) (x6 : Int) (x7 : Int) (l8 : List Tree) (x13 : Int) (x14 : Int) => r12_reader_suffixed.l0 k Rc a0_0 r2 x4 x5 x6 x7 l8 x13 x14) (fun J15 => (r12_reader_take.f k a0_0 a0_1 a0_2 (⟨#[40]⟩ : ByteArray)).bind fun r80 => cond r80.1 ((Rc.r12_reader_exp a0_0 r80.2 a0_2 1).bind fun r82 => (r12_reader_need.f k a0_0 r82.2.2.2.2.2.1 r82.2.2.2.2.2.2 (⟨#[41]⟩ : ByteArray)).bind fun r88 => J15 9 (⟨#[]⟩ : ByteArray) 0 r2 ([(Tree.mk r82.1 r82.2.1 r82.2.2.1 r82.2.2.2.1 r82.2.2.2.2.1)]) r88.1 r88.2) ((r12_reader_name.f k a0_0 r80.2 a0_2 6).bind fun r91 => J15 r91.1 r91.2.1 r91.2.2.1 r91.2.2.2.1 r91.2.2.2.2.1 r91.2.2.2.2.2.1 r91.2.2.2.2.2.2))
set_option maxRecDepth 100000 in
theorem r12_reader_suffixed.okg {Rc : RE} (hR : Rc.Good) {k : Nat} {a0_0 : List (Int × ByteArray × Int × Int)} {a0_1 : Int} {a0_2 : Int} {b0 : Nat} {H_a0_0 : Frag} {A_a0_0 : Option Addr} {c_a0_0 : Nat} {r : Int × ByteArray × Int × Int × List Tree × Int × Int} (h : r12_reader_suffixed.g Rc k a0_0 a0_1 a0_2 = some r) (R_a0_0 : RdT e59 4 H_a0_0 (.slice A_a0_0 a0_0.length c_a0_0) a0_0) : Ct Tryz.prog 97 #[pt b0] [bk b0 #[.slice A_a0_0 a0_0.length c_a0_0, iv a0_1, iv a0_2] 57] [H_a0_0] (fun e l1 => ∃ (H0_ : Frag) (A0_ : Option Addr) (c0_ : Nat), OwnR (rTree 32) 32 H0_ (.slice A0_ r.2.2.2.2.1.length c0_) r.2.2.2.2.1 ∧ e = .returned (.agg #[iv r.1, sv r.2.1, iv r.2.2.1, iv r.2.2.2.1, .slice A0_ r.2.2.2.2.1.length c0_]) ∧ l1 = [H0_, bk b0 #[.slice A_a0_0 a0_0.length c_a0_0, iv r.2.2.2.2.2.1, iv r.2.2.2.2.2.2] 57]) := by
 refine ct_enter (args := [pt b0]) Tryz.func97 rfl (Nat.le_of_ble_eq_true rfl) ?_
 intro A X hh_
 obtain ⟨hm_H_a0_0, _⟩ := hh_
 unfold r12_reader_suffixed.g at h
 refine K.eq (env' := [(0, pt b0)]) (l' := bk b0 #[.slice A_a0_0 a0_0.length c_a0_0, iv a0_1, iv a0_2] 57 :: X) rfl rfl (ksr (knp #[iv 0, sv noS, iv 0, iv 0, nS] 32 fun b1 => (kns' (kx 1 (K.mv1 (bnd h fun r2 hr2 h => (kc1 (r12_reader_at.ok (b0 := b0) hr2 R_a0_0) rfl ⟨(.tail _ hm_H_a0_0), trivial⟩ (kx 1 (kns' (kx 1 ?_))))))))))
 refine knp #[iv 0, sv noS, iv 0, iv 0, nS] 32 fun b3 => (kst 0 5 #[iv 0, sv noS, iv 0, iv 0, nS] (knt ?_))
 obtain ⟨J15, hJ15, h⟩ := joinSplit h
 refine k_cut (τ := Int × ByteArray × Int × Int × (List Tree) × Int × Int × Frag × (Option Addr) × Nat) (fun t => [(0, pt b0), (2, pt b1), (3, iv r2), (4, pt b3)]) (fun t => bk b3 #[iv t.1, sv t.2.1, iv t.2.2.1, iv t.2.2.2.1, .slice t.2.2.2.2.2.2.2.2.1 t.2.2.2.2.1.length t.2.2.2.2.2.2.2.2.2] 32 :: bk b0 #[.slice A_a0_0 a0_0.length c_a0_0, iv t.2.2.2.2.2.1, iv t.2.2.2.2.2.2.1] 57 :: bk b1 #[iv 0, sv noS, iv 0, iv 0, nS] 32 :: t.2.2.2.2.2.2.2.1 :: X) (fun t => J15 t.1 t.2.1 t.2.2.1 t.2.2.2.1 t.2.2.2.2.1 t.2.2.2.2.2.1 t.2.2.2.2.2.2.1 = some r ∧ OwnR (rTree 32) 32 t.2.2.2.2.2.2.2.1 (.slice t.2.2.2.2.2.2.2.2.1 t.2.2.2.2.1.length t.2.2.2.2.2.2.2.2.2) t.2.2.2.2.1) ?_ ?_
 ·rintro ⟨x4, x5, x6, x7, l8, x13, x14, h9, A10, k11⟩ ⟨h, o12⟩
  subst hJ15
  refine k_block (k_loop (τ := Int × ByteArray × Int × Int × (List Tree) × Int × Int × Frag × (Option Addr) × Nat) (fun t => [(0, pt b0), (2, pt b1), (3, iv r2), (4, pt b3)]) (fun t => bk b3 #[iv t.1, sv t.2.1, iv t.2.2.1, iv t.2.2.2.1, .slice t.2.2.2.2.2.2.2.2.1 t.2.2.2.2.1.length t.2.2.2.2.2.2.2.2.2] 32 :: bk b0 #[.slice A_a0_0 a0_0.length c_a0_0, iv t.2.2.2.2.2.1, iv t.2.2.2.2.2.2.1] 57 :: bk b1 #[iv 0, sv noS, iv 0, iv 0, nS] 32 :: t.2.2.2.2.2.2.2.1 :: X) (fun m t => r12_reader_suffixed.l0 m Rc a0_0 r2 t.1 t.2.1 t.2.2.1 t.2.2.2.1 t.2.2.2.2.1 t.2.2.2.2.2.1 t.2.2.2.2.2.2.1 = some r ∧ OwnR (rTree 32) 32 t.2.2.2.2.2.2.2.1 (.slice t.2.2.2.2.2.2.2.2.1 t.2.2.2.2.1.length t.2.2.2.2.2.2.2.2.2) t.2.2.2.2.1) k (x4, x5, x6, x7, l8, x13, x14, h9, A10, k11) ⟨h, o12⟩ sb rfl ?_)
  clear h
  rintro m27 ⟨x16, x17, x18, x19, l20, x25, x26, h21, A22, k23⟩ ⟨h, o24⟩
  cases m27 with
  | zero => simp [r12_reader_suffixed.l0] at h
  | succ m27 =>
   simp only [r12_reader_suffixed.l0] at h
   refine k_block (ksr (kx 1 (K.mv1 (bnd h fun r28 hr28 h => (kc1 (r12_reader_take.ok (b0 := b0) hr28 R_a0_0) rfl ⟨(t3 hm_H_a0_0), trivial⟩ (knt ?_))))))
   refine kcn h (fun h => ?_) fun h => ?_
   ·refine ksr (kx 1 (bnd h fun r30 hr30 h => (kcl (hR.r12_reader_exp (b0 := b0) hr30 R_a0_0) rfl ⟨(t3 hm_H_a0_0), trivial⟩ ?_)))
    rintro _ _ ⟨h31, A32, k33, o34, rfl, rfl⟩
    refine nx_ret2 (knp #[iv 0, sv noS, iv 0, iv 0, nS] 32 fun b35 => (kst 0 5 #[iv r30.1, sv r30.2.1, iv r30.2.2.1, iv r30.2.2.2.1, .slice A32 r30.2.2.2.2.1.length k33] (kns' (kx 1 (K.mv2 (bnd h fun r36 hr36 h => (kc1 (r12_reader_need.ok (b0 := b0) hr36 R_a0_0) rfl ⟨(t5 hm_H_a0_0), trivial⟩ (knr (kx 1 (kla 3 0 5 rfl ?_))))))))))
    refine kla 1 0 5 rfl (K.mv1 (K.drop (kns #[iv x16, sv x17, iv x18, iv x19, .slice A22 l20.length k23, iv r30.1, sv r30.2.1, iv r30.2.2.1, iv r30.2.2.2.1, .slice A32 r30.2.2.2.2.1.length k33] 32 2 fun b37 => (kx 1 (K.mv3 (kst 0 5 #[iv 7, sv noS, iv 0, iv r2, .slice (some ⟨b37, 0, none⟩) 2 2] (knl (k_blk (k_then (K.mv3 ?_))))))))))
    exact K.mvN [_, _, _, _, _] _ _ (k_or fun p38 => (K.mv2 (k_row (T := 32) (n := 2) (xs := [(Tree.mk x16 x17 x18 x19 l20), (Tree.mk r30.1 r30.2.1 r30.2.2.1 r30.2.2.2.1 r30.2.2.2.2.1)]) (RowI.cons (treeO_mk (k := x16) (t := x17) (n := x18) (a := x19) 32 o24) p38 (RowI.one (treeO_mk (k := r30.1) (t := r30.2.1) (n := r30.2.2.1) (a := r30.2.2.2.1) 32 o34))) rfl rfl (Nat.le_of_ble_eq_true rfl) fun h39 o40 => (K.mv3 (K.mv3 (K.mv3 (k_again m27 (7, (⟨#[]⟩ : ByteArray), 0, r2, [(Tree.mk x16 x17 x18 x19 l20), (Tree.mk r30.1 r30.2.1 r30.2.2.1 r30.2.2.2.1 r30.2.2.2.2.1)], r36.1, r36.2, h39, (some ⟨b37, 0, none⟩), 2) (Nat.lt_succ_self _) ⟨h, o40⟩ sb rfl)))))))
   ·refine ksr (kx 1 (bnd h fun r41 hr41 h => (kc1 (r12_reader_take.ok (b0 := b0) hr41 R_a0_0) rfl ⟨(t3 hm_H_a0_0), trivial⟩ (knt ?_))))
    refine kcn h (fun h => ?_) fun h => ?_
    ·refine kpr [(0, 0), (1, 3), (2, 0), (3, 1)] [1] (kpx 1 (kpa 0 0 5 rfl (kpx 1 (kpt (bnd h fun r43 hr43 h => (ocl (r12_reader_name.ok (b0 := b0) hr43 R_a0_0) rfl ⟨(t3 hm_H_a0_0), trivial⟩ ?_))))))
     rintro _ _ ⟨h44, A45, k46, o47, rfl, rfl⟩
     refine nx_ret2 (kan [2] rfl (kpz (kns #[iv x16, sv x17, iv x18, iv x19, .slice A22 l20.length k23, iv r43.1, sv r43.2.1, iv r43.2.2.1, iv r43.2.2.2.1, .slice A45 r43.2.2.2.2.1.length k46] 32 2 fun b48 => (kx 1 (K.mv3 (kst 0 5 #[iv 7, sv noS, iv 0, iv r2, .slice (some ⟨b48, 0, none⟩) 2 2] (knl (k_blk (k_then (K.mv2 ?_))))))))))
     exact K.mvN [_, _, _, _, _] _ _ (k_or fun p49 => (K.mv2 (k_row (T := 32) (n := 2) (xs := [(Tree.mk x16 x17 x18 x19 l20), (Tree.mk r43.1 r43.2.1 r43.2.2.1 r43.2.2.2.1 r43.2.2.2.2.1)]) (RowI.cons (treeO_mk (k := x16) (t := x17) (n := x18) (a := x19) 32 o24) p49 (RowI.one (treeO_mk (k := r43.1) (t := r43.2.1) (n := r43.2.2.1) (a := r43.2.2.2.1) 32 o47))) rfl rfl (Nat.le_of_ble_eq_true rfl) fun h50 o51 => (K.mv3 (K.mv3 (K.mv3 (k_again m27 (7, (⟨#[]⟩ : ByteArray), 0, r2, [(Tree.mk x16 x17 x18 x19 l20), (Tree.mk r43.1 r43.2.1 r43.2.2.1 r43.2.2.2.1 r43.2.2.2.2.1)], r43.2.2.2.2.2.1, r43.2.2.2.2.2.2, h50, (some ⟨b48, 0, none⟩), 2) (Nat.lt_succ_self _) ⟨h, o51⟩ sb rfl)))))))
    ·refine ksr (kx 1 (bnd h fun r52 hr52 h => (kc1 (r12_reader_take.ok (b0 := b0) hr52 R_a0_0) rfl ⟨(t3 hm_H_a0_0), trivial⟩ (knt ?_))))
     refine kcn h (fun h => ?_) fun h => ?_
     ·refine ksr (kx 1 (kla 1 0 5 rfl (kns #[iv x16, sv x17, iv x18, iv x19, .slice A22 l20.length k23] 32 1 fun b54 => (kx 1 (K.mv2 (kst 0 5 #[iv 8, sv noS, iv 0, iv r2, .slice (some ⟨b54, 0, none⟩) 1 1] (knt ?_)))))))
      obtain ⟨J62, hJ62, h⟩ := joinSplit h
      refine k_cut (τ := (List Tree) × Int × Int × Frag × (Option Addr) × Nat) (fun t => [(0, pt b0), (2, pt b1), (3, iv r2), (4, pt b3)]) (fun t => bk b3 #[iv 8, sv noS, iv 0, iv r2, .slice t.2.2.2.2.1 t.1.length t.2.2.2.2.2] 32 :: bk b0 #[.slice A_a0_0 a0_0.length c_a0_0, iv t.2.1, iv t.2.2.1] 57 :: bk b1 #[iv 0, sv noS, iv 0, iv 0, nS] 32 :: t.2.2.2.1 :: X) (fun t => J62 t.1 t.2.1 t.2.2.1 = some r ∧ OwnR (rTree 32) 32 t.2.2.2.1 (.slice t.2.2.2.2.1 t.1.length t.2.2.2.2.2) t.1) ?_ ?_
      ·rintro ⟨l55, x60, x61, h56, A57, k58⟩ ⟨h, o59⟩
       subst hJ62
       refine k_region (kx 1 (K.mv1 (bnd h fun r63 hr63 h => (kc1 (r12_reader_need.ok (b0 := b0) hr63 R_a0_0) rfl ⟨(t3 hm_H_a0_0), trivial⟩ (knl (k_blk (k_then (K.mv3 (K.mv3 (K.mv2 ?_))))))))))
       exact K.mv3 (k_again m27 (8, (⟨#[]⟩ : ByteArray), 0, r2, l55, r63.1, r63.2, h56, A57, k58) (Nat.lt_succ_self _) ⟨h, o59⟩ sb rfl)
      ·skip
       refine ksr (kx 1 (K.mv2 (bnd h fun r64 hr64 h => (kc1 (r12_reader_see.ok (b0 := b0) hr64 R_a0_0) rfl ⟨(t4 hm_H_a0_0), trivial⟩ (kx 1 (knt ?_))))))
       refine kcn h (fun h => ?_) fun h => ?_
       ·refine kpr [(0, 0), (1, 3), (2, 0), (3, 1)] [1] (kpx 1 (kpd 0 4 rfl (kpx 1 (kpt (bnd h fun r66 hr66 h => (ocl (hR.r12_reader_list (b0 := b0) hr66 R_a0_0) rfl ⟨(t4 hm_H_a0_0), trivial⟩ ?_))))))
        rintro _ _ ⟨h67, A68, k69, o70, rfl, rfl⟩
        refine nx_ret2 (kan [2] rfl (kpz (K.mvN [_, _, _, _, _] _ _ (K.mv4 (k_row (T := 32) (n := 1) (xs := [(Tree.mk x16 x17 x18 x19 l20)]) (RowI.one (treeO_mk (k := x16) (t := x17) (n := x18) (a := x19) 32 o24)) rfl rfl (Nat.le_of_ble_eq_true rfl) fun h71 o72 => (K.mv1 (K.mv1 (bnd h fun l73 hl73 h => (kapR rfl ety30 rfl hl73 o72 o70 fun h74 A75 k76 o77 => (kx 1 ?_))))))))))
        exact K.mv2 (kst 4 1 #[iv 8, sv noS, iv 0, iv r2, .slice A75 l73.length k76] (knt (K.mv1 (K.mv3 (K.mv3 (K.mv3 (k_meet (l73, r66.2.1, r66.2.2, h74, A75, k76) ⟨h, o77⟩ sb rfl)))))))
       ·exact k_skip (k_then (K.mv4 (K.mv3 (k_row (T := 32) (n := 1) (xs := [(Tree.mk x16 x17 x18 x19 l20)]) (RowI.one (treeO_mk (k := x16) (t := x17) (n := x18) (a := x19) 32 o24)) rfl rfl (Nat.le_of_ble_eq_true rfl) fun h78 o79 => (K.mv3 (K.mv2 (K.mv3 (k_meet ([(Tree.mk x16 x17 x18 x19 l20)], r52.2, x26, h78, (some ⟨b54, 0, none⟩), 1) ⟨h, o79⟩ sb rfl))))))))
     ·refine ksr (kla 1 0 5 rfl (K.mv1 (K.drop (K.mv1 (kst 0 5 #[iv x16, sv x17, iv x18, iv x19, .slice A22 l20.length k23] (knt (k_ret (k_blk_ret (k_then_ret (k_blk_ret ?_))))))))))
      obtain rfl := Option.some.inj h
      exact kda 0 5 rfl [h21, bk b0 #[.slice A_a0_0 a0_0.length c_a0_0, iv r52.2, iv x26] 57] (K.drop (K.mv1 (k_end ⟨h21, A22, k23, o24, rfl, rfl⟩)))
 ·skip
  refine ksr (kx 1 (K.mv1 (bnd h fun r80 hr80 h => (kc1 (r12_reader_take.ok (b0 := b0) hr80 R_a0_0) rfl ⟨(t2 hm_H_a0_0), trivial⟩ (knt ?_)))))
  refine kcn h (fun h => ?_) fun h => ?_
  ·refine ksr (kx 2 (bnd h fun r82 hr82 h => (kcl (hR.r12_reader_exp (b0 := b0) hr82 R_a0_0) rfl ⟨(t2 hm_H_a0_0), trivial⟩ ?_)))
   rintro _ _ ⟨h83, A84, k85, o86, rfl, rfl⟩
   refine nx_ret2 (kns #[iv r82.1, sv r82.2.1, iv r82.2.2.1, iv r82.2.2.2.1, .slice A84 r82.2.2.2.2.1.length k85] 32 1 fun b87 => (kx 1 (K.mv3 (kst 0 5 #[iv 9, sv noS, iv 0, iv r2, .slice (some ⟨b87, 0, none⟩) 1 1] (knr (kx 1 (K.mv3 (bnd h fun r88 hr88 h => (kc1 (r12_reader_need.ok (b0 := b0) hr88 R_a0_0) rfl ⟨(t4 hm_H_a0_0), trivial⟩ (knt ?_))))))))))
   exact K.mv3 (K.mv3 (k_row (T := 32) (n := 1) (xs := [(Tree.mk r82.1 r82.2.1 r82.2.2.1 r82.2.2.2.1 r82.2.2.2.2.1)]) (RowI.one (treeO_mk (k := r82.1) (t := r82.2.1) (n := r82.2.2.1) (a := r82.2.2.2.1) 32 o86)) rfl rfl (Nat.le_of_ble_eq_true rfl) fun h89 o90 => (K.mv3 (K.mv2 (K.mv3 (k_meet (9, (⟨#[]⟩ : ByteArray), 0, r2, [(Tree.mk r82.1 r82.2.1 r82.2.2.1 r82.2.2.2.1 r82.2.2.2.2.1)], r88.1, r88.2, h89, (some ⟨b87, 0, none⟩), 1) ⟨h, o90⟩ sb rfl))))))
  ·refine k_region (kx 1 (bnd h fun r91 hr91 h => (kcl (r12_reader_name.ok (b0 := b0) hr91 R_a0_0) rfl ⟨(t2 hm_H_a0_0), trivial⟩ ?_)))
   rintro _ _ ⟨h92, A93, k94, o95, rfl, rfl⟩
   exact nx_ret2 (K.mv2 (kst 0 5 #[iv r91.1, sv r91.2.1, iv r91.2.2.1, iv r91.2.2.2.1, .slice A93 r91.2.2.2.2.1.length k94] (knt (K.mv1 (K.mv3 (K.mv3 (K.mv3 (k_meet (r91.1, r91.2.1, r91.2.2.1, r91.2.2.2.1, r91.2.2.2.2.1, r91.2.2.2.2.2.1, r91.2.2.2.2.2.2, h92, A93, k94) ⟨h, o95⟩ sb rfl))))))))
def r12_reader_field.g (Rc : RE) (k : Nat) (a0_0 : List (Int × ByteArray × Int × Int)) (a0_1 : Int) (a0_2 : Int) : Option (Int × ByteArray × Int × Int × List Tree × Int × Int) := (r12_reader_at.f k a0_0 a0_1 a0_2).bind fun r2 => joinF (fun (x4 : Int) (l5 : List Tree) (x10 : Int) (x11 : Int) => (Rc.r12_reader_exp a0_0 x10 x11 1).bind fun r13 => (apd 64 l5 [(Tree.mk r13.1 r13.2.1 r13.2.2.1 r13.2.2.2.1 r13.2.2.2.2.1)]).bind fun l21 => some (x4, (⟨#[]⟩ : ByteArray), 0, r2, l21, r13.2.2.2.2.2.1, r13.2.2.2.2.2.2)) (fun J12 => (r12_reader_take.f k a0_0 a0_1 a0_2 (⟨#[91]⟩ : ByteArray)).bind fun r26 => cond r26.1 ((Rc.r12_reader_exp a0_0 r26.2 a0_2 1).bind fun r28 => (r12_reader_need.f k a0_0 r28.2.2.2.2.2.1 r28.2.2.2.2.2.2 (⟨#[93]⟩ : ByteArray)).bind fun r34 => (r12_reader_need.f k a0_0 r34.1 r34.2 (⟨#[61]⟩ : ByteArray)).bind fun r35 => J12 14 ([(Tree.mk r28.1 r28.2.1 r28.2.2.1 r28.2.2.2.1 r28.2.2.2.2.1)]) r35.1 r35.2) (((lIdx a0_0 r26.2).bind fun x49 => cond (x49.1 == 1) ((lIdx a0_0 (IntKind.i64.wrap (r26.2 + 1))).bind fun x57 => cond (x57.1 == 5) ((lIdx a0_0 (IntKind.i64.wrap (r26.2 + 1))).bind fun x65 => some (x65.2.1.toList == (⟨#[61]⟩ : ByteArray).toList)) (some false)) (some false) : Option Bool).bind fun q38 => cond q38 ((r12_reader_name.f k a0_0 r26.2 a0_2 5).bind fun r40 => (r12_reader_need.f k a0_0 r40.2.2.2.2.2.1 r40.2.2.2.2.2.2 (⟨#[61]⟩ : ByteArray)).bind fun r46 => J12 14 ([(Tree.mk r40.1 r40.2.1 r40.2.2.1 r40.2.2.2.1 r40.2.2.2.2.1)]) r46.1 r46.2) (J12 13 ([]) r26.2 a0_2)))
set_option maxRecDepth 100000 in
theorem r12_reader_field.okg {Rc : RE} (hR : Rc.Good) {k : Nat} {a0_0 : List (Int × ByteArray × Int × Int)} {a0_1 : Int} {a0_2 : Int} {b0 : Nat} {H_a0_0 : Frag} {A_a0_0 : Option Addr} {c_a0_0 : Nat} {r : Int × ByteArray × Int × Int × List Tree × Int × Int} (h : r12_reader_field.g Rc k a0_0 a0_1 a0_2 = some r) (R_a0_0 : RdT e59 4 H_a0_0 (.slice A_a0_0 a0_0.length c_a0_0) a0_0) : Ct Tryz.prog 115 #[pt b0] [bk b0 #[.slice A_a0_0 a0_0.length c_a0_0, iv a0_1, iv a0_2] 57] [H_a0_0] (fun e l1 => ∃ (H0_ : Frag) (A0_ : Option Addr) (c0_ : Nat), OwnR (rTree 32) 32 H0_ (.slice A0_ r.2.2.2.2.1.length c0_) r.2.2.2.2.1 ∧ e = .returned (.agg #[iv r.1, sv r.2.1, iv r.2.2.1, iv r.2.2.2.1, .slice A0_ r.2.2.2.2.1.length c0_]) ∧ l1 = [H0_, bk b0 #[.slice A_a0_0 a0_0.length c_a0_0, iv r.2.2.2.2.2.1, iv r.2.2.2.2.2.2] 57]) := by
 refine ct_enter (args := [pt b0]) Tryz.func115 rfl (Nat.le_of_ble_eq_true rfl) ?_
 intro A X hh_
 obtain ⟨hm_H_a0_0, _⟩ := hh_
 unfold r12_reader_field.g at h
 refine K.eq (env' := [(0, pt b0)]) (l' := bk b0 #[.slice A_a0_0 a0_0.length c_a0_0, iv a0_1, iv a0_2] 57 :: X) rfl rfl (ksr (knp #[iv 0, sv noS, iv 0, iv 0, nS] 32 fun b1 => (kns' (kx 1 (K.mv1 (bnd h fun r2 hr2 h => (kc1 (r12_reader_at.ok (b0 := b0) hr2 R_a0_0) rfl ⟨(.tail _ hm_H_a0_0), trivial⟩ (kx 1 (knp #[iv 0, sv noS, iv 0, iv 0, nS] 32 fun b3 => (kst 0 5 #[iv 13, sv noS, iv 0, iv r2, nS] ?_))))))))))
 refine knt ?_
 obtain ⟨J12, hJ12, h⟩ := joinSplit h
 refine k_cut (τ := Int × (List Tree) × Int × Int × Frag × (Option Addr) × Nat) (fun t => [(0, pt b0), (2, pt b1), (3, pt b3)]) (fun t => bk b3 #[iv t.1, sv noS, iv 0, iv r2, .slice t.2.2.2.2.2.1 t.2.1.length t.2.2.2.2.2.2] 32 :: bk b0 #[.slice A_a0_0 a0_0.length c_a0_0, iv t.2.2.1, iv t.2.2.2.1] 57 :: bk b1 #[iv 0, sv noS, iv 0, iv 0, nS] 32 :: t.2.2.2.2.1 :: X) (fun t => J12 t.1 t.2.1 t.2.2.1 t.2.2.2.1 = some r ∧ OwnR (rTree 32) 32 t.2.2.2.2.1 (.slice t.2.2.2.2.2.1 t.2.1.length t.2.2.2.2.2.2) t.2.1) ?_ ?_
 ·rintro ⟨x4, l5, x10, x11, h6, A7, k8⟩ ⟨h, o9⟩
  subst hJ12
  refine k_seq (kpr [(0, 0), (1, 3), (2, 0), (3, 1), (4, 1)] [0] (kpx 1 (kpd 0 4 rfl (kpx 1 (kpt (K.mv1 (bnd h fun r13 hr13 h => (ocl (hR.r12_reader_exp (b0 := b0) hr13 R_a0_0) rfl ⟨(t3 hm_H_a0_0), trivial⟩ ?_))))))))
  rintro _ _ ⟨h14, A15, k16, o17, rfl, rfl⟩
  refine nx_ret2 (kan [2] rfl (kpt (ons #[iv r13.1, sv r13.2.1, iv r13.2.2.1, iv r13.2.2.2.1, .slice A15 r13.2.2.2.2.1.length k16] 32 1 fun b18 => (kan [3] rfl (kpz (K.mv1 (K.mv1 (k_row (T := 32) (n := 1) (xs := [(Tree.mk r13.1 r13.2.1 r13.2.2.1 r13.2.2.2.1 r13.2.2.2.2.1)]) (RowI.one (treeO_mk (k := r13.1) (t := r13.2.1) (n := r13.2.2.1) (a := r13.2.2.2.1) 32 o17)) rfl rfl (Nat.le_of_ble_eq_true rfl) fun h19 o20 => (K.mv4 (bnd h fun l21 hl21 h => ?_))))))))))
  refine kapR rfl ety30 rfl hl21 o9 o20 fun h22 A23 k24 o25 => (kx 1 (K.mv2 (kst 4 1 #[iv x4, sv noS, iv 0, iv r2, .slice A23 l21.length k24] (kns' (kla 0 0 5 rfl (K.drop (K.mv2 (kst 0 5 #[iv x4, sv noS, iv 0, iv r2, .slice A23 l21.length k24] (knt (k_ret ?_))))))))))
  obtain rfl := Option.some.inj h
  exact kda 0 5 rfl [h22, bk b0 #[.slice A_a0_0 a0_0.length c_a0_0, iv r13.2.2.2.2.2.1, iv r13.2.2.2.2.2.2] 57] (K.drop (k_end ⟨h22, A23, k24, o25, rfl, rfl⟩))
 ·skip
  refine ksr (kx 1 (K.mv1 (bnd h fun r26 hr26 h => (kc1 (r12_reader_take.ok (b0 := b0) hr26 R_a0_0) rfl ⟨(t2 hm_H_a0_0), trivial⟩ (knt ?_)))))
  refine kcn h (fun h => ?_) fun h => ?_
  ·refine ksr (kx 1 (K.mv1 (kst 0 1 #[iv 14, sv noS, iv 0, iv r2, nS] (kns' (kx 1 (K.mv1 (bnd h fun r28 hr28 h => (kcl (hR.r12_reader_exp (b0 := b0) hr28 R_a0_0) rfl ⟨(t2 hm_H_a0_0), trivial⟩ ?_))))))))
   rintro _ _ ⟨h29, A30, k31, o32, rfl, rfl⟩
   refine nx_ret2 (kns #[iv r28.1, sv r28.2.1, iv r28.2.2.1, iv r28.2.2.2.1, .slice A30 r28.2.2.2.2.1.length k31] 32 1 fun b33 => (kx 1 (K.mv3 (kst 4 1 #[iv 14, sv noS, iv 0, iv r2, .slice (some ⟨b33, 0, none⟩) 1 1] (kns' (kx 1 (K.mv3 (bnd h fun r34 hr34 h => (kc1 (r12_reader_need.ok (b0 := b0) hr34 R_a0_0) rfl ⟨(t4 hm_H_a0_0), trivial⟩ (knr ?_))))))))))
   exact kx 1 (bnd h fun r35 hr35 h => (kc1 (r12_reader_need.ok (b0 := b0) hr35 R_a0_0) rfl ⟨(t4 hm_H_a0_0), trivial⟩ (knt (K.mv3 (K.mv3 (k_row (T := 32) (n := 1) (xs := [(Tree.mk r28.1 r28.2.1 r28.2.2.1 r28.2.2.2.1 r28.2.2.2.2.1)]) (RowI.one (treeO_mk (k := r28.1) (t := r28.2.1) (n := r28.2.2.1) (a := r28.2.2.2.1) 32 o32)) rfl rfl (Nat.le_of_ble_eq_true rfl) fun h36 o37 => (K.mv3 (K.mv2 (K.mv3 (k_meet (14, [(Tree.mk r28.1 r28.2.1 r28.2.2.1 r28.2.2.2.1 r28.2.2.2.2.1)], r35.1, r35.2, h36, (some ⟨b33, 0, none⟩), 1) ⟨h, o37⟩ sb rfl))))))))))
  ·refine bnd h fun q38 hq38 h => ?_
   refine k_cut1 [(0, pt b0), (2, pt b1), (3, pt b3), (59, bv q38)] (bk b0 #[.slice A_a0_0 a0_0.length c_a0_0, iv r26.2, iv a0_2] 57 :: bk b3 #[iv 13, sv noS, iv 0, iv r2, nS] 32 :: bk b1 #[iv 0, sv noS, iv 0, iv 0, nS] 32 :: X) ?_ ?_
   ·clear hq38
    refine kcn h (fun h => ?_) fun h => ?_
    ·refine ksr (kx 1 (K.mv1 (kst 0 1 #[iv 14, sv noS, iv 0, iv r2, nS] (kns' (kx 1 (K.mv1 (bnd h fun r40 hr40 h => (kcl (r12_reader_name.ok (b0 := b0) hr40 R_a0_0) rfl ⟨(t2 hm_H_a0_0), trivial⟩ ?_))))))))
     rintro _ _ ⟨h41, A42, k43, o44, rfl, rfl⟩
     refine nx_ret2 (kns #[iv r40.1, sv r40.2.1, iv r40.2.2.1, iv r40.2.2.2.1, .slice A42 r40.2.2.2.2.1.length k43] 32 1 fun b45 => (kx 1 (K.mv3 (kst 4 1 #[iv 14, sv noS, iv 0, iv r2, .slice (some ⟨b45, 0, none⟩) 1 1] (knr (kx 1 (K.mv3 (bnd h fun r46 hr46 h => (kc1 (r12_reader_need.ok (b0 := b0) hr46 R_a0_0) rfl ⟨(t4 hm_H_a0_0), trivial⟩ (knt ?_))))))))))
     exact K.mv3 (K.mv3 (k_row (T := 32) (n := 1) (xs := [(Tree.mk r40.1 r40.2.1 r40.2.2.1 r40.2.2.2.1 r40.2.2.2.2.1)]) (RowI.one (treeO_mk (k := r40.1) (t := r40.2.1) (n := r40.2.2.1) (a := r40.2.2.2.1) 32 o44)) rfl rfl (Nat.le_of_ble_eq_true rfl) fun h47 o48 => (K.mv3 (K.mv2 (K.mv3 (k_meet (14, [(Tree.mk r40.1 r40.2.1 r40.2.2.1 r40.2.2.2.1 r40.2.2.2.2.1)], r46.1, r46.2, h47, (some ⟨b45, 0, none⟩), 1) ⟨h, o48⟩ sb rfl))))))
    ·exact k_skip (k_then (k_none (K.mv3 (K.mv2 (K.mv3 (k_meet (13, [], r26.2, a0_2, none_, none, 0) ⟨h, (OwnR.nil (rTree 32) 32 none_)⟩ sb rfl))))))
   ·have h := hq38
    clear hq38
    refine kprs [(0, 0), (1, 0), (2, 0), (3, 3), (4, 0), (5, 0), (6, 0), (7, 3), (8, 0), (9, 0), (10, 3), (11, 0), (12, 0), (13, 0), (14, 0), (15, 0), (16, 3), (17, 0), (18, 0), (19, 0), (20, 3), (21, 0), (22, 0), (23, 0), (24, 3), (25, 0), (26, 0), (27, 0), (28, 0), (29, 0), (30, 0), (31, 3), (32, 0), (33, 0), (34, 0), (35, 3), (36, 0)] [bk b0 #[.slice A_a0_0 a0_0.length c_a0_0, iv r26.2, iv a0_2] 57, H_a0_0] (fun w h_ => ⟨h_.sat.on _ (.head _), h_.sat.on _ (t3 hm_H_a0_0), trivial⟩) (kpx 3 (kpd 0 0 rfl (kpx 3 (kpd 0 1 rfl (bnd h fun x49 hx49 h => (kpelP (T := 59) (kd := .i64) e59_ok rfl hx49 R_a0_0 fun p50 e51 y52 => ?_))))))
    have e51 : Elem _ p50 [iv x49.1, sv x49.2.1, iv x49.2.2.1, iv x49.2.2.2] := e51
    refine kpefP (off := 0) rfl e51 y52 fun p53 e54 y55 => ?_
    have e54 : Elem _ p53 [iv x49.1, sv x49.2.1, iv x49.2.2.1, iv x49.2.2.2] := e54
    refine kp_eload1 rfl (by kernel_rfl) (by kernel_rfl) (by kernel_rfl) (by kernel_rfl) e54 (fun w h_ => h_.mem _ (.tail _ (.head _))) (kpx 2 ?_)
    refine kcs 30 h (fun h => ?_) fun h => ?_
    ·refine kpx 3 (kpd 0 0 rfl (kpx 3 (kpd 0 1 rfl (kpx 1 (bnd h fun x57 hx57 h => (kpelP (T := 59) (kd := .i64) e59_ok rfl hx57 R_a0_0 fun p58 e59 y60 => ?_))))))
     have e59 : Elem _ p58 [iv x57.1, sv x57.2.1, iv x57.2.2.1, iv x57.2.2.2] := e59
     refine kpefP (off := 0) rfl e59 y60 fun p61 e62 y63 => ?_
     have e62 : Elem _ p61 [iv x57.1, sv x57.2.1, iv x57.2.2.1, iv x57.2.2.2] := e62
     refine kp_eload1 rfl (by kernel_rfl) (by kernel_rfl) (by kernel_rfl) (by kernel_rfl) e62 (fun w h_ => h_.mem _ (.tail _ (.head _))) (kpx 3 ?_)
     refine kcs 45 h (fun h => ?_) fun h => ?_
     ·refine kpx 3 (kpd 0 0 rfl (kpx 3 (kpd 0 1 rfl (kpx 1 (kpz (bnd h fun x65 hx65 h => (kelP (T := 59) (kd := .i64) e59_ok rfl hx65 R_a0_0 fun p66 e67 y68 => ?_)))))))
      have e67 : Elem _ p66 [iv x65.1, sv x65.2.1, iv x65.2.2.1, iv x65.2.2.2] := e67
      refine kefP (off := 1) rfl e67 y68 fun p69 e70 y71 => ?_
      have e70 : Elem _ p69 [sv x65.2.1, iv x65.2.2.1, iv x65.2.2.2] := e70
      exact kl_eload1 rfl (by kernel_rfl) (by kernel_rfl) (by kernel_rfl) (by kernel_rfl) e70 (t3 hm_H_a0_0) (kx 2 (knt (k_meet1 ⟨gr, gr, gr, gb (Option.some.inj h), trivial⟩)))
     ·exact kpx 3 (kp_skip3 (by kernel_rfl) (by kernel_rfl) (kpx 3 (kp_skip3 (by kernel_rfl) (by kernel_rfl) (kpx 1 (kpz (kx 5 (knt (k_meet1 ⟨gr, gr, gr, gb (Option.some.inj h), trivial⟩))))))))
    ·refine kpx 3 (kp_skip3 (by kernel_rfl) (by kernel_rfl) (kpx 3 (kp_skip3 (by kernel_rfl) (by kernel_rfl) (kpx 3 (kp_skip3 (by kernel_rfl) (by kernel_rfl) (kpx 6 (kp_skip3 (by kernel_rfl) (by kernel_rfl) (kpx 3 (kp_skip3 (by kernel_rfl) (by kernel_rfl) (kpx 1 ?_))))))))))
     exact kpz (kx 5 (knt (k_meet1 ⟨gr, gr, gr, gb (Option.some.inj h), trivial⟩)))
def r12_reader_list.l0 : Nat → (Rc : RE) → (a0_0 : List (Int × ByteArray × Int × Int)) → (J14 : (List Tree) → Int → Int → Option (List Tree × Int × Int)) → (l15 : List Tree) → (x20 : Int) → (x21 : Int) → Option (List Tree × Int × Int)
 | 0, _, _, _, _, _, _ => none
 | m22 + 1, Rc, a0_0, J14, l15, x20, x21 => (r12_reader_take.f m22 a0_0 x20 x21 (⟨#[44]⟩ : ByteArray)).bind fun r25 => cond r25.1 ((Rc.r12_reader_exp a0_0 r25.2 x21 1).bind fun r27 => (apd 64 l15 [(Tree.mk r27.1 r27.2.1 r27.2.2.1 r27.2.2.2.1 r27.2.2.2.2.1)]).bind fun l35 => r12_reader_list.l0 m22 Rc a0_0 J14 l35 r27.2.2.2.2.2.1 r27.2.2.2.2.2.2) (J14 l15 r25.2 x21)
def r12_reader_list.g (Rc : RE) (k : Nat) (a0_0 : List (Int × ByteArray × Int × Int)) (a0_1 : Int) (a0_2 : Int) : Option (List Tree × Int × Int) := (Rc.r12_reader_exp a0_0 a0_1 a0_2 1).bind fun r1 => joinF (fun (l7 : List Tree) (x12 : Int) (x13 : Int) => some (l7, x12, x13)) (fun J14 => r12_reader_list.l0 k Rc a0_0 J14 ([(Tree.mk r1.1 r1.2.1 r1.2.2.1 r1.2.2.2.1 r1.2.2.2.2.1)]) r1.2.2.2.2.2.1 r1.2.2.2.2.2.2)
set_option maxRecDepth 100000 in
theorem r12_reader_list.okg {Rc : RE} (hR : Rc.Good) {k : Nat} {a0_0 : List (Int × ByteArray × Int × Int)} {a0_1 : Int} {a0_2 : Int} {b0 : Nat} {H_a0_0 : Frag} {A_a0_0 : Option Addr} {c_a0_0 : Nat} {r : List Tree × Int × Int} (h : r12_reader_list.g Rc k a0_0 a0_1 a0_2 = some r) (R_a0_0 : RdT e59 4 H_a0_0 (.slice A_a0_0 a0_0.length c_a0_0) a0_0) : Ct Tryz.prog 40 #[pt b0] [bk b0 #[.slice A_a0_0 a0_0.length c_a0_0, iv a0_1, iv a0_2] 57] [H_a0_0] (fun e l1 => ∃ (H0_ : Frag) (A0_ : Option Addr) (c0_ : Nat), OwnR (rTree 32) 32 H0_ (.slice A0_ r.1.length c0_) r.1 ∧ e = .returned (.slice A0_ r.1.length c0_) ∧ l1 = [H0_, bk b0 #[.slice A_a0_0 a0_0.length c_a0_0, iv r.2.1, iv r.2.2] 57]) := by
 refine ct_enter (args := [pt b0]) Tryz.func40 rfl (Nat.le_of_ble_eq_true rfl) ?_
 intro A X hh_
 obtain ⟨hm_H_a0_0, _⟩ := hh_
 unfold r12_reader_list.g at h
 refine K.eq (env' := [(0, pt b0)]) (l' := bk b0 #[.slice A_a0_0 a0_0.length c_a0_0, iv a0_1, iv a0_2] 57 :: X) rfl rfl (ksr (kx 1 (kns' (kx 1 (bnd h fun r1 hr1 h => (kcl (hR.r12_reader_exp (b0 := b0) hr1 R_a0_0) rfl ⟨hm_H_a0_0, trivial⟩ ?_))))))
 rintro _ _ ⟨h2, A3, k4, o5, rfl, rfl⟩
 refine nx_ret2 (kns #[iv r1.1, sv r1.2.1, iv r1.2.2.1, iv r1.2.2.2.1, .slice A3 r1.2.2.2.2.1.length k4] 32 1 fun b6 => (kx 1 (knt ?_)))
 obtain ⟨J14, hJ14, h⟩ := joinSplit h
 refine k_cut (τ := (List Tree) × Int × Int × Frag × (Option Addr) × Nat) (fun t => [(3, .slice t.2.2.2.2.1 t.1.length t.2.2.2.2.2)]) (fun t => bk b0 #[.slice A_a0_0 a0_0.length c_a0_0, iv t.2.1, iv t.2.2.1] 57 :: t.2.2.2.1 :: X) (fun t => J14 t.1 t.2.1 t.2.2.1 = some r ∧ OwnR (rTree 32) 32 t.2.2.2.1 (.slice t.2.2.2.2.1 t.1.length t.2.2.2.2.2) t.1) ?_ ?_
 ·rintro ⟨l7, x12, x13, h8, A9, k10⟩ ⟨h, o11⟩
  subst hJ14
  refine ksr (kx 2 (knt (k_ret ?_)))
  obtain rfl := Option.some.inj h
  exact kdv (.slice A9 l7.length k10) [h8, bk b0 #[.slice A_a0_0 a0_0.length c_a0_0, iv x12, iv x13] 57] (K.mv1 (k_end ⟨h8, A9, k10, o11, rfl, rfl⟩))
 ·skip
  refine k_block (K.mv1 (K.mv1 (k_row (T := 32) (n := 1) (xs := [(Tree.mk r1.1 r1.2.1 r1.2.2.1 r1.2.2.2.1 r1.2.2.2.2.1)]) (RowI.one (treeO_mk (k := r1.1) (t := r1.2.1) (n := r1.2.2.1) (a := r1.2.2.2.1) 32 o5)) rfl rfl (Nat.le_of_ble_eq_true rfl) fun h23 o24 => (K.mv1 (k_loop (τ := (List Tree) × Int × Int × Frag × (Option Addr) × Nat) (fun t => [(0, pt b0), (3, .slice t.2.2.2.2.1 t.1.length t.2.2.2.2.2)]) (fun t => bk b0 #[.slice A_a0_0 a0_0.length c_a0_0, iv t.2.1, iv t.2.2.1] 57 :: t.2.2.2.1 :: X) (fun m t => r12_reader_list.l0 m Rc a0_0 J14 t.1 t.2.1 t.2.2.1 = some r ∧ OwnR (rTree 32) 32 t.2.2.2.1 (.slice t.2.2.2.2.1 t.1.length t.2.2.2.2.2) t.1) k ([(Tree.mk r1.1 r1.2.1 r1.2.2.1 r1.2.2.2.1 r1.2.2.2.2.1)], r1.2.2.2.2.2.1, r1.2.2.2.2.2.2, h23, (some ⟨b6, 0, none⟩), 1) ⟨h, o24⟩ sb rfl ?_)))))
  clear h
  rintro m22 ⟨l15, x20, x21, h16, A17, k18⟩ ⟨h, o19⟩
  cases m22 with
  | zero => simp [r12_reader_list.l0] at h
  | succ m22 =>
   simp only [r12_reader_list.l0] at h
   refine k_seq (ksr (kx 1 (bnd h fun r25 hr25 h => (kc1 (r12_reader_take.ok (b0 := b0) hr25 R_a0_0) rfl ⟨(.tail _ hm_H_a0_0), trivial⟩ (knt ?_)))))
   refine kcn h (fun h => ?_) fun h => ?_
   ·refine k_skip (k_then (k_block (k_region (kx 2 (bnd h fun r27 hr27 h => (kcl (hR.r12_reader_exp (b0 := b0) hr27 R_a0_0) rfl ⟨(.tail _ hm_H_a0_0), trivial⟩ ?_))))))
    rintro _ _ ⟨h28, A29, k30, o31, rfl, rfl⟩
    refine nx_ret2 (kns #[iv r27.1, sv r27.2.1, iv r27.2.2.1, iv r27.2.2.2.1, .slice A29 r27.2.2.2.2.1.length k30] 32 1 fun b32 => (K.mv1 (K.mv1 (k_row (T := 32) (n := 1) (xs := [(Tree.mk r27.1 r27.2.1 r27.2.2.1 r27.2.2.2.1 r27.2.2.2.2.1)]) (RowI.one (treeO_mk (k := r27.1) (t := r27.2.1) (n := r27.2.2.1) (a := r27.2.2.2.1) 32 o31)) rfl rfl (Nat.le_of_ble_eq_true rfl) fun h33 o34 => (K.mv2 (bnd h fun l35 hl35 h => (kapR rfl ety30 rfl hl35 o19 o34 fun h36 A37 k38 o39 => (kx 1 (knl (k_blk ?_))))))))))
    exact k_then (K.mv1 (k_again m22 (l35, r27.2.2.2.2.2.1, r27.2.2.2.2.2.2, h36, A37, k38) (Nat.lt_succ_self _) ⟨h, o39⟩ sb rfl))
   ·exact k_exit (k_then_exit (k_then_exit (k_here (k_then (k_meet (l15, r25.2, x21, h16, A17, k18) ⟨h, o19⟩ sb rfl)))))
def RE.at : Nat → RE
 | 0 => ⟨fun _ _ _ _ => none, fun _ _ _ => none, fun _ _ _ => none, fun _ _ _ => none, fun _ _ _ => none⟩
 | k + 1 => ⟨fun a0_0 a0_1 a0_2 a1 => r12_reader_exp.g (RE.at k) k a0_0 a0_1 a0_2 a1, fun a0_0 a0_1 a0_2 => r12_reader_operand.g (RE.at k) k a0_0 a0_1 a0_2, fun a0_0 a0_1 a0_2 => r12_reader_suffixed.g (RE.at k) k a0_0 a0_1 a0_2, fun a0_0 a0_1 a0_2 => r12_reader_field.g (RE.at k) k a0_0 a0_1 a0_2, fun a0_0 a0_1 a0_2 => r12_reader_list.g (RE.at k) k a0_0 a0_1 a0_2⟩
theorem RE.good : ∀ k, (RE.at k).Good
 | 0 => ⟨fun h _ => (by cases (show (none : Option _) = some _ from h)), fun h _ => (by cases (show (none : Option _) = some _ from h)), fun h _ => (by cases (show (none : Option _) = some _ from h)), fun h _ => (by cases (show (none : Option _) = some _ from h)), fun h _ => (by cases (show (none : Option _) = some _ from h))⟩
 | k + 1 => ⟨fun h R_a0_0 => r12_reader_exp.okg (RE.good k) h R_a0_0, fun h R_a0_0 => r12_reader_operand.okg (RE.good k) h R_a0_0, fun h R_a0_0 => r12_reader_suffixed.okg (RE.good k) h R_a0_0, fun h R_a0_0 => r12_reader_field.okg (RE.good k) h R_a0_0, fun h R_a0_0 => r12_reader_list.okg (RE.good k) h R_a0_0⟩
def r12_reader_exp.f (k : Nat) (a0_0 : List (Int × ByteArray × Int × Int)) (a0_1 : Int) (a0_2 : Int) (a1 : Int) : Option (Int × ByteArray × Int × Int × List Tree × Int × Int) := r12_reader_exp.g (RE.at k) k a0_0 a0_1 a0_2 a1
theorem r12_reader_exp.ok {k : Nat} {a0_0 : List (Int × ByteArray × Int × Int)} {a0_1 : Int} {a0_2 : Int} {a1 : Int} {b0 : Nat} {H_a0_0 : Frag} {A_a0_0 : Option Addr} {c_a0_0 : Nat} {r : Int × ByteArray × Int × Int × List Tree × Int × Int} (h : r12_reader_exp.f k a0_0 a0_1 a0_2 a1 = some r) (R_a0_0 : RdT e59 4 H_a0_0 (.slice A_a0_0 a0_0.length c_a0_0) a0_0) : Ct Tryz.prog 69 #[pt b0, iv a1] [bk b0 #[.slice A_a0_0 a0_0.length c_a0_0, iv a0_1, iv a0_2] 57] [H_a0_0] (fun e l1 => ∃ (H0_ : Frag) (A0_ : Option Addr) (c0_ : Nat), OwnR (rTree 32) 32 H0_ (.slice A0_ r.2.2.2.2.1.length c0_) r.2.2.2.2.1 ∧ e = .returned (.agg #[iv r.1, sv r.2.1, iv r.2.2.1, iv r.2.2.2.1, .slice A0_ r.2.2.2.2.1.length c0_]) ∧ l1 = [H0_, bk b0 #[.slice A_a0_0 a0_0.length c_a0_0, iv r.2.2.2.2.2.1, iv r.2.2.2.2.2.2] 57]) := r12_reader_exp.okg (RE.good k) h R_a0_0
def r12_reader_suffixed.f (k : Nat) (a0_0 : List (Int × ByteArray × Int × Int)) (a0_1 : Int) (a0_2 : Int) : Option (Int × ByteArray × Int × Int × List Tree × Int × Int) := r12_reader_suffixed.g (RE.at k) k a0_0 a0_1 a0_2
theorem r12_reader_suffixed.ok {k : Nat} {a0_0 : List (Int × ByteArray × Int × Int)} {a0_1 : Int} {a0_2 : Int} {b0 : Nat} {H_a0_0 : Frag} {A_a0_0 : Option Addr} {c_a0_0 : Nat} {r : Int × ByteArray × Int × Int × List Tree × Int × Int} (h : r12_reader_suffixed.f k a0_0 a0_1 a0_2 = some r) (R_a0_0 : RdT e59 4 H_a0_0 (.slice A_a0_0 a0_0.length c_a0_0) a0_0) : Ct Tryz.prog 97 #[pt b0] [bk b0 #[.slice A_a0_0 a0_0.length c_a0_0, iv a0_1, iv a0_2] 57] [H_a0_0] (fun e l1 => ∃ (H0_ : Frag) (A0_ : Option Addr) (c0_ : Nat), OwnR (rTree 32) 32 H0_ (.slice A0_ r.2.2.2.2.1.length c0_) r.2.2.2.2.1 ∧ e = .returned (.agg #[iv r.1, sv r.2.1, iv r.2.2.1, iv r.2.2.2.1, .slice A0_ r.2.2.2.2.1.length c0_]) ∧ l1 = [H0_, bk b0 #[.slice A_a0_0 a0_0.length c_a0_0, iv r.2.2.2.2.2.1, iv r.2.2.2.2.2.2] 57]) := r12_reader_suffixed.okg (RE.good k) h R_a0_0
def r12_reader_list.f (k : Nat) (a0_0 : List (Int × ByteArray × Int × Int)) (a0_1 : Int) (a0_2 : Int) : Option (List Tree × Int × Int) := r12_reader_list.g (RE.at k) k a0_0 a0_1 a0_2
theorem r12_reader_list.ok {k : Nat} {a0_0 : List (Int × ByteArray × Int × Int)} {a0_1 : Int} {a0_2 : Int} {b0 : Nat} {H_a0_0 : Frag} {A_a0_0 : Option Addr} {c_a0_0 : Nat} {r : List Tree × Int × Int} (h : r12_reader_list.f k a0_0 a0_1 a0_2 = some r) (R_a0_0 : RdT e59 4 H_a0_0 (.slice A_a0_0 a0_0.length c_a0_0) a0_0) : Ct Tryz.prog 40 #[pt b0] [bk b0 #[.slice A_a0_0 a0_0.length c_a0_0, iv a0_1, iv a0_2] 57] [H_a0_0] (fun e l1 => ∃ (H0_ : Frag) (A0_ : Option Addr) (c0_ : Nat), OwnR (rTree 32) 32 H0_ (.slice A0_ r.1.length c0_) r.1 ∧ e = .returned (.slice A0_ r.1.length c0_) ∧ l1 = [H0_, bk b0 #[.slice A_a0_0 a0_0.length c_a0_0, iv r.2.1, iv r.2.2] 57]) := r12_reader_list.okg (RE.good k) h R_a0_0
end Go.Proofs.YtidiahkobapnjaaGreatDoor
